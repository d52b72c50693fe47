/- This text proves what the document's 'Check' answers, Zbx the abstract run. Condition: nothing is known of the calls ahead ('S f = []'). -/
import Derived.Test.YtcgmchechmbmeaaDoorM19
set_option linter.unusedVariables false
set_option linter.unusedSimpArgs false
section
set_option maxRecDepth 100000
namespace Go.Proofs.YtcgmchechmbmeaaDoor.base
open Go.Sh gen
variable {S:Zb4}{m:Mem}
def nxL (u:UnT.D):List (List Int):=(show List Zct.D from u.2.2.2.1).map fun b=>(show List Int from b.2.2.2.1)
theorem Zi6 (u:UnT.D):(nxL u).length=nb u:=by simp [nxL]
theorem Zyz {u:UnT.D}{i:Nat}(h:i < nb u):(nxL u).getD i []=(u.2.2.2.1[i]).2.2.2.1:=by
 unfold nxL
 rw [List.getD_eq_getElem?_getD,List.getElem?_map,List.getElem?_eq_getElem (show i < (show List Zct.D from u.2.2.2.1).length from h)];rfl
def Zqf (A:List (List Int))(l:List Int):Bool:=decide (l.length=2) && (!decide ((A.getD (l.getD 0 0).toNat []).length=1) || !decide ((A.getD (l.getD 1 0).toNat []).length=1))
def Zlo (u:UnT.D)(i:Nat):Bool:=Zgq (prD u i) ((Zal u).getD i []) && !Zqf (Zal u) (nxD u i)
abbrev HdS:=List Int × List Int × Bool
def Zn5 (u:UnT.D)(A:List (List Int))(b k:Nat)(s:HdS)(v:Int):Option HdS:=
 if (Zay (Za3 u v).1 && !s.2.2) || (decide ((Za3 u v).1=21) && (!decide (List.length (Za3 u v).2.2.2.2.1=(A.getD b []).length) || decide (b=0))) || (decide ((Za3 u v).1=1) && !decide (b=0)) then none else
 some (s.1.set v.toNat b,s.2.1.set v.toNat k,s.2.2 && Zay (Za3 u v).1)
def Zhg (u:UnT.D)(A:List (List Int))(b:Nat):Nat→List Int→HdS→Option HdS
 | _,[],s=>some s
 | k,v::r,s=>(Zn5 u A b k s v).bind (Zhg u A b (k+1) r)
def Zfr (u:UnT.D)(A:List (List Int)):Nat→List Zct.D→List Int × List Int→Option (List Int × List Int)
 | _,[],s=>some s
 | b,x::r,s=>(Zhg u A b 0 x.1 (s.1,s.2,true)).bind fun t=>Zfr u A (b+1) r (t.1,t.2.1)
def Zj4:List Za9.D→List Bool→Bool
 | [],_=>true
 | v::r,ps=>if v.1=1 then (if ps.getD (show Int from v.2.2.2.1).toNat false then false else Zj4 r (ps.set (show Int from v.2.2.2.1).toNat true)) else Zj4 r ps
noncomputable def Zvb (L:List (List Int))(bl pl:List Int):List Int→List Int→Bool
 | a::r,p::q=>Zb1 L bl pl a p 1073741824 && Zvb L bl pl r q
 | _,_=>true
noncomputable def Zuj (u:UnT.D)(L:List (List Int))(bl pl:List Int)(s b k:Int):Bool:=(Zbh (stD u s.toNat)).all fun a=>Zb1 L bl pl a b k
noncomputable def Zz5 (u:UnT.D)(L A:List (List Int))(bl pl:List Int)(b k:Nat)(n:Int):Bool:=
 (if (Za3 u n).1=21 then Zvb L bl pl (Zfb (Za3 u n)) (A.getD b []) else (Zfb (Za3 u n)).all fun a=>Zb1 L bl pl a b k) &&
 (!lvs (Za3 u n).1 || Zuj u L bl pl (Za3 u n).2.2.2.2.2.1 b k)
noncomputable def Znl (u:UnT.D)(L A:List (List Int))(bl pl:List Int)(b:Nat):Nat→List Int→Bool
 | _,[]=>true
 | k,n::r=>Zz5 u L A bl pl b k n && Znl u L A bl pl b (k+1) r
noncomputable def Zuv (u:UnT.D)(L:List (List Int))(bl pl:List Int)(b:Nat)(x:Zct.D):Bool:=
 (!decide (x.2.1=2) || Zb1 L bl pl x.2.2.1 b 1073741824) && (!decide (x.2.1=3) || Zuj u L bl pl x.2.2.2.2.2.1 b 1073741824)
noncomputable def Zm0 (u:UnT.D)(L A:List (List Int))(bl pl:List Int):Nat→List Zct.D→Bool
 | _,[]=>true
 | b,x::r=>Znl u L A bl pl b 0 x.1 && Zuv u L bl pl b x && Zm0 u L A bl pl (b+1) r
noncomputable def woB (L:List (List Int))(a b:Nat):Bool:=@decide (Wo L a b) (Classical.propDecidable _)
theorem Zso {L:List (List Int)}{a b:Nat}:woB L a b=true↔Wo L a b:=by
 unfold woB
 exact @decide_eq_true_iff _ (Classical.propDecidable _)
noncomputable def Zyj (u:UnT.D):Bool:=match Zfr u (Zal u) 0 u.2.2.2.1 (List.replicate (nv u) 0,List.replicate (nv u) 0) with
 | none=>false
 | some s=>Zj4 u.2.2.1 (List.replicate 40 false) && Zm0 u (nxL u) (Zal u) s.1 s.2 0 u.2.2.2.1
noncomputable def Zvh (u:UnT.D):Bool:=decide (((Zal u).getD 0 []).length=0) && (Zdo (woB (nxL u) (nb u)) 0 (nb u) && Zyj u)
noncomputable def Zjc (u:UnT.D):Bool:=Zd6 u && (Zdo (Zlo u) 0 (nb u) && Zvh u)
structure Zzo (u:UnT.D):Prop where
 hv:nv u≤3000
 hb:nb u≤300
 hb0:0 < nb u
 hs:ns u≤1000
 nx:∀ b∈u.2.2.2.1,List.length b.2.2.2.1≤2∧∀ k∈(show List Int from b.2.2.2.1),(0:Int)≤k∧k < nb u
 vl:∀ b∈u.2.2.2.1,∀ v∈(show List Int from b.1),(0:Int)≤v∧v < nv u
 cond:∀ b∈u.2.2.2.1,b.2.1=2→(0:Int)≤b.2.2.1∧(show Int from b.2.2.1) < nv u
 bst:∀ b∈u.2.2.2.1,b.2.1=3→(0:Int)≤b.2.2.2.2.2.1∧(show Int from b.2.2.2.2.2.1) < ns u
 us:∀ v∈u.2.2.1,∀ z∈Zcm v.1 v.2.1 v.2.2.1 v.2.2.2.2.1,(0:Int)≤z∧z < nv u
 par:∀ v∈u.2.2.1,v.1=1→(0:Int)≤v.2.2.2.1∧(show Int from v.2.2.2.1) < 40
 vst:∀ v∈u.2.2.1,lvs v.1=true→(0:Int)≤v.2.2.2.2.2.1∧(show Int from v.2.2.2.2.2.1) < ns u
 st:∀ s∈u.2.2.2.2.1,List.length s.1≤30∧(∀ f∈(show List Zeg.D from s.1),List.length f.2.2.1≤40∧List.length f.2.2.2.1≤60)∧∀ v∈Zbh s.1,(0:Int)≤v∧v < nv u
theorem Zr6 {L:List (List Int)}{C:List Value}{P:Nat→Option Addr→Prop}(hl:C.length=L.length)(h:∀ j < L.length,∃ a,C[j]?=some (.slice a (L.getD j []).length (L.getD j []).length)∧P j a):∃ ao,C=Zha ao L∧∀ j < L.length,P j (ao j):=by
 refine⟨fun j=>if hj:j < L.length then Classical.choose (h j hj) else none,?_,fun j hj=>?_⟩
 ·apply List.ext_getElem?
  intro j
  by_cases hj:j < L.length
  ·rw [Zdr _ hj]
   simp only [hj,dif_pos]
   exact (Classical.choose_spec (h j hj)).1
  ·rw [List.getElem?_eq_none (by omega),List.getElem?_eq_none (by rw [Zfs];omega)]
 ·simp only [hj,dif_pos]
  exact (Classical.choose_spec (h j hj)).2
theorem Zah.get2 {Q:Nat→Prop}{ao:Option Addr}{l:List Int}(h:Zah Q m ao l){i:Nat}(hi:i < l.length):∃ b:Nat × Nat,ao=some ⟨b.1,b.2,none⟩∧∀ (m':Mem) (fs:List Nat),Zaa m m' fs→(∀ f∈fs,¬ Q f)→loadRow m' ⟨b.1,b.2+i,none⟩ 1=some [.int .i64 (l.getD i 0)]:=by
 obtain⟨b,hb,_⟩:=h.get hi
 refine⟨b,hb,fun m' fs k hf=>?_⟩
 obtain⟨b',hb',h'⟩:=(h.keep k hf).get hi
 rw [hb] at hb'
 simp only [Option.some.injEq,Addr.mk.injEq,and_true] at hb'
 rw [hb'.1,hb'.2];exact h'
theorem Zr3 {Q:Nat→Prop}{u:UnT.D}{vo bo so:Option Addr}(h:UAt Q m u vo bo so){i:Nat}(hi:i < nb u) :
  ∃ (b:Nat) (vo no po:Option Addr),bo=some ⟨b,0,none⟩∧(∀ (m':Mem) (fs:List Nat),Zaa m m' fs→(∀ f∈fs,¬ Q f)→loadRow m' ⟨b,i * 6,none⟩ 6=some (Zwe (u.2.2.2.1[i]) vo no po))∧Zah Q m vo (u.2.2.2.1[i]).1∧Zah Q m no (u.2.2.2.1[i]).2.2.2.1∧Zah Q m po (u.2.2.2.1[i]).2.2.2.2.1:=by
 obtain⟨vb,c,e,hc,hl⟩:=Zfi h.b hi
 obtain⟨b,vo,no,po,hb,h1,h2⟩:=Zf0 h hi
 refine⟨b,vo,no,po,hb,fun m' fs k hf=>?_,h2⟩
 rw [e] at hb
 simp only [Option.some.injEq,Addr.mk.injEq,and_true] at hb
 have l0:=hl m [] (.refl _ _) (by simp)
 have e6:(show Nat from Ty.size Zct)=6:=rfl
 have l1:=hl m' fs k hf
 rw [hb] at l0 l1
 have l0':loadRow m ⟨b,i * 6,none⟩ 6=some c:=l0
 rw [h1] at l0'
 rw [Option.some.inj l0']
 exact l1
theorem Zsr {Q:Nat→Prop}{u:UnT.D}{vo bo so:Option Addr}(h:UAt Q m u vo bo so){i:Nat}(hi:i < nv u) :
  ∃ (b:Nat) (ao:Option Addr),vo=some ⟨b,0,none⟩∧(∀ (m':Mem) (fs:List Nat),Zaa m m' fs→(∀ f∈fs,¬ Q f)→loadRow m' ⟨b,i * 6,none⟩ 6=some (Zlt (u.2.2.1[i]) ao))∧Zah Q m ao (u.2.2.1[i]).2.2.2.2.1:=by
 obtain⟨vb,c,e,hc,hl⟩:=Zfi h.v hi
 obtain⟨b,ao,fa,hb,h1,h2,h3⟩:=Ziy h hi
 refine⟨b,ao,hb,fun m' fs k hf=>?_,fa,h2,h3⟩
 rw [e] at hb
 simp only [Option.some.injEq,Addr.mk.injEq,and_true] at hb
 have l0:=hl m [] (.refl _ _) (by simp)
 have l1:=hl m' fs k hf
 rw [hb] at l0 l1
 have l0':loadRow m ⟨b,i * 6,none⟩ 6=some c:=l0
 rw [h1] at l0'
 rw [Option.some.inj l0']
 exact l1
theorem Zu7 {u:UnT.D}{A:List (List Int)}{b:Nat}:∀ (l:List Int) (k:Nat) {s t:HdS},Zhg u A b k l s=some t→∀ v∈l,(Za3 u v).1=21→List.length (Za3 u v).2.2.2.2.1=(A.getD b []).length:=by
 intro l
 induction l with
 | nil=>intro k s t _ v hv;simp at hv
 | cons x r ih =>
  intro k s t h v hv e
  rw [Zhg] at h
  cases hx:Zn5 u A b k s x with
  | none=>rw [hx] at h;cases h
  | some s' =>
   rw [hx,Option.bind_some] at h
   rcases List.mem_cons.1 hv with rfl | hv
   ·unfold Zn5 at hx
    split at hx
    ·cases hx
    ·rename_i hc
     simp only [Bool.or_eq_true,not_or,Bool.and_eq_true,not_and,decide_eq_true_eq,Bool.not_eq_true'] at hc
     have:=hc.1.2 e
     simp only [decide_eq_false_iff_not,Decidable.not_not] at this
     exact this.1
   ·exact ih (k+1) h v hv e
theorem Zvg {u:UnT.D}{A:List (List Int)}:∀ (bs:List Zct.D) (b:Nat) {s t:List Int × List Int},Zfr u A b bs s=some t→∀ (j:Nat) (x:Zct.D),bs[j]?=some x→∀ v∈(show List Int from x.1),(Za3 u v).1=21→List.length (Za3 u v).2.2.2.2.1=(A.getD (b+j) []).length:=by
 intro bs
 induction bs with
 | nil=>intro b s t _ j x hx;simp at hx
 | cons y r ih =>
  intro b s t h j x hx
  rw [Zfr] at h
  cases hy:Zhg u A b 0 y.1 (s.1,s.2,true) with
  | none=>rw [hy] at h;cases h
  | some s' =>
   rw [hy,Option.bind_some] at h
   cases j with
   | zero =>
    simp only [List.getElem?_cons_zero,Option.some.injEq] at hx
    subst hx
    exact Zu7 _ _ hy
   | succ j =>
    simp only [List.getElem?_cons_succ] at hx
    have:=ih (b+1) h j x hx
    rw [show b+(j+1)=b+1+j by omega]
    exact this
theorem Zxl {b f e:Nat}{l:List Bool}(h:Own m b (Zc8 l) e f){i:Nat}(hi:i < l.length)(v:Bool) :
  ∃ m1,Zad m ⟨b,i,none⟩ [.bool v]=some m1∧Own m1 b (Zc8 (l.set i v)) e f∧Zaa m m1 [f]:=by
 obtain⟨m1,e1,o1,k1⟩:=Zap (r:=_) rfl h (off:=i) (vs:=[.bool v]) (by simp;omega) (by simp)
 rw [Zog v hi] at o1
 exact⟨m1,e1,o1,k1⟩
structure Nch (S:Zb4):Prop where
 sh:Nsh S
 check:S 10=[]
 preds:S 27=[]
 ints:S 28=[]
 without:S 29=[]
 doms:S 30=[]
 ahead:S 31=[]
 state:S 32=[]
set_option maxHeartbeats 16000000 in
theorem Zvq (hN:Nch S){Q:Nat→Prop}{u:UnT.D}{vo bo so:Option Addr}(hU:UAt Q m u vo bo so)(hQ:∀ f,Q f→f < m.next)(hz:Zli u)(hok:Zd6 u=true→Zzo u) :
  ∃ v m1,Zaq Tryd.prog TT S 10 [.agg (Za1 u vo bo so).toArray] m=some (v,m1)∧v=.bool (Zjc u)∧Zaa m m1 []:=by
 obtain⟨oU,kU,nU⟩:=Zar (m:=m) (cs:=Za1 u vo bo so) (e:=29) rfl
 obtain⟨mB,hmB⟩:∃ mB,m.new (Za1 u vo bo so) 29=mB:=⟨_,rfl⟩
 obtain⟨ub,hub⟩:∃ ub,m.next=ub:=⟨_,rfl⟩
 rw [hmB,hub] at oU nU
 rw [hmB] at kU
 obtain⟨R,hR⟩:∃ R,Zjc u=R:=⟨_,rfl⟩
 rw [hR]
 have hQB:∀ f,Q f→f < mB.next:=fun f h=>by have:=hQ f h;have:=kU.1;omega
 have ldu:=oU.load 5 (off:=0) (by simp)
 simp [Zao] at ldu
 obtain⟨v,m1,es,rfl,k1⟩:=Zze hN.sh (hU.keep kU (by simp)) hQB hz
 have K1:=kU.trans k1
 refine Zhk 25 [27,38,61,99,104,110,117,130,141,222,231,240,248,267,279,296,301,315,324,341,365] k10 hN.check rfl ?_
 by_cases hs:Zd6 u=true
 case neg =>
  have hs':Zd6 u=false:=by simpa using hs
  have:R=false:=by rw [← hR];unfold Zjc;rw [hs'];rfl
  rw [this]
  rw [hs'] at es
  simp [-Int.natCast_add,Zbn b29,hmB,hub,ldu,es]
  exact K1
 have sk:=hok hs
 rw [hs] at es
 have hR2:(Zdo (Zlo u) 0 (nb u) && Zvh u)=R:=by rw [← hR];unfold Zjc;rw [hs,Bool.true_and]
 clear hR hok hs
 have oU1:=oU.keep k1 (by simp)
 have ldu1:=oU1.load 5 (off:=0) (by simp)
 simp [Zao] at ldu1
 have hQ1:∀ f,Q f→f < m1.next:=fun f h=>by have:=hQB f h;have:=k1.1;omega
 have hnx:Zm4 u:=fun b hb=>sk.nx b hb
 obtain⟨v,m2,ep,⟨ob,of,pao,pfm,rfl,hP⟩,k2⟩:=Zyt hN.preds (hU.keep K1 (by simp)) hQ1 (by have:=sk.hb;omega) hnx
 have hAl:(Zal u).length=nb u:=Zel u
 rw [hAl] at ep
 have hz3:=Zkp (nb u) (by have:=sk.hb;omega)
 have oU2:=oU1.keep k2 (by simp)
 have u3:=oU2.load1 (off:=3) rfl
 have nbm:=sk.hb
 have nvm:=sk.hv
 have nb0:=sk.hb0
 have n1:(nb u:Int)≤9223372036854775807:=by omega
 have n2:nb u * 24≤281474976710656:=by omega
 obtain⟨C0,hC0⟩:∃ C0,List.replicate (nb u) (Value.slice none 0 0)=C0:=⟨_,rfl⟩
 have hCl:C0.length=nb u:=by rw [← hC0];simp
 rw [hC0] at hz3
 obtain⟨oX,kX,nX⟩:=Zar (m:=m2) (cs:=C0) (e:=22) rfl
 obtain⟨nx,hnx'⟩:∃ nx,m2.next=nx:=⟨_,rfl⟩
 obtain⟨m3,hm3⟩:∃ m3,m2.new C0 22=m3:=⟨_,rfl⟩
 rw [hm3,hnx'] at oX nX
 rw [hm3] at kX
 have K3:Zaa m m3 []:=(K1.trans k2).trans kX
 have K2:Zaa m1 m3 []:=k2.trans kX
 simp [-Int.natCast_add,-List.map_replicate,Zbn b29,Ze7 u57 Z9h,hmB,hub,ldu,es,ldu1,ep,u3,hz3,n1,n2,hm3,hnx']
 obtain⟨X,hX⟩:∃ X,Zvh u=X:=⟨_,rfl⟩
 rw [hX] at hR2
 obtain⟨L,hL⟩:∃ L,nxL u=L:=⟨_,rfl⟩
 have hLl:L.length=nb u:=by rw [← hL];exact Zi6 u
 obtain⟨A,hA⟩:∃ A,Zal u=A:=⟨_,rfl⟩
 have hAr:∀ j,(A.getD j []).length≤1000000:=fun j=>by rw [← hA];exact Zkl hnx (by omega) j
 have hpr:∀ i,Zlo u i=(Zgq (prD u i) (A.getD i []) && !Zqf A (nxD u i)):=fun i=>by rw [← hA];rfl
 rw [hA] at hP hAl
 have hAI:∀ (mG:Mem),Zaa m2 mG []→∀ j < nb u,loadRow mG ⟨ob,j,none⟩ 1=some [.slice (pao j) (A.getD j []).length (A.getD j []).length]∧Zah (fun _=>True) mG (pao j) (A.getD j []):=fun mG k j hj =>
  ⟨(hP.own.keep k (by simp)).load1 (off:=j) (Zdr pao (by omega)),_,Zp1 ((hP.row j (by omega)).keep k (by simp)).rs,fun _=>trivial⟩
 clear hP ep hC0 hz3 es ldu ldu1
 have h01:nx∉([]:List Nat):=by simp
 have hm1:m1.next≤m2.next:=k2.1
 have hub1:ub < m1.next:=oU1.flt
 refine Zag 25 [27,38,61,99,104,110,117,130,141,222,231,240,248,267,279,296,301,315,324,341,365] (fun d E mF=>∃ (i:Nat) (C:List Value),nb u - i=d∧i≤nb u∧Own mF nx C 22 nx∧C.length=nb u∧(∀ j < i,∃ a,C[j]?=some (.slice a (L.getD j []).length (L.getD j []).length)∧Zah Q mF a (L.getD j []))∧Zaa m2 mF []∧(Zdo (Zlo u) i (nb u - i) && X)=R∧
  E=[(1,.pointer (some ⟨ub,0,none⟩)),(3,.slice (some ⟨ob,0,none⟩) (nb u) (nb u)),(4,.slice (some ⟨nx,0,none⟩) (nb u) (nb u)),(5,.int .i64 (i:Int))]) _ ⟨_,⟨0,C0,rfl,by omega,oX,hCl,fun j h=>by omega,kX,hR2,rfl⟩,(by repeat' constructor)⟩ ?_
 clear hR2 oX hCl hm3 C0 u3 K3 K2
 rintro d E mF ih ⟨i,C,hd,hi,oX,hCl,hC,kF,hr,rfl⟩
 have KF:Zaa m mF []:=(K1.trans k2).trans kF
 have im:(i:Int)≤9223372036854775807:=by omega
 have u3F:=((oU2).keep kF (by simp)).load1 (off:=3) rfl
 by_cases hlt:i < nb u
 ·have i1:(i:Int) < nb u:=by omega
  have wi:IntKind.i64.wrap ((i:Int)+1)=((i+1:Nat):Int):=by rw [Zab (by omega) (by omega)];omega
  have ed:nb u - i=(nb u - (i+1))+1:=by omega
  rw [ed,Zdo,hpr] at hr
  obtain⟨bb,vo',no',po',hbo,ldb,_,hno',_⟩:=Zf0 (hU.keep KF (by simp)) hlt
  have hLi:L.getD i []=(u.2.2.2.1[i]).2.2.2.1:=by rw [← hL];exact Zyz hlt
  have hbx:=hnx _ (List.getElem_mem hlt)
  have hzb:=hz.b _ (List.getElem_mem hlt)
  have b3:=Zbo (k:=3) ldb rfl
  obtain⟨l,hl⟩:∃ l:List Int,(u.2.2.2.1[i]).2.2.2.1=l:=⟨_,rfl⟩
  rw [hl] at b3 hno' hbx hzb hLi
  obtain⟨mG,eG,oG,kG⟩:=Zap (r:=_) rfl oX (off:=i) (vs:=[.slice no' l.length l.length]) (by simp;omega) (by simp [Zae])
  have hov:Zbx C i [.slice no' l.length l.length]=C.set i (.slice no' l.length l.length):=by simp [Zbx,List.set_eq_take_append_cons_drop,show i < C.length by omega]
  rw [hov] at oG
  have k2G:Zaa m2 mG []:=kF.fresh kG (by simp;omega)
  have KG:Zaa m mG []:=(K1.trans k2).trans k2G
  have u3G:=((oU2).keep k2G (by simp)).load1 (off:=3) rfl
  have hqn:∀ f∈[nx],¬ Q f:=by simp;intro hq;have:=hQ1 _ hq;omega
  have hCG:∀ j < i+1,∃ a,(C.set i (.slice no' l.length l.length))[j]?=some (.slice a (L.getD j []).length (L.getD j []).length)∧Zah Q mG a (L.getD j []):=by
   intro j hj
   by_cases e:j=i
   ·subst e
    rw [hLi]
    exact⟨no',by rw [List.getElem?_set_self (by omega)],hno'.keep kG hqn⟩
   ·obtain⟨a,h1,h2⟩:=hC j (by omega)
    exact⟨a,by rw [List.getElem?_set_ne (Ne.symm e)];exact h1,h2.keep kG hqn⟩
  obtain⟨bb2,vo2,no2,po2,hbo2,ldb2,_,hno2,hpo2⟩:=Zf0 (hU.keep KG (by simp)) hlt
  have c3:=Zbo (k:=3) ldb2 rfl
  have c4:=Zbo (k:=4) ldb2 rfl
  obtain⟨pl,hpl⟩:∃ l:List Int,(u.2.2.2.1[i]).2.2.2.2.1=l:=⟨_,rfl⟩
  rw [hl] at c3 hno2
  rw [hpl] at c4 hpo2 hzb
  obtain⟨lA,iA⟩:=hAI mG k2G i hlt
  have ei:=Zwz (m:=mG) hN.ints hpo2 iA (by omega) (by have:=hAr i;omega)
  obtain⟨ai,hai⟩:∃ ai,A.getD i []=ai:=⟨_,rfl⟩
  have hail:=hAr i
  rw [hai] at lA ei hail
  have hpD:prD u i=pl:=by unfold prD;rw [Zb2 hlt];exact hpl
  have hnD:nxD u i=l:=by unfold nxD;rw [Zb2 hlt];exact hl
  rw [hai,hpD,hnD] at hr
  rw [hbo] at u3F
  rw [hbo2] at u3G
  obtain⟨q,hq⟩:∃ q,Zgq pl ai=q:=⟨_,rfl⟩
  rw [hq] at ei hr
  cases q with
  | false =>
   have:R=false:=by rw [← hr];rfl
   rw [this]
   simp [-Int.natCast_add,-List.getD_eq_getElem?_getD,i1,im,hlt,u3F,b3,eG,u3G,c4,lA,ei]
   exact KG
  | true =>
   rw [Bool.true_and,Bool.and_assoc] at hr
   by_cases hl2:l.length=2
   ·obtain⟨rb,hrb,l0⟩:=hno2.get (i:=0) (by omega)
    obtain⟨rb',hrb',l1⟩:=hno2.get (i:=1) (by omega)
    rw [hrb] at hrb' c3
    simp only [Option.some.injEq,Addr.mk.injEq,and_true] at hrb'
    rw [← hrb'.1,← hrb'.2] at l1
    rw [Nat.add_zero] at l0
    have hk0:=hbx.2 _ (Za6 (l:=l) (i:=0) (by omega))
    have hk1:=hbx.2 _ (Za6 (l:=l) (i:=1) (by omega))
    have en:Zqf A l=(!decide ((A.getD (l.getD 0 0).toNat []).length=1) || !decide ((A.getD (l.getD 1 0).toNat []).length=1)):=by unfold Zqf;rw [hl2];simp
    rw [en] at hr
    obtain⟨x,hx⟩:∃ x:Nat,l.getD 0 0=(x:Int):=⟨(l.getD 0 0).toNat,by omega⟩
    obtain⟨y,hy⟩:∃ y:Nat,l.getD 1 0=(y:Int):=⟨(l.getD 1 0).toNat,by omega⟩
    rw [hx] at l0 hk0 hr
    rw [hy] at l1 hk1 hr
    rw [Int.toNat_natCast,Int.toNat_natCast] at hr
    have x1:(x:Int) < nb u:=by omega
    have x2:(x:Int)≤9223372036854775807:=by omega
    have x3:x < nb u:=by omega
    have y1:(y:Int) < nb u:=by omega
    have y2:(y:Int)≤9223372036854775807:=by omega
    have y3:y < nb u:=by omega
    obtain⟨lx,_⟩:=hAI mG k2G x x3
    obtain⟨ly,_⟩:=hAI mG k2G y y3
    obtain⟨nx1,hnx1⟩:∃ n1:Nat,(A.getD x []).length=n1:=⟨_,rfl⟩
    obtain⟨ny1,hny1⟩:∃ n1:Nat,(A.getD y []).length=n1:=⟨_,rfl⟩
    rw [hnx1] at lx hr
    rw [hny1] at ly hr
    have l2:(l.length:Int)=2:=by omega
    have eG2:=eG
    rw [hl2] at eG2
    by_cases ex:nx1=1
    ·have ex':(nx1:Int)=1:=by omega
     by_cases ey:ny1=1
     ·have ey':(ny1:Int)=1:=by omega
      simp [-Int.natCast_add,-List.getD_eq_getElem?_getD,i1,im,hlt,u3F,b3,eG2,u3G,c3,c4,lA,ei,hl2,l0,l1,x2,x3,y2,y3,lx,ly,ex,ey,wi]
      exact ih _ _ _ _ ⟨i+1,_,rfl,by omega,oG,by simpa using hCl,hCG,k2G,by rw [← hr,ex,ey];rfl,rfl⟩ (by omega) (by repeat' constructor)
     ·have:R=false:=by rw [← hr];simp [ey]
      rw [this]
      have ey':¬ (ny1:Int)=1:=by omega
      simp [-Int.natCast_add,-List.getD_eq_getElem?_getD,i1,im,hlt,u3F,b3,eG2,u3G,c3,c4,lA,ei,hl2,l0,l1,x2,x3,y2,y3,lx,ly,ex,ey']
      exact KG
    ·have:R=false:=by rw [← hr];simp [ex]
     rw [this]
     have ex':¬ (nx1:Int)=1:=by omega
     simp [-Int.natCast_add,-List.getD_eq_getElem?_getD,i1,im,hlt,u3F,b3,eG2,u3G,c3,c4,lA,ei,hl2,l0,x2,x3,lx,ex']
     exact KG
   ·have l2:¬ (l.length:Int)=2:=by omega
    have en:Zqf A l=false:=by unfold Zqf;rw [decide_eq_false hl2];rfl
    rw [en,Bool.not_false,Bool.true_and] at hr
    simp [-Int.natCast_add,-List.getD_eq_getElem?_getD,i1,im,hlt,u3F,b3,eG,u3G,c3,c4,lA,ei,l2,wi]
    exact ih _ _ _ _ ⟨i+1,_,rfl,by omega,oG,by simpa using hCl,hCG,k2G,hr,rfl⟩ (by omega) (by repeat' constructor)
 clear ih
 have i1:¬ (i:Int) < nb u:=by omega
 have ei:i=nb u:=by omega
 subst ei
 rw [Nat.sub_self,Zdo,Bool.true_and] at hr
 obtain⟨nao,rfl,hnr⟩:=Zr6 (P:=fun j a=>Zah Q mF a (L.getD j [])) (by omega) (fun j hj=>hC j (by omega))
 have NR:Zro Q mF nx nx nao L:=⟨oX,hnr⟩
 obtain⟨lA0,_⟩:=hAI mF kF 0 (by omega)
 rw [← hX] at hr
 unfold Zvh at hr
 rw [hA] at hr
 obtain⟨n0,hn0⟩:∃ n0:Nat,(A.getD 0 []).length=n0:=⟨_,rfl⟩
 rw [hn0] at lA0 hr
 by_cases h0:n0=0
 case neg =>
  have:R=false:=by rw [← hr];simp [h0]
  rw [this]
  have h0':0 < n0:=by omega
  simp [-Int.natCast_add,-List.getD_eq_getElem?_getD,i1,u3F,lA0,nb0,h0']
  exact KF
 rw [decide_eq_true h0,Bool.true_and,hL] at hr
 have hLrow:∀ i < L.length,(L.getD i []).length≤1000000∧∀ t∈L.getD i [],(0:Int)≤t∧t < L.length:=by
  intro i hi
  rw [hLl] at hi ⊢
  have:L.getD i []=(u.2.2.2.1[i]).2.2.2.1:=by rw [← hL];exact Zyz hi
  rw [this]
  have hbx:=hnx _ (List.getElem_mem hi)
  exact⟨by have:=hbx.1;omega,hbx.2⟩
 have hQF:∀ f,Q f→f < mF.next:=fun f h=>by have:=hQ f h;have:=KF.1;omega
 obtain⟨v,mW,ew,⟨sb,sn,rfl,lsn,oS,nS,hsn⟩,kW⟩:=Zmv (a:=nb u) (but:=-1) hN.without NR hQF (by omega) (by omega) hLrow (fun t ht=>by omega)
 rw [hLl] at ew lsn hsn
 simp [-Int.natCast_add,-List.getD_eq_getElem?_getD,i1,u3F,lA0,nb0,h0,ew]
 have k2W:Zaa m2 mW []:=kF.trans kW
 have KW:Zaa m mW []:=KF.trans kW
 have NW:=NR.keep kW (by simp) (by simp)
 obtain⟨X3,hX3⟩:∃ X3,Zyj u=X3:=⟨_,rfl⟩
 rw [hX3] at hr
 clear hX X lA0 h0 hn0 n0 kF KF hC hCl hi hd im u3F i1 hlt
 have hwo:∀ k < nb u,sn.getD k false=woB L (nb u) k:=fun k hk=>by rw [Bool.eq_iff_iff,hsn k hk,Zso]
 clear hsn hnr ew
 refine Zag 25 [27,38,61,99,104,110,117,130,141,222,231,240,248,267,279,296,301,315,324,341,365] (fun d E mG=>∃ (i:Nat),nb u - i=d∧i≤nb u∧mG=mW∧(Zdo (woB L (nb u)) i (nb u - i) && X3)=R∧
  E=[(1,.pointer (some ⟨ub,0,none⟩)),(3,.slice (some ⟨ob,0,none⟩) (nb u) (nb u)),(4,.slice (some ⟨nx,0,none⟩) (nb u) (nb u)),(6,.slice (some ⟨sb,0,none⟩) (nb u) (nb u)),(7,.int .i64 (i:Int))]) _ ⟨_,⟨0,rfl,by omega,rfl,hr,rfl⟩,(by repeat' constructor)⟩ ?_
 clear hr
 rintro d E mG ih ⟨i,hd,hi,rfl,hr,rfl⟩
 have im:(i:Int)≤9223372036854775807:=by omega
 by_cases hlt:i < nb u
 ·have i1:(i:Int) < nb u:=by omega
  have wi:IntKind.i64.wrap ((i:Int)+1)=((i+1:Nat):Int):=by rw [Zab (by omega) (by omega)];omega
  have ed:nb u - i=(nb u - (i+1))+1:=by omega
  rw [ed,Zdo,← hwo i hlt] at hr
  have ls:=oS.load1 (off:=i) (Zhf (by omega))
  obtain⟨q,hq⟩:∃ q,sn.getD i false=q:=⟨_,rfl⟩
  rw [hq] at ls hr
  cases q with
  | false =>
   have:R=false:=by rw [← hr];rfl
   rw [this]
   simp [-Int.natCast_add,-List.getD_eq_getElem?_getD,-List.map_replicate,i1,im,hlt,ls]
   exact KW
  | true =>
   rw [Bool.true_and] at hr
   simp [-Int.natCast_add,-List.getD_eq_getElem?_getD,-List.map_replicate,i1,im,hlt,ls,wi]
   exact ih _ _ _ _ ⟨i+1,rfl,by omega,rfl,hr,rfl⟩ (by omega) (by repeat' constructor)
 clear ih
 have i1:¬ (i:Int) < nb u:=by omega
 have ei:i=nb u:=by omega
 subst ei
 rw [Nat.sub_self,Zdo,Bool.true_and,← hX3] at hr
 clear hX3 X3 hwo oS lsn hlt hi hd im
 have hz1:=Zl8 (nv u) (by omega)
 have hzc:List.replicate (nv u) (Value.int .i64 0)=ints (List.replicate (nv u) 0):=by simp [ints]
 rw [hzc] at hz1
 obtain⟨Z,hZ⟩:∃ Z:List Int,List.replicate (nv u) 0=Z:=⟨_,rfl⟩
 have hZl:Z.length=nv u:=by rw [← hZ];simp
 have hZr:∀ j < nv u,(0:Int)≤Z.getD j 0∧Z.getD j 0 < nb u:=fun j hj=>by rw [← hZ];simp [List.getD_eq_getElem?_getD,hj];omega
 unfold Zyj at hr
 rw [hZ,hA,hL] at hr
 rw [hZ] at hz1
 have oUW:=oU2.keep k2W (by simp)
 have u2W:=oUW.load1 (off:=2) rfl
 obtain⟨o1,kb1,nb1⟩:=Zar (m:=mG) (cs:=ints Z) (e:=3) rfl
 obtain⟨b1,hb1⟩:∃ b1,mG.next=b1:=⟨_,rfl⟩
 obtain⟨m4,hm4⟩:∃ m4,mG.new (ints Z) 3=m4:=⟨_,rfl⟩
 rw [hm4,hb1] at o1 nb1
 rw [hm4] at kb1
 have u24:=(oUW.keep kb1 (by simp)).load1 (off:=2) rfl
 obtain⟨o2,kb2,nb2⟩:=Zar (m:=m4) (cs:=ints Z) (e:=3) rfl
 obtain⟨b2,hb2⟩:∃ b2,m4.next=b2:=⟨_,rfl⟩
 obtain⟨m5,hm5⟩:∃ m5,m4.new (ints Z) 3=m5:=⟨_,rfl⟩
 rw [hm5,hb2] at o2 nb2
 rw [hm5] at kb2
 have v1:(nv u:Int)≤9223372036854775807:=by omega
 have v2:nv u * 8≤281474976710656:=by omega
 simp [-Int.natCast_add,-List.getD_eq_getElem?_getD,-List.map_replicate,Ze7 u22 ap3,i1,u2W,hz1,v1,v2,hm4,hb1,u24,hm5,hb2]
 have hb12:b1 < b2:=by omega
 have kW5:Zaa mG m5 []:=kb1.trans kb2
 have o15:=o1.keep kb2 (by simp)
 have k25:Zaa m2 m5 []:=k2W.trans kW5
 have K5:Zaa m m5 []:=KW.trans kW5
 have hsmall:∀ f,Q f→f < b1:=fun f h=>by have:=hQ f h;have:=KW.1;omega
 have m2b:m2.next≤b1:=by have:=k2W.1;omega
 have gb1:mG.next≤b1:=by omega
 obtain⟨T,hT⟩:∃ T,Zfr u A 0 u.2.2.2.1 (Z,Z)=T:=⟨_,rfl⟩
 rw [hT] at hr
 have hfalse:T=none→R=false:=fun h=>by rw [← hr,h]
 have hphi:=fun t (h:T=some t)=>Zvg (u:=u) (A:=A) u.2.2.2.1 0 (hT.trans h)
 have hset:∀ (bl:List Int) (n i:Nat),bl.length=nv u→i < nb u→(∀ j < nv u,(0:Int)≤bl.getD j 0∧bl.getD j 0 < nb u)→∀ j < nv u,(0:Int)≤(bl.set n (i:Int)).getD j 0∧(bl.set n (i:Int)).getD j 0 < nb u:=by
  intro bl n i hl hi h j hj
  by_cases e:j=n
  ·subst e
   rw [List.getD_eq_getElem?_getD,List.getElem?_set_self (by omega)];simp;omega
  ·rw [List.getD_eq_getElem?_getD,List.getElem?_set_ne (Ne.symm e),← List.getD_eq_getElem?_getD];exact h j hj
 clear u2W u24 hz1 hzc hZ hm4 hm5 hb1 hb2 o1 kb1 kb2 nb1 nS i1
 refine Zag 25 [27,38,61,99,104,110,117,130,141,222,231,240,248,267,279,296,301,315,324,341,365] (fun d E mF=>∃ (i:Nat) (bl pl:List Int),nb u - i=d∧i≤nb u∧Own mF b1 (ints bl) 3 b1∧Own mF b2 (ints pl) 3 b2∧bl.length=nv u∧pl.length=nv u∧(∀ j < nv u,(0:Int)≤bl.getD j 0∧bl.getD j 0 < nb u)∧Zaa m5 mF [b1,b2]∧Zfr u A i (u.2.2.2.1.drop i) (bl,pl)=T∧
  E=[(1,.pointer (some ⟨ub,0,none⟩)),(3,.slice (some ⟨ob,0,none⟩) (nb u) (nb u)),(4,.slice (some ⟨nx,0,none⟩) (nb u) (nb u)),(8,.slice (some ⟨b1,0,none⟩) (nv u) (nv u)),(9,.slice (some ⟨b2,0,none⟩) (nv u) (nv u)),(10,.int .i64 (i:Int))]) _ ⟨_,⟨0,Z,Z,rfl,by omega,o15,o2,hZl,hZl,hZr,.refl _ _,by rw [List.drop_zero];exact hT,rfl⟩,(by repeat' constructor)⟩ ?_
 clear hT o15 o2 hZr hZl Z
 rintro d E mF ih ⟨i,bl,pl,hd,hi,o1,o2,hbl,hpl,hbr,kF,hT,rfl⟩
 have im:(i:Int)≤9223372036854775807:=by omega
 have kF0:Zaa mG mF []:=kW5.fresh kF (by simp;omega)
 have u3F:=((oUW).keep kF0 (by simp)).load1 (off:=3) rfl
 by_cases hlt:i < nb u
 ·have i1:(i:Int) < nb u:=by omega
  have wi:IntKind.i64.wrap ((i:Int)+1)=((i+1:Nat):Int):=by rw [Zab (by omega) (by omega)];omega
  rw [List.drop_eq_getElem_cons hlt,Zfr] at hT
  have hvl:=sk.vl _ (List.getElem_mem hlt)
  have hzb:=hz.b _ (List.getElem_mem hlt)
  obtain⟨l,hl⟩:∃ l:List Int,(u.2.2.2.1[i]).1=l:=⟨_,rfl⟩
  rw [hl] at hT hzb hvl
  replace hvl:∀ v∈l,(0:Int)≤v∧v < nv u:=hvl
  simp [-Int.natCast_add,-List.getD_eq_getElem?_getD,-List.map_replicate,i1,u3F]
  refine Zag 25 [27,38,61,99,104,110,117,130,141,222,231,240,248,267,279,296,301,315,324,341,365] (fun d2 E mH=>∃ (k:Nat) (bl pl:List Int) (fst:Bool),l.length - k=d2∧k≤l.length∧Own mH b1 (ints bl) 3 b1∧Own mH b2 (ints pl) 3 b2∧bl.length=nv u∧pl.length=nv u∧(∀ j < nv u,(0:Int)≤bl.getD j 0∧bl.getD j 0 < nb u)∧Zaa m5 mH [b1,b2]∧((Zhg u A i k (l.drop k) (bl,pl,fst)).bind fun t=>Zfr u A (i+1) (u.2.2.2.1.drop (i+1)) (t.1,t.2.1))=T∧
   E=[(1,.pointer (some ⟨ub,0,none⟩)),(3,.slice (some ⟨ob,0,none⟩) (nb u) (nb u)),(4,.slice (some ⟨nx,0,none⟩) (nb u) (nb u)),(8,.slice (some ⟨b1,0,none⟩) (nv u) (nv u)),(9,.slice (some ⟨b2,0,none⟩) (nv u) (nv u)),(10,.int .i64 (i:Int)),(11,.bool fst),(12,.int .i64 (k:Int))]) _ ⟨_,⟨0,bl,pl,true,rfl,by omega,o1,o2,hbl,hpl,hbr,kF,by rw [List.drop_zero];exact hT,rfl⟩,(by repeat' constructor)⟩ ?_
  clear hT o1 o2 hbl hpl hbr kF kF0 u3F
  rintro d2 E mH ih2 ⟨k,bl,pl,fst,hd2,hk,o1,o2,hbl,hpl,hbr,kH,hT,rfl⟩
  have km:(k:Int)≤9223372036854775807:=by omega
  have kH0:Zaa mG mH []:=kW5.fresh kH (by simp;omega)
  have KH:Zaa m mH []:=KW.trans kH0
  have u3H:=((oUW).keep kH0 (by simp)).load1 (off:=3) rfl
  have u2H:=((oUW).keep kH0 (by simp)).load1 (off:=2) rfl
  obtain⟨bb,vo',no',po',hbo,hldb,hvo',_,_⟩:=Zr3 hU hlt
  rw [hl] at hvo'
  have hc0:∀ mX:Mem,Zaa m mX []→loadRow mX ⟨bb,i * 6,none⟩ 1=some [.slice vo' l.length l.length]:=fun mX kx=>by
   have:=Zbo (k:=0) (hldb mX [] kx (by simp)) rfl
   rw [hl,Nat.add_zero] at this
   exact this
  have c0:=hc0 mH KH
  rw [hbo] at u3H
  by_cases hkt:k < l.length
  ·have k1':(k:Int) < l.length:=by omega
   have wk:IntKind.i64.wrap ((k:Int)+1)=((k+1:Nat):Int):=by rw [Zab (by omega) (by omega)];omega
   rw [Za7 hkt,Zhg] at hT
   obtain⟨vb,hvb,hlj⟩:=hvo'.get2 hkt
   have hnv:=hvl _ (Za6 hkt)
   obtain⟨n,hn⟩:∃ n:Nat,l.getD k 0=(n:Int):=⟨(l.getD k 0).toNat,by omega⟩
   rw [hn] at hT hnv
   have hlj:∀ mX:Mem,Zaa m mX []→loadRow mX ⟨vb.1,vb.2+k,none⟩ 1=some [.int .i64 (n:Int)]:=fun mX kx=>by rw [← hn];exact hlj mX [] kx (by simp)
   have lj:=hlj mH KH
   have hnn:n < nv u:=by omega
   have n1':(n:Int) < nv u:=by omega
   have n2':(n:Int)≤9223372036854775807:=by omega
   rw [hvb] at c0 hc0
   obtain⟨xb,vao,hxv,hldx,_⟩:=Zsr hU hnn
   have eV:Za3 u (n:Int)=u.2.2.1[n]:=Zc6 hnn
   unfold Zn5 at hT
   rw [eV] at hT
   generalize u.2.2.1[n]=V at *
   obtain⟨op,hop⟩:∃ o:Int,V.1=o:=⟨_,rfl⟩
   obtain⟨va,hva⟩:∃ o:Int,V.2.1=o:=⟨_,rfl⟩
   obtain⟨vb',hvb'⟩:∃ o:Int,V.2.2.1=o:=⟨_,rfl⟩
   obtain⟨vn,hvn⟩:∃ o:Int,V.2.2.2.1=o:=⟨_,rfl⟩
   obtain⟨NA,hNA⟩:∃ o:Nat,List.length V.2.2.2.2.1=o:=⟨_,rfl⟩
   obtain⟨vs,hvs⟩:∃ o:Int,V.2.2.2.2.2.1=o:=⟨_,rfl⟩
   unfold Zlt at hldx
   rw [hop,hva,hvb',hvn,hNA,hvs] at hldx
   have ldx:=hldx mH [] KH (by simp)
   rw [hop,hNA] at hT
   rw [hxv] at u2H
   clear hop hva hvb' hvn hNA hvs eV
   obtain⟨oZ,kZ,nZ⟩:=Zar (m:=mH) (cs:=[.int .i64 0,.int .i64 0,.int .i64 0,.int .i64 0,.slice none 0 0,.int .i64 0]) (e:=43) rfl
   obtain⟨bx,hbx⟩:∃ bx,mH.next=bx:=⟨_,rfl⟩
   obtain⟨mI,eI,oX,kX'⟩:=Zap (r:=_) rfl oZ (off:=0) (vs:=[.int .i64 op,.int .i64 va,.int .i64 vb',.int .i64 vn,.slice vao NA NA,.int .i64 vs]) (by simp) (by simp [Zau,Zae])
   simp [Zbx] at oX
   have kI:=kZ.fresh kX' (by simp)
   rw [hbx] at oX nZ eI
   have kI0:=kH0.trans kI
   have b1f:=o1.flt
   have b2f:=o2.flt
   have o1I:=o1.keep kI (by simp)
   have o2I:=o2.keep kI (by simp)
   obtain⟨mJ,eJ,o1J,kJ⟩:=Zfz o1I (i:=n) (by omega) (i:Int)
   have o2J:=o2I.keep kJ (by simp;omega)
   have oXJ:=oX.keep kJ (by simp;omega)
   have kJ0:Zaa mG mJ []:=kI0.fresh kJ (by simp;omega)
   obtain⟨mK,eK,o2K,kK⟩:=Zfz o2J (i:=n) (by omega) (k:Int)
   have o1K:=o1J.keep kK (by simp;omega)
   have oXK:=oXJ.keep kK (by simp;omega)
   have kK0:Zaa mG mK []:=kJ0.fresh kK (by simp;omega)
   have k5K:Zaa m5 mK [b1,b2]:=((kH.trans (kI.mono (by simp))).trans (kJ.mono (by simp))).trans (kK.mono (by simp))
   have u3I:=((oUW).keep kI0 (by simp)).load1 (off:=3) rfl
   have u3J:=((oUW).keep kJ0 (by simp)).load1 (off:=3) rfl
   have c0I:=hc0 mI (KW.trans kI0)
   have c0J:=hc0 mJ (KW.trans kJ0)
   have ljI:=hlj mI (KW.trans kI0)
   have ljJ:=hlj mJ (KW.trans kJ0)
   rw [hbo] at u3I u3J
   have u3Z:=((oUW).keep (kH0.trans kZ) (by simp)).load1 (off:=3) rfl
   have u2Z:=((oUW).keep (kH0.trans kZ) (by simp)).load1 (off:=2) rfl
   rw [hbo] at u3Z
   rw [hxv] at u2Z
   have c0Z:=hc0 _ (KH.trans kZ)
   have ljZ:=hlj _ (KH.trans kZ)
   have ldxZ:=hldx _ [] (KH.trans kZ) (by simp)
   obtain⟨lA,_⟩:=hAI mK (k2W.trans kK0) i hlt
   obtain⟨nA,hnA⟩:∃ nA:Nat,(A.getD i []).length=nA:=⟨_,rfl⟩
   rw [hnA] at lA hT
   have y0:=oXK.load1 (off:=0) rfl
   have y4:=oXK.load1 (off:=4) rfl
   have hbr':=hset bl n i hbl hlt hbr
   have KK:Zaa m mK []:=KW.trans kK0
   simp [-Int.natCast_add,-List.getD_eq_getElem?_getD,-List.map_replicate,im,hlt,u3H,c0,k1',km,hkt,lj,u2H,n2',hnn,ldx,hbx,eI,u3I,c0I,ljI,eJ,u3J,c0J,ljJ,eK,y0,u3Z,u2Z,c0Z,ljZ,ldxZ]
   obtain⟨cn,hcn⟩:∃ cn,((Zay op && !fst) || (decide (op=21) && (!decide (NA=nA) || decide (i=0))) || (decide (op=1) && !decide (i=0)))=cn:=⟨_,rfl⟩
   simp only [hcn] at hT
   have hno:cn=true→R=false:=fun h=>hfalse (by rw [← hT,h];rfl)
   have hgo:cn=false→((Zhg u A i (k+1) (l.drop (k+1)) (bl.set n i,pl.set n k,fst && Zay op)).bind fun t=>Zfr u A (i+1) (u.2.2.2.1.drop (i+1)) (t.1,t.2.1))=T:=fun h=>by rw [← hT,h,Int.toNat_natCast];rfl
   clear hT
   by_cases e21:op=21
   ·have eh:Zay op=true:=by rw [e21];rfl
    rw [eh] at hcn hgo
    cases fst with
    | false =>
     have:R=false:=hno (by rw [← hcn];rfl)
     rw [this]
     simp [-Int.natCast_add,-List.getD_eq_getElem?_getD,-List.map_replicate,e21]
     exact KK
    | true =>
     by_cases eN:NA=nA
     ·by_cases e0:i=0
      ·have:R=false:=hno (by rw [← hcn,e21,e0];simp)
       rw [this]
       subst e0
       simp [-Int.natCast_add,-List.getD_eq_getElem?_getD,-List.map_replicate,e21,y0,y4,lA,nb0,eN]
       exact KK
      ·have e0':¬ (i:Int)=0:=by omega
       have hc:=hgo (by rw [← hcn,e21,decide_eq_true eN,decide_eq_false e0];rfl)
       subst eN
       simp [-Int.natCast_add,-List.getD_eq_getElem?_getD,-List.map_replicate,e21,y0,y4,lA,im,hlt,e0,wk]
       exact ih2 _ _ _ _ ⟨k+1,bl.set n i,pl.set n k,_,rfl,by omega,o1K,o2K,by simpa using hbl,by simpa using hpl,hbr',k5K,hc,rfl⟩ (by omega) (by repeat' constructor)
     ·have eN':¬ (NA:Int)=nA:=by omega
      have:R=false:=hno (by rw [← hcn,e21,decide_eq_false eN];rfl)
      rw [this]
      simp [-Int.natCast_add,-List.getD_eq_getElem?_getD,-List.map_replicate,e21,y0,y4,lA,im,hlt,eN']
      exact KK
   by_cases e1:op=1
   ·have eh:Zay op=true:=by rw [e1];rfl
    rw [eh] at hcn hgo
    cases fst with
    | false =>
     have:R=false:=hno (by rw [← hcn];rfl)
     rw [this]
     simp [-Int.natCast_add,-List.getD_eq_getElem?_getD,-List.map_replicate,e1,y0]
     exact KK
    | true =>
     by_cases e0:i=0
     ·have hc:=hgo (by rw [← hcn,e1,decide_eq_true e0];rfl)
      subst e0
      simp [-Int.natCast_add,-List.getD_eq_getElem?_getD,-List.map_replicate,e1,y0,wk]
      exact ih2 _ _ _ _ ⟨k+1,bl.set n (0:Nat),pl.set n k,_,rfl,by omega,o1K,o2K,by simpa using hbl,by simpa using hpl,hbr',k5K,hc,rfl⟩ (by omega) (by repeat' constructor)
     ·have e0':¬ (i:Int)=0:=by omega
      have:R=false:=hno (by rw [← hcn,e1,decide_eq_false e0];rfl)
      rw [this]
      simp [-Int.natCast_add,-List.getD_eq_getElem?_getD,-List.map_replicate,e1,y0,e0]
      exact KK
   have eh:Zay op=false:=by unfold Zay;rw [decide_eq_false e21,decide_eq_false e1];rfl
   rw [eh] at hcn hgo
   have hc:=hgo (by rw [← hcn,decide_eq_false e21,decide_eq_false e1];rfl)
   cases fst with
   | false =>
    simp [-Int.natCast_add,-List.getD_eq_getElem?_getD,-List.map_replicate,e21,e1,y0,wk]
    exact ih2 _ _ _ _ ⟨k+1,bl.set n i,pl.set n k,_,rfl,by omega,o1K,o2K,by simpa using hbl,by simpa using hpl,hbr',k5K,hc,rfl⟩ (by omega) (by repeat' constructor)
   | true =>
    simp [-Int.natCast_add,-List.getD_eq_getElem?_getD,-List.map_replicate,e21,e1,y0,wk]
    exact ih2 _ _ _ _ ⟨k+1,bl.set n i,pl.set n k,_,rfl,by omega,o1K,o2K,by simpa using hbl,by simpa using hpl,hbr',k5K,hc,rfl⟩ (by omega) (by repeat' constructor)
  clear ih2
  have k1':¬ (k:Int) < l.length:=by omega
  rw [List.drop_of_length_le (by omega),Zhg,Option.bind_some] at hT
  simp [-Int.natCast_add,-List.getD_eq_getElem?_getD,-List.map_replicate,im,hlt,u3H,c0,k1',wi]
  exact ih _ _ _ _ ⟨i+1,bl,pl,rfl,by omega,o1,o2,hbl,hpl,hbr,kH,hT,rfl⟩ (by omega) (by repeat' constructor)
 clear ih
 have i1:¬ (i:Int) < nb u:=by omega
 rw [List.drop_of_length_le (show u.2.2.2.1.length≤i from Nat.not_lt.1 hlt),Zfr] at hT
 replace hphi:=hphi _ hT.symm
 rw [← hT] at hr
 simp only at hr
 clear hfalse hT T hlt hi hd im hset
 have b2f:=o2.flt
 simp [-Int.natCast_add,-List.getD_eq_getElem?_getD,-List.map_replicate,i1,u3F]
 generalize hmP:Mem.new mF _ 62=mP
 obtain⟨oP,kP,nP⟩:=Zar (m:=mF) hmP
 obtain⟨pb,hpb⟩:∃ pb,mF.next=pb:=⟨_,rfl⟩
 rw [hpb] at oP nP ⊢
 clear hmP
 have oP0:Own mP pb (Zc8 (List.replicate 40 false)) 62 pb:=oP
 obtain⟨ps0,hps0⟩:∃ ps,List.replicate 40 false=ps:=⟨_,rfl⟩
 have hpl0:ps0.length=40:=by rw [← hps0];rfl
 rw [hps0] at oP0 hr
 clear oP hps0
 obtain⟨X5,hX5⟩:∃ X5,Zm0 u L A bl pl 0 u.2.2.2.1=X5:=⟨_,rfl⟩
 rw [hX5] at hr
 refine Zag 25 [27,38,61,99,104,110,117,130,141,222,231,240,248,267,279,296,301,315,324,341,365] (fun d E mG=>∃ (i:Nat) (ps:List Bool),nv u - i=d∧i≤nv u∧ps.length=40∧Own mG pb (Zc8 ps) 62 pb∧Zaa mF mG []∧(Zj4 ((show List Za9.D from u.2.2.1).drop i) ps && X5)=R∧
  E=[(1,.pointer (some ⟨ub,0,none⟩)),(3,.slice (some ⟨ob,0,none⟩) (nb u) (nb u)),(4,.slice (some ⟨nx,0,none⟩) (nb u) (nb u)),(8,.slice (some ⟨b1,0,none⟩) (nv u) (nv u)),(9,.slice (some ⟨b2,0,none⟩) (nv u) (nv u)),(15,.pointer (some ⟨pb,0,none⟩)),(16,.int .i64 (i:Int))]) _ ⟨_,⟨0,ps0,rfl,by omega,hpl0,oP0,kP,by rw [List.drop_zero];exact hr,rfl⟩,(by repeat' constructor)⟩ ?_
 clear hr oP0 kP hpl0 ps0 u3F i1
 rintro d E mH ih ⟨i,ps,hd,hi,hpsl,oP,kH,hr,rfl⟩
 have im:(i:Int)≤9223372036854775807:=by omega
 have kH0:Zaa mG mH []:=kF0.trans kH
 have KH:Zaa m mH []:=KW.trans kH0
 have u2H:=((oUW).keep kH0 (by simp)).load1 (off:=2) rfl
 by_cases hlt:i < nv u
 ·have i1:(i:Int) < nv u:=by omega
  have wi:IntKind.i64.wrap ((i:Int)+1)=((i+1:Nat):Int):=by rw [Zab (by omega) (by omega)];omega
  obtain⟨xb,vao,hxv,hldx,_⟩:=Zsr hU hlt
  have hpr1:=sk.par _ (List.getElem_mem hlt)
  have hdr:(show List Za9.D from u.2.2.1).drop i=u.2.2.1[i]::(show List Za9.D from u.2.2.1).drop (i+1):=List.drop_eq_getElem_cons hlt
  rw [hdr,Zj4] at hr
  clear hdr
  have ldx:=hldx mH [] KH (by simp)
  obtain⟨op,hop⟩:∃ o:Int,(u.2.2.1[i]).1=o:=⟨_,rfl⟩
  obtain⟨vn,hvn⟩:∃ o:Int,(u.2.2.1[i]).2.2.2.1=o:=⟨_,rfl⟩
  have l0:=Zbo (k:=0) ldx rfl
  have l3:=Zbo (k:=3) ldx rfl
  rw [hop,Nat.add_zero] at l0
  rw [hvn] at l3
  rw [hop,hvn] at hr
  replace hpr1:op=1→(0:Int)≤vn∧vn < 40:=fun e=>by rw [← hvn];exact hpr1 (hop.trans e)
  rw [hxv] at u2H
  by_cases e1:op=1
  ·rw [if_pos e1] at hr
   obtain⟨p,hp⟩:∃ p:Nat,vn=(p:Int):=⟨vn.toNat,by have:=hpr1 e1;omega⟩
   subst hp
   have hp40:p < 40:=by have:=hpr1 e1;omega
   have p1:(p:Int) < 40:=by omega
   have p2:(p:Int)≤9223372036854775807:=by omega
   rw [Int.toNat_natCast] at hr
   have lps:=oP.load1 (off:=p) (Zhf (by omega))
   obtain⟨q,hq⟩:∃ q,ps.getD p false=q:=⟨_,rfl⟩
   rw [hq] at lps hr
   cases q with
   | true =>
    have:R=false:=by rw [← hr];rfl
    rw [this]
    simp [-Int.natCast_add,-List.getD_eq_getElem?_getD,-List.map_replicate,Zjr u62 sz4,i1,im,hlt,u2H,l0,l3,e1,p2,hp40,lps]
    exact KH
   | false =>
    obtain⟨mI,eI,oI,kI⟩:=Zxl oP (i:=p) (by omega) true
    simp [-Int.natCast_add,-List.getD_eq_getElem?_getD,-List.map_replicate,Zjr u62 sz4,i1,im,hlt,u2H,l0,l3,e1,p2,hp40,lps,eI,wi]
    exact ih _ _ _ _ ⟨i+1,ps.set p true,rfl,by omega,by simpa using hpsl,oI,kH.fresh kI (by simp;omega),hr,rfl⟩ (by omega) (by repeat' constructor)
  ·rw [if_neg e1] at hr
   simp [-Int.natCast_add,-List.getD_eq_getElem?_getD,-List.map_replicate,i1,im,hlt,u2H,l0,e1,wi]
   exact ih _ _ _ _ ⟨i+1,ps,rfl,by omega,hpsl,oP,kH,hr,rfl⟩ (by omega) (by repeat' constructor)
 clear ih
 have i1:¬ (i:Int) < nv u:=by omega
 rw [List.drop_of_length_le (show (show List Za9.D from u.2.2.1).length≤i from Nat.not_lt.1 hlt),Zj4,Bool.true_and,← hX5] at hr
 clear hX5 X5 hlt hi hd im hpsl oP
 have kWH:Zaa mG mH []:=kF0.trans kH
 have NH:=NW.keep kWH (by simp) (by simp)
 obtain⟨v,mD,ed,⟨db,C,rfl,hD⟩,kD⟩:=Z1c hN.doms hN.without NH (fun f h=>by have:=hQ f h;have:=KH.1;omega) (by omega) (by omega) hLrow
 rw [hLl] at ed
 have KD:Zaa m mD []:=KH.trans kD
 have oUD:=(oUW.keep kWH (by simp)).keep kD (by simp)
 have lduD:=oUD.load 5 (off:=0) (by simp)
 simp [Zao] at lduD
 obtain⟨oZ,kZ,nZ⟩:=Zar (m:=mD) (cs:=[.int .i64 0,.int .i64 0,.slice none 0 0,.slice none 0 0,.slice none 0 0,.slice none 0 0,.slice none 0 0,.slice none 0 0]) (e:=66) rfl
 obtain⟨qb,hqb⟩:∃ qb,mD.next=qb:=⟨_,rfl⟩
 obtain⟨mO,eO,oO,kO'⟩:=Zap (r:=_) rfl oZ (off:=0) (vs:=Z3x u vo bo so b1 b2 db) (by simp) (by simp [Zau,Zae])
 simp [Zbx] at oO
 have kO:=kZ.fresh kO' (by simp)
 rw [hqb] at oO nZ eO
 simp [-Int.natCast_add,-List.getD_eq_getElem?_getD,-List.map_replicate,Zax Yad,i1,u2H,ed,lduD,hqb,eO]
 have KO:Zaa m mO []:=KD.trans kO
 have kDO:Zaa mF mO []:=(kH.trans kD).trans kO
 have k5O:Zaa m2 mO []:=((k2W.trans kWH).trans kD).trans kO
 have kGO:Zaa mG mO []:=(kWH.trans kD).trans kO
 have hOrd:Zwa mH mO u b1 b2 db bl pl L C:=⟨o1.keep kDO (by simp),o2.keep kDO (by simp),hD.keep kO,hLl,hbl,hpl,hbr⟩
 have hAm:∀ j,∀ a∈A.getD j [],(0:Int)≤a∧a < nb u:=fun j=>by rw [← hA];exact Zge u j
 clear hD ed lduD oZ kZ nZ eO kO' u2H i1
 refine Zag 25 [27,38,61,99,104,110,117,130,141,222,231,240,248,267,279,296,301,315,324,341,365] (fun d E mF=>∃ (i:Nat),nb u - i=d∧i≤nb u∧Zaa mO mF []∧Zm0 u L A bl pl i (u.2.2.2.1.drop i)=R∧
  E=[(1,.pointer (some ⟨ub,0,none⟩)),(3,.slice (some ⟨ob,0,none⟩) (nb u) (nb u)),(18,.pointer (some ⟨qb,0,none⟩)),(19,.int .i64 (i:Int))]) _ ⟨_,⟨0,rfl,by omega,.refl _ _,by rw [List.drop_zero];exact hr,rfl⟩,(by repeat' constructor)⟩ ?_
 clear hr i
 rintro d E mI ih ⟨i,hd,hi,kI,hr,rfl⟩
 have im:(i:Int)≤9223372036854775807:=by omega
 have KI:Zaa m mI []:=KO.trans kI
 have u3I:=(((oUW).keep kGO (by simp)).keep kI (by simp)).load1 (off:=3) rfl
 by_cases hlt:i < nb u
 ·have i1:(i:Int) < nb u:=by omega
  have wi:IntKind.i64.wrap ((i:Int)+1)=((i+1:Nat):Int):=by rw [Zab (by omega) (by omega)];omega
  have hgx:u.2.2.2.1[i]?=some u.2.2.2.1[i]:=List.getElem?_eq_getElem hlt
  have hph:=hphi i _ hgx
  rw [Nat.zero_add] at hph
  have hvl:=sk.vl _ (List.getElem_mem hlt)
  have hcd:=sk.cond _ (List.getElem_mem hlt)
  have hbs:=sk.bst _ (List.getElem_mem hlt)
  have hzb:=hz.b _ (List.getElem_mem hlt)
  obtain⟨bb,vo',no',po',hbo,hldb,hvo',_,_⟩:=Zr3 hU hlt
  rw [List.drop_eq_getElem_cons hlt,Zm0] at hr
  generalize u.2.2.2.1[i]=B at *
  obtain⟨l,hl⟩:∃ l:List Int,B.1=l:=⟨_,rfl⟩
  obtain⟨be,hbe⟩:∃ o:Int,B.2.1=o:=⟨_,rfl⟩
  obtain⟨bc,hbc⟩:∃ o:Int,B.2.2.1=o:=⟨_,rfl⟩
  obtain⟨NN,hNN⟩:∃ o:Nat,List.length B.2.2.2.1=o:=⟨_,rfl⟩
  obtain⟨NP,hNP⟩:∃ o:Nat,List.length B.2.2.2.2.1=o:=⟨_,rfl⟩
  obtain⟨bs,hbs'⟩:∃ o:Int,B.2.2.2.2.2.1=o:=⟨_,rfl⟩
  have ldb:=hldb mI [] KI (by simp)
  unfold Zwe at ldb
  rw [hl,hbe,hbc,hNN,hNP,hbs'] at ldb
  rw [hl] at hr hph hzb hvo'
  have ere:Zuv u L bl pl i B=((!decide (be=2) || Zb1 L bl pl bc i 1073741824) && (!decide (be=3) || Zuj u L bl pl bs i 1073741824)):=by unfold Zuv;rw [hbe,hbc,hbs']
  rw [ere] at hr
  replace hvl:∀ v∈l,(0:Int)≤v∧v < nv u:=by rw [← hl];exact hvl
  replace hph:∀ v∈l,(Za3 u v).1=21→List.length (Za3 u v).2.2.2.2.1=(A.getD i []).length:=hph
  replace hcd:be=2→(0:Int)≤bc∧bc < nv u:=by rw [← hbe,← hbc];exact hcd
  replace hbs:be=3→(0:Int)≤bs∧bs < ns u:=by rw [← hbe,← hbs'];exact hbs
  clear hldb ere hbe hbc hNN hNP hbs' hgx
  obtain⟨oZ,kZ,nZ⟩:=Zar (m:=mI) (cs:=[.slice none 0 0,.int .i64 0,.int .i64 0,.slice none 0 0,.slice none 0 0,.int .i64 0]) (e:=36) rfl
  obtain⟨bx,hbx⟩:∃ bx,mI.next=bx:=⟨_,rfl⟩
  obtain⟨m3',e3,oX,kX'⟩:=Zap (r:=_) rfl oZ (off:=0) (vs:=[.slice vo' l.length l.length,.int .i64 be,.int .i64 bc,.slice no' NN NN,.slice po' NP NP,.int .i64 bs]) (by simp) (by simp [Zau,Zae])
  simp [Zbx] at oX
  have k3:=kZ.fresh kX' (by simp)
  rw [hbx] at oX nZ e3
  have k3I:Zaa mO m3' []:=kI.trans k3
  rw [hbo] at u3I
  simp [-Int.natCast_add,-List.getD_eq_getElem?_getD,-List.map_replicate,i1,im,hlt,u3I,ldb,hbx,e3]
  obtain⟨Y,hY⟩:∃ Y,(((!decide (be=2) || Zb1 L bl pl bc i 1073741824) && (!decide (be=3) || Zuj u L bl pl bs i 1073741824)) && Zm0 u L A bl pl (i+1) (u.2.2.2.1.drop (i+1)))=Y:=⟨_,rfl⟩
  rw [Bool.and_assoc,hY] at hr
  refine Zag 25 [27,38,61,99,104,110,117,130,141,222,231,240,248,267,279,296,301,315,324,341,365] (fun d2 E mF=>∃ (k:Nat),l.length - k=d2∧k≤l.length∧Zaa m3' mF []∧(Znl u L A bl pl i k (l.drop k) && Y)=R∧
   E=[(1,.pointer (some ⟨ub,0,none⟩)),(3,.slice (some ⟨ob,0,none⟩) (nb u) (nb u)),(18,.pointer (some ⟨qb,0,none⟩)),(19,.int .i64 (i:Int)),(20,.pointer (some ⟨bx,0,none⟩)),(21,.int .i64 (k:Int))]) _ ⟨_,⟨0,rfl,by omega,.refl _ _,by rw [List.drop_zero];exact hr,rfl⟩,(by repeat' constructor)⟩ ?_
  clear hr
  rintro d2 E mJ ih2 ⟨k,hd2,hk,kJ,hr,rfl⟩
  have km:(k:Int)≤9223372036854775807:=by omega
  have kOJ:Zaa mO mJ []:=k3I.trans kJ
  have KJ:Zaa m mJ []:=KO.trans kOJ
  have oXJ:=oX.keep kJ (by simp)
  have x0:=oXJ.load1 (off:=0) rfl
  by_cases hkt:k < l.length
  ·have k1':(k:Int) < l.length:=by omega
   have wk:IntKind.i64.wrap ((k:Int)+1)=((k+1:Nat):Int):=by rw [Zab (by omega) (by omega)];omega
   rw [Za7 hkt,Znl] at hr
   obtain⟨vb,hvb,hlj⟩:=hvo'.get2 hkt
   have hnv:=hvl _ (Za6 hkt)
   have hph2:=hph _ (Za6 hkt)
   obtain⟨n,hn⟩:∃ n:Nat,l.getD k 0=(n:Int):=⟨(l.getD k 0).toNat,by omega⟩
   rw [hn] at hr hnv hph2
   have hlj:∀ mX:Mem,Zaa m mX []→loadRow mX ⟨vb.1,vb.2+k,none⟩ 1=some [.int .i64 (n:Int)]:=fun mX kx=>by rw [← hn];exact hlj mX [] kx (by simp)
   have lj:=hlj mJ KJ
   have hnn:n < nv u:=by omega
   have n1':(n:Int) < nv u:=by omega
   have n2':(n:Int)≤9223372036854775807:=by omega
   rw [hvb] at x0
   obtain⟨xb,vao,hxv,hldx,hva'⟩:=Zsr hU hnn
   have eV:Za3 u (n:Int)=u.2.2.1[n]:=Zc6 hnn
   have hus:=sk.us _ (List.getElem_mem hnn)
   have hvst:=sk.vst _ (List.getElem_mem hnn)
   have hzv:=hz.v _ (List.getElem_mem hnn)
   unfold Zz5 at hr
   rw [eV] at hr hph2
   generalize u.2.2.1[n]=V at *
   obtain⟨op,hop⟩:∃ o:Int,V.1=o:=⟨_,rfl⟩
   obtain⟨va,hva⟩:∃ o:Int,V.2.1=o:=⟨_,rfl⟩
   obtain⟨vb',hvb'⟩:∃ o:Int,V.2.2.1=o:=⟨_,rfl⟩
   obtain⟨vn,hvn⟩:∃ o:Int,V.2.2.2.1=o:=⟨_,rfl⟩
   obtain⟨al,hal⟩:∃ o:List Int,V.2.2.2.2.1=o:=⟨_,rfl⟩
   obtain⟨vs,hvs⟩:∃ o:Int,V.2.2.2.2.2.1=o:=⟨_,rfl⟩
   have eus:Zfb V=Zcm op va vb' al:=by unfold Zfb;rw [hop,hva,hvb',hal]
   unfold Zlt at hldx
   rw [hop,hva,hvb',hvn,hal,hvs] at hldx
   rw [eus,hop,hvs] at hr
   rw [hal] at hva'
   rw [show List.length V.2.2.2.2.1=al.length from by rw [← hal]] at hzv
   replace hph2:op=21→al.length=(A.getD i []).length:=fun e=>by rw [← hal];exact hph2 (hop.trans e)
   replace hus:∀ z∈Zcm op va vb' al,(0:Int)≤z∧z < nv u:=by rw [← hop,← hva,← hvb',← hal];exact hus
   replace hvst:lvs op=true→(0:Int)≤vs∧vs < ns u:=fun e=>by rw [← hvs];exact hvst (by rw [← e,← hop])
   clear hop hva hvb' hvn hvs eV eus
   obtain⟨NA,hNA⟩:∃ N,al.length=N:=⟨_,rfl⟩
   rw [hNA] at hldx hzv
   have ldx:=hldx mJ [] KJ (by simp)
   have u2J:=((((oUW).keep kGO (by simp)).keep kOJ (by simp))).load1 (off:=2) rfl
   rw [hxv] at u2J
   obtain⟨oZ2,kZ2,nZ2⟩:=Zar (m:=mJ) (cs:=[.int .i64 0,.int .i64 0,.int .i64 0,.int .i64 0,.slice none 0 0,.int .i64 0]) (e:=43) rfl
   obtain⟨yb,hyb⟩:∃ bx,mJ.next=bx:=⟨_,rfl⟩
   obtain⟨mK,eK,oY,kY'⟩:=Zap (r:=_) rfl oZ2 (off:=0) (vs:=[.int .i64 op,.int .i64 va,.int .i64 vb',.int .i64 vn,.slice vao NA NA,.int .i64 vs]) (by simp) (by simp [Zau,Zae])
   simp [Zbx] at oY
   have kK:=kZ2.fresh kY' (by simp)
   rw [hyb] at oY nZ2 eK
   have kOK:Zaa mO mK []:=kOJ.trans kK
   have KK:Zaa m mK []:=KO.trans kOK
   have x0Z:=(oXJ.keep kZ2 (by simp)).load1 (off:=0) rfl
   have u2Z:=((((oUW).keep kGO (by simp)).keep (kOJ.trans kZ2) (by simp))).load1 (off:=2) rfl
   rw [hxv] at u2Z
   rw [hvb] at x0Z
   have ljZ:=hlj _ (KJ.trans kZ2)
   have ldxZ:=hldx _ [] (KJ.trans kZ2) (by simp)
   have ldy:=oY.load 6 (off:=0) (by simp)
   simp [Zao] at ldy
   obtain⟨v,mU,eU,⟨uo,rfl,huI⟩,kU3⟩:=Zp7 (m:=mK) hN.sh.uses (Q:=Q) (op:=op) (a:=va) (b:=vb') (n:=vn) (st:=vs) (l:=al) (by omega) (hva'.keep KK (by simp))
   rw [hNA] at eU
   have hul:=Zj5 op va vb' al
   have hul21:op=21→(Zcm op va vb' al)=al:=fun e=>by rw [e];rfl
   obtain⟨ul,hule⟩:∃ l,Zcm op va vb' al=l:=⟨_,rfl⟩
   rw [hule] at huI eU hul hr hus hul21
   obtain⟨ai,hai⟩:∃ ai,A.getD i []=ai:=⟨_,rfl⟩
   have hail:=hAr i
   have haim:=hAm i
   rw [hai] at hr hph2 hail haim
   have huai:op=21→ul.length=ai.length:=fun e=>by rw [hul21 e];exact hph2 e
   obtain⟨W,hW⟩:∃ W,((!lvs op || Zuj u L bl pl vs i k) && (Znl u L A bl pl i (k+1) (l.drop (k+1)) && Y))=W:=⟨_,rfl⟩
   rw [Bool.and_assoc,Bool.and_assoc,hW] at hr
   simp [-Int.natCast_add,-List.getD_eq_getElem?_getD,-List.map_replicate,k1',km,hkt,x0,lj,u2J,n2',hnn,ldx,hyb,eK,x0Z,u2Z,ljZ,ldxZ,ldy,eU]
   have kOU:Zaa mO mU []:=kOK.trans kU3
   have KU:Zaa m mU []:=KO.trans kOU
   obtain⟨G,hG⟩:∃ G:Nat→Bool,G=fun j=>if op=21 then Zvb L bl pl (ul.drop j) (ai.drop j) else (ul.drop j).all fun a=>Zb1 L bl pl a i k:=⟨_,rfl⟩
   have hG0:(G 0 && W)=R:=by rw [hG];simp only [List.drop_zero];exact hr
   clear hr
   refine Zag 25 [27,38,61,99,104,110,117,130,141,222,231,240,248,267,279,296,301,315,324,341,365] (fun d3 E mF=>∃ (j:Nat),ul.length - j=d3∧j≤ul.length∧Zaa mU mF []∧(G j && W)=R∧
    E=[(1,.pointer (some ⟨ub,0,none⟩)),(3,.slice (some ⟨ob,0,none⟩) (nb u) (nb u)),(18,.pointer (some ⟨qb,0,none⟩)),(19,.int .i64 (i:Int)),(20,.pointer (some ⟨bx,0,none⟩)),(21,.int .i64 (k:Int)),(22,.pointer (some ⟨yb,0,none⟩)),(23,.slice uo ul.length ul.length),(24,.int .i64 (j:Int))]) _ ⟨_,⟨0,rfl,by omega,.refl _ _,hG0,rfl⟩,(by repeat' constructor)⟩ ?_
   clear hG0
   rintro d3 E mV ih3 ⟨j,hd3,hj,kV,hr,rfl⟩
   have jm:(j:Int)≤9223372036854775807:=by omega
   have kOV:Zaa mO mV []:=kOU.trans kV
   have KV:Zaa m mV []:=KO.trans kOV
   have oYV:=(oY.keep kU3 (by simp)).keep kV (by simp)
   have y0:=oYV.load1 (off:=0) rfl
   have y5:=oYV.load1 (off:=5) rfl
   have ldo:=(oO.keep kOV (by simp)).load 8 (off:=0) (by simp)
   simp [Zao] at ldo
   by_cases hjt:j < ul.length
   ·have j1:(j:Int) < ul.length:=by omega
    have wj:IntKind.i64.wrap ((j:Int)+1)=((j+1:Nat):Int):=by rw [Zab (by omega) (by omega)];omega
    obtain⟨rb,hrb,luj⟩:=(huI.keep kV (by simp)).get hjt
    subst hrb
    have huj:=hus _ (Za6 hjt)
    obtain⟨a,ha⟩:∃ a:Nat,ul.getD j 0=(a:Int):=⟨(ul.getD j 0).toNat,by omega⟩
    have hdj:=Za7 hjt
    rw [ha] at luj huj hdj
    by_cases e21:op=21
    ·have hjai:j < ai.length:=by rw [← huai e21];exact hjt
     obtain⟨lA,iA⟩:=hAI mV (k5O.trans kOV) i hlt
     rw [hai] at lA iA
     obtain⟨pb',hpb',lpj⟩:=iA.get hjai
     have hpj:=haim _ (Za6 hjai)
     have hdp:=Za7 hjai
     obtain⟨p,hp⟩:∃ p:Nat,ai.getD j 0=(p:Int):=⟨(ai.getD j 0).toNat,by omega⟩
     rw [hp] at lpj hpj hdp
     have j2:(j:Int) < ai.length:=by omega
     obtain⟨v,mX,ea,rfl,kX2⟩:=Zim hN.ahead (vo:=vo) (bo:=bo) (so:=so) (hOrd.keep kOV) (by omega) (by omega) (a:=a) (b:=p) (by omega) (by omega) 1073741824
     have hGj:G j=(Zb1 L bl pl a p 1073741824 && G (j+1)):=by rw [hG];simp only [if_pos e21];rw [hdj,hdp,Zvb]
     rw [hGj] at hr
     rw [hpb'] at lA
     obtain⟨q,hq⟩:∃ q,Zb1 L bl pl a p 1073741824=q:=⟨_,rfl⟩
     rw [hq] at ea hr
     cases q with
     | true =>
      rw [Bool.true_and] at hr
      simp [-Int.natCast_add,-List.getD_eq_getElem?_getD,-List.map_replicate,j1,jm,hjt,y0,e21,ldo,luj,im,hlt,lA,hjai,lpj,ea,wj]
      exact ih3 _ _ _ _ ⟨j+1,rfl,by omega,kV.trans kX2,hr,rfl⟩ (by omega) (by repeat' constructor)
     | false =>
      have:R=false:=by rw [← hr];rfl
      rw [this]
      simp [-Int.natCast_add,-List.getD_eq_getElem?_getD,-List.map_replicate,j1,jm,hjt,y0,e21,ldo,luj,im,hlt,lA,hjai,lpj,ea]
      exact KV.trans kX2
    ·obtain⟨v,mX,ea,rfl,kX2⟩:=Zim hN.ahead (vo:=vo) (bo:=bo) (so:=so) (hOrd.keep kOV) (by omega) (by omega) (a:=a) (b:=i) (by omega) (by omega) k
     have hGj:G j=(Zb1 L bl pl a i k && G (j+1)):=by rw [hG];simp only [if_neg e21];rw [hdj,List.all_cons]
     rw [hGj] at hr
     obtain⟨q,hq⟩:∃ q,Zb1 L bl pl a i k=q:=⟨_,rfl⟩
     rw [hq] at ea hr
     cases q with
     | true =>
      rw [Bool.true_and] at hr
      simp [-Int.natCast_add,-List.getD_eq_getElem?_getD,-List.map_replicate,j1,jm,hjt,y0,e21,ldo,luj,ea,wj]
      exact ih3 _ _ _ _ ⟨j+1,rfl,by omega,kV.trans kX2,hr,rfl⟩ (by omega) (by repeat' constructor)
     | false =>
      have:R=false:=by rw [← hr];rfl
      rw [this]
      simp [-Int.natCast_add,-List.getD_eq_getElem?_getD,-List.map_replicate,j1,jm,hjt,y0,e21,ldo,luj,ea]
      exact KV.trans kX2
   clear ih3
   have j1:¬ (j:Int) < ul.length:=by omega
   have hGe:G j=true:=by
    rw [hG]
    simp only [List.drop_of_length_le (show ul.length≤j by omega)]
    split <;> rfl
   rw [hGe,Bool.true_and] at hr
   simp [-Int.natCast_add,-List.getD_eq_getElem?_getD,-List.map_replicate,j1]
   rw [← hW] at hr
   have hlv:lvs op=(decide (op=22) || decide (op=23)):=rfl
   have kJV:Zaa m3' mV []:=((kJ.trans kK).trans kU3).trans kV
   have hend:∀ mX,Zaa mV mX []→(!lvs op || Zuj u L bl pl vs i k)=true→(Znl u L A bl pl i (k+1) (l.drop (k+1)) && Y)=R∧Zaa m3' mX []:=fun mX kx hb=>⟨by rw [← hr,hb,Bool.true_and],kJV.trans kx⟩
   by_cases hlvs:lvs op=true
   case neg =>
    have hlf:lvs op=false:=by simpa using hlvs
    have q22:¬ op=22:=fun e=>by rw [hlv,e] at hlf;cases hlf
    have q23:¬ op=23:=fun e=>by rw [hlv,e] at hlf;cases hlf
    obtain⟨g1,g2⟩:=hend mV (.refl _ _) (by rw [hlf];rfl)
    simp [-Int.natCast_add,-List.getD_eq_getElem?_getD,-List.map_replicate,y0,q22,q23,wk]
    exact ih2 _ _ _ _ ⟨k+1,rfl,by omega,g2,g1,rfl⟩ (by omega) (by repeat' constructor)
   have hvs2:=hvst hlvs
   obtain⟨s',hs'⟩:∃ s':Nat,vs=(s':Int):=⟨vs.toNat,by omega⟩
   have hsn:s' < ns u:=by omega
   have hsu:=sk.st _ (List.getElem_mem hsn)
   have esr:Zuj u L bl pl vs i k=((Zbh (u.2.2.2.2.1[s']).1).all fun a=>Zb1 L bl pl a i k):=by unfold Zuj;rw [hs',Int.toNat_natCast,Ziz hsn]
   obtain⟨v,mX,ea,rfl,kX2⟩:=Zn1 hN.state hN.ahead hN.sh.frames (hU.keep KV (by simp)) (fun f h=>by have:=hQ f h;have:=KV.1;omega) (hOrd.keep kOV) (by omega) (by omega) hsn (by have:=sk.hs;omega) rfl (by have:=hsu.1;omega) (fun f hf=>by have:=hsu.2.1 f hf;omega) hsu.2.2 (b:=i) hlt k
   rw [← esr] at ea
   rw [hs'] at y5
   obtain⟨q,hq⟩:∃ q,Zuj u L bl pl vs i k=q:=⟨_,rfl⟩
   rw [hq] at ea
   have hop2:op=22∨op=23:=by
    rw [hlv] at hlvs
    simpa using hlvs
   cases q with
   | true =>
    obtain⟨g1,g2⟩:=hend mX kX2 (by rw [hq];simp)
    rcases hop2 with q22 | q22
    ·simp [-Int.natCast_add,-List.getD_eq_getElem?_getD,-List.map_replicate,y0,y5,q22,ldo,ea,wk]
     exact ih2 _ _ _ _ ⟨k+1,rfl,by omega,g2,g1,rfl⟩ (by omega) (by repeat' constructor)
    ·simp [-Int.natCast_add,-List.getD_eq_getElem?_getD,-List.map_replicate,y0,y5,q22,ldo,ea,wk]
     exact ih2 _ _ _ _ ⟨k+1,rfl,by omega,g2,g1,rfl⟩ (by omega) (by repeat' constructor)
   | false =>
    have:R=false:=by rw [← hr,hlvs,hq];rfl
    rw [this]
    rcases hop2 with q22 | q22
    ·simp [-Int.natCast_add,-List.getD_eq_getElem?_getD,-List.map_replicate,y0,y5,q22,ldo,ea]
     exact KV.trans kX2
    ·simp [-Int.natCast_add,-List.getD_eq_getElem?_getD,-List.map_replicate,y0,y5,q22,ldo,ea]
     exact KV.trans kX2
  clear ih2
  have k1':¬ (k:Int) < l.length:=by omega
  rw [List.drop_of_length_le (by omega),Znl,Bool.true_and,← hY] at hr
  simp [-Int.natCast_add,-List.getD_eq_getElem?_getD,-List.map_replicate,k1',x0]
  have x1:=oXJ.load1 (off:=1) rfl
  have x2:=oXJ.load1 (off:=2) rfl
  have x5:=oXJ.load1 (off:=5) rfl
  have ldo:=(oO.keep kOJ (by simp)).load 8 (off:=0) (by simp)
  simp [Zao] at ldo
  by_cases e2:be=2
  ·have e3':¬ be=3:=by omega
   rw [decide_eq_true e2,decide_eq_false e3',Bool.not_true,Bool.false_or,Bool.not_false,Bool.true_or,Bool.and_true] at hr
   have hcd2:=hcd e2
   obtain⟨c,hc⟩:∃ c:Nat,bc=(c:Int):=⟨bc.toNat,by omega⟩
   rw [hc] at x2 hr
   obtain⟨v,mX,ea,rfl,kX2⟩:=Zim hN.ahead (vo:=vo) (bo:=bo) (so:=so) (hOrd.keep kOJ) (by omega) (by omega) (a:=c) (b:=i) (by omega) hlt 1073741824
   obtain⟨q,hq⟩:∃ q,Zb1 L bl pl c i 1073741824=q:=⟨_,rfl⟩
   rw [hq] at ea hr
   cases q with
   | true =>
    rw [Bool.true_and] at hr
    have y1:=(oXJ.keep kX2 (by simp)).load1 (off:=1) rfl
    simp [-Int.natCast_add,-List.getD_eq_getElem?_getD,-List.map_replicate,x1,x2,e2,ldo,ea,y1,wi]
    exact ih _ _ _ _ ⟨i+1,rfl,by omega,kOJ.trans kX2,hr,rfl⟩ (by omega) (by repeat' constructor)
   | false =>
    have:R=false:=by rw [← hr];rfl
    rw [this]
    have y1:=(oXJ.keep kX2 (by simp)).load1 (off:=1) rfl
    simp [-Int.natCast_add,-List.getD_eq_getElem?_getD,-List.map_replicate,x1,x2,e2,ldo,ea]
    exact KJ.trans kX2
  by_cases e3':be=3
  ·rw [decide_eq_false e2,decide_eq_true e3',Bool.not_true,Bool.false_or,Bool.not_false,Bool.true_or,Bool.true_and] at hr
   have hvs2:=hbs e3'
   obtain⟨s',hs'⟩:∃ s':Nat,bs=(s':Int):=⟨bs.toNat,by omega⟩
   have hsn:s' < ns u:=by omega
   have hsu:=sk.st _ (List.getElem_mem hsn)
   have esr:Zuj u L bl pl bs i 1073741824=((Zbh (u.2.2.2.2.1[s']).1).all fun a=>Zb1 L bl pl a i 1073741824):=by unfold Zuj;rw [hs',Int.toNat_natCast,Ziz hsn]
   obtain⟨v,mX,ea,rfl,kX2⟩:=Zn1 hN.state hN.ahead hN.sh.frames (hU.keep KJ (by simp)) (fun f h=>by have:=hQ f h;have:=KJ.1;omega) (hOrd.keep kOJ) (by omega) (by omega) hsn (by have:=sk.hs;omega) rfl (by have:=hsu.1;omega) (fun f hf=>by have:=hsu.2.1 f hf;omega) hsu.2.2 (b:=i) hlt 1073741824
   rw [← esr] at ea
   rw [hs'] at x5
   obtain⟨q,hq⟩:∃ q,Zuj u L bl pl bs i 1073741824=q:=⟨_,rfl⟩
   rw [hq] at ea hr
   cases q with
   | true =>
    rw [Bool.true_and] at hr
    simp [-Int.natCast_add,-List.getD_eq_getElem?_getD,-List.map_replicate,x1,x5,e3',ldo,ea,wi]
    exact ih _ _ _ _ ⟨i+1,rfl,by omega,kOJ.trans kX2,hr,rfl⟩ (by omega) (by repeat' constructor)
   | false =>
    have:R=false:=by rw [← hr];rfl
    rw [this]
    simp [-Int.natCast_add,-List.getD_eq_getElem?_getD,-List.map_replicate,x1,x5,e3',ldo,ea]
    exact KJ.trans kX2
  rw [decide_eq_false e2,decide_eq_false e3',Bool.not_false,Bool.true_or,Bool.true_or,Bool.and_true,Bool.true_and] at hr
  simp [-Int.natCast_add,-List.getD_eq_getElem?_getD,-List.map_replicate,x1,e2,e3',wi]
  exact ih _ _ _ _ ⟨i+1,rfl,by omega,kOJ,hr,rfl⟩ (by omega) (by repeat' constructor)
 clear ih
 have i1:¬ (i:Int) < nb u:=by omega
 rw [List.drop_of_length_le (show u.2.2.2.1.length≤i from Nat.not_lt.1 hlt),Zm0] at hr
 rw [← hr]
 simp [-Int.natCast_add,-List.getD_eq_getElem?_getD,-List.map_replicate,i1,u3I]
 exact KI
end Go.Proofs.YtcgmchechmbmeaaDoor.base
end
