/- This text proves what package verify's does answers: the stack of types behind an instruction, or what is wrong. Condition: nothing is known of the calls ahead ('S f = []') but code.Name's names. -/
import Derived.Test.YtbldiceiindbdaaGreatDoorVeG
set_option linter.unusedVariables false
set_option linter.unusedSimpArgs false
set_option maxRecDepth 100000
namespace Go.Proofs.YtbldiceiindbdaaGreatDoor.base
open Go.Sh gen
section
variable {P:Program}{ρ:Operand→Value}{m:Mem}
def ldS (m:Mem)(v:Value)(z:Nat):Option (List Value × Nat):=match v with
 | .slice (some a) k _=>if k=0 then some ([],0) else (loadRow m a (k * z)).map fun l=>(l,k)
 | .slice none 0 0=>some ([],0)
 | _=>none
theorem Zam {ty tx e2:TypeId}{z:Nat}(htx:P.underlying tx=some (.slice e2))(hz:Zbo P e2=some z)(s x:Operand):Zfz P ρ #[s,x] #[ty,tx] m=match ldS m (ρ x) z with
  | some (news,k)=>Zcd P ty m (ρ s) news k
  | none=>apF P ρ #[s,x] #[ty,tx] m:=by
 cases h:ldS m (ρ x) z with
 | none=>rfl
 | some r =>
  obtain⟨news,k⟩:=r
  rw [Zax htx hz]
  cases hx:ρ x with
  | slice a q c =>
   rw [hx] at h
   cases a with
   | some a =>
    by_cases hk:q=0
    ·subst hk;simp [ldS] at h;simp [← h.1,← h.2]
    ·simp only [ldS,if_neg hk] at h
     cases hl:loadRow m a (q * z) with
     | none=>rw [hl] at h;simp at h
     | some w=>rw [hl] at h;simp at h;obtain⟨rfl,rfl⟩:=h;simp [hk,hl]
   | none =>
    cases q with
    | zero =>
     cases c with
     | zero=>simp [ldS] at h;simp [← h.1,← h.2]
     | succ c=>simp [ldS] at h
    | succ q=>simp [ldS] at h
  | _=>rw [hx] at h;simp [ldS] at h
def Zy6 (ρ:Operand→Value):Option Operand→Option (Option Nat)
 | none=>some none
 | some h=>(Zcx (ρ h)).map some
theorem Zgn:Zy6 ρ none=some none:=rfl
theorem Zgk (x:Operand):Zy6 ρ (some x)=(Zcx (ρ x)).map some:=rfl
def slS (m:Mem)(e:TypeId)(z:Nat)(v:Value)(lo:Option Nat)(hi:Option (Option Nat)):Option Value:=match v with
 | .slice (some a) n c=>(match lo,hi with
  | some l,some h=>if l≤h.getD n && h.getD n≤n && a.spot.isNone && c == n && (l == 0 || Zi1 m a.block e) then some (.slice (some { a with off:=a.off+l * z }) (h.getD n - l) (h.getD n - l)) else none
  | _,_=>none)
 | .slice none 0 0=>(match lo,hi with
  | some 0,some h=>if h.getD 0=0 then some (.slice none 0 0) else none
  | _,_=>none)
 | _=>none
theorem Za1 {t e:TypeId}{z:Nat}{o:Oper}(ht:P.underlying t=some (.slice e))(hz:Zbo P e=some z)(x:Operand)(lo hi:Option Operand):Zes P ρ o t x lo hi m=match slS m e z (ρ x) (Zt8 ρ lo) (Zy6 ρ hi) with
  | some v=>some (v,m)
  | none=>slF P ρ o t x lo hi m:=by
 cases h:slS m e z (ρ x) (Zt8 ρ lo) (Zy6 ρ hi) with
 | none=>rfl
 | some v =>
  rw [Zbz ht hz]
  have hhi:∀ n h,Zy6 ρ hi=some h→Zwv ρ n hi=some (h.getD n):=by
   intro n h hh
   cases hi with
   | none=>simp [Zy6] at hh;subst hh;rfl
   | some y =>
    simp only [Zy6] at hh
    simp only [Zwv]
    cases hn:Zcx (ρ y) with
    | none=>rw [hn] at hh;simp at hh
    | some q=>rw [hn] at hh;simp at hh;subst hh;rfl
  cases hx:ρ x with
  | slice a n c =>
   rw [hx] at h
   cases a with
   | some a =>
    simp only [slS] at h
    cases hl:Zt8 ρ lo with
    | none=>rw [hl] at h;simp at h
    | some l =>
     cases hh:Zy6 ρ hi with
     | none=>rw [hl,hh] at h;simp at h
     | some hq =>
      rw [hl,hh] at h
      simp only at h
      simp only [hhi n hq hh]
      split at h
      ·rename_i hc
       simp only [Bool.and_eq_true,decide_eq_true_eq,beq_iff_eq,Bool.or_eq_true] at hc
       obtain⟨⟨⟨⟨h1,h2⟩,h3⟩,h4⟩,h5⟩:=hc
       simp only [h1,h2,h3,decide_true,Bool.and_self,if_true,h4,beq_self_eq_true]
       rw [if_pos (by simpa using h5)]
       simpa using h
      ·cases h
   | none =>
    cases n with
    | zero =>
     cases c with
     | zero =>
      simp only [slS] at h
      cases hl:Zt8 ρ lo with
      | none=>rw [hl] at h;simp at h
      | some l =>
       cases l with
       | zero =>
        cases hh:Zy6 ρ hi with
        | none=>rw [hl,hh] at h;simp at h
        | some hq =>
         rw [hl,hh] at h
         simp only at h
         split at h
         ·rename_i hc
          simp only [hhi 0 hq hh,hc]
          simpa using h
         ·cases h
       | succ l=>rw [hl] at h;simp at h
     | succ c=>simp [slS] at h
    | succ n=>simp [slS] at h
  | _=>rw [hx] at h;simp [slS] at h
theorem Z5l {ao:Option Addr}{z:Nat}:ldS m (.slice ao 0 0) z=some ([],0):=by
 cases ao <;> simp [ldS]
end
variable {S:Zed}{m:Mem}{wb:Nat}{p:Pr}{q:Pp}{f:Fn}{fp:Fp}
theorem Zlk {ao:Option Addr}{st:List Int}{sf:Nat}(h:Rs m ao st.length (ic st) 3 1 sf){k:Nat}(hk:k≤st.length){c:Nat}(hc:c=k):ldS m (.slice ao k c) 1=some (ic (st.take k),k):=by
 subst hc
 by_cases hn:c=0
 ·subst hn;simpa [ic] using Z5l
 ·obtain⟨b,rfl,r⟩:=h.rdo (by omega)
  simp only [ldS,if_neg hn,Nat.mul_one]
  rw [r.load c (by simp [ic];omega)]
  simp [Zb,ic,List.map_take]
theorem Iv.take {ao:Option Addr}{l:List Int}(h:Iv m ao l)(k:Nat):Iv m ao (l.take k):=by
 rcases h with h | ⟨b,of,fam,pre,post,h1,h2,h3⟩
 ·exact Or.inl ⟨by rw [h.1];simp,h.2⟩
 ·refine Or.inr ⟨b,of,fam,pre,ic (l.drop k)++ic post |>.map (fun v=>match v with | .int _ n=>n | _=>0),h1,h2,?_⟩
  have e:ic ((ic (l.drop k)++ic post).map (fun v=>match v with | .int _ n=>n | _=>0))=ic (l.drop k)++ic post:=by
   simp [ic,Function.comp_def]
  rw [e,← List.append_assoc (ic (l.take k))]
  have e2:ic (l.take k)++ic (l.drop k)=ic l:=by simp only [ic,← List.map_append,List.take_append_drop]
  rw [e2];exact h3
theorem Zse {ao:Option Addr}{st:List Int}{sf:Nat}(h:Rs m ao st.length (ic st) 3 1 sf){k:Nat}(hk:k≤st.length):∃ ro lo,(∀ m',Zao m m' []→slS m' 3 1 (.slice ao st.length st.length) (some 0) (some (some k))=some (.slice ro k k)∧slS m' 3 1 (.slice ao st.length st.length) (some k) (some none)=some (.slice lo (st.length - k) (st.length - k))∧ldS m' (.slice ro k k) 1=some (ic (st.take k),k))∧Iv m lo (st.drop k)∧Iv m ro (st.take k):=by
 have iv:=Rs.iv h
 have spn:=iv.spn
 cases ao with
 | none =>
  have h0:st=[]:=by
   rcases iv with h | ⟨b,of,fam,pre,post,h1,_⟩
   ·exact h.1
   ·cases h1
  subst h0
  have hk0:k=0:=by simpa using hk
  subst hk0
  exact⟨none,none,fun m' _=>⟨rfl,rfl,rfl⟩,Or.inl ⟨rfl,.nil⟩,Or.inl ⟨rfl,.nil⟩⟩
 | some ad =>
  obtain⟨ab,aof,asp⟩:=ad
  have hsp:asp=none:=spn _ rfl
  subst hsp
  have hel:∀ m',Zao m m' []→k=0∨Zi1 m' ab 3=true:=by
   intro m' kk
   by_cases h0:st=[]
   ·left;subst h0;simpa using hk
   ·right
    obtain⟨b',of',e',el',_⟩:=(iv.keep kk).load h0
    cases e';exact el'
  refine⟨some ⟨ab,aof,none⟩,some ⟨ab,aof+k,none⟩,fun m' kk=>⟨?_,?_,Zlk (h.keep kk (by simp)) hk rfl⟩,?_,iv.take k⟩
  ·simp [slS,hk]
  ·have:=hel m' kk
   simp [slS,hk,this]
  ·by_cases h0:st=[]
   ·subst h0;exact Or.inl ⟨by simp,fun a e=>by cases e;rfl⟩
   ·exact iv.drop k hk h0
def Zh1 (p:Pr)(f:Fn)(x:Ix)(st:List Int):Int × List Int:=
 let n:=(Zcp x).toNat
 if st.length < n then (32,[]) else
 let rest:=st.take (st.length - n)
 let l:=st.drop (st.length - n)
 let g:=Za6 p f x l
 if 60≤rest.length∧Zh2 p x l=true then (32,[]) else
 if g.2=false then (17,[]) else
 if x.1=41∧0 < rest.length then (32,[]) else (0,if g.1=0 then rest else rest++[g.1])
def Z4s (m m1:Mem)(r:Int × List Int)(v:Value):Prop:=
 (r.1=0∧∃ (bo:Addr) (fam:Nat),v=.tuple #[.slice (some bo) r.2.length r.2.length,.int .i64 0]∧Rs m1 (some bo) r.2.length (ic r.2) 3 1 fam∧m.next≤fam)∨(r.1≠0∧v=.tuple #[.slice none 0 0,.int .i64 r.1])
theorem Zn9 {p:Pr}{nl:Nat}{x:Ix}(h:Zlh p nl x):0≤Zcp x:=by
 unfold Zcp
 split
 ·rename_i e
  rcases e with e | e
  ·rw [(h.call e).2];omega
  ·have:=h.inv e;omega
 ·split
  ·rename_i e;have:=h.ret e;omega
  ·unfold Zba
   repeat' split
   all_goals simp
set_option maxHeartbeats 4000000 in
theorem Zzf (hN:Nw S)(hP:Zu0 p)(h:Wa m wb p q f fp)(hf:f∈p.F)(hfl:f.ls.length≤1000)(x:Ix)(hx:Zlh p f.ls.length x){ao:Option Addr}{st:List Int}{sf:Nat}(hst:Rs m ao st.length (ic st) 3 1 sf)(hsv:Val p.L st)(hsl:st.length≤1000) :
  ∃ v m1,Zbi Tryz.prog TT S 43 [.pointer (some ⟨wb,0,none⟩),.agg #[.int .i64 x.1,.int .i64 x.2.1,.int .i64 x.2.2],.slice ao st.length st.length] m=some (v,m1)∧Z4s m m1 (Zh1 p f x st) v∧Zao m m1 []:=by
 have hnn:=Zn9 hx
 have htk:=fun m'=>Zv8 (m:=m') hN x
 obtain⟨tn,htn⟩:∃ n:Nat,Zcp x=n:=⟨(Zcp x).toNat,by omega⟩
 have hlays:=fun m' w ao l hl hlv hl1 hll=>Zzs (m:=m') (wb:=wb) (q:=q) (f:=f) (fp:=fp) hN hP.L w (by have:=hP.xl;omega) x hx (ao:=ao) (l:=l) hl hlv hl1 hll
 have hgives:=fun m' w ao l hl hlv hlt hll=>Zve (m:=m') (wb:=wb) (q:=q) (fp:=fp) hN hP w hf hfl x hx (ao:=ao) (l:=l) hl hlv hlt hll
 have hinv:x.1=37→1≤tn:=by
  intro e
  have h1:=(hx.inv e).2.1
  have:Zcp x=x.2.2:=by unfold Zcp;rw [if_pos (Or.inr e)]
  omega
 have hdoes:Zh1 p f x st=if st.length < tn then (32,[]) else if 60≤(st.take (st.length - tn)).length∧Zh2 p x (st.drop (st.length - tn))=true then (32,[]) else if (Za6 p f x (st.drop (st.length - tn))).2=false then (17,[]) else if x.1=41∧0 < (st.take (st.length - tn)).length then (32,[]) else (0,if (Za6 p f x (st.drop (st.length - tn))).1=0 then st.take (st.length - tn) else st.take (st.length - tn)++[(Za6 p f x (st.drop (st.length - tn))).1]):=by
  unfold Zh1
  rw [show (Zcp x).toNat=tn by omega]
 rw [hdoes]
 clear hdoes
 rw [htn] at htk
 obtain⟨op,a,b⟩:=x
 simp only at htk hlays hgives hinv ⊢
 obtain⟨o1,k1,n1⟩:=Za7 (m:=m) (cs:=[.int .i64 op,.int .i64 a,.int .i64 b]) (e:=40) rfl
 obtain⟨xb,hxb⟩:∃ xb,m.next=xb:=⟨_,rfl⟩
 rw [hxb] at o1 n1
 obtain⟨m1,hm1⟩:∃ mF,m.new [.int .i64 op,.int .i64 a,.int .i64 b] 40=mF:=⟨_,rfl⟩
 rw [hm1] at o1 k1 n1
 have xa:=o1.load (off:=0) 3 (by simp)
 simp [Zb] at xa
 obtain⟨m2,h2,k2⟩:=htk m1
 have xa2:=(o1.keep k2 (by simp)).load (off:=0) 3 (by simp)
 simp [Zb] at xa2
 refine Zey 15 [20,53,55,63,64] k43 hN.does rfl ?_
 by_cases hlt:st.length < tn
 ·have hlt':(st.length:Int) < (tn:Int):=by omega
  simp [-Int.natCast_add,-BitVec.toNat_or,-BitVec.toNat_ofInt,-BitVec.toNat_and,Zah b40,Zae Zcb,Zac u23,Za1 u23 sz3,Zad u23 bs3 rfl,Zam u23 sz3,Za Zak,Zab ld3,hxb,hm1,xa,h2,hlt,hlt']
  exact⟨Or.inr ⟨by simp,rfl⟩,k1.trans k2⟩
 have hlt':¬ (st.length:Int) < (tn:Int):=by omega
 obtain⟨k,hk⟩:∃ k,st.length - tn=k:=⟨_,rfl⟩
 have hkl:k≤st.length:=by omega
 have wk:IntKind.i64.wrap ((st.length:Int) - (tn:Int))=(k:Int):=by rw [Zbh (by omega) (by omega)];omega
 have K2:=k1.trans k2
 have hst2:=hst.keep K2 (by simp)
 have hdl:(st.drop k).length=tn:=by simp;omega
 have htl:(st.take k).length=k:=by simp;omega
 have hsub:st.length - k=tn:=by omega
 have emk:(k:Int)≤9223372036854775807:=by omega
 rw [if_neg hlt,hk]
 obtain⟨ro,lo,hrl,hlo,_⟩:=Zse hst2 hkl
 rw [hsub] at hrl
 have s1:=(hrl m2 (Zaj _)).1
 have s2:=(hrl m2 (Zaj _)).2.1
 obtain⟨o3,k3,n3⟩:=Za7 (m:=m2) (cs:=[]) (e:=3) rfl
 obtain⟨eb,heb⟩:∃ xb,m2.next=xb:=⟨_,rfl⟩
 rw [heb] at o3 n3
 obtain⟨m3,hm3⟩:∃ mF,m2.new [] 3=mF:=⟨_,rfl⟩
 rw [hm3] at o3 k3 n3
 have lr:=(hrl m3 k3).2.2
 obtain⟨R,hR⟩:∃ R,st.take k=R:=⟨_,rfl⟩
 obtain⟨D,hD⟩:∃ D,st.drop k=D:=⟨_,rfl⟩
 rw [hR] at lr htl ⊢
 rw [hD] at hlo hdl ⊢
 have hDv:Val p.L D:=hD ▸ hsv.drop k
 simp [-Int.natCast_add,-BitVec.toNat_or,-BitVec.toNat_ofInt,-BitVec.toNat_and,Zah b40,Zae Zcb,Zac u23,Za1 u23 sz3,Zad u23 bs3 rfl,Zam u23 sz3,Za Zak,Zab ld3,Zgn,Zgk,hxb,hm1,xa,h2,hlt,hlt',wk,emk,s1,s2,heb,hm3,lr]
 generalize hra:Zcd _ _ _ _ _ _=ra
 obtain⟨m4,bo,rfl,o4,k4⟩:=Zfm hra u23 ap3 o3 (by simp) (by simp [ic,htl]) (by simp [ic,Zbk]) (by omega) (by omega)
 have K24:Zao m2 m4 []:=k3.fresh k4 (by simp;omega)
 have w4:=h.keep (K2.trans K24)
 have xa4:=((o1.keep k2 (by simp)).keep K24 (by simp)).load (off:=0) 3 (by simp)
 simp [Zb] at xa4
 obtain⟨m5,h5,k5⟩:=hgives m4 w4 lo D (hlo.keep K24) hDv (by rw [hdl,htn]) (by omega)
 have w5:=w4.keep k5
 have o15:=((o1.keep k2 (by simp)).keep K24 (by simp)).keep k5 (by simp)
 have xa5:=o15.load (off:=0) 3 (by simp)
 simp [Zb] at xa5
 have x05:=o15.load1 (off:=0) rfl
 obtain⟨m6,h6,k6⟩:=hlays m5 w5 lo D ((hlo.keep K24).keep k5) hDv (by omega) (by omega)
 have x06:=(o15.keep k6 (by simp)).load1 (off:=0) rfl
 rw [hdl] at h5 h6
 have hzk:0+k=k:=Nat.zero_add k
 obtain⟨gr,hgr⟩:∃ z,Za6 p f (op,a,b) D=z:=⟨_,rfl⟩
 obtain⟨gl,hgl⟩:∃ z,Zh2 p (op,a,b) D=z:=⟨_,rfl⟩
 rw [hgr] at h5
 rw [hgl] at h6
 rw [hgr,hgl]
 obtain⟨gt,gok⟩:=gr
 simp only at h5 ⊢
 have hmne:m.next≤eb:=by have:=K2.1;omega
 have fin0:∀ mX,Zao m mX []→Own mX bo (ic R) 3 eb→Z4s m mX (0,R) (.tuple #[.slice (some ⟨bo,0,none⟩) k k,.int .i64 0]):=by
  intro mX _ oX
  exact Or.inl ⟨rfl,_,_,by rw [htl],⟨by simp [ic],Or.inr ⟨_,rfl,oX.rdo⟩⟩,hmne⟩
 have fin1:∀ mX,Zao m mX []→gt≠0→∀ {b8:Nat},Own mX b8 (ic R++[.int .i64 gt]) 3 eb→Z4s m mX (0,R++[gt]) (.tuple #[.slice (some ⟨b8,0,none⟩) (k+1) (k+1),.int .i64 0]):=by
  intro mX _ _ b8 oX
  exact Or.inl ⟨rfl,_,_,by rw [List.length_append,htl];rfl,⟨by simp [ic],Or.inr ⟨_,rfl,by simpa [ic] using oX.rdo⟩⟩,hmne⟩
 have hic:[]++ic R=ic R:=List.nil_append _
 rw [hic] at o4
 have o45:=o4.keep k5 (by simp)
 have o46:=o45.keep k6 (by simp)
 by_cases c60:60≤k
 ·have c60':(60:Int)≤k:=by omega
  cases gl
  case true =>
   simp [-Int.natCast_add,-BitVec.toNat_or,-BitVec.toNat_ofInt,-BitVec.toNat_and,Zah b40,Zae Zcb,Zac u23,Za1 u23 sz3,Zad u23 bs3 rfl,Zam u23 sz3,Za Zak,Zab ld3,htl,xa4,h5,xa5,h6,c60,c60']
   exact⟨Or.inr ⟨by simp,rfl⟩,((K2.trans K24).trans k5).trans k6⟩
  have KZ:=((K2.trans K24).trans k5).trans k6
  have o4K:=o46
  rw [if_neg (by simp)]
  cases gok
  ·simp [-Int.natCast_add,-BitVec.toNat_or,-BitVec.toNat_ofInt,-BitVec.toNat_and,Zah b40,Zae Zcb,Zac u23,Za1 u23 sz3,Zad u23 bs3 rfl,Zam u23 sz3,Za Zak,Zab ld3,htl,xa4,h5,xa5,h6,c60,c60']
   exact⟨Or.inr ⟨by simp,rfl⟩,KZ⟩
  by_cases c41:op=41∧0 < k
  ·obtain⟨rfl,c0⟩:=c41
   have c0':(0:Int) < k:=by omega
   simp [-Int.natCast_add,-BitVec.toNat_or,-BitVec.toNat_ofInt,-BitVec.toNat_and,Zah b40,Zae Zcb,Zac u23,Za1 u23 sz3,Zad u23 bs3 rfl,Zam u23 sz3,Za Zak,Zab ld3,htl,xa4,h5,xa5,h6,x05,x06,c0,c0',c60,c60']
   exact⟨Or.inr ⟨by simp,rfl⟩,KZ⟩
  have e41:¬ (op=41∧0 < R.length):=by rw [htl];exact c41
  rw [if_neg e41]
  have c41':op=41→¬ (0:Int) < k:=fun e h=>c41 ⟨e,by omega⟩
  have oZ:Own m6 bo (ic R) 3 eb:=o4K
  by_cases cz:gt=0
  ·subst cz
   by_cases d41:op=41
   ·have c0:=c41' d41
    have c0n:¬ 0 < k:=by omega
    have hk0:k=0:=by omega
    subst d41
    simp [-Int.natCast_add,-BitVec.toNat_or,-BitVec.toNat_ofInt,-BitVec.toNat_and,Zah b40,Zae Zcb,Zac u23,Za1 u23 sz3,Zad u23 bs3 rfl,Zam u23 sz3,Za Zak,Zab ld3,htl,xa4,h5,xa5,h6,x05,x06,c0,c0n,c60,c60']
    exact⟨fin0 _ KZ (by simpa using oZ),KZ⟩
   ·simp [-Int.natCast_add,-BitVec.toNat_or,-BitVec.toNat_ofInt,-BitVec.toNat_and,Zah b40,Zae Zcb,Zac u23,Za1 u23 sz3,Zad u23 bs3 rfl,Zam u23 sz3,Za Zak,Zab ld3,htl,xa4,h5,xa5,h6,x05,x06,d41,c60,c60']
    exact⟨fin0 _ KZ (by simpa using oZ),KZ⟩
  ·obtain⟨o7,k7,n7⟩:=Za7 (m:=m6) (cs:=[.int .i64 gt]) (e:=3) rfl
   obtain⟨gb,hgb⟩:∃ z,(m6).next=z:=⟨_,rfl⟩
   rw [hgb] at o7 n7
   obtain⟨m7,hm7⟩:∃ mF,(m6).new [.int .i64 gt] 3=mF:=⟨_,rfl⟩
   rw [hm7] at o7 k7 n7
   have lg:ldS m7 (.slice (some ⟨gb,0,none⟩) 1 1) 1=some ([.int .i64 gt],1):=by
    simp only [ldS,Nat.one_ne_zero,if_false,Nat.mul_one]
    rw [o7.load (off:=0) 1 (by simp)];rfl
   have oY:=oZ.keep k7 (by simp)
   by_cases d41:op=41
   ·have c0:=c41' d41
    have c0n:¬ 0 < k:=by omega
    subst d41
    simp [-Int.natCast_add,-BitVec.toNat_or,-BitVec.toNat_ofInt,-BitVec.toNat_and,Zah b40,Zae Zcb,Zac u23,Za1 u23 sz3,Zad u23 bs3 rfl,Zam u23 sz3,Za Zak,Zab ld3,htl,xa4,h5,xa5,h6,x05,x06,c0,c0n,cz,hgb,hm7,lg,c60,c60']
    generalize hrb:Zcd _ _ _ _ _ _=rb
    obtain⟨m8,b8,rfl,o8,k8⟩:=Zfm hrb u23 ap3 oY (by simp [ic,htl]) (by simp) (by simp [Zbk]) (by omega) (by omega)
    simp [-Int.natCast_add,-BitVec.toNat_or,-BitVec.toNat_ofInt,-BitVec.toNat_and,Zah b40,Zae Zcb,Zac u23,Za1 u23 sz3,Zad u23 bs3 rfl,Zam u23 sz3,Za Zak,Zab ld3]
    have K8:Zao m m8 []:=(KZ.trans k7).fresh k8 (by have:=K2.1;simp;omega)
    exact⟨fin1 _ K8 cz o8,K8⟩
   ·simp [-Int.natCast_add,-BitVec.toNat_or,-BitVec.toNat_ofInt,-BitVec.toNat_and,Zah b40,Zae Zcb,Zac u23,Za1 u23 sz3,Zad u23 bs3 rfl,Zam u23 sz3,Za Zak,Zab ld3,htl,xa4,h5,xa5,h6,x05,x06,d41,cz,hgb,hm7,lg,c60,c60']
    generalize hrb:Zcd _ _ _ _ _ _=rb
    obtain⟨m8,b8,rfl,o8,k8⟩:=Zfm hrb u23 ap3 oY (by simp [ic,htl]) (by simp) (by simp [Zbk]) (by omega) (by omega)
    simp [-Int.natCast_add,-BitVec.toNat_or,-BitVec.toNat_ofInt,-BitVec.toNat_and,Zah b40,Zae Zcb,Zac u23,Za1 u23 sz3,Zad u23 bs3 rfl,Zam u23 sz3,Za Zak,Zab ld3]
    have K8:Zao m m8 []:=(KZ.trans k7).fresh k8 (by have:=K2.1;simp;omega)
    exact⟨fin1 _ K8 cz o8,K8⟩
 ·have c60':¬ (60:Int)≤k:=by omega
  have KZ:=(K2.trans K24).trans k5
  have o4K:=o45
  rw [if_neg (by rw [htl];exact fun h=>c60 h.1)]
  cases gok
  ·simp [-Int.natCast_add,-BitVec.toNat_or,-BitVec.toNat_ofInt,-BitVec.toNat_and,Zah b40,Zae Zcb,Zac u23,Za1 u23 sz3,Zad u23 bs3 rfl,Zam u23 sz3,Za Zak,Zab ld3,htl,xa4,h5,xa5,h6,c60,c60']
   exact⟨Or.inr ⟨by simp,rfl⟩,KZ⟩
  by_cases c41:op=41∧0 < k
  ·obtain⟨rfl,c0⟩:=c41
   have c0':(0:Int) < k:=by omega
   simp [-Int.natCast_add,-BitVec.toNat_or,-BitVec.toNat_ofInt,-BitVec.toNat_and,Zah b40,Zae Zcb,Zac u23,Za1 u23 sz3,Zad u23 bs3 rfl,Zam u23 sz3,Za Zak,Zab ld3,htl,xa4,h5,xa5,h6,x05,x06,c0,c0',c60,c60']
   exact⟨Or.inr ⟨by simp,rfl⟩,KZ⟩
  have e41:¬ (op=41∧0 < R.length):=by rw [htl];exact c41
  rw [if_neg e41]
  have c41':op=41→¬ (0:Int) < k:=fun e h=>c41 ⟨e,by omega⟩
  have oZ:Own m5 bo (ic R) 3 eb:=o4K
  by_cases cz:gt=0
  ·subst cz
   by_cases d41:op=41
   ·have c0:=c41' d41
    have c0n:¬ 0 < k:=by omega
    have hk0:k=0:=by omega
    subst d41
    simp [-Int.natCast_add,-BitVec.toNat_or,-BitVec.toNat_ofInt,-BitVec.toNat_and,Zah b40,Zae Zcb,Zac u23,Za1 u23 sz3,Zad u23 bs3 rfl,Zam u23 sz3,Za Zak,Zab ld3,htl,xa4,h5,xa5,h6,x05,x06,c0,c0n,c60,c60']
    exact⟨fin0 _ KZ (by simpa using oZ),KZ⟩
   ·simp [-Int.natCast_add,-BitVec.toNat_or,-BitVec.toNat_ofInt,-BitVec.toNat_and,Zah b40,Zae Zcb,Zac u23,Za1 u23 sz3,Zad u23 bs3 rfl,Zam u23 sz3,Za Zak,Zab ld3,htl,xa4,h5,xa5,h6,x05,x06,d41,c60,c60']
    exact⟨fin0 _ KZ (by simpa using oZ),KZ⟩
  ·obtain⟨o7,k7,n7⟩:=Za7 (m:=m5) (cs:=[.int .i64 gt]) (e:=3) rfl
   obtain⟨gb,hgb⟩:∃ z,(m5).next=z:=⟨_,rfl⟩
   rw [hgb] at o7 n7
   obtain⟨m7,hm7⟩:∃ mF,(m5).new [.int .i64 gt] 3=mF:=⟨_,rfl⟩
   rw [hm7] at o7 k7 n7
   have lg:ldS m7 (.slice (some ⟨gb,0,none⟩) 1 1) 1=some ([.int .i64 gt],1):=by
    simp only [ldS,Nat.one_ne_zero,if_false,Nat.mul_one]
    rw [o7.load (off:=0) 1 (by simp)];rfl
   have oY:=oZ.keep k7 (by simp)
   by_cases d41:op=41
   ·have c0:=c41' d41
    have c0n:¬ 0 < k:=by omega
    subst d41
    simp [-Int.natCast_add,-BitVec.toNat_or,-BitVec.toNat_ofInt,-BitVec.toNat_and,Zah b40,Zae Zcb,Zac u23,Za1 u23 sz3,Zad u23 bs3 rfl,Zam u23 sz3,Za Zak,Zab ld3,htl,xa4,h5,xa5,h6,x05,x06,c0,c0n,cz,hgb,hm7,lg,c60,c60']
    generalize hrb:Zcd _ _ _ _ _ _=rb
    obtain⟨m8,b8,rfl,o8,k8⟩:=Zfm hrb u23 ap3 oY (by simp [ic,htl]) (by simp) (by simp [Zbk]) (by omega) (by omega)
    simp [-Int.natCast_add,-BitVec.toNat_or,-BitVec.toNat_ofInt,-BitVec.toNat_and,Zah b40,Zae Zcb,Zac u23,Za1 u23 sz3,Zad u23 bs3 rfl,Zam u23 sz3,Za Zak,Zab ld3]
    have K8:Zao m m8 []:=(KZ.trans k7).fresh k8 (by have:=K2.1;simp;omega)
    exact⟨fin1 _ K8 cz o8,K8⟩
   ·simp [-Int.natCast_add,-BitVec.toNat_or,-BitVec.toNat_ofInt,-BitVec.toNat_and,Zah b40,Zae Zcb,Zac u23,Za1 u23 sz3,Zad u23 bs3 rfl,Zam u23 sz3,Za Zak,Zab ld3,htl,xa4,h5,xa5,h6,x05,x06,d41,cz,hgb,hm7,lg,c60,c60']
    generalize hrb:Zcd _ _ _ _ _ _=rb
    obtain⟨m8,b8,rfl,o8,k8⟩:=Zfm hrb u23 ap3 oY (by simp [ic,htl]) (by simp) (by simp [Zbk]) (by omega) (by omega)
    simp [-Int.natCast_add,-BitVec.toNat_or,-BitVec.toNat_ofInt,-BitVec.toNat_and,Zah b40,Zae Zcb,Zac u23,Za1 u23 sz3,Zad u23 bs3 rfl,Zam u23 sz3,Za Zak,Zab ld3]
    have K8:Zao m m8 []:=(KZ.trans k7).fresh k8 (by have:=K2.1;simp;omega)
    exact⟨fin1 _ K8 cz o8,K8⟩
end Go.Proofs.YtbldiceiindbdaaGreatDoor.base
