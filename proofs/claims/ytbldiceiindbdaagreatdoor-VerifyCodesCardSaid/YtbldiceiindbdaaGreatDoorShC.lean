/- This text proves that an abstract, deterministic run of the model's code (logical blocks in the place of addresses, no capacities) is sound: where it answers, every run of the model answers alike and leaves all older memory as it was ('closed_true', 'call_sound'). No condition but what the theorems themselves say: the program's orders are Zuh, and the functions that are run pass the static check 'funcOk'. -/
import Derived.Test.YtbldiceiindbdaaGreatDoorShB
import Derived.ChangeSlices
import Derived.Carry
set_option linter.unusedVariables false
set_option linter.unusedSimpArgs false
namespace Go.Sh
open Go.RowKit
variable {P:Program}
def HLe (H K:Zc4):Prop:=∀ f args m r,H f args m=some r→K f args m=some r
theorem HLe.refl (H:Zc4):HLe H H:=fun _ _ _ _ h=>h
theorem Zpk (ρ:Operand→Value)(o:Oper)(m:Mem):(∀ H K,sop P H ρ o m=sop P K ρ o m)∨∃ f args,∀ H,sop P H ρ o m=H f args m:=by
 obtain⟨dst,op,type,pos,after,guard⟩:=o
 cases op with
 | call c =>
  obtain⟨callee,args,argTypes⟩:=c
  cases callee with
  | value f =>
   simp only [sop,Zd9,Zmh]
   cases ρ f with
   | func g a b =>
    cases g with
    | func fid=>exact Or.inr ⟨_,_,fun H=>rfl⟩
    | _=>exact Or.inl fun _ _=>rfl
   | _=>exact Or.inl fun _ _=>rfl
  | invoke r n =>
   simp only [sop,Zd9,Zim]
   cases ρ r with
   | iface t v =>
    simp only
    cases Zia P m t v n with
    | some p=>exact Or.inr ⟨_,_,fun H=>rfl⟩
    | none=>exact Or.inl fun _ _=>rfl
   | _=>exact Or.inl fun _ _=>rfl
  | builtin b=>exact Or.inl fun _ _=>by cases b <;> rfl
 | slice t x lo hi mx=>cases mx <;> exact Or.inl fun _ _=>rfl
 | makeFunc f a b=>cases f <;> exact Or.inl fun _ _=>rfl
 | _=>exact Or.inl fun _ _=>rfl
theorem Zx6 {H K:Zc4}(h:HLe H K){ρ:Operand→Value}{o:Oper}{m:Mem}{r:Value × Mem}(he:sop P H ρ o m=some r):sop P K ρ o m=some r:=by
 rcases Zpk (P:=P) ρ o m with g | ⟨f,args,g⟩
 ·rw [g K H];exact he
 ·rw [g] at he ⊢;exact h _ _ _ _ he
theorem Zf2 {H K:Zc4}(h:HLe H K){all:List Oper}{t:Tree Value}{o:Oper}{m:Mem}{r:Value × Mem}(he:Zip P H all o t m=some r):Zip P K all o t m=some r:=by
 unfold Zip at he ⊢
 split
 ·rename_i hw;rw [if_pos hw] at he;exact Zx6 h he
 ·rename_i hw;rw [if_neg hw] at he;exact he
theorem Zkf {H K:Zc4}(h:HLe H K){all:List Oper}:∀ (rest:List Oper) (t:Tree Value) (m:Mem) r,Zqk P H all rest t m=some r→Zqk P K all rest t m=some r
 | [],t,m,r,he=>he
 | o::rest,t,m,r,he=>by
  simp only [Zqk] at he ⊢
  split at he
  ·rename_i v m' h1
   rw [Zf2 h h1]
   exact Zkf h rest _ _ _ he
  ·cases he
theorem Zhm {H K:Zc4}(h:HLe H K){all:List Oper}:∀ (rest:List Oper) (t:Tree Value) (m:Mem) r,states P H all rest t m=some r→states P K all rest t m=some r
 | [],t,m,r,he=>he
 | o::rest,t,m,r,he=>by
  simp only [states] at he ⊢
  split at he
  ·rename_i v m' h1
   rw [Zf2 h h1]
   simp only
   split at he
   ·rename_i l hl
    rw [Zhm h rest _ _ _ hl]
    exact he
   ·cases he
  ·cases he
theorem Zfw {H K:Zc4}(h:HLe H K){all:List Oper}{o:Oper}{t:Tree Value}{v:Value}{m:Mem}(he:Zep P H all o t v m=true):Zep P K all o t v m=true:=by
 unfold Zep at he ⊢
 split at he
 ·rename_i v' m' h1
  rw [Zf2 h h1]
  exact he
 ·cases he
theorem Zgp {H K:Zc4}(h:HLe H K){all:List Oper}{S:List (Tree Value × Mem)}(he:Zdk P H all S=true):Zdk P K all S=true:=by
 unfold Zdk at he ⊢
 rw [List.all_eq_true] at he ⊢
 intro p hp
 have:=he p hp
 obtain⟨j,is⟩:=p
 simp only at this ⊢
 split at this
 ·rename_i o t m ho hS
  split at this
  ·rename_i v m' h1
   rw [Zf2 h h1]
   simp only
   rw [List.all_eq_true] at this ⊢
   intro i hi
   have:=this i hi
   split at this
   ·exact Zfw h this
   ·cases this
  ·cases this
 ·cases this
theorem Zpf {H K:Zc4}(h:HLe H K){ops:List Oper}{draw:Bool}{t:Tree Value}{m:Mem}{r:Tree Value × Mem}(he:Zf7 P H ops draw t m=some r):Zf7 P K ops draw t m=some r:=by
 unfold Zf7 at he ⊢
 split
 ·rename_i hd
  rw [if_pos hd] at he
  simp only at he ⊢
  split at he
  ·rename_i hq
   rw [if_pos hq]
   exact Zkf h _ _ _ _ he
  ·rename_i hq
   rw [if_neg hq]
   split at he
   ·rename_i S hS
    rw [Zhm h _ _ _ _ hS]
    simp only
    split at he
    ·rename_i hc
     rw [if_pos (Zgp h hc)]
     exact he
    ·cases he
   ·cases he
 ·rename_i hd
  rw [if_neg hd] at he
  exact Zkf h _ _ _ _ he
def Z2w (x y:Ex):Prop:=∀ c t m r,x c t m=some r→y c t m=some r
theorem Zkz {T:FuncId→Option Func}{x y:Ex}(h:Z2w x y):HLe (Zj1 P T x) (Zj1 P T y):=by
 intro f args m r he
 unfold Zj1 at he ⊢
 split at he
 ·cases he
 ·rename_i fn hf
  split at he
  ·exact he
  ·rename_i c hb
   split at he
   ·rename_i hl
    rw [if_pos hl]
    split at he
    ·rename_i t m' hx
     rw [h _ _ _ _ hx]
     exact he
    ·rename_i t m' hx
     rw [h _ _ _ _ hx]
     exact he
    ·cases he
   ·cases he
theorem Zho {S:Zed}{H K:Zc4}(h:HLe H K):HLe (Zel S H) (Zel S K):=by
 intro f args m r he
 unfold Zel at he ⊢
 split at he
 ·exact he
 ·exact h _ _ _ _ he
theorem Zqm {H K:Zc4}{x y:Ex}(hH:HLe H K)(hx:Z2w x y):Z2w (step P H x) (step P K y):=by
 intro c t m r he
 cases c with
 | seq a b =>
  simp only [step] at he ⊢
  split at he
  ·rename_i t' m' h1
   rw [hx _ _ _ _ h1]
   exact hx _ _ _ _ he
  ·rename_i hne
   have:=hx _ _ _ _ he
   rw [this]
   obtain⟨e,t',m'⟩:=r
   cases e with
   | normal=>exact absurd he (hne t' m')
   | _=>rfl
 | cond c a b =>
  simp only [step] at he ⊢
  split at he
  ·exact hx _ _ _ _ he
  ·exact hx _ _ _ _ he
  ·cases he
 | block id b =>
  simp only [step] at he ⊢
  split at he
  ·rename_i i t' m' h1
   rw [hx _ _ _ _ h1]
   exact he
  ·rename_i hne
   have:=hx _ _ _ _ he
   rw [this]
   obtain⟨e,t',m'⟩:=r
   cases e with
   | exit i=>exact absurd he (hne i t' m')
   | _=>rfl
 | loop b =>
  simp only [step] at he ⊢
  split at he
  ·rename_i t' m' h1
   rw [hx _ _ _ _ h1]
   exact hx _ _ _ _ he
  ·rename_i hne
   have:=hx _ _ _ _ he
   rw [this]
   obtain⟨e,t',m'⟩:=r
   cases e with
   | normal=>exact absurd he (hne t' m')
   | _=>rfl
 | region id ops draw =>
  simp only [step] at he ⊢
  split at he
  ·rename_i t' m' h1
   rw [Zpf hH h1]
   exact he
  ·cases he
 | _=>exact he
variable {T:FuncId→Option Func}{S:Zed}
theorem Zie:∀ n,Z2w (Zjk P T S n) (Zjk P T S (n+1))
 | 0=>fun c t m r h=>by simp [Zjk] at h
 | n+1=>Zqm (Zho (Zkz (Zie n))) (Zie n)
theorem Zje {n k:Nat}(h:n≤k):Z2w (Zjk P T S n) (Zjk P T S k):=by
 induction h with
 | refl=>exact fun _ _ _ _ h=>h
 | step _ ih=>exact fun c t m r h=>Zie _ c t m r (ih c t m r h)
theorem Zf6 {n k:Nat}(h:n≤k):HLe (call P T S n) (call P T S k):=Zho (Zkz (Zje h))
noncomputable def Zfa (P:Program)(T:FuncId→Option Func)(S:Zed):Ex:=fun c t m =>
 open Classical in if h:∃ n r,Zjk P T S n c t m=some r then some h.choose_spec.choose else none
noncomputable def Zbi (P:Program)(T:FuncId→Option Func)(S:Zed):Zc4:=Zel S (Zj1 P T (Zfa P T S))
theorem Zdq {c:Code}{t:Tree Value}{m:Mem}{r:Zjx × Tree Value × Mem}:Zfa P T S c t m=some r↔∃ n,Zjk P T S n c t m=some r:=by
 unfold Zfa
 constructor
 ·intro h
  split at h
  ·rename_i hx
   simp only [Option.some.injEq] at h
   rw [← h]
   exact⟨_,hx.choose_spec.choose_spec⟩
  ·cases h
 ·rintro⟨n,hn⟩
  have hx:∃ n r,Zjk P T S n c t m=some r:=⟨n,r,hn⟩
  rw [dif_pos hx]
  have h1:=hx.choose_spec.choose_spec
  have h2:=Zje (Nat.le_max_left n hx.choose) _ _ _ _ hn
  have h3:=Zje (Nat.le_max_right n hx.choose) _ _ _ _ h1
  rw [h2] at h3
  exact h3.symm
theorem Zj6 (n:Nat):Z2w (Zjk P T S n) (Zfa P T S):=fun c t m r h=>Zdq.2 ⟨n,h⟩
theorem Zjr (n:Nat):HLe (call P T S n) (Zbi P T S):=Zho (Zkz (Zj6 n))
theorem Zxs {f:FuncId}{args:List Value}{m:Mem}{r:Value × Mem}(he:Zj1 P T (Zfa P T S) f args m=some r):∃ n,Zj1 P T (Zjk P T S n) f args m=some r:=by
 unfold Zj1 at he ⊢
 split at he
 ·cases he
 ·rename_i fn hf
  split at he
  ·exact⟨0,he⟩
  ·rename_i c hb
   split at he
   ·rename_i hl
    simp only [if_pos hl]
    split at he
    ·rename_i t m' hx
     obtain⟨n,hn⟩:=Zdq.1 hx
     refine⟨n,?_⟩
     rw [hn];exact he
    ·rename_i t m' hx
     obtain⟨n,hn⟩:=Zdq.1 hx
     refine⟨n,?_⟩
     rw [hn];exact he
    ·cases he
   ·cases he
theorem Zqa {f:FuncId}{args:List Value}{m:Mem}{r:Value × Mem}:Zbi P T S f args m=some r↔∃ n,call P T S n f args m=some r:=by
 constructor
 ·intro he
  unfold Zbi Zel at he
  unfold call Zel
  split at he
  ·rename_i p hp
   exact⟨0,he⟩
  ·rename_i hp
   obtain⟨n,hn⟩:=Zxs he
   exact⟨n,hn⟩
 ·rintro⟨n,hn⟩
  exact Zjr n _ _ _ _ hn
theorem Z14 {ρ:Operand→Value}{o:Oper}{m:Mem}{r:Value × Mem}(he:sop P (Zbi P T S) ρ o m=some r):∃ n,sop P (call P T S n) ρ o m=some r:=by
 rcases Zpk (P:=P) ρ o m with g | ⟨f,args,g⟩
 ·exact⟨0,by rw [g _ (Zbi P T S)];exact he⟩
 ·rw [g] at he
  obtain⟨n,hn⟩:=Zqa.1 he
  exact⟨n,by rw [g];exact hn⟩
theorem Zlj {all:List Oper}{t:Tree Value}{o:Oper}{m:Mem}{r:Value × Mem}(he:Zip P (Zbi P T S) all o t m=some r):∃ n,Zip P (call P T S n) all o t m=some r:=by
 unfold Zip at he ⊢
 split at he
 ·rename_i hw
  obtain⟨n,hn⟩:=Z14 he
  exact⟨n,by rw [if_pos hw];exact hn⟩
 ·rename_i hw
  exact⟨0,by rw [if_neg hw];exact he⟩
theorem Zom {all:List Oper}:∀ (rest:List Oper) (t:Tree Value) (m:Mem) r,Zqk P (Zbi P T S) all rest t m=some r→∃ n,Zqk P (call P T S n) all rest t m=some r
 | [],t,m,r,he=>⟨0,he⟩
 | o::rest,t,m,r,he=>by
  simp only [Zqk] at he ⊢
  split at he
  ·rename_i v m' h1
   obtain⟨n1,g1⟩:=Zlj h1
   obtain⟨n2,g2⟩:=Zom rest _ _ _ he
   refine⟨max n1 n2,?_⟩
   rw [Zf2 (Zf6 (Nat.le_max_left n1 n2)) g1]
   exact Zkf (Zf6 (Nat.le_max_right n1 n2)) _ _ _ _ g2
  ·cases he
theorem Znt {all:List Oper}:∀ (rest:List Oper) (t:Tree Value) (m:Mem) r,states P (Zbi P T S) all rest t m=some r→∃ n,states P (call P T S n) all rest t m=some r
 | [],t,m,r,he=>⟨0,he⟩
 | o::rest,t,m,r,he=>by
  simp only [states] at he ⊢
  split at he
  ·rename_i v m' h1
   split at he
   ·rename_i l hl
    obtain⟨n1,g1⟩:=Zlj h1
    obtain⟨n2,g2⟩:=Znt rest _ _ _ hl
    refine⟨max n1 n2,?_⟩
    rw [Zf2 (Zf6 (Nat.le_max_left n1 n2)) g1]
    simp only
    rw [Zhm (Zf6 (Nat.le_max_right n1 n2)) _ _ _ _ g2]
    exact he
   ·cases he
  ·cases he
theorem Zq8 {α:Type}(p:Nat→α→Bool)(hp:∀ n k x,n≤k→p n x=true→p k x=true)(q:α→Bool)(hq:∀ x,q x=true→∃ n,p n x=true):∀ l:List α,l.all q=true→∃ n,l.all (p n)=true
 | [],_=>⟨0,rfl⟩
 | x::r,h=>by
  simp only [List.all_cons,Bool.and_eq_true] at h
  obtain⟨n1,g1⟩:=hq x h.1
  obtain⟨n2,g2⟩:=Zq8 p hp q hq r h.2
  refine⟨max n1 n2,?_⟩
  simp only [List.all_cons,Bool.and_eq_true]
  refine⟨hp _ _ _ (Nat.le_max_left n1 n2) g1,?_⟩
  rw [List.all_eq_true] at g2 ⊢
  exact fun y hy=>hp _ _ _ (Nat.le_max_right n1 n2) (g2 y hy)
theorem Zoh {all:List Oper}{o:Oper}{t:Tree Value}{v:Value}{m:Mem}(he:Zep P (Zbi P T S) all o t v m=true):∃ n,Zep P (call P T S n) all o t v m=true:=by
 unfold Zep at he ⊢
 split at he
 ·rename_i v' m' h1
  obtain⟨n,hn⟩:=Zlj h1
  exact⟨n,by rw [hn];exact he⟩
 ·cases he
theorem Zne {all:List Oper}{St:List (Tree Value × Mem)}(he:Zdk P (Zbi P T S) all St=true):∃ n,Zdk P (call P T S n) all St=true:=by
 unfold Zdk at he ⊢
 refine Zq8 _ (fun n k p hnk h=>?_) _ (fun p h=>?_) _ he
 ·have:Zdk P (call P T S n) all St=true→Zdk P (call P T S k) all St=true:=Zgp (Zf6 hnk)
  obtain⟨j,is⟩:=p
  simp only at h ⊢
  split at h
  ·rename_i o t m ho hS
   split at h
   ·rename_i v m' h1
    rw [Zf2 (Zf6 hnk) h1]
    simp only
    rw [List.all_eq_true] at h ⊢
    intro i hi
    have:=h i hi
    split at this
    ·exact Zfw (Zf6 hnk) this
    ·cases this
   ·cases h
  ·cases h
 ·obtain⟨j,is⟩:=p
  simp only at h ⊢
  split at h
  ·rename_i o t m ho hS
   split at h
   ·rename_i v m' h1
    obtain⟨n1,g1⟩:=Zlj h1
    obtain⟨n2,g2⟩:=Zq8 (fun n i=>match St[i]? with
      | some (_,m')=>Zep P (call P T S n) all o t v m'
      | none=>false) (fun n k i hnk h=>by
       cases hSi:St[i]? with
       | none=>rw [hSi] at h;cases h
       | some q=>rw [hSi] at h;exact Zfw (Zf6 hnk) h) _ (fun i h=>by
       cases hSi:St[i]? with
       | none=>rw [hSi] at h;cases h
       | some q=>rw [hSi] at h;exact Zoh h) is h
    refine⟨max n1 n2,?_⟩
    rw [Zf2 (Zf6 (Nat.le_max_left n1 n2)) g1]
    simp only
    rw [List.all_eq_true] at g2 ⊢
    intro i hi
    have:=g2 i hi
    cases hSi:St[i]? with
    | none=>rw [hSi] at this;cases this
    | some q=>rw [hSi] at this;exact Zfw (Zf6 (Nat.le_max_right n1 n2)) this
   ·cases h
  ·cases h
theorem Zrr {ops:List Oper}{draw:Bool}{t:Tree Value}{m:Mem}{r:Tree Value × Mem}(he:Zf7 P (Zbi P T S) ops draw t m=some r):∃ n,Zf7 P (call P T S n) ops draw t m=some r:=by
 unfold Zf7 at he ⊢
 cases draw with
 | true =>
  simp only [if_true] at he ⊢
  split at he
  ·rename_i hq
   obtain⟨n,hn⟩:=Zom _ _ _ _ he
   exact⟨n,by rw [if_pos hq];exact hn⟩
  ·rename_i hq
   split at he
   ·rename_i St hS
    split at he
    ·rename_i hc
     obtain⟨n1,g1⟩:=Znt _ _ _ _ hS
     obtain⟨n2,g2⟩:=Zne hc
     refine⟨max n1 n2,?_⟩
     rw [if_neg hq,Zhm (Zf6 (Nat.le_max_left n1 n2)) _ _ _ _ g1]
     simp only
     rw [if_pos (Zgp (Zf6 (Nat.le_max_right n1 n2)) g2)]
     exact he
    ·cases he
   ·cases he
 | false =>
  simp only [Bool.false_eq_true,if_false] at he ⊢
  exact Zom _ _ _ _ he
theorem Zeu (c:Code)(t:Tree Value)(m:Mem):Zfa P T S c t m=step P (Zbi P T S) (Zfa P T S) c t m:=by
 apply Option.ext
 intro r
 constructor
 ·intro h
  obtain⟨n,hn⟩:=Zdq.1 h
  cases n with
  | zero=>simp [Zjk] at hn
  | succ n=>exact Zqm (Zjr n) (Zj6 n) _ _ _ _ hn
 ·intro h
  have lim:∃ n,step P (call P T S n) (Zjk P T S n) c t m=some r:=by
   cases c with
   | seq a b =>
    simp only [step] at h ⊢
    split at h
    ·rename_i t' m' h1
     obtain⟨n1,g1⟩:=Zdq.1 h1
     obtain⟨n2,g2⟩:=Zdq.1 h
     refine⟨max n1 n2,?_⟩
     rw [Zje (Nat.le_max_left n1 n2) _ _ _ _ g1]
     exact Zje (Nat.le_max_right n1 n2) _ _ _ _ g2
    ·rename_i hne
     obtain⟨n,hn⟩:=Zdq.1 h
     refine⟨n,?_⟩
     rw [hn]
     obtain⟨e,t',m'⟩:=r
     cases e with
     | normal=>exact absurd h (hne t' m')
     | _=>rfl
   | cond c a b =>
    simp only [step] at h ⊢
    split at h
    ·exact Zdq.1 h
    ·exact Zdq.1 h
    ·cases h
   | block id b =>
    simp only [step] at h ⊢
    split at h
    ·rename_i i t' m' h1
     obtain⟨n,hn⟩:=Zdq.1 h1
     exact⟨n,by rw [hn];exact h⟩
    ·rename_i hne
     obtain⟨n,hn⟩:=Zdq.1 h
     refine⟨n,?_⟩
     rw [hn]
     obtain⟨e,t',m'⟩:=r
     cases e with
     | exit i=>exact absurd h (hne i t' m')
     | _=>rfl
   | loop b =>
    simp only [step] at h ⊢
    split at h
    ·rename_i t' m' h1
     obtain⟨n1,g1⟩:=Zdq.1 h1
     obtain⟨n2,g2⟩:=Zdq.1 h
     refine⟨max n1 n2,?_⟩
     rw [Zje (Nat.le_max_left n1 n2) _ _ _ _ g1]
     exact Zje (Nat.le_max_right n1 n2) _ _ _ _ g2
    ·rename_i hne
     obtain⟨n,hn⟩:=Zdq.1 h
     refine⟨n,?_⟩
     rw [hn]
     obtain⟨e,t',m'⟩:=r
     cases e with
     | normal=>exact absurd h (hne t' m')
     | _=>rfl
   | region id ops draw =>
    simp only [step] at h ⊢
    split at h
    ·rename_i t' m' h1
     obtain⟨n,hn⟩:=Zrr h1
     exact⟨n,by rw [hn];exact h⟩
    ·cases h
   | _=>exact⟨0,h⟩
  obtain⟨n,hn⟩:=lim
  refine Zdq.2 ⟨n+1,hn⟩
end Go.Sh
namespace Go.Sh
open Go.RowKit
variable {P:Program}{T:FuncId→Option Func}{S:Zed}{t:Tree Value}{m:Mem}{H:Zc4}
theorem Z5e (a b:Code):Zfa P T S (.seq a b) t m=match Zfa P T S a t m with
  | some (.normal,t',m')=>Zfa P T S b t' m'
  | r=>r:=by rw [Zeu];rfl
theorem Z4d:Zfa P T S .skip t m=some (.normal,t,m):=by rw [Zeu];rfl
theorem Z6b:Zfa P T S .ret t m=some (.ret,t,m):=by rw [Zeu];rfl
theorem Z3 (i:Nat):Zfa P T S (.exit i) t m=some (.exit i,t,m):=by rw [Zeu];rfl
theorem Z29 (x:Operand)(a b:Code):Zfa P T S (.cond x a b) t m=match ev t x with
  | .bool true=>Zfa P T S a t m
  | .bool false=>Zfa P T S b t m
  | _=>none:=by rw [Zeu];rfl
theorem Z2d (i:Nat)(b:Code):Zfa P T S (.block i b) t m=match Zfa P T S b t m with
  | some (.exit k,t',m')=>some (if k=i then .normal else .exit k,t',m')
  | r=>r:=by rw [Zeu];rfl
theorem Z4j (b:Code):Zfa P T S (.loop b) t m=match Zfa P T S b t m with
  | some (.normal,t',m')=>Zfa P T S (.loop b) t' m'
  | r=>r:=by rw [Zeu];rfl
theorem Zys (i:Nat)(ops:Array Oper)(d:Bool):Zfa P T S (.region i ops d) t m=match Zf7 P (Zbi P T S) ops.toList d t m with
  | some (t',m')=>some (.normal,t',m')
  | none=>none:=by rw [Zeu];rfl
theorem Z39 {f:FuncId}{fn:Func}{c:Code}(hT:T f=some fn)(hb:fn.body=some c)(hS:S f=[])(args:List Value)(hl:args.length≤fn.ntmps) :
  Zbi P T S f args m=match Zfa P T S c (fill .leaf args 0) m with
   | some (.normal,t,m') | some (.ret,t,m')=>match Zgx P fn.results.toList t m' with
    | some v=>some (v,m')
    | none=>none
   | _=>none:=by
 unfold Zbi Zel Zj1
 rw [hS]
 simp only [List.find?_nil,hT,hb,if_pos hl]
 rfl
section
variable (ρ:Operand→Value)(d:Option Tmp)(ty:TypeId)(pos:String)(af:Array Edge)(g:Option (Nat × Bool))
theorem Z27 (x:Operand):sop P H ρ ⟨d,.move x,ty,pos,af,g⟩ m=some (ρ x,m):=rfl
theorem Zyo (x:Operand):sop P H ρ ⟨d,.assign x,ty,pos,af,g⟩ m=some (ρ x,m):=rfl
theorem Z6r (op:BinOp)(a:TypeId)(x y:Operand)(b:TypeId):sop P H ρ ⟨d,.binOp op a x y b,ty,pos,af,g⟩ m=Zfb P ρ ⟨d,.binOp op a x y b,ty,pos,af,g⟩ op a x y m:=rfl
end
end Go.Sh
namespace Go.Sh
theorem Zbh {x:Int}(h1:-9223372036854775808≤x)(h2:x≤9223372036854775807):IntKind.i64.wrap x=x:=by
 have e1:(2:Int) ^ IntKind.i64.bits=18446744073709551616:=by decide
 have e2:(2:Int) ^ (IntKind.i64.bits - 1)=9223372036854775808:=by decide
 have e3:IntKind.i64.signed=true:=rfl
 simp only [IntKind.wrap,e1,e2,e3,Bool.true_and,decide_eq_true_eq,ge_iff_le]
 split <;> omega
structure Own (m:Mem)(l:Nat)(cells:List Value)(e:TypeId)(fam:Nat):Prop where
 blk:m.blks.get l=some ⟨cells,e,fam⟩
 fm:∃ k,m.fams.get fam=some ⟨some l,k⟩∧k≤l
 lt:l < m.next
 flt:fam < m.next
section
variable {m:Mem}{l l' off:Nat}{cells cells' vs:List Value}{e e':TypeId}{fam fam':Nat}
theorem Own.readable (h:Own m l cells e fam):m.readable l=some ⟨cells,e,fam⟩:=by
 obtain⟨k,h1,h2⟩:=h.fm
 exact Mem.readable_iff.2 ⟨h.blk,_,h1,h2⟩
theorem Own.writable (h:Own m l cells e fam):m.writable l=some ⟨cells,e,fam⟩:=by
 obtain⟨k,h1,h2⟩:=h.fm
 exact Mem.writable_iff.2 ⟨h.blk,_,h1,rfl,h2⟩
theorem Own.load (h:Own m l cells e fam)(k:Nat)(hk:off+k≤cells.length):loadRow m ⟨l,off,none⟩ k=some (Zb cells off k):=by
 simp [loadRow,h.readable,hk]
theorem Own.load1 (h:Own m l cells e fam){v:Value}(hv:cells[off]?=some v):loadRow m ⟨l,off,none⟩ 1=some [v]:=by
 have hlt:=(List.getElem?_eq_some_iff.1 hv).1
 rw [h.load 1 (by omega)]
 unfold Zb
 rw [List.getElem?_eq_getElem hlt] at hv
 simp only [Option.some.injEq] at hv
 rw [List.drop_eq_getElem_cons hlt,hv]
 rfl
theorem Own.store (h:Own m l cells e fam)(hk:off+vs.length≤cells.length)(h1:vs.all one=true) :
  Za8 m ⟨l,off,none⟩ vs=some (m.put l ⟨cells,e,fam⟩ (Zdh cells off vs)):=by
 simp [Za8,h.writable,hk]
 simpa using h1
theorem Own.put (h:Own m l cells e fam)(cs:List Value):Own (m.put l ⟨cells,e,fam⟩ cs) l cs e fam:=
 ⟨by simp [Mem.put,Tree.get_set_self],⟨l,by simp [Mem.put,Tree.get_set_self],Nat.le_refl _⟩,h.lt,h.flt⟩
theorem Own.new (m:Mem)(cs:List Value)(e:TypeId):Own (m.new cs e) m.next cs e m.next:=
 ⟨by simp [Mem.new,Tree.get_set_self],⟨m.next,by simp [Mem.new,Tree.get_set_self],Nat.le_refl _⟩,by simp [Mem.new],by simp [Mem.new]⟩
theorem Own.grow (h:Own m l cells e fam)(cs:List Value)(keep:Bool):Own (m.grow ⟨cells,e,fam⟩ cs keep) m.next cs e fam:=by
 obtain⟨k,h1,h2⟩:=h.fm
 have:=h.lt
 have:=h.flt
 refine⟨by simp [Mem.grow,Tree.get_set_self],⟨if keep then k else m.next,by simp [Mem.grow,Tree.get_set_self,h1],by split <;> omega⟩,by simp [Mem.grow],by simp [Mem.grow];omega⟩
structure Rdo (m:Mem)(l:Nat)(cells:List Value)(e:TypeId)(fam:Nat):Prop where
 blk:m.blks.get l=some ⟨cells,e,fam⟩
 fm:∃ f,m.fams.get fam=some f∧f.kill≤l
 lt:l < m.next
 flt:fam < m.next
theorem Own.rdo (h:Own m l cells e fam):Rdo m l cells e fam:=⟨h.blk,by obtain⟨k,h1,h2⟩:=h.fm;exact⟨_,h1,h2⟩,h.lt,h.flt⟩
theorem Rdo.readable (h:Rdo m l cells e fam):m.readable l=some ⟨cells,e,fam⟩:=Mem.readable_iff.2 ⟨h.blk,h.fm⟩
theorem Rdo.load (h:Rdo m l cells e fam)(k:Nat)(hk:off+k≤cells.length):loadRow m ⟨l,off,none⟩ k=some (Zb cells off k):=by
 simp [loadRow,h.readable,hk]
theorem Rdo.load1 (h:Rdo m l cells e fam){v:Value}(hv:cells[off]?=some v):loadRow m ⟨l,off,none⟩ 1=some [v]:=by
 have hlt:=(List.getElem?_eq_some_iff.1 hv).1
 rw [h.load 1 (by omega)]
 unfold Zb
 rw [List.getElem?_eq_getElem hlt] at hv
 simp only [Option.some.injEq] at hv
 rw [List.drop_eq_getElem_cons hlt,hv]
 rfl
def Zao (m m':Mem)(fs:List Nat):Prop:=
 m.next≤m'.next∧(∀ l b,l < m.next→m.blks.get l=some b→b.fam < m.next→b.fam∉fs→m'.blks.get l=some b)∧(∀ f,f < m.next→f∉fs→m'.fams.get f=m.fams.get f)∧(∀ l,l < m.next→l∉fs→m'.maps.get l=m.maps.get l)
theorem Own.keep {m m':Mem}{fs:List Nat}(h:Own m l cells e fam)(k:Zao m m' fs)(hf:fam∉fs):Own m' l cells e fam:=by
 obtain⟨q,h1,h2⟩:=h.fm
 exact⟨k.2.1 l _ h.lt h.blk h.flt hf,⟨q,by rw [k.2.2.1 fam h.flt hf];exact h1,h2⟩,Nat.lt_of_lt_of_le h.lt k.1,Nat.lt_of_lt_of_le h.flt k.1⟩
theorem Rdo.keep {m m':Mem}{fs:List Nat}(h:Rdo m l cells e fam)(k:Zao m m' fs)(hf:fam∉fs):Rdo m' l cells e fam:=by
 obtain⟨q,h1,h2⟩:=h.fm
 exact⟨k.2.1 l _ h.lt h.blk h.flt hf,⟨q,by rw [k.2.2.1 fam h.flt hf];exact h1,h2⟩,Nat.lt_of_lt_of_le h.lt k.1,Nat.lt_of_lt_of_le h.flt k.1⟩
theorem Zao.refl (m:Mem)(fs:List Nat):Zao m m fs:=⟨Nat.le_refl _,fun _ _ _ h _ _=>h,fun _ _ _=>rfl,fun _ _ _=>rfl⟩
theorem Zao.trans {m1 m2 m3:Mem}{fs:List Nat}(h:Zao m1 m2 fs)(k:Zao m2 m3 fs):Zao m1 m3 fs:=
 ⟨Nat.le_trans h.1 k.1,fun l b hl hb hg hf=>k.2.1 l b (Nat.lt_of_lt_of_le hl h.1) (h.2.1 l b hl hb hg hf) (Nat.lt_of_lt_of_le hg h.1) hf,fun f hl hf=>(k.2.2.1 f (Nat.lt_of_lt_of_le hl h.1) hf).trans (h.2.2.1 f hl hf),fun f hl hf=>(k.2.2.2 f (Nat.lt_of_lt_of_le hl h.1) hf).trans (h.2.2.2 f hl hf)⟩
theorem Zao.mono {m1 m2:Mem}{fs gs:List Nat}(h:Zao m1 m2 fs)(hg:∀ x∈fs,x∈gs):Zao m1 m2 gs:=
 ⟨h.1,fun l b hl hb hq hf=>h.2.1 l b hl hb hq (fun hx=>hf (hg _ hx)),fun f hl hf=>h.2.2.1 f hl (fun hx=>hf (hg _ hx)),fun f hl hf=>h.2.2.2 f hl (fun hx=>hf (hg _ hx))⟩
theorem Zb9 (m:Mem)(cs:List Value)(e:TypeId)(fs:List Nat):Zao m (m.new cs e) fs:=by
 refine⟨by simp [Mem.new],fun l b hl hb _ _=>?_,fun f hl _=>?_,fun _ _ _=>rfl⟩
 ·simp only [Mem.new];rw [Tree.get_set_ne _ _ (by omega)];exact hb
 ·simp only [Mem.new];rw [Tree.get_set_ne _ _ (by omega)]
theorem Own.keeps_put (h:Own m l cells e fam)(cs:List Value){fs:List Nat}(hf:fam∈fs):Zao m (m.put l ⟨cells,e,fam⟩ cs) fs:=by
 refine⟨Nat.le_refl _,fun l' b hl hb _ hn=>?_,fun f hl hn=>?_,fun _ _ _=>rfl⟩
 ·simp only [Mem.put]
  rw [Tree.get_set_ne _ _ (fun e0=>?_)]
  ·exact hb
  ·subst e0
   rw [h.blk] at hb
   simp only [Option.some.injEq] at hb
   subst hb
   exact hn hf
 ·simp only [Mem.put];rw [Tree.get_set_ne _ _ (fun e0=>hn (by rw [e0];exact hf))]
theorem Own.keeps_grow (h:Own m l cells e fam)(cs:List Value)(k:Bool){fs:List Nat}(hf:fam∈fs):Zao m (m.grow ⟨cells,e,fam⟩ cs k) fs:=by
 refine⟨by simp [Mem.grow],fun l' b hl hb _ hn=>?_,fun f hl hn=>?_,fun _ _ _=>rfl⟩
 ·simp only [Mem.grow];rw [Tree.get_set_ne _ _ (by omega)];exact hb
 ·simp only [Mem.grow];rw [Tree.get_set_ne _ _ (fun e0=>hn (by rw [e0];exact hf))]
end
def Zi2 (P:Program)(s:TypeId)(f off:Nat):Bool:=(Zi P s f).any (fun fl=>(Zbo P fl.type).any (fun z=>decide (0 < z)) && fl.offset == off)
def Zl7 (P:Program)(t:TypeId):Bool:=(P.underlying t).isSome && !Zhe P t
section
variable {P:Program}{H:Zc4}{m:Mem}{ρ:Operand→Value}{d:Option Tmp}{ty:TypeId}{pos:String}{af:Array Edge}{g:Option (Nat × Bool)}{o:Oper}
theorem Z8y (op:UnOp)(a:TypeId)(x:Operand):sop P H ρ ⟨d,.unOp op a x,ty,pos,af,g⟩ m=Znz P ρ ⟨d,.unOp op a x,ty,pos,af,g⟩ op x m:=rfl
theorem Z3b (c a b:Operand):sop P H ρ ⟨d,.pick c a b,ty,pos,af,g⟩ m=match ρ c with
  | .bool t=>some (if t then ρ a else ρ b,m)
  | _=>none:=rfl
theorem Zu (x:Operand):sop P H ρ ⟨d,.nilCheck x,ty,pos,af,g⟩ m=match ρ x with
  | .pointer (some a)=>some (.pointer (some a),m)
  | .func (.func f) a b=>some (.func (.func f) a b,m)
  | .iface t v=>some (.iface t v,m)
  | _=>none:=rfl
theorem Zw5 (x:Operand)(i:Nat):sop P H ρ ⟨d,.extract x i,ty,pos,af,g⟩ m=match ρ x with
  | .tuple vs=>vs[i]?.map (·,m)
  | _=>none:=rfl
theorem Zra (s:TypeId)(x:Operand)(f:Nat):sop P H ρ ⟨d,.fieldAddr s x f,ty,pos,af,g⟩ m=Zc7 P ρ ⟨d,.fieldAddr s x f,ty,pos,af,g⟩ s x f m:=rfl
theorem Za {s:TypeId}{f off:Nat}(h:Zi2 P s f off=true)(x:Operand):Zc7 P ρ o s x f m=match ρ x with
  | .pointer (some a)=>if a.spot.isNone then some (.pointer (some { a with off:=a.off+off }),m) else none
  | _=>none:=by
 unfold Zi2 at h
 unfold Zc7
 cases hf:Zi P s f with
 | none=>rw [hf] at h;simp at h
 | some fl =>
  rw [hf] at h
  simp only [Option.any_some,Bool.and_eq_true,beq_iff_eq] at h
  cases hz:Zbo P fl.type with
  | none=>rw [hz] at h;simp at h
  | some z =>
   rw [hz] at h
   simp only [Option.any_some,decide_eq_true_eq] at h
   obtain⟨n,rfl⟩:∃ n,z=n+1:=⟨z - 1,by omega⟩
   cases hx:ρ x with
   | pointer a=>cases a with
    | none=>rfl
    | some a=>simp only [hz,h.2]
   | _=>rfl
theorem Z3z (t:TypeId)(x:Operand):sop P H ρ ⟨d,.load t x,ty,pos,af,g⟩ m=Zg4 P ρ ⟨d,.load t x,ty,pos,af,g⟩ t x m:=rfl
theorem Zab {t:TypeId}(h:Zl7 P t=true)(x:Operand):Zg4 P ρ o t x m=match ρ x with
  | .pointer (some a)=>match loadRow m a 1 with
   | some [v]=>some (v,m)
   | _=>none
  | _=>none:=by
 unfold Zl7 at h
 unfold Zg4
 rw [Bool.and_eq_true,Bool.not_eq_true'] at h
 obtain⟨u,hu⟩:=Option.isSome_iff_exists.1 h.1
 simp only [hu,h.2]
 rfl
theorem Z1s (t:TypeId)(x y:Operand):sop P H ρ ⟨d,.store t x y,ty,pos,af,g⟩ m=Zkx P ρ ⟨d,.store t x y,ty,pos,af,g⟩ t x y m:=rfl
theorem Zaf {t:TypeId}{z:Nat}(h:Zbo P t=some z)(x y:Operand):Zkx P ρ o t x y m=match ρ x with
  | .pointer (some a)=>if (ρ y).cells.size=z then (Za8 m a (ρ y).cells.toList).map (undef,·) else none
  | _=>none:=by
 unfold Zkx
 cases hx:ρ x with
 | pointer a=>cases a with
  | none=>rfl
  | some a =>
   simp only [h]
   by_cases e:(ρ y).cells.size=z
   ·rw [if_pos e,if_pos (by rw [e];simp)]
   ·rw [if_neg e,if_neg (by simp;exact fun h=>e h.symm)]
 | _=>rfl
theorem Z5s (x:Operand)(t:TypeId):sop P H ρ ⟨d,.call { callee:=.builtin .len,args:=#[x],argTypes:=#[t] },ty,pos,af,g⟩ m=Zo2 P ρ #[x] #[t] m:=rfl
theorem Zac {t e:TypeId}(h:P.underlying t=some (.slice e))(x:Operand):Zo2 P ρ #[x] #[t] m=match ρ x with
  | .slice _ n _=>some (.int .i64 n,m)
  | _=>none:=by
 simp only [Zo2,h]
 cases ρ x <;> rfl
theorem Zc9 {t:TypeId}(h:P.underlying t=some .string)(x:Operand):Zo2 P ρ #[x] #[t] m=match ρ x with
  | .string s=>some (.int .i64 s.size,m)
  | _=>none:=by
 simp only [Zo2,h]
 cases ρ x <;> rfl
theorem Z3y (a b:TypeId)(x:Operand):sop P H ρ ⟨d,.convert a b x,ty,pos,af,g⟩ m=Zfh P ρ ⟨d,.convert a b x,ty,pos,af,g⟩ a b x m:=rfl
theorem Zy7 (s x:Operand)(a b:TypeId):sop P H ρ ⟨d,.call { callee:=.builtin .append,args:=#[s,x],argTypes:=#[a,b] },ty,pos,af,g⟩ m=Zfz P ρ #[s,x] #[a,b] m:=rfl
theorem Zpx (t:TypeId)(n:Nat)(parts:Array (Nat × Operand)):sop P H ρ ⟨d,.buildSlice t n parts,ty,pos,af,g⟩ m=Zd2 P ρ ⟨d,.buildSlice t n parts,ty,pos,af,g⟩ t n parts m:=rfl
end
def Code.sub:List Nat→Code→Code
 | [],c=>c
 | 0::p,.seq a _=>Code.sub p a
 | _::p,.seq _ b=>Code.sub p b
 | 0::p,.cond _ a _=>Code.sub p a
 | _::p,.cond _ _ b=>Code.sub p b
 | _::p,.block _ b=>Code.sub p b
 | _::p,.loop b=>Code.sub p b
 | _,c=>c
def Zlc (f:Func):Code:=match f.body with | some c=>c | none=>.skip
section
variable {P:Program}{H:Zc4}{m:Mem}{t:Tree Value}
theorem Zri (cs:List Value)(e:TypeId)(off k:Nat)(h:off+k≤cs.length):loadRow (m.new cs e) ⟨m.next,off,none⟩ k=some (Zb cs off k):=(Own.new m cs e).load k h
def Zna (P:Program)(e:TypeId)(z bt:Nat):Bool:=(P.info? e).any fun i=>i.size == z && i.bytes == bt && decide (0 < z) && i.zero.any (fun v=>v.cells.size == z)
theorem Zqh {ty e:TypeId}{z bt wb wf n k:Nat}{cells news:List Value}(ht:P.underlying ty=some (.slice e))(ha:Zna P e z bt=true)(h:Own m wb cells e wf)(hn:n * z=cells.length)(hk:k≠0)(hnews:news.length=k * z)(h1:news.all one=true)
  (hb:(n+k) * bt≤140737488355328) (h63:n+k≤9223372036854775807) :
  Zcd P ty m (.slice (some ⟨wb,0,none⟩) n n) news k=some (.slice (some ⟨m.next,0,none⟩) (n+k) (n+k),m.grow ⟨cells,e,wf⟩ (cells++news) true):=by
 unfold Zna at ha
 cases hi:P.info? e with
 | none=>rw [hi] at ha;simp at ha
 | some i =>
  rw [hi] at ha
  simp only [Option.any_some,Bool.and_eq_true,beq_iff_eq,decide_eq_true_eq] at ha
  obtain⟨⟨⟨ha1,ha2⟩,ha3⟩,ha4⟩:=ha
  have hpos:0 < k * z:=Nat.mul_pos (by omega) ha3
  unfold Zcd
  simp only [ht,hi,h.writable]
  rw [if_neg (by simp [ha1,ha3,ha4,hnews];simpa using h1)]
  rw [if_pos (by simp [ha2,hb,h63])]
  rw [if_neg (by simp)]
  rw [if_neg (by simpa using hk)]
  rw [if_neg (by rw [ha1,hnews,Nat.zero_add,hn];omega)]
  rw [if_pos (by simp [ha1,hn])]
  simp [ha1,hn]
end
def apF:=Zfz
section
variable {P:Program}{H:Zc4}{m:Mem}{ρ:Operand→Value}{o:Oper}
theorem Zax {ty tx e2:TypeId}{z:Nat}(htx:P.underlying tx=some (.slice e2))(hz:Zbo P e2=some z)(s x:Operand):Zfz P ρ #[s,x] #[ty,tx] m=match ρ x with
  | .slice (some a) k c=>if k=0 then Zcd P ty m (ρ s) [] 0 else match loadRow m a (k * z) with
   | some news=>Zcd P ty m (ρ s) news k
   | none=>none
  | .slice none 0 0=>Zcd P ty m (ρ s) [] 0
  | _=>apF P ρ #[s,x] #[ty,tx] m:=by
 have hne:Zp8 P tx=false:=by unfold Zp8;rw [htx]
 cases hx:ρ x with
 | slice ao k c =>
  cases ao with
  | some a =>
   by_cases hk:k=0
   ·simp [Zfz,hne,Zn1,htx,hz,hx,hk]
   ·cases hl:loadRow m a (k * z) <;> simp [Zfz,hne,Zn1,htx,hz,hx,hk,hl]
  | none =>
   cases k <;> cases c <;> first
    | rfl
    | simp [Zfz,hne,Zn1,htx,hz,hx]
 | _=>rfl
end
theorem Zbk (k:IntKind)(n:Int):one (.int k n)=true:=rfl
theorem Zsj (b:Bool):one (.bool b)=true:=rfl
theorem Zco (s:ByteArray):one (.string s)=true:=rfl
theorem Z09 (a:Option Addr):one (.pointer a)=true:=rfl
theorem Zbp (a:Option Addr)(n c:Nat):one (.slice a n c)=true:=rfl
theorem Zwn (k:IntKind)(n:Int):(Value.int k n).cells=#[.int k n]:=rfl
theorem Ztz (b:Bool):(Value.bool b).cells=#[.bool b]:=rfl
theorem Zvm (s:ByteArray):(Value.string s).cells=#[.string s]:=rfl
theorem Zwf (a:Option Addr):(Value.pointer a).cells=#[.pointer a]:=rfl
theorem Zrp (a:Option Addr)(n c:Nat):(Value.slice a n c).cells=#[.slice a n c]:=rfl
theorem Zv7 (cs:Array Value):(Value.agg cs).cells=cs:=rfl
def zOk (P:Program)(e:TypeId)(bt:Nat)(v:Value):Bool:=(P.info? e).any fun i=>i.size == 1 && i.bytes == bt && i.zero.any (fun z=>eqV z v)
theorem Zqf {P:Program}{e:TypeId}{bt n:Nat}{v:Value}(h:zOk P e bt v=true)(hv:Zbs v=true)(h1:one v=true)(hn:n * bt≤281474976710656):Zfq P e n=some (List.replicate n v):=by
 unfold zOk at h
 cases hi:P.info? e with
 | none=>rw [hi] at h;simp at h
 | some i =>
  rw [hi] at h
  simp only [Option.any_some,Bool.and_eq_true,beq_iff_eq] at h
  cases hz:i.zero with
  | none=>rw [hz] at h;simp at h
  | some z =>
   rw [hz] at h
   simp only [Option.any_some] at h
   obtain⟨⟨g1,g2⟩,g3⟩:=h
   have:=Znp _ _ g3
   subst this
   have hc:z.cells=#[z]:=by cases z <;> first | rfl | simp [one] at h1
   have hcl:Zc8 #[z]=true:=by
    show Zd5 [z]=true
    simp [Zd5,hv]
   have hfl:(List.replicate n #[z].toList).flatten=List.replicate n z:=by
    clear hn
    induction n with
    | zero=>rfl
    | succ n ih=>rw [List.replicate_succ,List.flatten_cons,ih];rfl
   simp only [Zfq,hi,hz,hc,hcl]
   rw [if_pos (by simp [g1,g2,hn])]
   rw [hfl]
theorem Zpn {P:Program}{m:Mem}{ty e:TypeId}{z bt wb wf n:Nat}{cells:List Value}(ht:P.underlying ty=some (.slice e))(ha:Zna P e z bt=true)(h:Own m wb cells e wf)(hb:n * bt≤140737488355328)(h63:n≤9223372036854775807) :
  Zcd P ty m (.slice (some ⟨wb,0,none⟩) n n) [] 0=some (.slice (some ⟨wb,0,none⟩) n n,m):=by
 unfold Zna at ha
 cases hi:P.info? e with
 | none=>rw [hi] at ha;simp at ha
 | some i =>
  rw [hi] at ha
  simp only [Option.any_some,Bool.and_eq_true,beq_iff_eq,decide_eq_true_eq] at ha
  obtain⟨⟨⟨ha1,ha2⟩,ha3⟩,ha4⟩:=ha
  unfold Zcd
  simp only [ht,hi,h.writable]
  rw [if_neg (by simp [ha1,ha3,ha4])]
  rw [if_pos (by simp [ha2,hb,h63])]
  rw [if_neg (by simp)]
  rw [if_pos (by simp)]
end Go.Sh
namespace Go.Sh
section
variable {P:Program}{T:FuncId→Option Func}{S:Zed}{t t':Tree Value}{m m':Mem}
end
end Go.Sh
namespace Go.Sh
def Z2s:=Zdd
def ixF:=Zc2
section
variable {P:Program}{H:Zc4}{m:Mem}{ρ:Operand→Value}{o:Oper}{d:Option Tmp}{ty:TypeId}{pos:String}{af:Array Edge}{g:Option (Nat × Bool)}
theorem Z57 (e:TypeId)(x:Operand):sop P H ρ ⟨d,.box e x,ty,pos,af,g⟩ m=Zrn P ρ ⟨d,.box e x,ty,pos,af,g⟩ e x m:=rfl
theorem Zah {e:TypeId}(h:(P.info? e).isSome=true)(x:Operand):Zrn P ρ o e x m=some (.pointer (some ⟨m.next,0,none⟩),m.new (ρ x).cells.toList e):=by
 obtain⟨i,hi⟩:=Option.isSome_iff_exists.1 h
 simp [Zrn,hi]
theorem Z2j (e:TypeId):sop P H ρ ⟨d,.alloc e,ty,pos,af,g⟩ m=Zjn P ρ ⟨d,.alloc e,ty,pos,af,g⟩ e m:=rfl
theorem Z1d (t:TypeId)(ps:Array (Nat × Operand)):sop P H ρ ⟨d,.build t ps,ty,pos,af,g⟩ m=Zen P ρ ⟨d,.build t ps,ty,pos,af,g⟩ t ps m:=rfl
def Zgj (P:Program)(t:TypeId)(zero:List Value)(places:List (Nat × Nat)):Bool:=
 (P.info? t).any fun i=>i.zero.any fun z=>Zc8 z.cells && eqL z.cells.toList zero && match P.underlying t with
  | some (.struct fields)=>Zd6 P (Zlq fields) == some places.toArray
  | _=>false
theorem Zai {t:TypeId}{zero:List Value}{places:List (Nat × Nat)}(h:Zgj P t zero places=true)(ps:Array (Nat × Operand)) :
  Zen P ρ o t ps m=(Instr.fill (places.toArray[·]?) zero.toArray (ps.map fun (i,x)=>(i,ρ x)).toList).map fun cs=>(.agg cs,m):=by
 unfold Zgj at h
 cases hi:P.info? t with
 | none=>rw [hi] at h;simp at h
 | some i =>
  rw [hi] at h
  simp only [Option.any_some] at h
  cases hz:i.zero with
  | none=>rw [hz] at h;simp at h
  | some z =>
   rw [hz] at h
   simp only [Option.any_some,Bool.and_eq_true] at h
   obtain⟨⟨h1,h2⟩,h3⟩:=h
   have hzc:z.cells=zero.toArray:=by
    have:=Zl4 _ _ h2
    apply Array.ext';simpa using this
   cases hu:P.underlying t with
   | none=>rw [hu] at h3;simp at h3
   | some u =>
    rw [hu] at h3
    cases u with
    | struct fields =>
     simp only [beq_iff_eq] at h3
     unfold Zen
     rw [hzc] at h1
     simp only [hi,hz,h1,hu,h3,hzc,if_true]
    | _=>simp at h3
theorem Zqy (t:TypeId)(x ix:Operand):sop P H ρ ⟨d,.indexAddr t x ix,ty,pos,af,g⟩ m=Zc2 P ρ ⟨d,.indexAddr t x ix,ty,pos,af,g⟩ t x ix m:=rfl
theorem Zaa {t e:TypeId}{z:Nat}(ht:P.underlying t=some (.slice e))(hz:Zbo P e=some z)(x ix:Operand):Zc2 P ρ o t x ix m=match ρ x,ρ ix with
  | .slice (some a) n c,.int k i=>if 0≤i∧i≤9223372036854775807∧i.toNat < n∧a.spot.isNone=true then some (.pointer (some { a with off:=a.off+i.toNat * z }),m) else ixF P ρ o t x ix m
  | _,_=>ixF P ρ o t x ix m:=by
 cases hx:ρ x with
 | slice ao n c =>
  cases ao with
  | none=>rfl
  | some a =>
   cases hi:ρ ix with
   | int k i =>
    by_cases h:0≤i∧i≤9223372036854775807∧i.toNat < n∧a.spot.isNone=true
    ·simp only [if_pos h]
     have h':Zcx (.int k i)=some i.toNat:=by simp [Zcx,h.1,h.2.1]
     simp only [Zc2,hx,hi,h',ht,hz]
     rw [if_pos (by simp [h.2.2.1,h.2.2.2])]
    ·simp only [if_neg h];rfl
   | _=>rfl
 | _=>rfl
theorem Zfi {α β:Type}(x:Sem α)(f:α→Sem β):Zd6 P (x >>= f)=(Zd6 P x).bind fun a=>Zd6 P (f a):=by
 induction x with
 | pure a=>rfl
 | program k ih=>exact ih P
 | mark _ k ih=>exact ih
 | _=>rfl
theorem Zaw {t yt:TypeId}(ht:P.underlying t=some .bool)(op:BinOp)(hop:op=.eql∨op=.neq)(x y:Operand):Zdd P ρ ⟨d,.binOp op t x y yt,ty,pos,af,g⟩ op t x y m=match ρ x,ρ y with
  | .bool a,.bool b=>(Zeq op (a == b)).map (·,m)
  | _,_=>Z2s P ρ ⟨d,.binOp op t x y yt,ty,pos,af,g⟩ op t x y m:=by
 cases hx:ρ x with
 | bool a =>
  cases hy:ρ y with
  | bool b =>
   have hc:Zc0 P ρ ⟨d,.binOp op t x y yt,ty,pos,af,g⟩=Zeq op (a == b):=by
    unfold Zc0
    rw [if_pos (by simp [Op.operands,hx,hy,Zbs])]
    have he:Zd6 P (Op.equal t (.bool a) (.bool b))=some (a == b):=by
     show Zd6 P (Op.equalIn (9999+1) t (.bool a) (.bool b))=some (a == b)
     unfold Op.equalIn
     rw [Zfi]
     have hu:Zd6 P (underlying t)=some .bool:=by
      unfold underlying
      rw [Zfi]
      show (some P).bind _=_
      simp [ht]
      rfl
     rw [hu]
     rfl
    have hq:Zd6 P (execOp ρ ⟨d,.binOp op t x y yt,ty,pos,af,g⟩)=(Zeq op (a == b)).map Next.value:=by
     have hmap:∀ {α β:Type} (f:α→β) (s:Sem α),Zd6 P (f <$> s)=(Zd6 P s).map f:=by
      intro α β f s
      have:f <$> s=s >>= fun a=>pure (f a):=rfl
      rw [this,Zfi]
      cases Zd6 P s <;> rfl
     rcases hop with rfl | rfl
     ·show Zd6 P (Next.value <$> (do eqGuard .eql t x y (ρ x) (ρ y);binOp .eql t (ρ x) (ρ y)))=_
      rw [hmap,hx,hy]
      have:Zd6 P (do eqGuard .eql t x y (.bool a) (.bool b);binOp .eql t (.bool a) (.bool b):Sem Value)=some (.bool (a == b)):=by
       show Zd6 P (Op.equal t (.bool a) (.bool b) >>= fun r=>pure (Value.bool r))=_
       rw [Zfi,he]
       rfl
      rw [this];rfl
     ·show Zd6 P (Next.value <$> (do eqGuard .neq t x y (ρ x) (ρ y);binOp .neq t (ρ x) (ρ y)))=_
      rw [hmap,hx,hy]
      have:Zd6 P (do eqGuard .neq t x y (.bool a) (.bool b);binOp .neq t (.bool a) (.bool b):Sem Value)=some (.bool (!(a == b))):=by
       show Zd6 P (Op.equal t (.bool a) (.bool b) >>= fun r=>pure (Value.bool !r))=_
       rw [Zfi,he]
       rfl
      rw [this];rfl
    rw [hq]
    rcases hop with rfl | rfl <;> simp [Zeq,Zbs]
   simp [Zdd,ht,hx,hy,hc]
  | _=>rfl
 | _=>rfl
end
end Go.Sh
namespace Go.Sh
section
variable {P:Program}{T:FuncId→Option Func}{S:Zed}{t t':Tree Value}{m m':Mem}
end
end Go.Sh
namespace Go.Sh
section
variable {P:Program}{T:FuncId→Option Func}{S:Zed}{t t':Tree Value}{m m':Mem}{H:Zc4}
def Zks:Code→List Oper
 | .region _ ops _=>ops.toList
 | _=>[]
theorem Zdf (k:IntKind)(n:Int):eqV (.int k n) (.int k n)=true:=by simp [eqV]
theorem Zc1 (a:Option Addr)(n c:Nat):eqV (.slice a n c) (.slice a n c)=true:=by simp [eqV]
theorem Z19 (a:Option Addr):eqV (.pointer a) (.pointer a)=true:=by simp [eqV]
end
end Go.Sh
namespace Go.Sh
section
variable {P:Program}{T:FuncId→Option Func}{S:Zed}{t t':Tree Value}{m m':Mem}
end
end Go.Sh
namespace Go.Sh
def mkF:=Zer
section
variable {P:Program}{H:Zc4}{m:Mem}{ρ:Operand→Value}{o:Oper}{d:Option Tmp}{ty:TypeId}{pos:String}{af:Array Edge}{g:Option (Nat × Bool)}
theorem Zm {ty e:TypeId}{z bt k:Nat}{news:List Value}(ht:P.underlying ty=some (.slice e))(ha:Zna P e z bt=true)(hk:k≠0)(hnews:news.length=k * z)(h1:news.all one=true)(hb:k * bt≤140737488355328)(h63:k≤9223372036854775807) :
  Zcd P ty m (.slice none 0 0) news k=some (.slice (some ⟨m.next,0,none⟩) k k,m.new news e):=by
 unfold Zna at ha
 cases hi:P.info? e with
 | none=>rw [hi] at ha;simp at ha
 | some i =>
  rw [hi] at ha
  simp only [Option.any_some,Bool.and_eq_true,beq_iff_eq,decide_eq_true_eq] at ha
  obtain⟨⟨⟨ha1,ha2⟩,ha3⟩,ha4⟩:=ha
  unfold Zcd
  simp only [ht,hi]
  rw [if_neg (by simp [ha1,ha3,ha4,hnews];simpa using h1)]
  rw [if_neg (by simpa using hk)]
  rw [if_pos (by rw [ha2];simp [hb,h63])]
def Z4h (m:Mem)(sv:Value)(cells:List Value)(e:TypeId)(fam:Nat):Prop:=
 (cells=[]∧sv=.slice none 0 0)∨(cells≠[]∧∃ b,sv=.slice (some ⟨b,0,none⟩) cells.length cells.length∧Own m b cells e fam)
theorem Z4h.keep {m m':Mem}{sv:Value}{cells:List Value}{e:TypeId}{fam:Nat}{fs:List Nat}(h:Z4h m sv cells e fam)(k:Zao m m' fs)(hf:cells≠[]→fam∉fs):Z4h m' sv cells e fam:=by
 rcases h with h | ⟨h1,b,h2,h3⟩
 ·exact Or.inl h
 ·exact Or.inr ⟨h1,b,h2,h3.keep k (hf h1)⟩
theorem Z4h.flt {sv:Value}{cells:List Value}{e:TypeId}{fam:Nat}(h:Z4h m sv cells e fam)(hne:cells≠[]):fam < m.next:=by
 rcases h with⟨h,_⟩ | ⟨_,b,_,h3⟩
 ·exact absurd h hne
 ·exact h3.flt
theorem Zr5 (t:TypeId)(a b:Operand):sop P H ρ ⟨d,.makeSlice t a b,ty,pos,af,g⟩ m=Zer P ρ ⟨d,.makeSlice t a b,ty,pos,af,g⟩ t a b m:=rfl
theorem Zcv {t e:TypeId}{z bt:Nat}(ht:P.underlying t=some (.slice e))(ha:Zna P e z bt=true)(a b:Operand):Zer P ρ o t a b m=match ρ a,ρ b with
  | .int _ x,.int _ y=>if 0≤x∧x≤y∧y≤9223372036854775807∧y.toNat * bt≤281474976710656 then (match Zfq P e x.toNat with
   | some zs=>some (.slice (some ⟨m.next,0,none⟩) x.toNat x.toNat,m.new zs e)
   | none=>none) else mkF P ρ o t a b m
  | _,_=>mkF P ρ o t a b m:=by
 unfold Zna at ha
 cases hi:P.info? e with
 | none=>rw [hi] at ha;simp at ha
 | some i =>
  rw [hi] at ha
  simp only [Option.any_some,Bool.and_eq_true,beq_iff_eq,decide_eq_true_eq] at ha
  obtain⟨⟨⟨ha1,ha2⟩,ha3⟩,ha4⟩:=ha
  cases hx:ρ a with
  | int k x =>
   cases hy:ρ b with
   | int j y =>
    by_cases h:0≤x∧x≤y∧y≤9223372036854775807∧y.toNat * bt≤281474976710656
    ·simp only [if_pos h]
     have n1:Zcx (.int k x)=some x.toNat:=by simp [Zcx];omega
     have n2:Zcx (.int j y)=some y.toNat:=by simp [Zcx];omega
     simp only [Zer,ht,hi,hx,hy,n1,n2]
     cases Zfq P e x.toNat with
     | none=>rfl
     | some zs =>
      simp only
      rw [if_pos (by simp [ha1,ha2,ha3,h.2.2.2];omega)]
    ·simp only [if_neg h];rfl
   | _=>rfl
  | _=>rfl
end
end Go.Sh
namespace Go.Sh
open Go.RowKit Go.WideShapes Go.ChangeShapes
variable {P:Program}{J:Inj}{m:Mem}{w:World}
structure Zm7 where
 cells:List Value
 e:TypeId
 a:Addr
 n:Nat
 cap:Nat
 z:Nat
def Zg1 (w:World):Zfj:=⟨(· < w.heap.size),fun _=>False,fun _ h=>h.elim⟩
structure Zm7.Ok (P:Program)(w:World)(s:Zm7):Prop where
 info:∃ i,P.info? s.e=some i∧i.size=s.z
 clo:Zd5 s.cells=true
 le:s.n≤s.cap
 max:s.cap≤9223372036854775807
 spot:s.cap≠0→s.a.spot=none
 lt:s.cells≠[]→s.a.block < w.heap.size
 cell:∀ i v,s.cells[i]?=some v→w.cell? ⟨s.a.block,s.a.off+i,none⟩=some v
def addArg (m:Mem)(s:Zm7):Mem:=
 match s.cells with
 | []=>{ next:=m.next+1,blks:=m.blks,fams:=m.fams,maps:=m.maps }
 | _::_=>{ next:=m.next+1,blks:=m.blks.set m.next ⟨s.cells,s.e,m.next⟩,fams:=m.fams.set m.next ⟨none,m.next⟩,maps:=m.maps }
def Zm7.val (s:Zm7)(l:Nat):Value:=.slice (some ⟨l,0,none⟩) s.n s.n
theorem Zdl (m:Mem)(s:Zm7):(addArg m s).next=m.next+1:=by unfold addArg;split <;> rfl
theorem Zfr (m:Mem)(s:Zm7):(addArg m s).maps=m.maps:=by unfold addArg;split <;> rfl
theorem Zl5 {m:Mem}{s:Zm7}(hdom:∀ l b,m.blks.get l=some b→l < m.next)(l:Nat)(b:Blk)(h:(addArg m s).readable l=some b) :
  (l=m.next∧s.cells≠[]∧b=⟨s.cells,s.e,m.next⟩)∨(l < m.next∧m.readable l=some b):=by
 unfold addArg at h
 split at h
 ·exact Or.inr ⟨hdom l b (Mem.readable_iff.1 h).1,h⟩
 ·rename_i v r hc
  obtain⟨g1,f,g2,g3⟩:=Mem.readable_iff.1 h
  simp only at g1 g2
  by_cases e:l=m.next
  ·subst e
   rw [Tree.get_set_self] at g1
   simp only [Option.some.injEq] at g1
   exact Or.inl ⟨rfl,by rw [hc];simp,g1.symm⟩
  ·rw [Tree.get_set_ne _ _ e] at g1
   have hl:=hdom l b g1
   refine Or.inr ⟨hl,?_⟩
   by_cases ef:b.fam=m.next
   ·rw [ef,Tree.get_set_self] at g2
    simp only [Option.some.injEq] at g2
    subst g2
    simp only at g3
    omega
   ·rw [Tree.get_set_ne _ _ ef] at g2
    exact Mem.readable_iff.2 ⟨g1,f,g2,g3⟩
theorem Zlb {m:Mem}{s:Zm7}(hdom:∀ l b,m.blks.get l=some b→l < m.next)(l:Nat)(b:Blk)(h:(addArg m s).writable l=some b):l < m.next∧m.writable l=some b:=by
 unfold addArg at h
 split at h
 ·exact⟨hdom l b (Mem.writable_iff.1 h).1,h⟩
 ·obtain⟨g1,f,g2,g3,g4⟩:=Mem.writable_iff.1 h
  simp only at g1 g2
  by_cases ef:b.fam=m.next
  ·rw [ef,Tree.get_set_self] at g2
   simp only [Option.some.injEq] at g2
   subst g2
   cases g3
  ·rw [Tree.get_set_ne _ _ ef] at g2
   by_cases e:l=m.next
   ·subst e
    rw [Tree.get_set_self] at g1
    simp only [Option.some.injEq] at g1
    subst g1
    exact absurd rfl ef
   ·rw [Tree.get_set_ne _ _ e] at g1
    exact⟨hdom l b g1,Mem.writable_iff.2 ⟨g1,f,g2,g3,g4⟩⟩
theorem Zcf.addArg (h:Zcf P J m (Zg1 w) w w){s:Zm7}(hs:s.Ok P w):Zcf P (J.snoc s.a.block s.a.off (s.cap * s.z) s.z) (Sh.addArg m s) (Zg1 w) w w:=by
 have hJ:=h.n
 have hlt:=fun l (hl:l < m.next)=>(hJ ▸ hl:l < J.n)
 have hself:(J.snoc s.a.block s.a.off (s.cap * s.z) s.z).blk m.next=s.a.block:=by simp [Inj.snoc,hJ]
 have hbase:(J.snoc s.a.block s.a.off (s.cap * s.z) s.z).base m.next=s.a.off:=by simp [Inj.snoc,hJ]
 have hblk:∀ l,l < m.next→(J.snoc s.a.block s.a.off (s.cap * s.z) s.z).blk l=J.blk l:=fun l hl=>J.snoc_blk_lt (hlt l hl) _ _ _ _
 have hbas:∀ l,l < m.next→(J.snoc s.a.block s.a.off (s.cap * s.z) s.z).base l=J.base l:=fun l hl=>J.snoc_base_lt (hlt l hl) _ _ _ _
 have rd:=fun l b=>Zl5 (s:=s) h.dom l b
 have wr:=fun l b=>Zlb (s:=s) h.dom l b
 constructor
 ·rw [Zdl];simp [Inj.snoc,hJ]
 ·intro l b hl
  rw [Zdl]
  unfold Sh.addArg at hl
  split at hl
  ·have:=h.dom l b hl;omega
  ·simp only [Tree.get_set] at hl
   split at hl
   ·omega
   ·have:=h.dom l b hl;omega
 ·intro l b hl
  unfold Sh.addArg at hl
  split at hl
  ·rw [J.snoc_esz_lt (hlt _ (h.dom l b hl))];exact h.esz l b hl
  ·simp only [Tree.get_set] at hl
   split at hl
   ·rename_i e
    subst e
    simp only [Option.some.injEq] at hl
    subst hl
    obtain⟨i,h1,h2⟩:=hs.info
    exact⟨i,h1,by simp [Inj.snoc,hJ,h2]⟩
   ·rw [J.snoc_esz_lt (hlt _ (h.dom l b hl))];exact h.esz l b hl
 ·intro l b hl
  rcases rd l b hl with⟨rfl,hne,_⟩ | ⟨g1,g2⟩
  ·rw [hself];exact hs.lt hne
  ·rw [hblk l g1];exact h.blk l b g2
 ·intro l b hl i v hv
  rcases rd l b hl with⟨rfl,hne,rfl⟩ | ⟨g1,g2⟩
  ·rw [hself,hbase]
   exact⟨v,hs.cell i v hv,.clo _ ((Zd3 _).1 hs.clo v (List.mem_of_getElem? hv))⟩
  ·obtain⟨v',k1,k2⟩:=h.rd l b g2 i v hv
   exact⟨v',by rw [hblk l g1,hbas l g1];exact k1,k2.snoc _ _ _ _⟩
 ·intro l b hl
  obtain⟨g1,g2⟩:=wr l b hl
  obtain⟨v1,v2,v3,v4⟩:=h.wr l b g2
  rw [hblk l g1,hbas l g1,J.snoc_ext_lt (hlt l g1)]
  exact⟨v1,v2,v3,v4⟩
 ·intro l1 b1 l2 b2 h1 h2 e
  obtain⟨g1,g2⟩:=wr l1 b1 h1
  rcases rd l2 b2 h2 with⟨rfl,hne,rfl⟩ | ⟨k1,k2⟩
  ·rw [hself,hblk l1 g1] at e
   exact absurd (show (Zg1 w).F (J.blk l1) by rw [← e];exact hs.lt hne) (h.wr l1 b1 g2).1
  ·rw [hblk l1 g1,hblk l2 k1] at e
   rw [hbas l2 k1,hbas l1 g1]
   exact h.sep l1 b1 l2 b2 g2 k2 e
 ·exact h.below
 ·exact h.size
 ·intro g hg
  obtain⟨g1,g2,g3⟩:=h.glob g hg
  exact⟨Nat.lt_of_lt_of_le g1 (J.le_snoc _ _ _ _).n,by rw [J.snoc_blk_lt g1];exact g2,by rw [J.snoc_base_lt g1];exact g3⟩
 ·intro l s1 h1
  rw [Zfr] at h1
  obtain⟨q1,q2,es',q3,q4⟩:=h.mp l s1 h1
  exact⟨by rw [Zdl];omega,by rw [hblk l q1];exact q2,es',by rw [hblk l q1];exact q3,q4.mono (J.le_snoc _ _ _ _)⟩
 ·intro l1 l2 s1 s2 h1 h2 e
  rw [Zfr] at h1 h2
  rw [hblk _ (h.mp l1 s1 h1).1,hblk _ (h.mp l2 s2 h2).1] at e
  exact h.mi l1 l2 s1 s2 h1 h2 e
 ·intro l1 s1 l2 b2 h1 h2
  rw [Zfr] at h1
  obtain⟨q1,q2,_⟩:=h.mp l1 s1 h1
  rw [hblk l1 q1]
  rcases rd l2 b2 h2 with⟨rfl,hne,_⟩ | ⟨k1,k2⟩
  ·rw [hself]
   exact fun e=>q2 (show (Zg1 w).F (J.blk l1) by rw [← e];exact hs.lt hne)
  ·rw [hblk l2 k1];exact h.ms l1 s1 l2 b2 h1 k2
 ·exact fun _ _ _ h=>h
 ·intro l b hl
  obtain⟨g1,g2⟩:=wr l b hl
  rw [hblk l g1]
  exact h.sh l b g2
theorem Z0s (h:Zcf P J m (Zg1 w) w w){s:Zm7}(hs:s.Ok P w):Zbv (J.snoc s.a.block s.a.off (s.cap * s.z) s.z) (s.val m.next) (.slice (some s.a) s.n s.cap):=by
 have:=Zbv.slice (J:=J.snoc s.a.block s.a.off (s.cap * s.z) s.z) m.next 0 s.n s.a s.cap (by simp [Inj.snoc,h.n]) hs.le hs.max (by simp [Inj.snoc,h.n]) (by
  by_cases hc:s.cap=0
  ·exact Or.inl hc
  ·right
   have:=hs.spot hc
   obtain⟨⟨b,o,sp⟩,_⟩:∃ a:Addr,a=s.a:=⟨s.a,rfl⟩
   cases ha:s.a with
   | mk b o sp =>
    rw [ha] at this
    simp only at this
    subst this
    simp [Inj.snoc,h.n])
 exact this
theorem Zw9 {s:Zm7}(hne:s.cells≠[]):(Sh.addArg m s).blks.get m.next=some ⟨s.cells,s.e,m.next⟩∧(Sh.addArg m s).fams.get m.next=some ⟨none,m.next⟩:=by
 unfold Sh.addArg
 split
 ·rename_i hc;exact absurd hc hne
 ·exact⟨by simp [Tree.get_set_self],by simp [Tree.get_set_self]⟩
theorem Zyv (hm:P.follows .mixedOrders=true){T:FuncId→Option Func}(hT:Zuy P T){S:Zed}(hSm:Zlz P S){f:FuncId}{fn:Func}(hf:P.funcs[f]?=some fn)(hb:fn.body.isSome=true){args args':List Value}{m':Mem}{v:Value}
  (h:Zbi P T S f args m=some (v,m')) (hv:Zbs v=true) (hM:Zcf P J m (Zg1 w) w w) (hl:Ze J args args') :
  Calls P f args'.toArray w fun e w'=>e=.returned v∧Below w.heap.size w w':=by
 obtain⟨n,hc⟩:=Zqa.1 h
 rcases Znv (B:=Zg1 w) (W:=w) hm hT hSm n f args m _ _ hc with⟨_,hcall⟩ | ⟨_,hx⟩
 ·refine (hcall J args' w hl hM).mono ?_
  rintro e w' ⟨J',v',_,rfl,hv',hM'⟩
  rw [hv'.closed_eq hv]
  exact⟨rfl,hM'.below.below⟩
 ·obtain⟨_,_,hx⟩:=hx J args' hl
  have h1:=hx w
  exfalso
  simp only [callFunc,Sem.run_bind,run_program,Result.andThen_ok,hf] at h1
  cases hbd:fn.body with
  | none=>simp [hbd] at hb
  | some c =>
   by_cases hn:fn.name = "runtime.NumGoroutine" <;> simp [hn,hbd] at h1
section
variable {H:Type}{enc:TypeId × Value→H}
theorem Zyn {r:Reach}{b0:Nat}{t e:TypeId}{k:IntKind}{v:Value}{d:DataW H}{ps:List MemPlace}{i:TypeInfo}(ht:P.underlying t=some (.slice e))(he:P.underlying e=some (.int k))(hi:P.info? e=some i)(hz:i.size=1)
  (hval:Value.okWide P w r b0 t v) (hd:DataW.Trod enc P w 0 (fun _=>true) true t v d ps) :
  v=.slice none 0 0∨∃ (s:Zm7) (zs:List Int),s.Ok P w∧s.cells=zs.map (Value.int k)∧s.n=zs.length∧s.e=e∧s.z=1∧v=.slice (some s.a) s.n s.cap∧∀ n∈zs,(Lit.int k n).wf=true:=by
 obtain⟨a0,l0,c0,rfl⟩:=okWide_slice ht hval
 obtain⟨fuel,hf⟩:=hd
 have hc:P.cellsOf e=1:=by unfold Program.cellsOf;rw [hi];simpa using hz
 rcases open_ints ht he hc hf with⟨h1,_⟩ | ⟨a,len,cap,zs,h1,h2,h3,h4,h5,h6,h7,h8⟩
 ·simp [Value.cells] at h1
  obtain⟨rfl,rfl,rfl⟩:=h1
  exact Or.inl rfl
 ·right
  simp [Value.cells] at h1
  obtain⟨rfl,rfl,rfl⟩:=h1
  simp only [if_true] at h5
  have hspot:c0≠0→a.spot=none:=by
   intro hc0
   have:=h7 0 (by omega)
   simp only [Addr.add,if_true] at this
   unfold World.cell? at this
   split at this
   ·cases hs:a.spot with
    | none=>rfl
    | some q=>rw [hs] at this;simp at this
   ·cases this
  have hcell:∀ j,j < zs.length→w.cell? ⟨a.block,a.off+j,none⟩=some (.int k (zs.getD j 0)):=by
   intro j hj
   have:=h7 j hj
   have hadd:a.add j=⟨a.block,a.off+j,none⟩:=by
    have hs:=hspot (by omega)
    unfold Addr.add
    by_cases h0:j=0
    ·subst h0
     cases a with
     | mk b o sp=>simp only at hs;subst hs;simp
    ·rw [if_neg h0]
   rw [← hadd];exact this
  refine⟨⟨(zs.take l0).map (Value.int k),e,a,l0,c0,1⟩,zs.take l0,⟨⟨i,hi,hz⟩,?_,h3,by simpa [maxLen] using h4,hspot,?_,?_⟩,rfl,by simp;omega,rfl,rfl,rfl,fun n hn=>h8 n (List.mem_of_mem_take hn)⟩
  ·rw [Zd3]
   intro v hv
   simp only [List.mem_map] at hv
   obtain⟨x,_,rfl⟩:=hv
   rfl
  ·intro hne
   have hz0:0 < zs.length:=by
    cases zs with
    | nil=>simp at hne
    | cons _ _=>simp
   have:=World.block_lt_of_cell? w ⟨a.block,a.off+0,none⟩ (hcell 0 hz0)
   exact this
  ·intro j v hv
   simp only [List.getElem?_map,Option.map_eq_some_iff] at hv
   obtain⟨x,hx,rfl⟩:=hv
   rw [List.getElem?_take] at hx
   split at hx
   ·have hj:=(List.getElem?_eq_some_iff.1 hx).1
    simp only
    rw [hcell j hj]
    simp [List.getD_eq_getElem?_getD,hx]
   ·cases hx
end
theorem Zg3 (m:Mem)(s:Zm7):Zao m (Sh.addArg m s) []:=by
 unfold Sh.addArg
 split
 ·exact⟨by simp,fun _ _ _ h _ _=>h,fun _ _ _=>rfl,fun _ _ _=>rfl⟩
 ·refine⟨by simp,fun l b hl hb _ _=>?_,fun f hf _=>?_,fun _ _ _=>rfl⟩
  ·simp only;rw [Tree.get_set_ne _ _ (by omega)];exact hb
  ·simp only;rw [Tree.get_set_ne _ _ (by omega)]
end Go.Sh
