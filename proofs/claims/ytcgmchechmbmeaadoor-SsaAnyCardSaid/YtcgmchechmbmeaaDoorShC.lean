/- This text proves that an abstract, deterministic run of the model's code (logical blocks in the place of addresses, no capacities) is sound: where it answers, every run of the model answers alike and leaves all older memory as it was ('closed_true', 'call_sound'). No condition but what the theorems themselves say: the program's orders are Zs2, and the functions that are run pass the static check 'funcOk'. -/
import Derived.Test.YtcgmchechmbmeaaDoorShB
import Derived.ChangeSlices
import Derived.Carry
set_option linter.unusedVariables false
set_option linter.unusedSimpArgs false
namespace Go.Sh
open Go.RowKit
variable {P:Program}
def HLe (H K:Zbk):Prop:=∀ f args m r,H f args m=some r→K f args m=some r
theorem HLe.refl (H:Zbk):HLe H H:=fun _ _ _ _ h=>h
theorem Zqc (ρ:Operand→Value)(o:Oper)(m:Mem):(∀ H K,sop P H ρ o m=sop P K ρ o m)∨∃ f args,∀ H,sop P H ρ o m=H f args m:=by
 obtain⟨dst,op,type,pos,after,guard⟩:=o
 cases op with
 | call c =>
  obtain⟨callee,args,argTypes⟩:=c
  cases callee with
  | value f =>
   simp only [sop,Zdi,Zmf]
   cases ρ f with
   | func g a b =>
    cases g with
    | func fid=>exact Or.inr ⟨_,_,fun H=>rfl⟩
    | _=>exact Or.inl fun _ _=>rfl
   | _=>exact Or.inl fun _ _=>rfl
  | invoke r n=>exact Or.inl fun _ _=>rfl
  | builtin b=>exact Or.inl fun _ _=>by cases b <;> rfl
 | slice t x lo hi mx=>cases mx <;> exact Or.inl fun _ _=>rfl
 | makeFunc f a b=>cases f <;> exact Or.inl fun _ _=>rfl
 | _=>exact Or.inl fun _ _=>rfl
theorem Z0j {H K:Zbk}(h:HLe H K){ρ:Operand→Value}{o:Oper}{m:Mem}{r:Value × Mem}(he:sop P H ρ o m=some r):sop P K ρ o m=some r:=by
 rcases Zqc (P:=P) ρ o m with g | ⟨f,args,g⟩
 ·rw [g K H];exact he
 ·rw [g] at he ⊢;exact h _ _ _ _ he
theorem Ze3 {H K:Zbk}(h:HLe H K){all:List Oper}{t:Tree Value}{o:Oper}{m:Mem}{r:Value × Mem}(he:Zik P H all o t m=some r):Zik P K all o t m=some r:=by
 unfold Zik at he ⊢
 split
 ·rename_i hw;rw [if_pos hw] at he;exact Z0j h he
 ·rename_i hw;rw [if_neg hw] at he;exact he
theorem Zju {H K:Zbk}(h:HLe H K){all:List Oper}:∀ (rest:List Oper) (t:Tree Value) (m:Mem) r,Zp8 P H all rest t m=some r→Zp8 P K all rest t m=some r
 | [],t,m,r,he=>he
 | o::rest,t,m,r,he=>by
  simp only [Zp8] at he ⊢
  split at he
  ·rename_i v m' h1
   rw [Ze3 h h1]
   exact Zju h rest _ _ _ he
  ·cases he
theorem Zg6 {H K:Zbk}(h:HLe H K){all:List Oper}:∀ (rest:List Oper) (t:Tree Value) (m:Mem) r,states P H all rest t m=some r→states P K all rest t m=some r
 | [],t,m,r,he=>he
 | o::rest,t,m,r,he=>by
  simp only [states] at he ⊢
  split at he
  ·rename_i v m' h1
   rw [Ze3 h h1]
   simp only
   split at he
   ·rename_i l hl
    rw [Zg6 h rest _ _ _ hl]
    exact he
   ·cases he
  ·cases he
theorem Zeq {H K:Zbk}(h:HLe H K){all:List Oper}{o:Oper}{t:Tree Value}{v:Value}{m:Mem}(he:Zcz P H all o t v m=true):Zcz P K all o t v m=true:=by
 unfold Zcz at he ⊢
 split at he
 ·rename_i v' m' h1
  rw [Ze3 h h1]
  exact he
 ·cases he
theorem Zfh {H K:Zbk}(h:HLe H K){all:List Oper}{S:List (Tree Value × Mem)}(he:Zbw P H all S=true):Zbw P K all S=true:=by
 unfold Zbw at he ⊢
 rw [List.all_eq_true] at he ⊢
 intro p hp
 have:=he p hp
 obtain⟨j,is⟩:=p
 simp only at this ⊢
 split at this
 ·rename_i o t m ho hS
  split at this
  ·rename_i v m' h1
   rw [Ze3 h h1]
   simp only
   rw [List.all_eq_true] at this ⊢
   intro i hi
   have:=this i hi
   split at this
   ·exact Zeq h this
   ·cases this
  ·cases this
 ·cases this
theorem Zrf {H K:Zbk}(h:HLe H K){ops:List Oper}{draw:Bool}{t:Tree Value}{m:Mem}{r:Tree Value × Mem}(he:Ze4 P H ops draw t m=some r):Ze4 P K ops draw t m=some r:=by
 unfold Ze4 at he ⊢
 split
 ·rename_i hd
  rw [if_pos hd] at he
  simp only at he ⊢
  split at he
  ·rename_i hq
   rw [if_pos hq]
   exact Zju h _ _ _ _ he
  ·rename_i hq
   rw [if_neg hq]
   split at he
   ·rename_i S hS
    rw [Zg6 h _ _ _ _ hS]
    simp only
    split at he
    ·rename_i hc
     rw [if_pos (Zfh h hc)]
     exact he
    ·cases he
   ·cases he
 ·rename_i hd
  rw [if_neg hd] at he
  exact Zju h _ _ _ _ he
def Z5g (x y:Ex):Prop:=∀ c t m r,x c t m=some r→y c t m=some r
theorem Zkq {T:FuncId→Option Func}{x y:Ex}(h:Z5g x y):HLe (Zkb P T x) (Zkb P T y):=by
 intro f args m r he
 unfold Zkb at he ⊢
 split at he
 ·cases he
 ·rename_i fn hf
  split at he
  ·exact he
  ·rename_i c hb
   split at he
   ·rename_i hl
    rw [if_pos hl]
    split at he
    ·rename_i t m' hx
     rw [h _ _ _ _ hx]
     exact he
    ·rename_i t m' hx
     rw [h _ _ _ _ hx]
     exact he
    ·cases he
   ·cases he
theorem Zh {S:Zb4}{H K:Zbk}(h:HLe H K):HLe (Zcn S H) (Zcn S K):=by
 intro f args m r he
 unfold Zcn at he ⊢
 split at he
 ·exact he
 ·exact h _ _ _ _ he
theorem Zqq {H K:Zbk}{x y:Ex}(hH:HLe H K)(hx:Z5g x y):Z5g (step P H x) (step P K y):=by
 intro c t m r he
 cases c with
 | seq a b =>
  simp only [step] at he ⊢
  split at he
  ·rename_i t' m' h1
   rw [hx _ _ _ _ h1]
   exact hx _ _ _ _ he
  ·rename_i hne
   have:=hx _ _ _ _ he
   rw [this]
   obtain⟨e,t',m'⟩:=r
   cases e with
   | normal=>exact absurd he (hne t' m')
   | _=>rfl
 | cond c a b =>
  simp only [step] at he ⊢
  split at he
  ·exact hx _ _ _ _ he
  ·exact hx _ _ _ _ he
  ·cases he
 | block id b =>
  simp only [step] at he ⊢
  split at he
  ·rename_i i t' m' h1
   rw [hx _ _ _ _ h1]
   exact he
  ·rename_i hne
   have:=hx _ _ _ _ he
   rw [this]
   obtain⟨e,t',m'⟩:=r
   cases e with
   | exit i=>exact absurd he (hne i t' m')
   | _=>rfl
 | loop b =>
  simp only [step] at he ⊢
  split at he
  ·rename_i t' m' h1
   rw [hx _ _ _ _ h1]
   exact hx _ _ _ _ he
  ·rename_i hne
   have:=hx _ _ _ _ he
   rw [this]
   obtain⟨e,t',m'⟩:=r
   cases e with
   | normal=>exact absurd he (hne t' m')
   | _=>rfl
 | region id ops draw =>
  simp only [step] at he ⊢
  split at he
  ·rename_i t' m' h1
   rw [Zrf hH h1]
   exact he
  ·cases he
 | _=>exact he
variable {T:FuncId→Option Func}{S:Zb4}
theorem Zh4:∀ n,Z5g (Zi1 P T S n) (Zi1 P T S (n+1))
 | 0=>fun c t m r h=>by simp [Zi1] at h
 | n+1=>Zqq (Zh (Zkq (Zh4 n))) (Zh4 n)
theorem Zi9 {n k:Nat}(h:n≤k):Z5g (Zi1 P T S n) (Zi1 P T S k):=by
 induction h with
 | refl=>exact fun _ _ _ _ h=>h
 | step _ ih=>exact fun c t m r h=>Zh4 _ c t m r (ih c t m r h)
theorem Ze5 {n k:Nat}(h:n≤k):HLe (call P T S n) (call P T S k):=Zh (Zkq (Zi9 h))
noncomputable def Zd7 (P:Program)(T:FuncId→Option Func)(S:Zb4):Ex:=fun c t m =>
 open Classical in if h:∃ n r,Zi1 P T S n c t m=some r then some h.choose_spec.choose else none
noncomputable def Zaq (P:Program)(T:FuncId→Option Func)(S:Zb4):Zbk:=Zcn S (Zkb P T (Zd7 P T S))
theorem Zb7 {c:Code}{t:Tree Value}{m:Mem}{r:Zj3 × Tree Value × Mem}:Zd7 P T S c t m=some r↔∃ n,Zi1 P T S n c t m=some r:=by
 unfold Zd7
 constructor
 ·intro h
  split at h
  ·rename_i hx
   simp only [Option.some.injEq] at h
   rw [← h]
   exact⟨_,hx.choose_spec.choose_spec⟩
  ·cases h
 ·rintro⟨n,hn⟩
  have hx:∃ n r,Zi1 P T S n c t m=some r:=⟨n,r,hn⟩
  rw [dif_pos hx]
  have h1:=hx.choose_spec.choose_spec
  have h2:=Zi9 (Nat.le_max_left n hx.choose) _ _ _ _ hn
  have h3:=Zi9 (Nat.le_max_right n hx.choose) _ _ _ _ h1
  rw [h2] at h3
  exact h3.symm
theorem Zke (n:Nat):Z5g (Zi1 P T S n) (Zd7 P T S):=fun c t m r h=>Zb7.2 ⟨n,h⟩
theorem Zjt (n:Nat):HLe (call P T S n) (Zaq P T S):=Zh (Zkq (Zke n))
theorem Zw9 {f:FuncId}{args:List Value}{m:Mem}{r:Value × Mem}(he:Zkb P T (Zd7 P T S) f args m=some r):∃ n,Zkb P T (Zi1 P T S n) f args m=some r:=by
 unfold Zkb at he ⊢
 split at he
 ·cases he
 ·rename_i fn hf
  split at he
  ·exact⟨0,he⟩
  ·rename_i c hb
   split at he
   ·rename_i hl
    simp only [if_pos hl]
    split at he
    ·rename_i t m' hx
     obtain⟨n,hn⟩:=Zb7.1 hx
     refine⟨n,?_⟩
     rw [hn];exact he
    ·rename_i t m' hx
     obtain⟨n,hn⟩:=Zb7.1 hx
     refine⟨n,?_⟩
     rw [hn];exact he
    ·cases he
   ·cases he
theorem Zqz {f:FuncId}{args:List Value}{m:Mem}{r:Value × Mem}:Zaq P T S f args m=some r↔∃ n,call P T S n f args m=some r:=by
 constructor
 ·intro he
  unfold Zaq Zcn at he
  unfold call Zcn
  split at he
  ·rename_i p hp
   exact⟨0,he⟩
  ·rename_i hp
   obtain⟨n,hn⟩:=Zw9 he
   exact⟨n,hn⟩
 ·rintro⟨n,hn⟩
  exact Zjt n _ _ _ _ hn
theorem Z4c {ρ:Operand→Value}{o:Oper}{m:Mem}{r:Value × Mem}(he:sop P (Zaq P T S) ρ o m=some r):∃ n,sop P (call P T S n) ρ o m=some r:=by
 rcases Zqc (P:=P) ρ o m with g | ⟨f,args,g⟩
 ·exact⟨0,by rw [g _ (Zaq P T S)];exact he⟩
 ·rw [g] at he
  obtain⟨n,hn⟩:=Zqz.1 he
  exact⟨n,by rw [g];exact hn⟩
theorem Zlz {all:List Oper}{t:Tree Value}{o:Oper}{m:Mem}{r:Value × Mem}(he:Zik P (Zaq P T S) all o t m=some r):∃ n,Zik P (call P T S n) all o t m=some r:=by
 unfold Zik at he ⊢
 split at he
 ·rename_i hw
  obtain⟨n,hn⟩:=Z4c he
  exact⟨n,by rw [if_pos hw];exact hn⟩
 ·rename_i hw
  exact⟨0,by rw [if_neg hw];exact he⟩
theorem Zpu {all:List Oper}:∀ (rest:List Oper) (t:Tree Value) (m:Mem) r,Zp8 P (Zaq P T S) all rest t m=some r→∃ n,Zp8 P (call P T S n) all rest t m=some r
 | [],t,m,r,he=>⟨0,he⟩
 | o::rest,t,m,r,he=>by
  simp only [Zp8] at he ⊢
  split at he
  ·rename_i v m' h1
   obtain⟨n1,g1⟩:=Zlz h1
   obtain⟨n2,g2⟩:=Zpu rest _ _ _ he
   refine⟨max n1 n2,?_⟩
   rw [Ze3 (Ze5 (Nat.le_max_left n1 n2)) g1]
   exact Zju (Ze5 (Nat.le_max_right n1 n2)) _ _ _ _ g2
  ·cases he
theorem Zn2 {all:List Oper}:∀ (rest:List Oper) (t:Tree Value) (m:Mem) r,states P (Zaq P T S) all rest t m=some r→∃ n,states P (call P T S n) all rest t m=some r
 | [],t,m,r,he=>⟨0,he⟩
 | o::rest,t,m,r,he=>by
  simp only [states] at he ⊢
  split at he
  ·rename_i v m' h1
   split at he
   ·rename_i l hl
    obtain⟨n1,g1⟩:=Zlz h1
    obtain⟨n2,g2⟩:=Zn2 rest _ _ _ hl
    refine⟨max n1 n2,?_⟩
    rw [Ze3 (Ze5 (Nat.le_max_left n1 n2)) g1]
    simp only
    rw [Zg6 (Ze5 (Nat.le_max_right n1 n2)) _ _ _ _ g2]
    exact he
   ·cases he
  ·cases he
theorem Zsa {α:Type}(p:Nat→α→Bool)(hp:∀ n k x,n≤k→p n x=true→p k x=true)(q:α→Bool)(hq:∀ x,q x=true→∃ n,p n x=true):∀ l:List α,l.all q=true→∃ n,l.all (p n)=true
 | [],_=>⟨0,rfl⟩
 | x::r,h=>by
  simp only [List.all_cons,Bool.and_eq_true] at h
  obtain⟨n1,g1⟩:=hq x h.1
  obtain⟨n2,g2⟩:=Zsa p hp q hq r h.2
  refine⟨max n1 n2,?_⟩
  simp only [List.all_cons,Bool.and_eq_true]
  refine⟨hp _ _ _ (Nat.le_max_left n1 n2) g1,?_⟩
  rw [List.all_eq_true] at g2 ⊢
  exact fun y hy=>hp _ _ _ (Nat.le_max_right n1 n2) (g2 y hy)
theorem Zo7 {all:List Oper}{o:Oper}{t:Tree Value}{v:Value}{m:Mem}(he:Zcz P (Zaq P T S) all o t v m=true):∃ n,Zcz P (call P T S n) all o t v m=true:=by
 unfold Zcz at he ⊢
 split at he
 ·rename_i v' m' h1
  obtain⟨n,hn⟩:=Zlz h1
  exact⟨n,by rw [hn];exact he⟩
 ·cases he
theorem Zne {all:List Oper}{St:List (Tree Value × Mem)}(he:Zbw P (Zaq P T S) all St=true):∃ n,Zbw P (call P T S n) all St=true:=by
 unfold Zbw at he ⊢
 refine Zsa _ (fun n k p hnk h=>?_) _ (fun p h=>?_) _ he
 ·have:Zbw P (call P T S n) all St=true→Zbw P (call P T S k) all St=true:=Zfh (Ze5 hnk)
  obtain⟨j,is⟩:=p
  simp only at h ⊢
  split at h
  ·rename_i o t m ho hS
   split at h
   ·rename_i v m' h1
    rw [Ze3 (Ze5 hnk) h1]
    simp only
    rw [List.all_eq_true] at h ⊢
    intro i hi
    have:=h i hi
    split at this
    ·exact Zeq (Ze5 hnk) this
    ·cases this
   ·cases h
  ·cases h
 ·obtain⟨j,is⟩:=p
  simp only at h ⊢
  split at h
  ·rename_i o t m ho hS
   split at h
   ·rename_i v m' h1
    obtain⟨n1,g1⟩:=Zlz h1
    obtain⟨n2,g2⟩:=Zsa (fun n i=>match St[i]? with
      | some (_,m')=>Zcz P (call P T S n) all o t v m'
      | none=>false) (fun n k i hnk h=>by
       cases hSi:St[i]? with
       | none=>rw [hSi] at h;cases h
       | some q=>rw [hSi] at h;exact Zeq (Ze5 hnk) h) _ (fun i h=>by
       cases hSi:St[i]? with
       | none=>rw [hSi] at h;cases h
       | some q=>rw [hSi] at h;exact Zo7 h) is h
    refine⟨max n1 n2,?_⟩
    rw [Ze3 (Ze5 (Nat.le_max_left n1 n2)) g1]
    simp only
    rw [List.all_eq_true] at g2 ⊢
    intro i hi
    have:=g2 i hi
    cases hSi:St[i]? with
    | none=>rw [hSi] at this;cases this
    | some q=>rw [hSi] at this;exact Zeq (Ze5 (Nat.le_max_right n1 n2)) this
   ·cases h
  ·cases h
theorem Zsf {ops:List Oper}{draw:Bool}{t:Tree Value}{m:Mem}{r:Tree Value × Mem}(he:Ze4 P (Zaq P T S) ops draw t m=some r):∃ n,Ze4 P (call P T S n) ops draw t m=some r:=by
 unfold Ze4 at he ⊢
 cases draw with
 | true =>
  simp only [if_true] at he ⊢
  split at he
  ·rename_i hq
   obtain⟨n,hn⟩:=Zpu _ _ _ _ he
   exact⟨n,by rw [if_pos hq];exact hn⟩
  ·rename_i hq
   split at he
   ·rename_i St hS
    split at he
    ·rename_i hc
     obtain⟨n1,g1⟩:=Zn2 _ _ _ _ hS
     obtain⟨n2,g2⟩:=Zne hc
     refine⟨max n1 n2,?_⟩
     rw [if_neg hq,Zg6 (Ze5 (Nat.le_max_left n1 n2)) _ _ _ _ g1]
     simp only
     rw [if_pos (Zfh (Ze5 (Nat.le_max_right n1 n2)) g2)]
     exact he
    ·cases he
   ·cases he
 | false =>
  simp only [Bool.false_eq_true,if_false] at he ⊢
  exact Zpu _ _ _ _ he
theorem Zdd (c:Code)(t:Tree Value)(m:Mem):Zd7 P T S c t m=step P (Zaq P T S) (Zd7 P T S) c t m:=by
 apply Option.ext
 intro r
 constructor
 ·intro h
  obtain⟨n,hn⟩:=Zb7.1 h
  cases n with
  | zero=>simp [Zi1] at hn
  | succ n=>exact Zqq (Zjt n) (Zke n) _ _ _ _ hn
 ·intro h
  have lim:∃ n,step P (call P T S n) (Zi1 P T S n) c t m=some r:=by
   cases c with
   | seq a b =>
    simp only [step] at h ⊢
    split at h
    ·rename_i t' m' h1
     obtain⟨n1,g1⟩:=Zb7.1 h1
     obtain⟨n2,g2⟩:=Zb7.1 h
     refine⟨max n1 n2,?_⟩
     rw [Zi9 (Nat.le_max_left n1 n2) _ _ _ _ g1]
     exact Zi9 (Nat.le_max_right n1 n2) _ _ _ _ g2
    ·rename_i hne
     obtain⟨n,hn⟩:=Zb7.1 h
     refine⟨n,?_⟩
     rw [hn]
     obtain⟨e,t',m'⟩:=r
     cases e with
     | normal=>exact absurd h (hne t' m')
     | _=>rfl
   | cond c a b =>
    simp only [step] at h ⊢
    split at h
    ·exact Zb7.1 h
    ·exact Zb7.1 h
    ·cases h
   | block id b =>
    simp only [step] at h ⊢
    split at h
    ·rename_i i t' m' h1
     obtain⟨n,hn⟩:=Zb7.1 h1
     exact⟨n,by rw [hn];exact h⟩
    ·rename_i hne
     obtain⟨n,hn⟩:=Zb7.1 h
     refine⟨n,?_⟩
     rw [hn]
     obtain⟨e,t',m'⟩:=r
     cases e with
     | exit i=>exact absurd h (hne i t' m')
     | _=>rfl
   | loop b =>
    simp only [step] at h ⊢
    split at h
    ·rename_i t' m' h1
     obtain⟨n1,g1⟩:=Zb7.1 h1
     obtain⟨n2,g2⟩:=Zb7.1 h
     refine⟨max n1 n2,?_⟩
     rw [Zi9 (Nat.le_max_left n1 n2) _ _ _ _ g1]
     exact Zi9 (Nat.le_max_right n1 n2) _ _ _ _ g2
    ·rename_i hne
     obtain⟨n,hn⟩:=Zb7.1 h
     refine⟨n,?_⟩
     rw [hn]
     obtain⟨e,t',m'⟩:=r
     cases e with
     | normal=>exact absurd h (hne t' m')
     | _=>rfl
   | region id ops draw =>
    simp only [step] at h ⊢
    split at h
    ·rename_i t' m' h1
     obtain⟨n,hn⟩:=Zsf h1
     exact⟨n,by rw [hn];exact h⟩
    ·cases h
   | _=>exact⟨0,h⟩
  obtain⟨n,hn⟩:=lim
  refine Zb7.2 ⟨n+1,hn⟩
end Go.Sh
namespace Go.Sh
open Go.RowKit
variable {P:Program}{T:FuncId→Option Func}{S:Zb4}{t:Tree Value}{m:Mem}{H:Zbk}
theorem Z86 (a b:Code):Zd7 P T S (.seq a b) t m=match Zd7 P T S a t m with
  | some (.normal,t',m')=>Zd7 P T S b t' m'
  | r=>r:=by rw [Zdd];rfl
theorem Z66:Zd7 P T S .skip t m=some (.normal,t,m):=by rw [Zdd];rfl
theorem Z8w:Zd7 P T S .ret t m=some (.ret,t,m):=by rw [Zdd];rfl
theorem Z5z (i:Nat):Zd7 P T S (.exit i) t m=some (.exit i,t,m):=by rw [Zdd];rfl
theorem Z7z (x:Operand)(a b:Code):Zd7 P T S (.cond x a b) t m=match ev t x with
  | .bool true=>Zd7 P T S a t m
  | .bool false=>Zd7 P T S b t m
  | _=>none:=by rw [Zdd];rfl
theorem Z3l (i:Nat)(b:Code):Zd7 P T S (.block i b) t m=match Zd7 P T S b t m with
  | some (.exit k,t',m')=>some (if k=i then .normal else .exit k,t',m')
  | r=>r:=by rw [Zdd];rfl
theorem Z5q (b:Code):Zd7 P T S (.loop b) t m=match Zd7 P T S b t m with
  | some (.normal,t',m')=>Zd7 P T S (.loop b) t' m'
  | r=>r:=by rw [Zdd];rfl
theorem Z1p (i:Nat)(ops:Array Oper)(d:Bool):Zd7 P T S (.region i ops d) t m=match Ze4 P (Zaq P T S) ops.toList d t m with
  | some (t',m')=>some (.normal,t',m')
  | none=>none:=by rw [Zdd];rfl
theorem Z7m {f:FuncId}{fn:Func}{c:Code}(hT:T f=some fn)(hb:fn.body=some c)(hS:S f=[])(args:List Value)(hl:args.length≤fn.ntmps) :
  Zaq P T S f args m=match Zd7 P T S c (fill .leaf args 0) m with
   | some (.normal,t,m') | some (.ret,t,m')=>match Zf3 P fn.results.toList t m' with
    | some v=>some (v,m')
    | none=>none
   | _=>none:=by
 unfold Zaq Zcn Zkb
 rw [hS]
 simp only [List.find?_nil,hT,hb,if_pos hl]
 rfl
section
variable (ρ:Operand→Value)(d:Option Tmp)(ty:TypeId)(pos:String)(af:Array Edge)(g:Option (Nat × Bool))
theorem Z6z (x:Operand):sop P H ρ ⟨d,.move x,ty,pos,af,g⟩ m=some (ρ x,m):=rfl
theorem Z0m (x:Operand):sop P H ρ ⟨d,.assign x,ty,pos,af,g⟩ m=some (ρ x,m):=rfl
theorem Z8m (op:BinOp)(a:TypeId)(x y:Operand)(b:TypeId):sop P H ρ ⟨d,.binOp op a x y b,ty,pos,af,g⟩ m=Ze6 P ρ ⟨d,.binOp op a x y b,ty,pos,af,g⟩ op a x y m:=rfl
end
end Go.Sh
namespace Go.Sh
theorem Zab {x:Int}(h1:-9223372036854775808≤x)(h2:x≤9223372036854775807):IntKind.i64.wrap x=x:=by
 have e1:(2:Int) ^ IntKind.i64.bits=18446744073709551616:=by decide
 have e2:(2:Int) ^ (IntKind.i64.bits - 1)=9223372036854775808:=by decide
 have e3:IntKind.i64.signed=true:=rfl
 simp only [IntKind.wrap,e1,e2,e3,Bool.true_and,decide_eq_true_eq,ge_iff_le]
 split <;> omega
theorem Zly {x:Int}(h1:0≤x)(h2:x≤18446744073709551615):IntKind.u64.wrap x=x:=by
 have e1:(2:Int) ^ IntKind.u64.bits=18446744073709551616:=by decide
 have e3:IntKind.u64.signed=false:=rfl
 simp only [IntKind.wrap,e1,e3,Bool.false_and]
 simp
 omega
structure Own (m:Mem)(l:Nat)(cells:List Value)(e:TypeId)(fam:Nat):Prop where
 blk:m.blks.get l=some ⟨cells,e,fam⟩
 fm:∃ k,m.fams.get fam=some ⟨some l,k⟩∧k≤l
 lt:l < m.next
 flt:fam < m.next
section
variable {m:Mem}{l l' off:Nat}{cells cells' vs:List Value}{e e':TypeId}{fam fam':Nat}
theorem Own.readable (h:Own m l cells e fam):m.readable l=some ⟨cells,e,fam⟩:=by
 obtain⟨k,h1,h2⟩:=h.fm
 exact Mem.readable_iff.2 ⟨h.blk,_,h1,h2⟩
theorem Own.writable (h:Own m l cells e fam):m.writable l=some ⟨cells,e,fam⟩:=by
 obtain⟨k,h1,h2⟩:=h.fm
 exact Mem.writable_iff.2 ⟨h.blk,_,h1,rfl,h2⟩
theorem Own.load (h:Own m l cells e fam)(k:Nat)(hk:off+k≤cells.length):loadRow m ⟨l,off,none⟩ k=some (Zao cells off k):=by
 simp [loadRow,h.readable,hk]
theorem Own.load1 (h:Own m l cells e fam){v:Value}(hv:cells[off]?=some v):loadRow m ⟨l,off,none⟩ 1=some [v]:=by
 have hlt:=(List.getElem?_eq_some_iff.1 hv).1
 rw [h.load 1 (by omega)]
 unfold Zao
 rw [List.getElem?_eq_getElem hlt] at hv
 simp only [Option.some.injEq] at hv
 rw [List.drop_eq_getElem_cons hlt,hv]
 rfl
theorem Own.store (h:Own m l cells e fam)(hk:off+vs.length≤cells.length)(h1:vs.all one=true) :
  Zad m ⟨l,off,none⟩ vs=some (m.put l ⟨cells,e,fam⟩ (Zbx cells off vs)):=by
 simp [Zad,h.writable,hk]
 simpa using h1
theorem Own.put (h:Own m l cells e fam)(cs:List Value):Own (m.put l ⟨cells,e,fam⟩ cs) l cs e fam:=
 ⟨by simp [Mem.put,Tree.get_set_self],⟨l,by simp [Mem.put,Tree.get_set_self],Nat.le_refl _⟩,h.lt,h.flt⟩
theorem Own.new (m:Mem)(cs:List Value)(e:TypeId):Own (m.new cs e) m.next cs e m.next:=
 ⟨by simp [Mem.new,Tree.get_set_self],⟨m.next,by simp [Mem.new,Tree.get_set_self],Nat.le_refl _⟩,by simp [Mem.new],by simp [Mem.new]⟩
theorem Own.new_other (h:Own m l cells e fam)(cs:List Value)(e2:TypeId):Own (m.new cs e2) l cells e fam:=by
 obtain⟨k,h1,h2⟩:=h.fm
 have:=h.lt
 have:=h.flt
 refine⟨?_,⟨k,?_,h2⟩,by simp [Mem.new];omega,by simp [Mem.new];omega⟩
 ·simp only [Mem.new];rw [Tree.get_set_ne _ _ (by omega)];exact h.blk
 ·simp only [Mem.new];rw [Tree.get_set_ne _ _ (by omega)];exact h1
theorem Own.grow (h:Own m l cells e fam)(cs:List Value)(keep:Bool):Own (m.grow ⟨cells,e,fam⟩ cs keep) m.next cs e fam:=by
 obtain⟨k,h1,h2⟩:=h.fm
 have:=h.lt
 have:=h.flt
 refine⟨by simp [Mem.grow,Tree.get_set_self],⟨if keep then k else m.next,by simp [Mem.grow,Tree.get_set_self,h1],by split <;> omega⟩,by simp [Mem.grow],by simp [Mem.grow];omega⟩
structure Rdo (m:Mem)(l:Nat)(cells:List Value)(e:TypeId)(fam:Nat):Prop where
 blk:m.blks.get l=some ⟨cells,e,fam⟩
 fm:∃ f,m.fams.get fam=some f∧f.kill≤l
 lt:l < m.next
 flt:fam < m.next
theorem Own.rdo (h:Own m l cells e fam):Rdo m l cells e fam:=⟨h.blk,by obtain⟨k,h1,h2⟩:=h.fm;exact⟨_,h1,h2⟩,h.lt,h.flt⟩
theorem Rdo.readable (h:Rdo m l cells e fam):m.readable l=some ⟨cells,e,fam⟩:=Mem.readable_iff.2 ⟨h.blk,h.fm⟩
theorem Rdo.load (h:Rdo m l cells e fam)(k:Nat)(hk:off+k≤cells.length):loadRow m ⟨l,off,none⟩ k=some (Zao cells off k):=by
 simp [loadRow,h.readable,hk]
theorem Rdo.load1 (h:Rdo m l cells e fam){v:Value}(hv:cells[off]?=some v):loadRow m ⟨l,off,none⟩ 1=some [v]:=by
 have hlt:=(List.getElem?_eq_some_iff.1 hv).1
 rw [h.load 1 (by omega)]
 unfold Zao
 rw [List.getElem?_eq_getElem hlt] at hv
 simp only [Option.some.injEq] at hv
 rw [List.drop_eq_getElem_cons hlt,hv]
 rfl
def Zaa (m m':Mem)(fs:List Nat):Prop:=
 m.next≤m'.next∧(∀ l b,l < m.next→m.blks.get l=some b→b.fam < m.next→b.fam∉fs→m'.blks.get l=some b)∧(∀ f,f < m.next→f∉fs→m'.fams.get f=m.fams.get f)∧(∀ l,l < m.next→l∉fs→m'.maps.get l=m.maps.get l)
theorem Own.keep {m m':Mem}{fs:List Nat}(h:Own m l cells e fam)(k:Zaa m m' fs)(hf:fam∉fs):Own m' l cells e fam:=by
 obtain⟨q,h1,h2⟩:=h.fm
 exact⟨k.2.1 l _ h.lt h.blk h.flt hf,⟨q,by rw [k.2.2.1 fam h.flt hf];exact h1,h2⟩,Nat.lt_of_lt_of_le h.lt k.1,Nat.lt_of_lt_of_le h.flt k.1⟩
theorem Rdo.keep {m m':Mem}{fs:List Nat}(h:Rdo m l cells e fam)(k:Zaa m m' fs)(hf:fam∉fs):Rdo m' l cells e fam:=by
 obtain⟨q,h1,h2⟩:=h.fm
 exact⟨k.2.1 l _ h.lt h.blk h.flt hf,⟨q,by rw [k.2.2.1 fam h.flt hf];exact h1,h2⟩,Nat.lt_of_lt_of_le h.lt k.1,Nat.lt_of_lt_of_le h.flt k.1⟩
theorem Zaa.refl (m:Mem)(fs:List Nat):Zaa m m fs:=⟨Nat.le_refl _,fun _ _ _ h _ _=>h,fun _ _ _=>rfl,fun _ _ _=>rfl⟩
theorem Zaa.trans {m1 m2 m3:Mem}{fs:List Nat}(h:Zaa m1 m2 fs)(k:Zaa m2 m3 fs):Zaa m1 m3 fs:=
 ⟨Nat.le_trans h.1 k.1,fun l b hl hb hg hf=>k.2.1 l b (Nat.lt_of_lt_of_le hl h.1) (h.2.1 l b hl hb hg hf) (Nat.lt_of_lt_of_le hg h.1) hf,fun f hl hf=>(k.2.2.1 f (Nat.lt_of_lt_of_le hl h.1) hf).trans (h.2.2.1 f hl hf),fun f hl hf=>(k.2.2.2 f (Nat.lt_of_lt_of_le hl h.1) hf).trans (h.2.2.2 f hl hf)⟩
theorem Zaa.mono {m1 m2:Mem}{fs gs:List Nat}(h:Zaa m1 m2 fs)(hg:∀ x∈fs,x∈gs):Zaa m1 m2 gs:=
 ⟨h.1,fun l b hl hb hq hf=>h.2.1 l b hl hb hq (fun hx=>hf (hg _ hx)),fun f hl hf=>h.2.2.1 f hl (fun hx=>hf (hg _ hx)),fun f hl hf=>h.2.2.2 f hl (fun hx=>hf (hg _ hx))⟩
theorem Za4 (m:Mem)(cs:List Value)(e:TypeId)(fs:List Nat):Zaa m (m.new cs e) fs:=by
 refine⟨by simp [Mem.new],fun l b hl hb _ _=>?_,fun f hl _=>?_,fun _ _ _=>rfl⟩
 ·simp only [Mem.new];rw [Tree.get_set_ne _ _ (by omega)];exact hb
 ·simp only [Mem.new];rw [Tree.get_set_ne _ _ (by omega)]
theorem Own.keeps_put (h:Own m l cells e fam)(cs:List Value){fs:List Nat}(hf:fam∈fs):Zaa m (m.put l ⟨cells,e,fam⟩ cs) fs:=by
 refine⟨Nat.le_refl _,fun l' b hl hb _ hn=>?_,fun f hl hn=>?_,fun _ _ _=>rfl⟩
 ·simp only [Mem.put]
  rw [Tree.get_set_ne _ _ (fun e0=>?_)]
  ·exact hb
  ·subst e0
   rw [h.blk] at hb
   simp only [Option.some.injEq] at hb
   subst hb
   exact hn hf
 ·simp only [Mem.put];rw [Tree.get_set_ne _ _ (fun e0=>hn (by rw [e0];exact hf))]
theorem Own.keeps_grow (h:Own m l cells e fam)(cs:List Value)(k:Bool){fs:List Nat}(hf:fam∈fs):Zaa m (m.grow ⟨cells,e,fam⟩ cs k) fs:=by
 refine⟨by simp [Mem.grow],fun l' b hl hb _ hn=>?_,fun f hl hn=>?_,fun _ _ _=>rfl⟩
 ·simp only [Mem.grow];rw [Tree.get_set_ne _ _ (by omega)];exact hb
 ·simp only [Mem.grow];rw [Tree.get_set_ne _ _ (fun e0=>hn (by rw [e0];exact hf))]
end
def Zil (P:Program)(s:TypeId)(f off:Nat):Bool:=(Zhq P s f).any (fun fl=>(Zaj P fl.type).any (fun z=>decide (0 < z)) && fl.offset == off)
def Zrx (P:Program)(t:TypeId):Bool:=(P.underlying t).isSome && !Zh8 P t
section
variable {P:Program}{H:Zbk}{m:Mem}{ρ:Operand→Value}{d:Option Tmp}{ty:TypeId}{pos:String}{af:Array Edge}{g:Option (Nat × Bool)}{o:Oper}
theorem Ya7 (op:UnOp)(a:TypeId)(x:Operand):sop P H ρ ⟨d,.unOp op a x,ty,pos,af,g⟩ m=Zoi P ρ ⟨d,.unOp op a x,ty,pos,af,g⟩ op x m:=rfl
theorem Z6p (c a b:Operand):sop P H ρ ⟨d,.pick c a b,ty,pos,af,g⟩ m=match ρ c with
  | .bool t=>some (if t then ρ a else ρ b,m)
  | _=>none:=rfl
theorem Zv3 (x:Operand):sop P H ρ ⟨d,.nilCheck x,ty,pos,af,g⟩ m=match ρ x with
  | .pointer (some a)=>some (.pointer (some a),m)
  | .func (.func f) a b=>some (.func (.func f) a b,m)
  | .iface t v=>some (.iface t v,m)
  | _=>none:=rfl
theorem Zyv (x:Operand)(i:Nat):sop P H ρ ⟨d,.extract x i,ty,pos,af,g⟩ m=match ρ x with
  | .tuple vs=>vs[i]?.map (·,m)
  | _=>none:=rfl
theorem Zr2 (s:TypeId)(x:Operand)(f:Nat):sop P H ρ ⟨d,.fieldAddr s x f,ty,pos,af,g⟩ m=Zbt P ρ ⟨d,.fieldAddr s x f,ty,pos,af,g⟩ s x f m:=rfl
theorem Zqx {s:TypeId}{f off:Nat}(h:Zil P s f off=true)(x:Operand):Zbt P ρ o s x f m=match ρ x with
  | .pointer (some a)=>if a.spot.isNone then some (.pointer (some { a with off:=a.off+off }),m) else none
  | _=>none:=by
 unfold Zil at h
 unfold Zbt
 cases hf:Zhq P s f with
 | none=>rw [hf] at h;simp at h
 | some fl =>
  rw [hf] at h
  simp only [Option.any_some,Bool.and_eq_true,beq_iff_eq] at h
  cases hz:Zaj P fl.type with
  | none=>rw [hz] at h;simp at h
  | some z =>
   rw [hz] at h
   simp only [Option.any_some,decide_eq_true_eq] at h
   obtain⟨n,rfl⟩:∃ n,z=n+1:=⟨z - 1,by omega⟩
   cases hx:ρ x with
   | pointer a=>cases a with
    | none=>rfl
    | some a=>simp only [hz,h.2]
   | _=>rfl
theorem Z68 (t:TypeId)(x:Operand):sop P H ρ ⟨d,.load t x,ty,pos,af,g⟩ m=Zf5 P ρ ⟨d,.load t x,ty,pos,af,g⟩ t x m:=rfl
theorem Z3w {t:TypeId}(h:Zrx P t=true)(x:Operand):Zf5 P ρ o t x m=match ρ x with
  | .pointer (some a)=>match loadRow m a 1 with
   | some [v]=>some (v,m)
   | _=>none
  | _=>none:=by
 unfold Zrx at h
 unfold Zf5
 rw [Bool.and_eq_true,Bool.not_eq_true'] at h
 obtain⟨u,hu⟩:=Option.isSome_iff_exists.1 h.1
 simp only [hu,h.2]
 rfl
theorem Z3 (t:TypeId)(x y:Operand):sop P H ρ ⟨d,.store t x y,ty,pos,af,g⟩ m=Zky P ρ ⟨d,.store t x y,ty,pos,af,g⟩ t x y m:=rfl
theorem Z0c {t:TypeId}{z:Nat}(h:Zaj P t=some z)(x y:Operand):Zky P ρ o t x y m=match ρ x with
  | .pointer (some a)=>if (ρ y).cells.size=z then (Zad m a (ρ y).cells.toList).map (undef,·) else none
  | _=>none:=by
 unfold Zky
 cases hx:ρ x with
 | pointer a=>cases a with
  | none=>rfl
  | some a =>
   simp only [h]
   by_cases e:(ρ y).cells.size=z
   ·rw [if_pos e,if_pos (by rw [e];simp)]
   ·rw [if_neg e,if_neg (by simp;exact fun h=>e h.symm)]
 | _=>rfl
theorem Z8o (x:Operand)(t:TypeId):sop P H ρ ⟨d,.call { callee:=.builtin .len,args:=#[x],argTypes:=#[t] },ty,pos,af,g⟩ m=Zse P ρ #[x] #[t] m:=rfl
theorem Zw4 {t e:TypeId}(h:P.underlying t=some (.slice e))(x:Operand):Zse P ρ #[x] #[t] m=match ρ x with
  | .slice _ n _=>some (.int .i64 n,m)
  | _=>none:=by
 simp only [Zse,h]
 cases ρ x <;> rfl
theorem Z7 (a b:TypeId)(x:Operand):sop P H ρ ⟨d,.convert a b x,ty,pos,af,g⟩ m=Zd8 P ρ ⟨d,.convert a b x,ty,pos,af,g⟩ a b x m:=rfl
theorem Z1v (s x:Operand)(a b:TypeId):sop P H ρ ⟨d,.call { callee:=.builtin .append,args:=#[s,x],argTypes:=#[a,b] },ty,pos,af,g⟩ m=Zer P ρ #[s,x] #[a,b] m:=rfl
theorem Zrj (t:TypeId)(n:Nat)(parts:Array (Nat × Operand)):sop P H ρ ⟨d,.buildSlice t n parts,ty,pos,af,g⟩ m=Zck P ρ ⟨d,.buildSlice t n parts,ty,pos,af,g⟩ t n parts m:=rfl
end
def Code.sub:List Nat→Code→Code
 | [],c=>c
 | 0::p,.seq a _=>Code.sub p a
 | _::p,.seq _ b=>Code.sub p b
 | 0::p,.cond _ a _=>Code.sub p a
 | _::p,.cond _ _ b=>Code.sub p b
 | _::p,.block _ b=>Code.sub p b
 | _::p,.loop b=>Code.sub p b
 | _,c=>c
def Zll (f:Func):Code:=match f.body with | some c=>c | none=>.skip
section
variable {P:Program}{H:Zbk}{m:Mem}{t:Tree Value}
theorem Zt (cs:List Value)(e:TypeId)(off k:Nat)(h:off+k≤cs.length):loadRow (m.new cs e) ⟨m.next,off,none⟩ k=some (Zao cs off k):=(Own.new m cs e).load k h
def Zir (P:Program)(e:TypeId)(z bt:Nat):Bool:=(P.info? e).any fun i=>i.size == z && i.bytes == bt && decide (0 < z) && i.zero.any (fun v=>v.cells.size == z)
theorem Zlf {ty e:TypeId}{z bt wb wf n k:Nat}{cells news:List Value}(ht:P.underlying ty=some (.slice e))(ha:Zir P e z bt=true)(h:Own m wb cells e wf)(hn:n * z=cells.length)(hk:k≠0)(hnews:news.length=k * z)(h1:news.all one=true)
  (hb:(n+k) * bt≤140737488355328) (h63:n+k≤9223372036854775807) :
  Zak P ty m (.slice (some ⟨wb,0,none⟩) n n) news k=some (.slice (some ⟨m.next,0,none⟩) (n+k) (n+k),m.grow ⟨cells,e,wf⟩ (cells++news) true):=by
 unfold Zir at ha
 cases hi:P.info? e with
 | none=>rw [hi] at ha;simp at ha
 | some i =>
  rw [hi] at ha
  simp only [Option.any_some,Bool.and_eq_true,beq_iff_eq,decide_eq_true_eq] at ha
  obtain⟨⟨⟨ha1,ha2⟩,ha3⟩,ha4⟩:=ha
  have hpos:0 < k * z:=Nat.mul_pos (by omega) ha3
  unfold Zak
  simp only [ht,hi,h.writable]
  rw [if_neg (by simp [ha1,ha3,ha4,hnews];simpa using h1)]
  rw [if_pos (by simp [ha2,hb,h63])]
  rw [if_neg (by simp)]
  rw [if_neg (by simpa using hk)]
  rw [if_neg (by rw [ha1,hnews,Nat.zero_add,hn];omega)]
  rw [if_pos (by simp [ha1,hn])]
  simp [ha1,hn]
end
def apF:=Zer
section
variable {P:Program}{H:Zbk}{m:Mem}{ρ:Operand→Value}{o:Oper}
theorem Zbb {ty tx e2:TypeId}{z:Nat}(htx:P.underlying tx=some (.slice e2))(hz:Zaj P e2=some z)(s x:Operand):Zer P ρ #[s,x] #[ty,tx] m=match ρ x with
  | .slice (some a) k c=>if k=0 then Zak P ty m (ρ s) [] 0 else match loadRow m a (k * z) with
   | some news=>Zak P ty m (ρ s) news k
   | none=>none
  | .slice none 0 0=>Zak P ty m (ρ s) [] 0
  | _=>apF P ρ #[s,x] #[ty,tx] m:=by
 have hne:Zrd P tx=false:=by unfold Zrd;rw [htx]
 cases hx:ρ x with
 | slice ao k c =>
  cases ao with
  | some a =>
   by_cases hk:k=0
   ·simp [Zer,hne,Znv,htx,hz,hx,hk]
   ·cases hl:loadRow m a (k * z) <;> simp [Zer,hne,Znv,htx,hz,hx,hk,hl]
  | none =>
   cases k <;> cases c <;> first
    | rfl
    | simp [Zer,hne,Znv,htx,hz,hx]
 | _=>rfl
end
theorem Zau (k:IntKind)(n:Int):one (.int k n)=true:=rfl
theorem Z1 (b:Bool):one (.bool b)=true:=rfl
theorem Z3s (s:ByteArray):one (.string s)=true:=rfl
theorem Z2t (a:Option Addr):one (.pointer a)=true:=rfl
theorem Zae (a:Option Addr)(n c:Nat):one (.slice a n c)=true:=rfl
theorem Zyr (k:IntKind)(n:Int):(Value.int k n).cells=#[.int k n]:=rfl
theorem Zvx (b:Bool):(Value.bool b).cells=#[.bool b]:=rfl
theorem Zxs (s:ByteArray):(Value.string s).cells=#[.string s]:=rfl
theorem Zxu (a:Option Addr):(Value.pointer a).cells=#[.pointer a]:=rfl
theorem Zsk (a:Option Addr)(n c:Nat):(Value.slice a n c).cells=#[.slice a n c]:=rfl
theorem Zym (cs:Array Value):(Value.agg cs).cells=cs:=rfl
theorem Zlb {P:Program}{m:Mem}{ty e:TypeId}{z bt wb wf n:Nat}{cells:List Value}(ht:P.underlying ty=some (.slice e))(ha:Zir P e z bt=true)(h:Own m wb cells e wf)(hb:n * bt≤140737488355328)(h63:n≤9223372036854775807) :
  Zak P ty m (.slice (some ⟨wb,0,none⟩) n n) [] 0=some (.slice (some ⟨wb,0,none⟩) n n,m):=by
 unfold Zir at ha
 cases hi:P.info? e with
 | none=>rw [hi] at ha;simp at ha
 | some i =>
  rw [hi] at ha
  simp only [Option.any_some,Bool.and_eq_true,beq_iff_eq,decide_eq_true_eq] at ha
  obtain⟨⟨⟨ha1,ha2⟩,ha3⟩,ha4⟩:=ha
  unfold Zak
  simp only [ht,hi,h.writable]
  rw [if_neg (by simp [ha1,ha3,ha4])]
  rw [if_pos (by simp [ha2,hb,h63])]
  rw [if_neg (by simp)]
  rw [if_pos (by simp)]
end Go.Sh
namespace Go.Sh
section
variable {P:Program}{T:FuncId→Option Func}{S:Zb4}{t t':Tree Value}{m m':Mem}
end
end Go.Sh
namespace Go.Sh
def Yba:=Zd
def ixF:=Zbf
section
variable {P:Program}{H:Zbk}{m:Mem}{ρ:Operand→Value}{o:Oper}{d:Option Tmp}{ty:TypeId}{pos:String}{af:Array Edge}{g:Option (Nat × Bool)}
theorem Z88 (e:TypeId)(x:Operand):sop P H ρ ⟨d,.box e x,ty,pos,af,g⟩ m=Zs5 P ρ ⟨d,.box e x,ty,pos,af,g⟩ e x m:=rfl
theorem Zbn {e:TypeId}(h:(P.info? e).isSome=true)(x:Operand):Zs5 P ρ o e x m=some (.pointer (some ⟨m.next,0,none⟩),m.new (ρ x).cells.toList e):=by
 obtain⟨i,hi⟩:=Option.isSome_iff_exists.1 h
 simp [Zs5,hi]
theorem Z40 (e:TypeId):sop P H ρ ⟨d,.alloc e,ty,pos,af,g⟩ m=Zjb P ρ ⟨d,.alloc e,ty,pos,af,g⟩ e m:=rfl
theorem Z35 (t:TypeId)(ps:Array (Nat × Operand)):sop P H ρ ⟨d,.build t ps,ty,pos,af,g⟩ m=Zen P ρ ⟨d,.build t ps,ty,pos,af,g⟩ t ps m:=rfl
def Zfk (P:Program)(t:TypeId)(zero:List Value)(places:List (Nat × Nat)):Bool:=
 (P.info? t).any fun i=>i.zero.any fun z=>Zbs z.cells && eqL z.cells.toList zero && match P.underlying t with
  | some (.struct fields)=>Zjk P (Zlx fields) == some places.toArray
  | _=>false
theorem Zax {t:TypeId}{zero:List Value}{places:List (Nat × Nat)}(h:Zfk P t zero places=true)(ps:Array (Nat × Operand)) :
  Zen P ρ o t ps m=(Instr.fill (places.toArray[·]?) zero.toArray (ps.map fun (i,x)=>(i,ρ x)).toList).map fun cs=>(.agg cs,m):=by
 unfold Zfk at h
 cases hi:P.info? t with
 | none=>rw [hi] at h;simp at h
 | some i =>
  rw [hi] at h
  simp only [Option.any_some] at h
  cases hz:i.zero with
  | none=>rw [hz] at h;simp at h
  | some z =>
   rw [hz] at h
   simp only [Option.any_some,Bool.and_eq_true] at h
   obtain⟨⟨h1,h2⟩,h3⟩:=h
   have hzc:z.cells=zero.toArray:=by
    have:=Zm9 _ _ h2
    apply Array.ext';simpa using this
   cases hu:P.underlying t with
   | none=>rw [hu] at h3;simp at h3
   | some u =>
    rw [hu] at h3
    cases u with
    | struct fields =>
     simp only [beq_iff_eq] at h3
     unfold Zen
     rw [hzc] at h1
     simp only [hi,hz,h1,hu,h3,hzc,if_true]
    | _=>simp at h3
theorem Zta (t:TypeId)(x ix:Operand):sop P H ρ ⟨d,.indexAddr t x ix,ty,pos,af,g⟩ m=Zbf P ρ ⟨d,.indexAddr t x ix,ty,pos,af,g⟩ t x ix m:=rfl
theorem Zs8 {t e:TypeId}{z:Nat}(ht:P.underlying t=some (.slice e))(hz:Zaj P e=some z)(x ix:Operand):Zbf P ρ o t x ix m=match ρ x,ρ ix with
  | .slice (some a) n c,.int k i=>if 0≤i∧i≤9223372036854775807∧i.toNat < n∧a.spot.isNone=true then some (.pointer (some { a with off:=a.off+i.toNat * z }),m) else ixF P ρ o t x ix m
  | _,_=>ixF P ρ o t x ix m:=by
 cases hx:ρ x with
 | slice ao n c =>
  cases ao with
  | none=>rfl
  | some a =>
   cases hi:ρ ix with
   | int k i =>
    by_cases h:0≤i∧i≤9223372036854775807∧i.toNat < n∧a.spot.isNone=true
    ·simp only [if_pos h]
     have h':Zbg (.int k i)=some i.toNat:=by simp [Zbg,h.1,h.2.1]
     simp only [Zbf,hx,hi,h',ht,hz]
     rw [if_pos (by simp [h.2.2.1,h.2.2.2])]
    ·simp only [if_neg h];rfl
   | _=>rfl
 | _=>rfl
theorem Zz {α β:Type}(x:Sem α)(f:α→Sem β):Zjk P (x >>= f)=(Zjk P x).bind fun a=>Zjk P (f a):=by
 induction x with
 | pure a=>rfl
 | program k ih=>exact ih P
 | mark _ k ih=>exact ih
 | _=>rfl
theorem Zgy {t yt:TypeId}(ht:P.underlying t=some .bool)(op:BinOp)(hop:op=.eql∨op=.neq)(x y:Operand):Zd P ρ ⟨d,.binOp op t x y yt,ty,pos,af,g⟩ op t x y m=match ρ x,ρ y with
  | .bool a,.bool b=>(Zeh op (a == b)).map (·,m)
  | _,_=>Yba P ρ ⟨d,.binOp op t x y yt,ty,pos,af,g⟩ op t x y m:=by
 cases hx:ρ x with
 | bool a =>
  cases hy:ρ y with
  | bool b =>
   have hc:Zbq P ρ ⟨d,.binOp op t x y yt,ty,pos,af,g⟩=Zeh op (a == b):=by
    unfold Zbq
    rw [if_pos (by simp [Op.operands,hx,hy,Zaz])]
    have he:Zjk P (Op.equal t (.bool a) (.bool b))=some (a == b):=by
     show Zjk P (Op.equalIn (9999+1) t (.bool a) (.bool b))=some (a == b)
     unfold Op.equalIn
     rw [Zz]
     have hu:Zjk P (underlying t)=some .bool:=by
      unfold underlying
      rw [Zz]
      show (some P).bind _=_
      simp [ht]
      rfl
     rw [hu]
     rfl
    have hq:Zjk P (execOp ρ ⟨d,.binOp op t x y yt,ty,pos,af,g⟩)=(Zeh op (a == b)).map Next.value:=by
     have hmap:∀ {α β:Type} (f:α→β) (s:Sem α),Zjk P (f <$> s)=(Zjk P s).map f:=by
      intro α β f s
      have:f <$> s=s >>= fun a=>pure (f a):=rfl
      rw [this,Zz]
      cases Zjk P s <;> rfl
     rcases hop with rfl | rfl
     ·show Zjk P (Next.value <$> (do eqGuard .eql t x y (ρ x) (ρ y);binOp .eql t (ρ x) (ρ y)))=_
      rw [hmap,hx,hy]
      have:Zjk P (do eqGuard .eql t x y (.bool a) (.bool b);binOp .eql t (.bool a) (.bool b):Sem Value)=some (.bool (a == b)):=by
       show Zjk P (Op.equal t (.bool a) (.bool b) >>= fun r=>pure (Value.bool r))=_
       rw [Zz,he]
       rfl
      rw [this];rfl
     ·show Zjk P (Next.value <$> (do eqGuard .neq t x y (ρ x) (ρ y);binOp .neq t (ρ x) (ρ y)))=_
      rw [hmap,hx,hy]
      have:Zjk P (do eqGuard .neq t x y (.bool a) (.bool b);binOp .neq t (.bool a) (.bool b):Sem Value)=some (.bool (!(a == b))):=by
       show Zjk P (Op.equal t (.bool a) (.bool b) >>= fun r=>pure (Value.bool !r))=_
       rw [Zz,he]
       rfl
      rw [this];rfl
    rw [hq]
    rcases hop with rfl | rfl <;> simp [Zeh,Zaz]
   simp [Zd,ht,hx,hy,hc]
  | _=>rfl
 | _=>rfl
end
end Go.Sh
namespace Go.Sh
section
variable {P:Program}{T:FuncId→Option Func}{S:Zb4}{t t':Tree Value}{m m':Mem}
theorem Z6v {f:FuncId}{v:Value}(h:S f=[([],v)]):Zaq P T S f [] m=some (v,m):=by
 unfold Zaq Zcn
 rw [h]
 simp [eqL]
end
end Go.Sh
namespace Go.Sh
section
variable {P:Program}{T:FuncId→Option Func}{S:Zb4}{t t':Tree Value}{m m':Mem}{H:Zbk}
def Zk0:Code→List Oper
 | .region _ ops _=>ops.toList
 | _=>[]
theorem Z5a (k:IntKind)(n:Int):eqV (.int k n) (.int k n)=true:=by simp [eqV]
theorem Zqe (a:Option Addr)(n c:Nat):eqV (.slice a n c) (.slice a n c)=true:=by simp [eqV]
theorem Z4n (a:Option Addr):eqV (.pointer a) (.pointer a)=true:=by simp [eqV]
end
end Go.Sh
namespace Go.Sh
section
variable {P:Program}{T:FuncId→Option Func}{S:Zb4}{t t':Tree Value}{m m':Mem}
end
end Go.Sh
namespace Go.Sh
def mkF:=Zc3
section
variable {P:Program}{H:Zbk}{m:Mem}{ρ:Operand→Value}{o:Oper}{d:Option Tmp}{ty:TypeId}{pos:String}{af:Array Edge}{g:Option (Nat × Bool)}
theorem Zi7 {ty e:TypeId}{z bt k:Nat}{news:List Value}(ht:P.underlying ty=some (.slice e))(ha:Zir P e z bt=true)(hk:k≠0)(hnews:news.length=k * z)(h1:news.all one=true)(hb:k * bt≤140737488355328)(h63:k≤9223372036854775807) :
  Zak P ty m (.slice none 0 0) news k=some (.slice (some ⟨m.next,0,none⟩) k k,m.new news e):=by
 unfold Zir at ha
 cases hi:P.info? e with
 | none=>rw [hi] at ha;simp at ha
 | some i =>
  rw [hi] at ha
  simp only [Option.any_some,Bool.and_eq_true,beq_iff_eq,decide_eq_true_eq] at ha
  obtain⟨⟨⟨ha1,ha2⟩,ha3⟩,ha4⟩:=ha
  unfold Zak
  simp only [ht,hi]
  rw [if_neg (by simp [ha1,ha3,ha4,hnews];simpa using h1)]
  rw [if_neg (by simpa using hk)]
  rw [if_pos (by rw [ha2];simp [hb,h63])]
def Z5o (m:Mem)(sv:Value)(cells:List Value)(e:TypeId)(fam:Nat):Prop:=
 (cells=[]∧sv=.slice none 0 0)∨(cells≠[]∧∃ b,sv=.slice (some ⟨b,0,none⟩) cells.length cells.length∧Own m b cells e fam)
theorem Z5o.keep {m m':Mem}{sv:Value}{cells:List Value}{e:TypeId}{fam:Nat}{fs:List Nat}(h:Z5o m sv cells e fam)(k:Zaa m m' fs)(hf:cells≠[]→fam∉fs):Z5o m' sv cells e fam:=by
 rcases h with h | ⟨h1,b,h2,h3⟩
 ·exact Or.inl h
 ·exact Or.inr ⟨h1,b,h2,h3.keep k (hf h1)⟩
theorem Z5o.flt {sv:Value}{cells:List Value}{e:TypeId}{fam:Nat}(h:Z5o m sv cells e fam)(hne:cells≠[]):fam < m.next:=by
 rcases h with⟨h,_⟩ | ⟨_,b,_,h3⟩
 ·exact absurd h hne
 ·exact h3.flt
theorem Zs6 (t:TypeId)(a b:Operand):sop P H ρ ⟨d,.makeSlice t a b,ty,pos,af,g⟩ m=Zc3 P ρ ⟨d,.makeSlice t a b,ty,pos,af,g⟩ t a b m:=rfl
theorem Ze7 {t e:TypeId}{z bt:Nat}(ht:P.underlying t=some (.slice e))(ha:Zir P e z bt=true)(a b:Operand):Zc3 P ρ o t a b m=match ρ a,ρ b with
  | .int _ x,.int _ y=>if 0≤x∧x≤y∧y≤9223372036854775807∧y.toNat * bt≤281474976710656 then (match Zdx P e x.toNat with
   | some zs=>some (.slice (some ⟨m.next,0,none⟩) x.toNat x.toNat,m.new zs e)
   | none=>none) else mkF P ρ o t a b m
  | _,_=>mkF P ρ o t a b m:=by
 unfold Zir at ha
 cases hi:P.info? e with
 | none=>rw [hi] at ha;simp at ha
 | some i =>
  rw [hi] at ha
  simp only [Option.any_some,Bool.and_eq_true,beq_iff_eq,decide_eq_true_eq] at ha
  obtain⟨⟨⟨ha1,ha2⟩,ha3⟩,ha4⟩:=ha
  cases hx:ρ a with
  | int k x =>
   cases hy:ρ b with
   | int j y =>
    by_cases h:0≤x∧x≤y∧y≤9223372036854775807∧y.toNat * bt≤281474976710656
    ·simp only [if_pos h]
     have n1:Zbg (.int k x)=some x.toNat:=by simp [Zbg];omega
     have n2:Zbg (.int j y)=some y.toNat:=by simp [Zbg];omega
     simp only [Zc3,ht,hi,hx,hy,n1,n2]
     cases Zdx P e x.toNat with
     | none=>rfl
     | some zs =>
      simp only
      rw [if_pos (by simp [ha1,ha2,ha3,h.2.2.2];omega)]
    ·simp only [if_neg h];rfl
   | _=>rfl
  | _=>rfl
end
end Go.Sh
namespace Go.Sh
open Go.RowKit Go.WideShapes Go.ChangeShapes
variable {P:Program}{J:Inj}{m:Mem}{w:World}
structure Zq9 where
 cells:List Value
 e:TypeId
 a:Addr
 n:Nat
 cap:Nat
 z:Nat
def Zdo (w:World):Zed:=⟨(· < w.heap.size),fun _=>False,fun _ h=>h.elim⟩
structure Zq9.Ok (P:Program)(w:World)(s:Zq9):Prop where
 info:∃ i,P.info? s.e=some i∧i.size=s.z
 clo:Zdk s.cells=true
 le:s.n≤s.cap
 max:s.cap≤9223372036854775807
 spot:s.cap≠0→s.a.spot=none
 lt:s.cells≠[]→s.a.block < w.heap.size
 cell:∀ i v,s.cells[i]?=some v→w.cell? ⟨s.a.block,s.a.off+i,none⟩=some v
def addArg (m:Mem)(s:Zq9):Mem:=
 match s.cells with
 | []=>{ next:=m.next+1,blks:=m.blks,fams:=m.fams,maps:=m.maps }
 | _::_=>{ next:=m.next+1,blks:=m.blks.set m.next ⟨s.cells,s.e,m.next⟩,fams:=m.fams.set m.next ⟨none,m.next⟩,maps:=m.maps }
def Zq9.val (s:Zq9)(l:Nat):Value:=.slice (some ⟨l,0,none⟩) s.n s.n
theorem Zc1 (m:Mem)(s:Zq9):(addArg m s).next=m.next+1:=by unfold addArg;split <;> rfl
theorem Zei (m:Mem)(s:Zq9):(addArg m s).maps=m.maps:=by unfold addArg;split <;> rfl
theorem Zmy {m:Mem}{s:Zq9}(hdom:∀ l b,m.blks.get l=some b→l < m.next)(l:Nat)(b:Blk)(h:(addArg m s).readable l=some b) :
  (l=m.next∧s.cells≠[]∧b=⟨s.cells,s.e,m.next⟩)∨(l < m.next∧m.readable l=some b):=by
 unfold addArg at h
 split at h
 ·exact Or.inr ⟨hdom l b (Mem.readable_iff.1 h).1,h⟩
 ·rename_i v r hc
  obtain⟨g1,f,g2,g3⟩:=Mem.readable_iff.1 h
  simp only at g1 g2
  by_cases e:l=m.next
  ·subst e
   rw [Tree.get_set_self] at g1
   simp only [Option.some.injEq] at g1
   exact Or.inl ⟨rfl,by rw [hc];simp,g1.symm⟩
  ·rw [Tree.get_set_ne _ _ e] at g1
   have hl:=hdom l b g1
   refine Or.inr ⟨hl,?_⟩
   by_cases ef:b.fam=m.next
   ·rw [ef,Tree.get_set_self] at g2
    simp only [Option.some.injEq] at g2
    subst g2
    simp only at g3
    omega
   ·rw [Tree.get_set_ne _ _ ef] at g2
    exact Mem.readable_iff.2 ⟨g1,f,g2,g3⟩
theorem Zk8 {m:Mem}{s:Zq9}(hdom:∀ l b,m.blks.get l=some b→l < m.next)(l:Nat)(b:Blk)(h:(addArg m s).writable l=some b):l < m.next∧m.writable l=some b:=by
 unfold addArg at h
 split at h
 ·exact⟨hdom l b (Mem.writable_iff.1 h).1,h⟩
 ·obtain⟨g1,f,g2,g3,g4⟩:=Mem.writable_iff.1 h
  simp only at g1 g2
  by_cases ef:b.fam=m.next
  ·rw [ef,Tree.get_set_self] at g2
   simp only [Option.some.injEq] at g2
   subst g2
   cases g3
  ·rw [Tree.get_set_ne _ _ ef] at g2
   by_cases e:l=m.next
   ·subst e
    rw [Tree.get_set_self] at g1
    simp only [Option.some.injEq] at g1
    subst g1
    exact absurd rfl ef
   ·rw [Tree.get_set_ne _ _ e] at g1
    exact⟨hdom l b g1,Mem.writable_iff.2 ⟨g1,f,g2,g3,g4⟩⟩
theorem Za8.addArg (h:Za8 P J m (Zdo w) w w){s:Zq9}(hs:s.Ok P w):Za8 P (J.snoc s.a.block s.a.off (s.cap * s.z) s.z) (Sh.addArg m s) (Zdo w) w w:=by
 have hJ:=h.n
 have hlt:=fun l (hl:l < m.next)=>(hJ ▸ hl:l < J.n)
 have hself:(J.snoc s.a.block s.a.off (s.cap * s.z) s.z).blk m.next=s.a.block:=by simp [Inj.snoc,hJ]
 have hbase:(J.snoc s.a.block s.a.off (s.cap * s.z) s.z).base m.next=s.a.off:=by simp [Inj.snoc,hJ]
 have hblk:∀ l,l < m.next→(J.snoc s.a.block s.a.off (s.cap * s.z) s.z).blk l=J.blk l:=fun l hl=>J.snoc_blk_lt (hlt l hl) _ _ _ _
 have hbas:∀ l,l < m.next→(J.snoc s.a.block s.a.off (s.cap * s.z) s.z).base l=J.base l:=fun l hl=>J.snoc_base_lt (hlt l hl) _ _ _ _
 have rd:=fun l b=>Zmy (s:=s) h.dom l b
 have wr:=fun l b=>Zk8 (s:=s) h.dom l b
 constructor
 ·rw [Zc1];simp [Inj.snoc,hJ]
 ·intro l b hl
  rw [Zc1]
  unfold Sh.addArg at hl
  split at hl
  ·have:=h.dom l b hl;omega
  ·simp only [Tree.get_set] at hl
   split at hl
   ·omega
   ·have:=h.dom l b hl;omega
 ·intro l b hl
  unfold Sh.addArg at hl
  split at hl
  ·rw [J.snoc_esz_lt (hlt _ (h.dom l b hl))];exact h.esz l b hl
  ·simp only [Tree.get_set] at hl
   split at hl
   ·rename_i e
    subst e
    simp only [Option.some.injEq] at hl
    subst hl
    obtain⟨i,h1,h2⟩:=hs.info
    exact⟨i,h1,by simp [Inj.snoc,hJ,h2]⟩
   ·rw [J.snoc_esz_lt (hlt _ (h.dom l b hl))];exact h.esz l b hl
 ·intro l b hl
  rcases rd l b hl with⟨rfl,hne,_⟩ | ⟨g1,g2⟩
  ·rw [hself];exact hs.lt hne
  ·rw [hblk l g1];exact h.blk l b g2
 ·intro l b hl i v hv
  rcases rd l b hl with⟨rfl,hne,rfl⟩ | ⟨g1,g2⟩
  ·rw [hself,hbase]
   exact⟨v,hs.cell i v hv,.clo _ ((Zc0 _).1 hs.clo v (List.mem_of_getElem? hv))⟩
  ·obtain⟨v',k1,k2⟩:=h.rd l b g2 i v hv
   exact⟨v',by rw [hblk l g1,hbas l g1];exact k1,k2.snoc _ _ _ _⟩
 ·intro l b hl
  obtain⟨g1,g2⟩:=wr l b hl
  obtain⟨v1,v2,v3,v4⟩:=h.wr l b g2
  rw [hblk l g1,hbas l g1,J.snoc_ext_lt (hlt l g1)]
  exact⟨v1,v2,v3,v4⟩
 ·intro l1 b1 l2 b2 h1 h2 e
  obtain⟨g1,g2⟩:=wr l1 b1 h1
  rcases rd l2 b2 h2 with⟨rfl,hne,rfl⟩ | ⟨k1,k2⟩
  ·rw [hself,hblk l1 g1] at e
   exact absurd (show (Zdo w).F (J.blk l1) by rw [← e];exact hs.lt hne) (h.wr l1 b1 g2).1
  ·rw [hblk l1 g1,hblk l2 k1] at e
   rw [hbas l2 k1,hbas l1 g1]
   exact h.sep l1 b1 l2 b2 g2 k2 e
 ·exact h.below
 ·exact h.size
 ·intro g hg
  obtain⟨g1,g2,g3⟩:=h.glob g hg
  exact⟨Nat.lt_of_lt_of_le g1 (J.le_snoc _ _ _ _).n,by rw [J.snoc_blk_lt g1];exact g2,by rw [J.snoc_base_lt g1];exact g3⟩
 ·intro l s1 h1
  rw [Zei] at h1
  obtain⟨q1,q2,es',q3,q4⟩:=h.mp l s1 h1
  exact⟨by rw [Zc1];omega,by rw [hblk l q1];exact q2,es',by rw [hblk l q1];exact q3,q4.mono (J.le_snoc _ _ _ _)⟩
 ·intro l1 l2 s1 s2 h1 h2 e
  rw [Zei] at h1 h2
  rw [hblk _ (h.mp l1 s1 h1).1,hblk _ (h.mp l2 s2 h2).1] at e
  exact h.mi l1 l2 s1 s2 h1 h2 e
 ·intro l1 s1 l2 b2 h1 h2
  rw [Zei] at h1
  obtain⟨q1,q2,_⟩:=h.mp l1 s1 h1
  rw [hblk l1 q1]
  rcases rd l2 b2 h2 with⟨rfl,hne,_⟩ | ⟨k1,k2⟩
  ·rw [hself]
   exact fun e=>q2 (show (Zdo w).F (J.blk l1) by rw [← e];exact hs.lt hne)
  ·rw [hblk l2 k1];exact h.ms l1 s1 l2 b2 h1 k2
 ·exact fun _ _ _ h=>h
 ·intro l b hl
  obtain⟨g1,g2⟩:=wr l b hl
  rw [hblk l g1]
  exact h.sh l b g2
theorem Z4z {s:Zq9}(hne:s.cells≠[]):(Sh.addArg m s).blks.get m.next=some ⟨s.cells,s.e,m.next⟩∧(Sh.addArg m s).fams.get m.next=some ⟨none,m.next⟩:=by
 unfold Sh.addArg
 split
 ·rename_i hc;exact absurd hc hne
 ·exact⟨by simp [Tree.get_set_self],by simp [Tree.get_set_self]⟩
theorem Zz4 (hm:P.follows .mixedOrders=true){T:FuncId→Option Func}(hT:Zu3 P T){S:Zb4}(hSm:Zlk P S){f:FuncId}{fn:Func}(hf:P.funcs[f]?=some fn)(hb:fn.body.isSome=true){args args':List Value}{m':Mem}{v:Value}
  (h:Zaq P T S f args m=some (v,m')) (hv:Zaz v=true) (hM:Za8 P J m (Zdo w) w w) (hl:Zcr J args args') :
  Calls P f args'.toArray w fun e w'=>e=.returned v∧Below w.heap.size w w':=by
 obtain⟨n,hc⟩:=Zqz.1 h
 rcases Zn0 (B:=Zdo w) (W:=w) hm hT hSm n f args m _ _ hc with⟨_,hcall⟩ | ⟨_,hx⟩
 ·refine (hcall J args' w hl hM).mono ?_
  rintro e w' ⟨J',v',_,rfl,hv',hM'⟩
  rw [hv'.closed_eq hv]
  exact⟨rfl,hM'.below.below⟩
 ·obtain⟨_,_,hx⟩:=hx J args' hl
  have h1:=hx w
  exfalso
  simp only [callFunc,Sem.run_bind,run_program,Result.andThen_ok,hf] at h1
  cases hbd:fn.body with
  | none=>simp [hbd] at hb
  | some c =>
   by_cases hn:fn.name = "runtime.NumGoroutine" <;> simp [hn,hbd] at h1
section
variable {H:Type}{enc:TypeId × Value→H}
end
theorem Zk2 (m:Mem)(s:Zq9):Zaa m (Sh.addArg m s) []:=by
 unfold Sh.addArg
 split
 ·exact⟨by simp,fun _ _ _ h _ _=>h,fun _ _ _=>rfl,fun _ _ _=>rfl⟩
 ·refine⟨by simp,fun l b hl hb _ _=>?_,fun f hf _=>?_,fun _ _ _=>rfl⟩
  ·simp only;rw [Tree.get_set_ne _ _ (by omega)];exact hb
  ·simp only;rw [Tree.get_set_ne _ _ (by omega)]
end Go.Sh
