/- This text proves that an abstract, deterministic run of the model's code (logical blocks in the place of addresses, no capacities) is sound: where it answers, every run of the model answers alike and leaves all older memory as it was ('closed_true', 'call_sound'). No condition but what the theorems themselves say: the program's orders are Zuh, and the functions that are run pass the static check 'funcOk'. -/
import Derived.Test.YtbldiceiindbdaaGreatDoorShC
import Derived.Orders
import Derived.SliceStrings
import Derived.Deep.Slices
set_option linter.unusedVariables false
set_option linter.unusedSimpArgs false
namespace Go.Sh
open Go.RowKit
section
variable {P:Program}{H:Zc4}
theorem Zni {ρ ρ':Operand→Value}(o:Oper)(hs:∀ cs b,o.op≠.select cs b)(h:∀ x∈o.op.operands,ρ x=ρ' x):Zc0 P ρ o=Zc0 P ρ' o:=by
 unfold Zc0
 rw [execOp_congr o hs h]
 have:o.op.operands.all (fun x=>Zbs (ρ x))=o.op.operands.all (fun x=>Zbs (ρ' x)):=by
  rw [Bool.eq_iff_iff,Array.all_eq_true',Array.all_eq_true']
  constructor
  ·intro hh x hx;rw [← h x hx];exact hh x hx
  ·intro hh x hx;rw [h x hx];exact hh x hx
 rw [this]
theorem Zp6 {ρ ρ':Operand→Value}(o:Oper)(h:∀ x∈o.op.operands,ρ x=ρ' x)(m:Mem):sop P H ρ o m=sop P H ρ' o m:=by
 by_cases hs:∀ cs b,o.op≠.select cs b
 ·have hc:=Zni (P:=P) o hs h
  obtain⟨dst,op,type,pos,after,guard⟩:=o
  have pairs:∀ ps:Array (Nat × Operand),(∀ x∈ps.map (·.2),ρ x=ρ' x)→
    (ps.map fun (i,x)=>(i,ρ x))=(ps.map fun (i,x)=>(i,ρ' x)):=fun ps hp =>
   Array.map_congr_left fun p hm=>by
    obtain⟨i,x⟩:=p
    simp only [hp x (Array.mem_map.2 ⟨(i,x),hm,rfl⟩)]
  cases op <;> simp only [Op.operands] at h
  case select cs b=>exact absurd rfl (hs cs b)
  case build t ps=>simp only [sop,Zen];rw [pairs ps fun x hx=>h x (by simpa using hx)]
  case buildSlice t n ps=>simp only [sop,Zd2];rw [pairs ps fun x hx=>h x (by simpa using hx)]
  case makeFunc fn first captured =>
   have e1:=Array.map_congr_left (xs:=first) (f:=ρ) (g:=ρ') fun x hx=>h x (by simp [hx])
   have e2:=Array.map_congr_left (xs:=captured) (f:=ρ) (g:=ρ') fun x hx=>h x (by simp [hx])
   cases fn <;> simp only [sop] <;> first
    | rw [e1,e2]
    | rw [hc]
  case slice t x lo hi mx =>
   cases lo <;> cases hi <;> cases mx <;> simp only [sop,Zes] <;> first
    | (rw [hc];simp_all;done)
    | (simp_all;done)
  case makeMap t r=>cases r <;> simp_all [sop,Zhk]
  case call c =>
   obtain⟨callee,args,argTypes⟩:=c
   have ha:args.toList.map ρ=args.toList.map ρ':=List.map_congr_left fun x hx=>h x (by cases callee <;> simp_all [Call.operands])
   cases callee with
   | value f =>
    have hf:ρ f=ρ' f:=h f (by simp [Call.operands])
    simp only [sop,Zd9,Zmh,hf,ha]
   | invoke r n =>
    have hf:ρ r=ρ' r:=h r (by simp [Call.operands])
    simp only [sop,Zd9,Zim,hf,ha]
   | builtin b =>
    have hm:∀ x∈args.toList,ρ x=ρ' x:=fun x hx=>h x (by simp_all [Call.operands])
    have tail:(Zc0 P ρ ⟨dst,.call ⟨.builtin b,args,argTypes⟩,type,pos,after,guard⟩).map (·,m)=(Zc0 P ρ' ⟨dst,.call ⟨.builtin b,args,argTypes⟩,type,pos,after,guard⟩).map (·,m):=by rw [hc]
    cases b with
    | delete =>
     simp only [sop,Zd9,Zlm]
     rcases hl:args.toList with _ | ⟨x,_ | ⟨y,_ | ⟨z,r⟩⟩⟩ <;> rw [hl] at hm <;> rcases hl2:argTypes.toList with _ | ⟨u,_ | ⟨v,_ | ⟨w,r2⟩⟩⟩ <;> simp_all
    | append =>
     simp only [sop,Zd9,Zfz]
     rcases hl:args.toList with _ | ⟨x,_ | ⟨y,_ | ⟨z,r⟩⟩⟩ <;> rw [hl] at hm <;> rcases hl2:argTypes.toList with _ | ⟨u,_ | ⟨v,_ | ⟨w,r2⟩⟩⟩ <;> simp_all
    | len =>
     simp only [sop,Zd9,Zo2]
     rcases hl:args.toList with _ | ⟨x,_ | ⟨y,r⟩⟩ <;> rw [hl] at hm <;> rcases hl2:argTypes.toList with _ | ⟨u,_ | ⟨v,r2⟩⟩ <;> simp_all
    | copy =>
     simp only [sop,Zd9,Zvf]
     rcases hl:args.toList with _ | ⟨x,_ | ⟨y,_ | ⟨z,r⟩⟩⟩ <;> rw [hl] at hm <;> rcases hl2:argTypes.toList with _ | ⟨u,_ | ⟨v,_ | ⟨w,r2⟩⟩⟩ <;> simp_all
    | unsafeSliceData =>
     simp only [sop,Zd9,Zfn]
     rcases hl:args.toList with _ | ⟨x,_ | ⟨y,r⟩⟩ <;> rw [hl] at hm <;> simp_all
    | unsafeString =>
     simp only [sop,Zd9,Zfx]
     rcases hl:args.toList with _ | ⟨x,_ | ⟨y,_ | ⟨z,r⟩⟩⟩ <;> rw [hl] at hm <;> rcases hl2:argTypes.toList with _ | ⟨u,_ | ⟨v,_ | ⟨w,r2⟩⟩⟩ <;> simp_all
    | _=>exact tail
  all_goals first
   | exact congrArg (Option.map _) hc
   | (simp_all [sop,Ztm,Zin,Zjn,Zrn,Zg4,Zkx,Zc7,Zfs,Zc2,Ze1,Zea,Zer,Zfb,Zdd,Znz,Zfh,Zc,Zcz,Zf,Zd7,Zij,Zdu];done)
   | (simp_all [sop];done)
 ·obtain⟨dst,op,type,pos,after,guard⟩:=o
  cases op with
  | select cs b=>rfl
  | _=>exact absurd (fun cs b=>by simp) hs
end
section
variable {P:Program}{H:Zc4}
abbrev Zcu:=List (Nat × Value)
def Zcm:Zcu→Nat→Option Value
 | [],_=>none
 | (j,v)::r,i=>if i=j then some v else Zcm r i
def Has (t:Tree Value)(E:Zcu):Prop:=∀ i v,Zcm E i=some v→t.get i=some v
def lev (E:Zcu):Operand→Value
 | .tmp i=>(Zcm E i).getD undef
 | .const v=>v
 | .global g=>.pointer (some ⟨g,0,none⟩)
 | .func f=>.func (.func f) #[] #[]
def lhas (E:Zcu):Operand→Bool
 | .tmp i=>(Zcm E i).isSome
 | _=>true
theorem Zu8 {t:Tree Value}{E:Zcu}(h:Has t E){x:Operand}(hx:lhas E x=true):ev t x=lev E x:=by
 cases x with
 | tmp i =>
  simp only [lhas] at hx
  obtain⟨v,hv⟩:=Option.isSome_iff_exists.1 hx
  simp [ev,lev,hv,h i v hv]
 | _=>rfl
def Zlf (P:Program)(H:Zc4)(ds:List (Option Tmp))(o:Oper)(E:Zcu)(m:Mem):Option (Value × Mem):=
 match o.guard with
 | none=>sop P H (lev E) o m
 | some (j,w)=>match ds[j]? with
  | some (some d)=>match Zcm E d with
   | some v=>(match v with
    | .bool b=>if b=w then sop P H (lev E) o m else some (undef,m)
    | _=>some (undef,m))
   | none=>none
  | _=>none
def Zk0 (E:Zcu)(d:Option Tmp)(v:Value):Zcu:=match d with
 | some d=>(d,v)::E
 | none=>E
def Zll (P:Program)(H:Zc4)(ds:List (Option Tmp)):List Oper→Zcu→Mem→Option (Zcu × Mem)
 | [],E,m=>some (E,m)
 | o::rest,E,m=>match Zlf P H ds o E m with
  | some (v,m')=>Zll P H ds rest (Zk0 E o.dst v) m'
  | none=>none
def Zk3 (o:Oper):List Nat:=o.op.operands.toList.filterMap fun x=>match x with
 | .tmp i=>some i
 | _=>none
def Zj2:List Oper→List Nat→List Nat
 | [],_=>[]
 | o::r,D=>(Zk3 o).filter (fun i=>!D.contains i)++Zj2 r (o.dst.toList++D)
def Zum (E:Zcu):List Nat→Bool
 | []=>true
 | i::r=>(Zcm E i).isSome && Zum E r
theorem Ze9 {E:Zcu}:∀ {l:List Nat},Zum E l=true↔∀ i∈l,(Zcm E i).isSome=true
 | []=>by simp [Zum]
 | i::r=>by simp [Zum,Ze9 (l:=r)]
theorem Zkb {E:Zcu}{d:Option Tmp}{v:Value}{i:Nat}(h:(Zcm E i).isSome=true∨d=some i):(Zcm (Zk0 E d v) i).isSome=true:=by
  cases d with
  | none => rcases h with h | h
            · exact h
            · cases h
  | some d =>
    simp only [Zk0,Zcm]
    split
    · rfl
    · rename_i hne
      rcases h with h | h
      · exact h
      · exact absurd (Option.some.inj h).symm hne
theorem Has.put {t:Tree Value}{E:Zcu}(h:Has t E)(d:Option Tmp)(v:Value):Has (put t d v) (Zk0 E d v):=by
 cases d with
 | none=>exact h
 | some d =>
  intro i w hi
  simp only [Zk0,Zcm] at hi
  simp only [Sh.put,Tree.get_set]
  split
  ·rename_i e
   rw [if_pos e] at hi
   exact hi
  ·rename_i e
   rw [if_neg e] at hi
   exact h i w hi
theorem Zj3 {ds:List (Option Tmp)}{all:List Oper}(hd:all.map (·.dst)=ds){o:Oper}{E:Zcu}{t:Tree Value}(h:Has t E)(hn:∀ i∈Zk3 o,(Zcm E i).isSome=true){m:Mem}{r:Value × Mem}(he:Zlf P H ds o E m=some r):Zip P H all o t m=some r:=by
 have run:sop P H (ev t) o m=sop P H (lev E) o m:=by
  refine Zp6 o (fun x hx=>Zu8 h ?_) m
  cases x with
  | tmp i=>exact hn i (List.mem_filterMap.2 ⟨.tmp i,by simpa using hx,rfl⟩)
  | _=>rfl
 unfold Zlf at he
 unfold Zip Zhn
 split at he
 ·rename_i hg
  rw [hg]
  simp only [if_true]
  rw [run];exact he
 ·rename_i j w hg
  rw [hg]
  split at he
  ·rename_i d hj
   split at he
   ·rename_i v hb
    split at he
    ·rename_i b
     have hy:Zmx all t j=some b:=by
      subst hd
      rw [List.getElem?_map] at hj
      obtain⟨o',h1,h2⟩:=Option.map_eq_some_iff.1 hj
      simp only [Zmx,h1,Option.bind_some,h2,h d _ hb]
     simp only [hy]
     split at he
     ·rename_i e
      subst e
      simp only [beq_self_eq_true,if_true]
      rw [run];exact he
     ·rename_i e
      rw [if_neg (by simpa using e)]
      exact he
    ·rename_i hnb
     have hy:Zmx all t j=none:=by
      subst hd
      rw [List.getElem?_map] at hj
      obtain⟨o',h1,h2⟩:=Option.map_eq_some_iff.1 hj
      simp only [Zmx,h1,Option.bind_some,h2,h d _ hb]
      split
      ·rename_i b e
       simp only [Option.some.injEq] at e
       exact absurd e (hnb b)
      ·rfl
     simp only [hy]
     rw [if_neg (by simp)]
     exact he
   ·cases he
  ·cases he
theorem Zio {o:Oper}{r:List Oper}{D:List Nat}{E:Zcu}{v:Value}(hn:∀ i∈Zj2 (o::r) D,(Zcm E i).isSome=true)(hD:∀ i∈D,(Zcm E i).isSome=true) :
  (∀ i∈Zk3 o,(Zcm E i).isSome=true)∧(∀ i∈Zj2 r (o.dst.toList++D),(Zcm (Zk0 E o.dst v) i).isSome=true)∧(∀ i∈o.dst.toList++D,(Zcm (Zk0 E o.dst v) i).isSome=true):=by
 refine⟨fun i hi=>?_,fun i hi=>Zkb (Or.inl (hn i ?_)),fun i hi=>?_⟩
 ·by_cases h:i∈D
  ·exact hD i h
  ·exact hn i (by simp only [Zj2];exact List.mem_append_left _ (List.mem_filter.2 ⟨hi,by simpa using h⟩))
 ·simp only [Zj2];exact List.mem_append_right _ hi
 ·rcases List.mem_append.1 hi with h | h
  ·exact Zkb (Or.inr (by simpa using h))
  ·exact Zkb (Or.inl (hD i h))
theorem Zm5 {ds:List (Option Tmp)}{all:List Oper}(hd:all.map (·.dst)=ds):∀ (rest:List Oper) (D:List Nat) (E:Zcu) (t:Tree Value) (m:Mem) (E':Zcu) (m':Mem),Has t E→(∀ i∈Zj2 rest D,(Zcm E i).isSome=true)→(∀ i∈D,(Zcm E i).isSome=true)→Zll P H ds rest E m=some (E',m')→∃ t',Zqk P H all rest t m=some (t',m')∧Has t' E'
 | [],D,E,t,m,E',m',h,_,_,he=>by
  simp only [Zll,Option.some.injEq,Prod.mk.injEq] at he
  obtain⟨rfl,rfl⟩:=he
  exact⟨t,rfl,h⟩
 | o::rest,D,E,t,m,E',m',h,hn,hD,he=>by
  simp only [Zll] at he
  split at he
  ·rename_i v m1 h1
   obtain⟨n1,n2,n3⟩:=Zio (v:=v) hn hD
   obtain⟨t',g1,g2⟩:=Zm5 hd rest _ _ (put t o.dst v) _ _ _ (h.put _ _) n2 n3 he
   refine⟨t',?_,g2⟩
   simp only [Zqk,Zj3 hd h n1 h1]
   exact g1
  ·cases he
def Zdb (P:Program)(H:Zc4)(ds:List (Option Tmp)):List Oper→Zcu→Mem→Option (List (Zcu × Mem))
 | [],E,m=>some [(E,m)]
 | o::rest,E,m=>match Zlf P H ds o E m with
  | some (v,m')=>match Zdb P H ds rest (Zk0 E o.dst v) m' with
   | some l=>some ((E,m)::l)
   | none=>none
  | none=>none
def Zqb (P:Program)(H:Zc4)(ds:List (Option Tmp))(o:Oper)(E:Zcu)(v:Value)(m:Mem):Bool:=
 match Zlf P H ds o E m with
 | some (v',_)=>eqV v v'
 | none=>false
def Zgs (P:Program)(H:Zc4)(ds:List (Option Tmp))(all:List Oper)(S:List (Zcu × Mem)):List (Nat × List Nat)→Bool
 | []=>true
 | (j,is)::r=>(match all[j]?,S[j]? with
  | some o,some (E,m)=>match Zlf P H ds o E m with
   | some (v,_)=>is.all fun i=>match S[i]? with
    | some (_,m')=>Zqb P H ds o E v m'
    | none=>false
   | none=>false
  | _,_=>false) && Zgs P H ds all S r
def Z0y:List Oper→List (Zcu × Mem)→List (Tree Value × Mem)→Prop
 | [],[a],[b]=>a.2=b.2∧Has b.1 a.1
 | o::ro,a::r,b::s=>a.2=b.2∧Has b.1 a.1∧(∀ i∈Zk3 o,(Zcm a.1 i).isSome=true)∧Z0y ro r s
 | _,_,_=>False
theorem Zi3 {ds:List (Option Tmp)}{all:List Oper}(hd:all.map (·.dst)=ds):∀ (rest:List Oper) (D:List Nat) (E:Zcu) (t:Tree Value) (m:Mem) (S:List (Zcu × Mem)),Has t E→(∀ i∈Zj2 rest D,(Zcm E i).isSome=true)→(∀ i∈D,(Zcm E i).isSome=true)→Zdb P H ds rest E m=some S→∃ T,states P H all rest t m=some T∧Z0y rest S T
 | [],D,E,t,m,S,h,_,_,he=>by
  simp only [Zdb,Option.some.injEq] at he
  subst he
  exact⟨[(t,m)],rfl,rfl,h⟩
 | o::rest,D,E,t,m,S,h,hn,hD,he=>by
  simp only [Zdb] at he
  split at he
  ·rename_i v m1 h1
   split at he
   ·rename_i l hl
    simp only [Option.some.injEq] at he
    subst he
    obtain⟨n1,n2,n3⟩:=Zio (v:=v) hn hD
    obtain⟨T,g1,g2⟩:=Zi3 hd rest _ _ (put t o.dst v) _ _ (h.put _ _) n2 n3 hl
    refine⟨(t,m)::T,?_,rfl,h,n1,g2⟩
    simp only [states,Zj3 hd h n1 h1,g1]
   ·cases he
  ·cases he
theorem Zog:∀ {ops:List Oper} {S:List (Zcu × Mem)} {T:List (Tree Value × Mem)} (h:Z0y ops S T) (i:Nat) (a:Zcu × Mem),S[i]?=some a→∃ b,T[i]?=some b∧a.2=b.2∧Has b.1 a.1∧∀ o,ops[i]?=some o→∀ q∈Zk3 o,(Zcm a.1 q).isSome=true
 | [],[a],[b],h,i,a',hi=>by
  cases i with
  | zero=>simp at hi;subst hi;exact⟨b,rfl,h.1,h.2,by simp⟩
  | succ i=>simp at hi
 | o::ro,a::r,b::s,h,i,a',hi=>by
  cases i with
  | zero=>simp at hi;subst hi;exact⟨b,rfl,h.1,h.2.1,by simp;exact h.2.2.1⟩
  | succ i =>
   simp only [List.getElem?_cons_succ] at hi ⊢
   exact Zog h.2.2.2 i a' hi
 | [],[],_,h,_,_,_=>h.elim
 | [],[_],[],h,_,_,_=>h.elim
 | [],[_],_::_::_,h,_,_,_=>h.elim
 | [],_::_::_,_,h,_,_,_=>h.elim
 | _::_,[],_,h,_,_,_=>h.elim
 | _::_,_::_,[],h,_,_,_=>h.elim
theorem Zqj:∀ {ops:List Oper} {S:List (Zcu × Mem)} {T:List (Tree Value × Mem)} (h:Z0y ops S T) {a:Zcu × Mem},S.getLast?=some a→∃ t,T.getLast?=some (t,a.2)∧Has t a.1
 | [],[a],[b],h,a',hi=>by
  simp at hi;subst hi
  obtain⟨b1,b2⟩:=b
  obtain⟨h1,h2⟩:=h
  simp only at h1 h2
  exact⟨b1,by simp [h1],h2⟩
 | o::ro,a::r,b::s,h,a',hi=>by
  have hr:=h.2.2.2
  have hne:r≠[]:=by rintro rfl;cases ro <;> simp [Z0y] at hr
  have hne2:s≠[]:=by rintro rfl;cases ro <;> cases r <;> simp [Z0y] at hr
  obtain⟨x,r',rfl⟩:=List.exists_cons_of_ne_nil hne
  obtain⟨y,s',rfl⟩:=List.exists_cons_of_ne_nil hne2
  rw [List.getLast?_cons_cons] at hi ⊢
  exact Zqj hr hi
 | [],[],_,h,_,_=>h.elim
 | [],[_],[],h,_,_=>h.elim
 | [],[_],_::_::_,h,_,_=>h.elim
 | [],_::_::_,_,h,_,_=>h.elim
 | _::_,[],_,h,_,_=>h.elim
 | _::_,_::_,[],h,_,_=>h.elim
theorem Zl {ds:List (Option Tmp)}{all:List Oper}(hd:all.map (·.dst)=ds){S:List (Zcu × Mem)}{T:List (Tree Value × Mem)}(h:Z0y all S T):∀ (pl:List (Nat × List Nat)),Zgs P H ds all S pl=true→
  (pl.all fun (j,is)=>match all[j]?,T[j]? with
   | some o,some (t,m)=>match Zip P H all o t m with
    | some (v,_)=>is.all fun i=>match T[i]? with
     | some (_,m')=>Zep P H all o t v m'
     | none=>false
    | none=>false
   | _,_=>false)=true
 | [],_=>rfl
 | (j,is)::r,hr=>by
  simp only [Zgs,Bool.and_eq_true] at hr
  rw [List.all_cons,Bool.and_eq_true]
  refine⟨?_,Zl hd h r hr.2⟩
  have h1:=hr.1
  split at h1
  ·rename_i o E m ho hS
   obtain⟨⟨t,m2⟩,g1,g2,g3,g4⟩:=Zog h j _ hS
   simp only at g2 g3 g4
   subst g2
   have n1:=g4 o ho
   split at h1
   ·rename_i v m' h2
    simp only [ho,g1,Zj3 hd g3 n1 h2]
    rw [List.all_eq_true] at h1 ⊢
    intro i hi
    have h3:=h1 i hi
    split at h3
    ·rename_i E3 m3 hS3
     obtain⟨⟨t3,m4⟩,k1,k2,_,_⟩:=Zog h i _ hS3
     simp only at k2
     subst k2
     simp only [k1]
     unfold Zqb at h3
     unfold Zep
     split at h3
     ·rename_i v' m5 h5
      rw [Zj3 hd g3 n1 h5]
      exact h3
     ·cases h3
    ·cases h3
   ·cases h1
  ·cases h1
def Ze0 (P:Program)(H:Zc4)(ops:List Oper)(draw:Bool)(E:Zcu)(m:Mem):Option (Zcu × Mem):=
 if draw then
  if Zrx P (Zb3 ops) then (if Zum E (Zj2 (Zb3 ops) []) then Zll P H ((Zb3 ops).map (·.dst)) (Zb3 ops) E m else none)
  else if Zum E (Zj2 (Zb3 ops) []) then (match Zdb P H ((Zb3 ops).map (·.dst)) (Zb3 ops) E m with
   | some S=>if Zgs P H ((Zb3 ops).map (·.dst)) (Zb3 ops) S (Zhg P (Zb3 ops)) then S.getLast? else none
   | none=>none) else none
 else if Zum E (Zj2 ops []) then Zll P H (ops.map (·.dst)) ops E m else none
theorem Zoo {ops:List Oper}{draw:Bool}{E E':Zcu}{t:Tree Value}{m m':Mem}(h:Has t E)(he:Ze0 P H ops draw E m=some (E',m')):∃ t',Zf7 P H ops draw t m=some (t',m')∧Has t' E':=by
 unfold Ze0 at he
 unfold Zf7
 cases draw with
 | true =>
  simp only [if_true] at he ⊢
  split at he
  ·rename_i hq
   rw [if_pos hq]
   split at he
   ·rename_i hn
    exact Zm5 rfl _ [] _ _ _ _ _ h (Ze9.1 hn) (fun i hi=>by simp at hi) he
   ·cases he
  ·rename_i hq
   rw [if_neg hq]
   split at he
   ·rename_i hn
    split at he
    ·rename_i S hS
     obtain⟨T,g1,g2⟩:=Zi3 rfl _ [] _ _ _ _ h (Ze9.1 hn) (fun i hi=>by simp at hi) hS
     rw [g1]
     simp only
     split at he
     ·rename_i hr
      have hc:Zdk P H (Zb3 ops) T=true:=Zl rfl g2 _ hr
      rw [if_pos hc]
      obtain⟨t',k1,k2⟩:=Zqj g2 he
      exact⟨t',k1,k2⟩
     ·cases he
    ·cases he
   ·cases he
 | false =>
  simp only [Bool.false_eq_true,if_false] at he ⊢
  split at he
  ·rename_i hn
   exact Zm5 rfl _ [] _ _ _ _ _ h (Ze9.1 hn) (fun i hi=>by simp at hi) he
  ·cases he
def Zit (nv:Nat):Zcu→Zcu
 | []=>[]
 | (j,w)::r=>if j < nv then (j,w)::Zit nv r else Zit nv r
def Zv6:Zcu→Nat→Value→Zcu
 | [],i,v=>[(i,v)]
 | (j,w)::r,i,v=>if i=j then (j,v)::r else (j,w)::Zv6 r i v
def Zi9 (E':Zcu):List Nat→Zcu→Zcu
 | [],E=>E
 | i::r,E=>match Zcm E' i with
  | some v=>Zi9 E' r (Zv6 E i v)
  | none=>Zi9 E' r E
def Zg2 (E':Zcu):List Nat→Zcu→Zcu
 | [],E=>E
 | i::r,E=>match Zcm E' i with
  | some v=>(i,v)::Zg2 E' r E
  | none=>Zg2 E' r E
def Zh5 (ops:List Oper):List Nat:=ops.filterMap (·.dst)
def Zxv:List Nat→List Nat
 | []=>[]
 | i::r=>if r.contains i then Zxv r else i::Zxv r
def Zyr (nv:Nat)(ops:List Oper):List Nat:=Zxv ((Zh5 ops).filter (· < nv))
def Zo0 (C:List Nat)(ops:List Oper):List Nat:=Zxv ((Zh5 ops).filter (fun i=>C.contains i))
def Zuu (nv:Nat)(C:List Nat)(ops:List Oper)(E E':Zcu):Zcu:=Zg2 E' (Zo0 C ops) (Zi9 E' (Zyr nv ops) (Zit nv E))
theorem Ziq {i:Nat}:∀ {l:List Nat},i∈Zxv l↔i∈l
 | []=>Iff.rfl
 | j::r=>by
  simp only [Zxv]
  split
  ·rename_i h
   rw [Ziq,List.mem_cons]
   constructor
   ·exact Or.inr
   ·rintro (rfl | h2)
    ·simpa using h
    ·exact h2
  ·rw [List.mem_cons,List.mem_cons,Ziq]
theorem Zkc {nv:Nat}:∀ {E:Zcu} {j:Nat} {v:Value},Zcm (Zit nv E) j=some v→Zcm E j=some v∧j < nv
 | [],j,v,h=>by simp [Zit,Zcm] at h
 | (i,w)::r,j,v,h=>by
  simp only [Zit] at h
  split at h
  ·rename_i hi
   simp only [Zcm] at h ⊢
   split at h
   ·rename_i e;subst e;exact⟨by simp [h],hi⟩
   ·rename_i e;rw [if_neg e];exact Zkc h
  ·rename_i hi
   have:=Zkc h
   simp only [Zcm]
   rw [if_neg (by omega)]
   exact this
theorem Zob:∀ (E:Zcu) (i:Nat) (v:Value) (j:Nat),Zcm (Zv6 E i v) j=if j=i then some v else Zcm E j
 | [],i,v,j=>by simp [Zv6,Zcm]
 | (k,w)::r,i,v,j=>by
  simp only [Zv6]
  split
  ·rename_i e;subst e;simp only [Zcm];split <;> rfl
  ·rename_i e
   simp only [Zcm,Zob r i v j]
   split
   ·rename_i e2;subst e2;rw [if_neg (fun h=>e h.symm)]
   ·rfl
theorem Zlw (E':Zcu):∀ (l:List Nat) (E:Zcu) (j:Nat),Zcm (Zi9 E' l E) j=if j∈l∧(Zcm E' j).isSome=true then Zcm E' j else Zcm E j
 | [],E,j=>by simp [Zi9]
 | i::r,E,j=>by
  simp only [Zi9]
  split
  ·rename_i v hv
   rw [Zlw E' r,Zob]
   by_cases h:j=i
   ·subst h;simp [hv]
   ·simp [h]
  ·rename_i hv
   rw [Zlw E' r]
   by_cases h:j=i
   ·subst h;simp [hv]
   ·simp [h]
theorem Zkj (E':Zcu):∀ (l:List Nat) (E:Zcu) (j:Nat) (v:Value),Zcm (Zg2 E' l E) j=some v→Zcm E' j=some v∨Zcm E j=some v
 | [],E,j,v,h=>Or.inr h
 | i::r,E,j,v,h=>by
  simp only [Zg2] at h
  split at h
  ·rename_i u hu
   simp only [Zcm] at h
   split at h
   ·rename_i e;subst e;rw [← h];exact Or.inl hu
   ·exact Zkj E' r E j v h
  ·exact Zkj E' r E j v h
def Zrs (ops:List Oper)(E E':Zcu):Prop:=(∀ j,j∉Zh5 ops→Zcm E' j=Zcm E j)∧∀ j,(Zcm E j).isSome=true∨j∈Zh5 ops→(Zcm E' j).isSome=true
theorem Zns {o:Oper}{r:List Oper}{E E':Zcu}{v:Value}(h:Zrs r (Zk0 E o.dst v) E'):Zrs (o::r) E E':=by
 constructor
 ·intro j hj
  have hj2:j∉Zh5 r∧o.dst≠some j:=by
   simp only [Zh5,List.filterMap_cons] at hj ⊢
   cases hd:o.dst with
   | none=>rw [hd] at hj;exact⟨hj,by simp⟩
   | some d=>rw [hd] at hj;simp only [List.mem_cons,not_or] at hj;exact⟨hj.2,fun e=>hj.1 (by simpa using e.symm)⟩
  rw [h.1 j hj2.1]
  cases hd:o.dst with
  | none=>rfl
  | some d =>
   simp only [Zk0,Zcm]
   rw [if_neg]
   intro e;exact hj2.2 (by rw [hd,e])
 ·intro j hj
  by_cases h1:(Zcm E j).isSome=true∨o.dst=some j
  ·exact h.2 j (Or.inl (Zkb h1))
  ·simp only [not_or] at h1
   refine h.2 j (Or.inr ?_)
   rcases hj with h2 | h2
   ·exact absurd h2 h1.1
   ·simp only [Zh5,List.filterMap_cons] at h2 ⊢
    cases hd:o.dst with
    | none=>rw [hd] at h2;exact h2
    | some d =>
     rw [hd] at h2
     simp only [List.mem_cons] at h2
     rcases h2 with rfl | h2
     ·exact absurd hd h1.2
     ·exact h2
theorem Zhi {ds:List (Option Tmp)}:∀ (ops:List Oper) (E:Zcu) (m:Mem) (E':Zcu) (m':Mem),Zll P H ds ops E m=some (E',m')→Zrs ops E E'
 | [],E,m,E',m',he=>by
  simp only [Zll,Option.some.injEq,Prod.mk.injEq] at he
  obtain⟨rfl,rfl⟩:=he
  exact⟨fun _ _=>rfl,fun j h=>by rcases h with h | h;exact h;simp [Zh5] at h⟩
 | o::r,E,m,E',m',he=>by
  simp only [Zll] at he
  split at he
  ·exact Zns (Zhi r _ _ _ _ he)
  ·cases he
theorem Zhr {ds:List (Option Tmp)}:∀ (ops:List Oper) (E:Zcu) (m:Mem) (S:List (Zcu × Mem)) (a:Zcu × Mem),Zdb P H ds ops E m=some S→S.getLast?=some a→S≠[]∧Zrs ops E a.1
 | [],E,m,S,a,he,hl=>by
  simp only [Zdb,Option.some.injEq] at he
  subst he
  simp at hl
  subst hl
  exact⟨by simp,fun _ _=>rfl,fun j h=>by rcases h with h | h;exact h;simp [Zh5] at h⟩
 | o::r,E,m,S,a,he,hl=>by
  simp only [Zdb] at he
  split at he
  ·split at he
   ·rename_i l hl2
    simp only [Option.some.injEq] at he
    subst he
    have hne:l≠[]:=by
     rintro rfl
     cases r with
     | nil=>simp [Zdb] at hl2
     | cons o2 r2 =>
      simp only [Zdb] at hl2
      split at hl2
      ·split at hl2
       ·simp at hl2
       ·cases hl2
      ·cases hl2
    obtain⟨x,l',rfl⟩:=List.exists_cons_of_ne_nil hne
    rw [List.getLast?_cons_cons] at hl
    exact⟨by simp,Zns (Zhr r _ _ _ _ hl2 hl).2⟩
   ·cases he
  ·cases he
def Zgu (ops:List Oper)(draw:Bool):List Oper:=if draw then Zb3 ops else ops
theorem Zpj {nv:Nat}{C:List Nat}{ops:List Oper}{draw:Bool}{E E':Zcu}{m m':Mem}(he:Ze0 P H ops draw E m=some (E',m')){j:Nat}{v:Value}(hj:Zcm (Zuu nv C (Zgu ops draw) E E') j=some v):Zcm E' j=some v:=by
 have hg:Zrs (Zgu ops draw) E E':=by
  unfold Ze0 at he
  cases draw with
  | true =>
   simp only [if_true,Zgu] at he ⊢
   split at he
   ·split at he
    ·exact Zhi _ _ _ _ _ he
    ·cases he
   ·split at he
    ·split at he
     ·rename_i S hS
      split at he
      ·exact (Zhr _ _ _ _ _ hS he).2
      ·cases he
     ·cases he
    ·cases he
  | false =>
   simp only [Bool.false_eq_true,if_false,Zgu] at he ⊢
   split at he
   ·exact Zhi _ _ _ _ _ he
   ·cases he
 unfold Zuu at hj
 rcases Zkj _ _ _ _ _ hj with h | h
 ·exact h
 ·rw [Zlw] at h
  split at h
  ·exact h
  ·rename_i hn
   obtain⟨h1,h2⟩:=Zkc h
   by_cases hd:j∈Zh5 (Zgu ops draw)
   ·exfalso
    exact hn ⟨Ziq.2 (List.mem_filter.2 ⟨hd,by simpa using h2⟩),hg.2 j (Or.inr hd)⟩
   ·rw [hg.1 j hd];exact h1
inductive Fr where
 | seq (b:Code)
 | block (i:Nat)
 | loop (b:Code)
inductive Cf where
 | run (c:Code)
 | back (e:Zjx)
section
variable (P:Program)(T:FuncId→Option Func)(S:Zed)
noncomputable def rk:List Fr→Option (Zjx × Tree Value × Mem)→Option (Zjx × Tree Value × Mem)
 | [],r=>r
 | .seq b::k,r=>rk k (match r with
  | some (.normal,t,m)=>Zfa P T S b t m
  | r=>r)
 | .block i::k,r=>rk k (match r with
  | some (.exit j,t,m)=>some (if j=i then .normal else .exit j,t,m)
  | r=>r)
 | .loop b::k,r=>rk k (match r with
  | some (.normal,t,m)=>Zfa P T S (.loop b) t m
  | r=>r)
abbrev Zrm:=Zjx→Zcu→Mem→Prop
def Zr8 (c:Code)(k:List Fr)(E:Zcu)(m:Mem)(Q:Zrm):Prop:=
 ∀ t,Has t E→∃ e t' E' m',rk P T S k (Zfa P T S c t m)=some (e,t',m')∧Has t' E'∧Q e E' m'
def Br (v:Option Value)(A B:Prop):Prop:=match v with
 | some (.bool true)=>A
 | some (.bool false)=>B
 | _=>False
def Wn (nv:Nat)(C:List Nat):Nat→Cf→List Fr→Zcu→Mem→Zrm→Prop
 | 0,_,_,_,_,_=>False
 | n+1,.run c,k,E,m,Q=>match c with
  | .skip | .label _=>Wn nv C n (.back .normal) k E m Q
  | .ret=>Wn nv C n (.back .ret) k E m Q
  | .exit i=>Wn nv C n (.back (.exit i)) k E m Q
  | .seq a b=>Wn nv C n (.run a) (.seq b::k) E m Q
  | .block i b=>Wn nv C n (.run b) (.block i::k) E m Q
  | .cond x a b=>Br (if lhas E x then some (lev E x) else none) (Wn nv C n (.run a) k E m Q) (Wn nv C n (.run b) k E m Q)
  | .region _ ops d=>match Ze0 P (Zbi P T S) ops.toList d E m with
   | some (E',m')=>Wn nv C n (.back .normal) k (Zuu nv C (Zgu ops.toList d) E E') m' Q
   | none=>False
  | .loop b=>Zr8 P T S (.loop b) k E m Q
  | _=>False
 | n+1,.back e,k,E,m,Q=>match k with
  | []=>Q e E m
  | .seq b::k=>(match e with
   | .normal=>Wn nv C n (.run b) k E m Q
   | e=>Wn nv C n (.back e) k E m Q)
  | .block i::k=>(match e with
   | .exit j=>Wn nv C n (.back (if j=i then .normal else .exit j)) k E m Q
   | e=>Wn nv C n (.back e) k E m Q)
  | .loop b::k=>(match e with
   | .normal=>Zr8 P T S (.loop b) k E m Q
   | e=>Wn nv C n (.back e) k E m Q)
def W (nv:Nat)(C:List Nat)(c:Code)(k:List Fr)(E:Zcu)(m:Mem)(Q:Zrm):Prop:=∃ n,Wn P T S nv C n (.run c) k E m Q
def R (nv:Nat)(C:List Nat)(e:Zjx)(k:List Fr)(E:Zcu)(m:Mem)(Q:Zrm):Prop:=∃ n,Wn P T S nv C n (.back e) k E m Q
def Cnd (nv:Nat)(C:List Nat)(v:Option Value)(a b:Code)(k:List Fr)(E:Zcu)(m:Mem)(Q:Zrm):Prop:=Br v (W P T S nv C a k E m Q) (W P T S nv C b k E m Q)
def Rg (nv:Nat)(C:List Nat)(ups cs:List Nat)(r:Option (Zcu × Mem))(k:List Fr)(E:Zcu)(Q:Zrm):Prop:=match r with
 | some (E',m')=>R P T S nv C .normal k (Zg2 E' cs (Zi9 E' ups (Zit nv E))) m' Q
 | none=>False
variable {P T S}{nv:Nat}{C:List Nat}{k:List Fr}{E:Zcu}{m:Mem}{Q:Zrm}
theorem Zeh {p:Nat→Prop}(h0:¬ p 0):(∃ n,p n)↔∃ n,p (n+1):=
 ⟨fun⟨n,h⟩=>by cases n with
  | zero=>exact absurd h h0
  | succ n=>exact⟨n,h⟩,fun⟨n,h⟩=>⟨n+1,h⟩⟩
theorem Zd8 {c:Cf}:¬ Wn P T S nv C 0 c k E m Q:=by cases c <;> exact id
theorem Z3u:W P T S nv C .skip k E m Q↔R P T S nv C .normal k E m Q:=Zeh Zd8
theorem Z5t:W P T S nv C .ret k E m Q↔R P T S nv C .ret k E m Q:=Zeh Zd8
theorem Z3k (i:Nat):W P T S nv C (.exit i) k E m Q↔R P T S nv C (.exit i) k E m Q:=Zeh Zd8
theorem Z41 (a b:Code):W P T S nv C (.seq a b) k E m Q↔W P T S nv C a (.seq b::k) E m Q:=Zeh Zd8
theorem Z2h (i:Nat)(b:Code):W P T S nv C (.block i b) k E m Q↔W P T S nv C b (.block i::k) E m Q:=Zeh Zd8
theorem Z3m (b:Code):W P T S nv C (.loop b) k E m Q↔Zr8 P T S (.loop b) k E m Q:=
 (Zeh Zd8).trans ⟨fun⟨_,h⟩=>h,fun h=>⟨0,h⟩⟩
theorem Z5v {v:Option Value}{p q:Nat→Prop}:(∃ n,Br v (p n) (q n))↔Br v (∃ n,p n) (∃ n,q n):=by
 unfold Br
 split
 ·exact Iff.rfl
 ·exact Iff.rfl
 ·exact⟨fun⟨_,h⟩=>h,fun h=>h.elim⟩
theorem Z32 (x:Operand)(a b:Code):W P T S nv C (.cond x a b) k E m Q↔Cnd P T S nv C (if lhas E x then some (lev E x) else none) a b k E m Q:=
 (Zeh Zd8).trans Z5v
theorem Ztp (i:Nat)(a b:Code):W P T S nv C (.cond (.tmp i) a b) k E m Q↔Cnd P T S nv C (Zcm E i) a b k E m Q:=by
 rw [Z32]
 have:(if lhas E (.tmp i)=true then some (lev E (.tmp i)) else none)=Zcm E i:=by
  by_cases hs:lhas E (.tmp i)=true
  ·rw [if_pos hs]
   obtain⟨v,hv⟩:=Option.isSome_iff_exists.1 (show (Zcm E i).isSome=true from hs)
   show some ((Zcm E i).getD undef)=Zcm E i
   rw [hv];rfl
  ·rw [if_neg hs]
   cases hv:Zcm E i with
   | none=>rfl
   | some v=>exact absurd (show (Zcm E i).isSome=true by rw [hv];rfl) hs
 rw [this]
theorem Z40 (a b:Code):Cnd P T S nv C (some (.bool true)) a b k E m Q↔W P T S nv C a k E m Q:=Iff.rfl
theorem Z6e (a b:Code):Cnd P T S nv C (some (.bool false)) a b k E m Q↔W P T S nv C b k E m Q:=Iff.rfl
theorem Zsw (i:Nat)(ops:Array Oper)(d:Bool):W P T S nv C (.region i ops d) k E m Q↔Rg P T S nv C (Zyr nv (Zgu ops.toList d)) (Zo0 C (Zgu ops.toList d)) (Ze0 P (Zbi P T S) ops.toList d E m) k E Q:=by
 refine (Zeh Zd8).trans ?_
 simp only [Wn,Rg]
 cases Ze0 P (Zbi P T S) ops.toList d E m with
 | none=>exact⟨fun⟨_,h⟩=>h,fun h=>h.elim⟩
 | some r=>exact Iff.rfl
theorem Z56 (e:Zjx):R P T S nv C e [] E m Q↔Q e E m:=(Zeh Zd8).trans ⟨fun⟨_,h⟩=>h,fun h=>⟨0,h⟩⟩
theorem Z6n (b:Code):R P T S nv C .normal (.seq b::k) E m Q↔W P T S nv C b k E m Q:=Zeh Zd8
theorem Zwy (b:Code):R P T S nv C .ret (.seq b::k) E m Q↔R P T S nv C .ret k E m Q:=Zeh Zd8
theorem Ztw (b:Code)(i:Nat):R P T S nv C (.exit i) (.seq b::k) E m Q↔R P T S nv C (.exit i) k E m Q:=Zeh Zd8
theorem Z1x (i:Nat):R P T S nv C .normal (.block i::k) E m Q↔R P T S nv C .normal k E m Q:=Zeh Zd8
theorem Zr9 (i:Nat):R P T S nv C .ret (.block i::k) E m Q↔R P T S nv C .ret k E m Q:=Zeh Zd8
theorem Zpw (i j:Nat):R P T S nv C (.exit j) (.block i::k) E m Q↔R P T S nv C (if j=i then .normal else .exit j) k E m Q:=Zeh Zd8
theorem Z35 (b:Code):R P T S nv C .normal (.loop b::k) E m Q↔Zr8 P T S (.loop b) k E m Q:=(Zeh Zd8).trans ⟨fun⟨_,h⟩=>h,fun h=>⟨0,h⟩⟩
theorem Zt9 (b:Code):R P T S nv C .ret (.loop b::k) E m Q↔R P T S nv C .ret k E m Q:=Zeh Zd8
theorem Zrk (b:Code)(i:Nat):R P T S nv C (.exit i) (.loop b::k) E m Q↔R P T S nv C (.exit i) k E m Q:=Zeh Zd8
theorem Zy1:∀ (n:Nat) (c:Cf) (k:List Fr) (E:Zcu) (m:Mem),Wn P T S nv C n c k E m Q→∀ t,Has t E→∃ e t' E' m',rk P T S k (match c with | .run c=>Zfa P T S c t m | .back e=>some (e,t,m))=some (e,t',m')∧Has t' E'∧Q e E' m':=by
 intro n
 induction n with
 | zero=>intro c k E m h;exact absurd h Zd8
 | succ n ih =>
  intro c k E m h t ht
  cases c with
  | run c =>
   simp only
   cases c with
   | skip=>rw [Z4d];exact ih (.back .normal) k E m h t ht
   | label s =>
    have:Zfa P T S (.label s) t m=some (.normal,t,m):=by rw [Zeu];rfl
    rw [this];exact ih (.back .normal) k E m h t ht
   | ret=>rw [Z6b];exact ih (.back .ret) k E m h t ht
   | exit i=>rw [Z3];exact ih (.back (.exit i)) k E m h t ht
   | seq a b =>
    have:=ih (.run a) (.seq b::k) E m h t ht
    simp only [rk] at this
    rw [Z5e]
    exact this
   | block i b =>
    have:=ih (.run b) (.block i::k) E m h t ht
    simp only [rk] at this
    rw [Z2d]
    exact this
   | cond x a b =>
    simp only [Wn,Br] at h
    rw [Z29]
    split at h
    ·rename_i hx
     split at hx
     ·rename_i hl
      simp only [Option.some.injEq] at hx
      rw [Zu8 ht hl,hx]
      exact ih (.run a) k E m h t ht
     ·cases hx
    ·rename_i hx
     split at hx
     ·rename_i hl
      simp only [Option.some.injEq] at hx
      rw [Zu8 ht hl,hx]
      exact ih (.run b) k E m h t ht
     ·cases hx
    ·exact h.elim
   | region i ops d =>
    simp only [Wn] at h
    split at h
    ·rename_i E' m' hr
     obtain⟨t',g1,g2⟩:=Zoo ht hr
     rw [Zys,g1]
     exact ih (.back .normal) k _ m' h t' (fun j v hj=>g2 j v (Zpj hr hj))
    ·exact h.elim
   | loop b=>exact h t ht
   | _=>exact h.elim
  | back e =>
   simp only
   cases k with
   | nil=>exact⟨e,t,E,m,rfl,ht,h⟩
   | cons f k =>
    cases f with
    | seq b =>
     cases e with
     | normal=>simp only [rk];exact ih (.run b) k E m h t ht
     | exit i=>simp only [rk];exact ih (.back (.exit i)) k E m h t ht
     | ret=>simp only [rk];exact ih (.back .ret) k E m h t ht
    | block i =>
     cases e with
     | normal=>simp only [rk];exact ih (.back .normal) k E m h t ht
     | exit j=>simp only [rk];exact ih (.back (if j=i then .normal else .exit j)) k E m h t ht
     | ret=>simp only [rk];exact ih (.back .ret) k E m h t ht
    | loop b =>
     cases e with
     | normal=>simp only [rk];exact h t ht
     | exit i=>simp only [rk];exact ih (.back (.exit i)) k E m h t ht
     | ret=>simp only [rk];exact ih (.back .ret) k E m h t ht
theorem Z18 {c:Code}(h:W P T S nv C c k E m Q):Zr8 P T S c k E m Q:=by
 obtain⟨n,hn⟩:=h
 exact Zy1 n (.run c) k E m hn
theorem Zzb {b:Code}(h:W P T S nv C b (.loop b::k) E m Q):Zr8 P T S (.loop b) k E m Q:=by
 intro t ht
 have:=Z18 h t ht
 simp only [rk] at this
 rw [Z4j]
 exact this
def Z2v:Zcu→Zcu→Prop
 | [],_=>True
 | (i,v)::r,E=>Zcm E i=some v∧Z2v r E
theorem Zo4:∀ {A B:Zcu},Z2v A B→∀ i v,Zcm A i=some v→Zcm B i=some v
 | [],B,_,i,v,h=>by simp [Zcm] at h
 | (j,w)::r,B,hs,i,v,h=>by
  simp only [Zcm] at h
  split at h
  ·rename_i e;subst e;rw [← h];exact hs.1
  ·exact Zo4 hs.2 i v h
theorem Zei {c:Code}{E':Zcu}(h:Zr8 P T S c k E m Q)(hs:Z2v E E'):Zr8 P T S c k E' m Q:=
 fun t ht=>h t (fun i v hi=>ht i v (Zo4 hs i v hi))
def okx:Zjx→Bool
 | .normal | .ret=>true
 | _=>false
def Zh (P:Program)(E:Zcu)(m:Mem):ResultVar→Option Value
 | .tmp i=>Zcm E i
 | .cell a ty=>match Zcm E a with
  | some (.pointer (some ad))=>match P.underlying ty with
   | none=>none
   | some _=>if Zhe P ty then match Zbo P ty with
     | some z=>(loadRow m ad z).map fun cs=>.agg cs.toArray
     | none=>none
    else match loadRow m ad 1 with
     | some [v]=>some v
     | _=>none
  | _=>none
def Zfc (P:Program)(E:Zcu)(m:Mem):List ResultVar→Option (List Value)
 | []=>some []
 | r::rest=>match Zh P E m r with
  | some v=>(Zfc P E m rest).map (v::·)
  | none=>none
def Zgf (P:Program)(E:Zcu)(m:Mem)(rs:List ResultVar):Option Value:=
 match Zfc P E m rs with
 | some [v]=>some v
 | some vs=>some (.tuple vs.toArray)
 | none=>none
def QF (P:Program)(rs:List ResultVar)(A:Value→Mem→Prop):Zrm:=fun e E m=>okx e=true∧match Zgf P E m rs with
 | some v=>A v m
 | none=>False
theorem Zud {t:Tree Value}(h:Has t E){r:ResultVar}{v:Value}(hv:Zh P E m r=some v):Zji P t m r=some v:=by
 cases r with
 | tmp i=>simp only [Zh] at hv;simp [Zji,h i v hv]
 | cell a ty =>
  simp only [Zh] at hv
  split at hv
  ·rename_i ad ha
   simp only [Zji,h a _ ha,Option.getD_some]
   exact hv
  ·cases hv
theorem Zid {t:Tree Value}(h:Has t E):∀ {rs:List ResultVar} {vs:List Value},Zfc P E m rs=some vs→Zf3 P t m rs=some vs
 | [],vs,hv=>hv
 | r::rs,vs,hv=>by
  simp only [Zfc] at hv
  simp only [Zf3]
  split at hv
  ·rename_i v h1
   rw [Zud h h1]
   simp only
   obtain⟨l,h2,h3⟩:=Option.map_eq_some_iff.1 hv
   rw [Zid h h2]
   simp [h3]
  ·cases hv
theorem Zme {t:Tree Value}(h:Has t E){rs:List ResultVar}{v:Value}(hv:Zgf P E m rs=some v):Zgx P rs t m=some v:=by
 unfold Zgf at hv
 unfold Zgx
 split at hv
 ·rename_i u hu;rw [Zid h hu];exact hv
 ·rename_i vs hn hu
  rw [Zid h hu]
  simp only [Option.some.injEq] at hv
  subst hv
  split
  ·rename_i u e;simp only [Option.some.injEq] at e;subst e;exact absurd rfl (hn u)
  ·rename_i ws _ e;simp only [Option.some.injEq] at e;subst e;rfl
  ·rename_i e;cases e
 ·cases hv
def Zle:List Value→Nat→Zcu
 | [],_=>[]
 | v::r,i=>(i,v)::Zle r (i+1)
theorem Zwl:∀ (l:List Value) (t:Tree Value) (i j:Nat),j < i→(fill t l i).get j=t.get j
 | [],t,i,j,h=>rfl
 | v::r,t,i,j,h=>by
  simp only [fill]
  rw [Zwl r _ (i+1) j (by omega),Tree.get_set_ne _ _ (by omega)]
theorem Zoy:∀ (l:List Value) (t:Tree Value) (i:Nat),Has (fill t l i) (Zle l i)
 | [],t,i=>fun j v h=>by simp [Zle,Zcm] at h
 | v::r,t,i=>fun j w h=>by
  simp only [Zle,Zcm] at h
  simp only [fill]
  split at h
  ·rename_i e
   subst e
   rw [Zwl r _ (j+1) j (by omega),Tree.get_set_self]
   exact h
  ·exact Zoy r _ (i+1) j w h
theorem Zzu {f:FuncId}{fn:Func}{c:Code}{args:List Value}{A:Value→Mem→Prop}(hT:T f=some fn)(hb:fn.body=some c)(hS:S f=[])(hl:args.length≤fn.ntmps)(h:Zr8 P T S c [] (Zle args 0) m (QF P fn.results.toList A)) :
  ∃ v m',Zbi P T S f args m=some (v,m')∧A v m':=by
 obtain⟨e,t',E',m',h1,h2,h3,h4⟩:=h _ (Zoy args .leaf 0)
 simp only [rk] at h1
 rw [Z39 hT hb hS args hl,h1]
 split at h4
 ·rename_i v hv
  have:=Zme h2 hv
  cases e with
  | normal=>simp only [this];exact⟨v,m',rfl,h4⟩
  | ret=>simp only [this];exact⟨v,m',rfl,h4⟩
  | exit i=>cases h3
 ·exact h4.elim
theorem Z28 {f:FuncId}{fn:Func}{c:Code}{args:List Value}{A:Value→Mem→Prop}(nv:Nat)(C:List Nat)(hT:T f=some fn)(hb:fn.body=some c)(hS:S f=[])(hl:args.length≤fn.ntmps)(h:W P T S nv C c [] (Zle args 0) m (QF P fn.results.toList A)) :
  ∃ v m',Zbi P T S f args m=some (v,m')∧A v m':=Zzu hT hb hS hl (Z18 h)
end
end
end Go.Sh
namespace Go.Sh
open Go.RowKit
section
variable {P:Program}{H:Zc4}{m:Mem}{ρ:Operand→Value}{o:Oper}{d:Option Tmp}{ty:TypeId}{pos:String}{af:Array Edge}{g:Option (Nat × Bool)}
theorem Z3n {α β:Type}(f:α→β)(s:Sem α):Zd6 P (f <$> s)=(Zd6 P s).map f:=by
 have:f <$> s=s >>= fun a=>pure (f a):=rfl
 rw [this,Zfi]
 cases Zd6 P s <;> rfl
theorem Zqp {v:Option Value}(hall:o.op.operands.all (fun x=>Zbs (ρ x))=true)(hq:Zd6 P (execOp ρ o)=v.map Next.value)(hcl:∀ u,v=some u→Zbs u=true):Zc0 P ρ o=v:=by
 unfold Zc0
 rw [if_pos hall,hq]
 cases v with
 | none=>rfl
 | some u=>simp [hcl u rfl]
def Z5x (op:BinOp)(a b:ByteArray):Option Value:=
 match op with
 | .add=>if ((a.size+b.size:Nat):Int)≤9223372036854775807 then some (.string (a++b)) else none
 | .lss=>some (.bool (Op.bytesLess a.toList b.toList))
 | .leq=>some (.bool (Op.bytesLess a.toList b.toList || a.toList == b.toList))
 | .gtr=>some (.bool !(Op.bytesLess a.toList b.toList || a.toList == b.toList))
 | .geq=>some (.bool !(Op.bytesLess a.toList b.toList))
 | _=>none
theorem Z3v (l:List UInt8):ByteArray.size ⟨l.toArray⟩=l.length:=rfl
theorem Z1h (a b:List UInt8):(⟨a.toArray⟩:ByteArray)++(⟨b.toArray⟩:ByteArray)=⟨(a++b).toArray⟩:=by
 have:(⟨a.toArray⟩++⟨b.toArray⟩:ByteArray).data=(a++b).toArray:=by
  rw [ByteArray.data_append];simp
 exact ByteArray.ext this
theorem Zyj (l:List UInt8):(⟨l.toArray⟩:ByteArray).toList=l:=by
 rw [ByteArray.toList_eq]
def slF:=Zes
theorem Z11 (t:TypeId)(x:Operand)(lo hi:Option Operand):sop P H ρ ⟨d,.slice t x lo hi none,ty,pos,af,g⟩ m=Zes P ρ ⟨d,.slice t x lo hi none,ty,pos,af,g⟩ t x lo hi m:=rfl
def Zt8 (ρ:Operand→Value):Option Operand→Option Nat
 | none=>some 0
 | some l=>Zcx (ρ l)
def Zwv (ρ:Operand→Value)(n:Nat):Option Operand→Option Nat
 | none=>some n
 | some h=>Zcx (ρ h)
theorem Zvp:Zt8 ρ none=some 0:=rfl
theorem Zvh (x:Operand):Zt8 ρ (some x)=Zcx (ρ x):=rfl
theorem Zwh (n:Nat):Zwv ρ n none=some n:=rfl
theorem Zxc (n:Nat)(x:Operand):Zwv ρ n (some x)=Zcx (ρ x):=rfl
theorem Zxj (k:IntKind)(n:Int):Zcx (.int k n)=if 0≤n∧n≤9223372036854775807 then some n.toNat else none:=by
 simp only [Zcx]
 by_cases h:0≤n∧n≤9223372036854775807
 ·rw [if_pos h,if_pos (by simpa using h)]
 ·rw [if_neg h,if_neg (by simpa using h)]
def Z3x (s:ByteArray)(m:Mem):Option Nat→Option Nat→Option (Value × Mem)
 | some l,some h=>if l≤h∧h≤s.data.toList.length then some (.string ⟨((s.data.toList.drop l).take (h - l)).toArray⟩,m) else none
 | _,_=>none
theorem Zq4 (s:ByteArray)(l h:Nat):Z3x s m (some l) (some h)=if l≤h∧h≤s.data.toList.length then some (.string ⟨((s.data.toList.drop l).take (h - l)).toArray⟩,m) else none:=rfl
theorem Z0x (t:TypeId)(x ix:Operand):sop P H ρ ⟨d,.index t x ix,ty,pos,af,g⟩ m=Ze1 P ρ ⟨d,.index t x ix,ty,pos,af,g⟩ t x ix m:=rfl
def idF:=Ze1
theorem Zbb {t e:TypeId}{n z:Nat}(ht:P.underlying t=some (.array n e))(hz:Zbo P e=some z)(x ix:Operand):Ze1 P ρ o t x ix m=match ρ x,ρ ix with
  | .agg cs,.int _ i=>if 0≤i∧i≤9223372036854775807 then (if i.toNat < n then (Zj4 P e cs (i.toNat * z)).map (·,m) else none) else idF P ρ o t x ix m
  | _,_=>idF P ρ o t x ix m:=by
 cases hx:ρ x with
 | agg cs =>
  cases hi:ρ ix with
  | int k i =>
   by_cases h:0≤i∧i≤9223372036854775807
   ·simp only [if_pos h]
    have n1:Zcx (.int k i)=some i.toNat:=by simp [Zcx,h]
    simp only [Ze1,hi,n1,ht,hx,hz]
   ·simp only [if_neg h];rfl
  | _=>rfl
 | _=>rfl
theorem Zct {t:TypeId}(h:Zl7 P t=true)(cs:Array Value)(off:Nat):Zj4 P t cs off=cs[off]?:=by
 unfold Zl7 at h
 rw [Bool.and_eq_true,Bool.not_eq_true'] at h
 obtain⟨u,hu⟩:=Option.isSome_iff_exists.1 h.1
 simp [Zj4,hu,h.2]
def Zu1 (P:Program)(t:TypeId)(z:Nat):Bool:=(P.underlying t).isSome && Zhe P t && (Zbo P t == some z)
theorem Zae {t:TypeId}{z:Nat}(h:Zu1 P t z=true)(x:Operand):Zg4 P ρ o t x m=match ρ x with
  | .pointer (some a)=>match loadRow m a z with
   | some cs=>some (.agg cs.toArray,m)
   | none=>none
  | _=>none:=by
 unfold Zu1 at h
 simp only [Bool.and_eq_true,beq_iff_eq] at h
 obtain⟨u,hu⟩:=Option.isSome_iff_exists.1 h.1.1
 cases hx:ρ x with
 | pointer ao =>
  cases ao with
  | none=>simp [Zg4,hx]
  | some a =>
   simp only [Zg4,hx,hu,h.1.2,h.2,if_true]
   cases loadRow m a z <;> rfl
 | _=>simp [Zg4,hx]
theorem Z1q (s:TypeId)(x:Operand)(f:Nat):sop P H ρ ⟨d,.field s x f,ty,pos,af,g⟩ m=Zfs P ρ ⟨d,.field s x f,ty,pos,af,g⟩ s x f m:=rfl
def Zg6 (P:Program)(t:TypeId)(zero:List Value):Bool:=(P.info? t).any fun i=>i.zero.any fun z=>Zc8 z.cells && eqL z.cells.toList zero
theorem Zag {t:TypeId}{zero:List Value}(h:Zg6 P t zero=true):Zjn P ρ o t m=some (.pointer (some ⟨m.next,0,none⟩),m.new zero t):=by
 unfold Zg6 at h
 cases hi:P.info? t with
 | none=>rw [hi] at h;simp at h
 | some i =>
  rw [hi] at h
  simp only [Option.any_some] at h
  cases hz:i.zero with
  | none=>rw [hz] at h;simp at h
  | some z =>
   rw [hz] at h
   simp only [Option.any_some,Bool.and_eq_true] at h
   have:=Zl4 _ _ h.2
   simp only [Zjn,hi,hz,h.1,if_true,this]
def Zxw (P:Program)(e:TypeId)(zero:List Value):Bool:=(P.info? e).any fun i=>(i.size == zero.length) && decide (0 < zero.length) && i.zero.any fun z=>Zc8 z.cells && eqL z.cells.toList zero
def Zu2 (zero:List Value):Nat→List Value
 | 0=>[]
 | n+1=>zero++Zu2 zero n
theorem Zja (zero:List Value):∀ n,(Zu2 zero n).length=n * zero.length
 | 0=>by simp [Zu2]
 | n+1=>by simp [Zu2,Zja zero n,Nat.add_mul,Nat.add_comm]
theorem Ztf (zero:List Value)(hz:0 < zero.length):∀ (n i:Nat),i < n * zero.length→(Zu2 zero n)[i]?=zero[i % zero.length]?
 | 0,i,h=>by simp at h
 | n+1,i,h=>by
  simp only [Zu2]
  by_cases hi:i < zero.length
  ·rw [List.getElem?_append_left hi,Nat.mod_eq_of_lt hi]
  ·rw [List.getElem?_append_right (by omega),Ztf zero hz n (i - zero.length) (by rw [Nat.add_mul] at h;omega)]
   rw [Nat.mod_eq_sub_mod (by omega:i≥zero.length)]
theorem Zad {t e:TypeId}{zero:List Value}{z:Nat}(ht:P.underlying t=some (.slice e))(h:Zxw P e zero=true)(hz:zero.length=z)(n:Nat)(ps:Array (Nat × Operand)):Zd2 P ρ o t n ps m=if n * z≤16777216 then
  (match Instr.fill (fun j=>some (j * z,z)) (Zu2 zero n).toArray (ps.map fun (i,x)=>(i,ρ x)).toList with
   | some cells=>some (.slice (some ⟨m.next,0,none⟩) n n,m.new cells.toList e)
   | none=>none) else none:=by
 unfold Zxw at h
 cases hi:P.info? e with
 | none=>rw [hi] at h;simp at h
 | some i =>
  rw [hi] at h
  simp only [Option.any_some,Bool.and_eq_true,beq_iff_eq,decide_eq_true_eq] at h
  obtain⟨⟨h1,h2⟩,h3⟩:=h
  cases hzz:i.zero with
  | none=>rw [hzz] at h3;simp at h3
  | some zv =>
   rw [hzz] at h3
   simp only [Option.any_some,Bool.and_eq_true] at h3
   have hl:=Zl4 _ _ h3.2
   have hsz:zv.cells.size=i.size:=by rw [h1,← hl];simp
   rw [hz] at h1
   simp only [Zd2,ht,hi,hzz,h3.1,hsz,h1]
   by_cases hn:n * z≤16777216
   ·rw [if_pos hn,if_pos (by simp [hn];omega)]
    have hcs:(if n * z=0 then #[] else (Array.range (n * z)).map (fun x=>zv.cells[x % z]!))=(Zu2 zero n).toArray:=by
     apply Array.ext'
     split
     ·rename_i h0
      have:(Zu2 zero n).length=0:=by rw [Zja,hz];exact h0
      simp [List.length_eq_zero_iff.1 this]
     ·rename_i h0
      apply List.ext_getElem?
      intro j
      simp only [Array.toList_map,Array.toList_range,List.getElem?_map]
      by_cases hj:j < n * z
      ·rw [Ztf zero (by omega) n j (by rw [hz];exact hj)]
       rw [List.getElem?_range hj,hz]
       have hlt:j % z < zero.length:=by rw [hz];exact Nat.mod_lt _ (by omega)
       have hlt':j % z < zv.cells.size:=by rw [← Array.length_toList,hl];exact hlt
       simp only [Option.map_some]
       rw [getElem!_pos zv.cells (j % z) hlt',← hl]
       rw [Array.getElem?_toList,Array.getElem?_eq_getElem hlt']
      ·rw [List.getElem?_eq_none (by simpa using hj),List.getElem?_eq_none (by rw [Zja,hz];omega)]
       rfl
    rw [hcs]
    cases Instr.fill _ _ _ <;> rfl
   ·rw [if_neg hn,if_neg (by simp [hn])]
theorem Zbc {t e:TypeId}{n z:Nat}{zero:List Value}(ht:P.underlying t=some (.array n e))(hz:Zbo P e=some z)(h:Zg6 P t zero=true)(ps:Array (Nat × Operand)):Zen P ρ o t ps m =
  match Instr.fill (fun j=>some (j * z,z)) zero.toArray (ps.map fun (i,x)=>(i,ρ x)).toList with
   | some cells=>some (.agg cells,m)
   | none=>none:=by
 unfold Zg6 at h
 cases hi:P.info? t with
 | none=>rw [hi] at h;simp at h
 | some i =>
  rw [hi] at h
  simp only [Option.any_some] at h
  cases hzz:i.zero with
  | none=>rw [hzz] at h;simp at h
  | some zv =>
   rw [hzz] at h
   simp only [Option.any_some,Bool.and_eq_true] at h
   have hl:=Zl4 _ _ h.2
   have hc:zv.cells=zero.toArray:=by apply Array.ext';simpa using hl
   have h1:=h.1
   rw [hc] at h1
   simp only [Zen,hi,hzz,if_true,ht,hz,hc,h1]
   cases Instr.fill _ _ _ <;> rfl
theorem Zdi {t e:TypeId}(ht:P.underlying t=some (.slice e))(op:BinOp)(x y:Operand):Zdd P ρ o op t x y m=match ρ x,ρ y with
  | .slice (some _) _ _,.slice none 0 0=>(Zeq op false).map (·,m)
  | .slice none 0 0,.slice (some _) _ _=>(Zeq op false).map (·,m)
  | _,_=>Z2s P ρ o op t x y m:=by
 cases hx:ρ x with
 | slice a n c =>
  cases hy:ρ y with
  | slice b k d =>
   cases a with
   | none =>
    cases n <;> cases c <;> cases b <;> first
     | rfl
     | simp [Zdd,ht,hx,hy]
   | some a =>
    cases b <;> cases k <;> cases d <;> first
     | rfl
     | simp [Zdd,ht,hx,hy]
  | _=>cases a <;> cases n <;> cases c <;> rfl
 | _=>rfl
theorem Zbz {t e:TypeId}{z:Nat}(ht:P.underlying t=some (.slice e))(hz:Zbo P e=some z)(x:Operand)(lo hi:Option Operand):Zes P ρ o t x lo hi m=match ρ x with
  | .slice (some a) n c=>(match Zt8 ρ lo,Zwv ρ n hi with
   | some l,some h=>if l≤h && h≤n && a.spot.isNone then
     if c == n then (if l == 0 || Zi1 m a.block e then some (.slice (some { a with off:=a.off+l * z }) (h - l) (h - l),m) else none)
     else if c == n+1 then some (.slice (some { a with off:=a.off+l * z }) (h - l) (h - l+1),m)
     else none
    else none
   | _,_=>none)
  | .slice none 0 0=>(match Zt8 ρ lo,Zwv ρ 0 hi with
   | some 0,some 0=>some (.slice none 0 0,m)
   | _,_=>none)
  | _=>slF P ρ o t x lo hi m:=by
 cases hx:ρ x with
 | slice ao n c =>
  cases ao with
  | none =>
   cases n with
   | zero =>
    cases c with
    | zero =>
     cases lo <;> cases hi <;> simp only [Zes,ht,hx,hz,Zt8,Zwv]
     all_goals first
      | rfl
      | (rename_i u;cases Zcx (ρ u) with
       | none=>rfl
       | some k=>cases k <;> rfl)
      | (rename_i u v;cases Zcx (ρ u) with
       | none=>rfl
       | some k=>cases k with
        | zero=>cases Zcx (ρ v) with
         | none=>rfl
         | some k=>cases k <;> rfl
        | succ k=>rfl)
    | succ c=>rfl
   | succ n=>rfl
  | some a =>
   cases lo with
   | none =>
    cases hi with
    | none=>simp only [Zes,ht,hx,hz,Zt8,Zwv]
    | some v=>simp only [Zes,ht,hx,hz,Zt8,Zwv];cases Zcx (ρ v) <;> rfl
   | some u =>
    cases hi with
    | none=>simp only [Zes,ht,hx,hz,Zt8,Zwv];cases Zcx (ρ u) <;> rfl
    | some v=>simp only [Zes,ht,hx,hz,Zt8,Zwv];cases Zcx (ρ u) <;> cases Zcx (ρ v) <;> rfl
 | _=>rfl
theorem Z0t {t:Nat}(args:Array Operand)(tys:Array TypeId):sop P H ρ ⟨d,.call { callee:=.value (.tmp t),args:=args,argTypes:=tys },ty,pos,af,g⟩ m=match ρ (.tmp t) with
  | .func (.func fid) first captured=>H fid (first.toList++args.toList.map ρ++captured.toList) m
  | _=>none:=rfl
theorem Z06 {E:Zcu}(f:FuncId)(args:Array Operand)(tys:Array TypeId):sop P H (lev E) ⟨d,.call { callee:=.value (.func f),args:=args,argTypes:=tys },ty,pos,af,g⟩ m=H f (args.toList.map (lev E)) m:=by
 simp [sop,Zd9,Zmh,lev]
theorem Zt2 (f:FuncId)(first captured:Array Operand):sop P H ρ ⟨d,.makeFunc (.func f) first captured,ty,pos,af,g⟩ m=some (.func (.func f) (first.map ρ) (captured.map ρ),m):=rfl
def mmF:=Zd9
theorem Z6d (x y:Operand)(tys:Array TypeId):sop P H ρ ⟨d,.call { callee:=.builtin .min,args:=#[x,y],argTypes:=tys },ty,pos,af,g⟩ m=match ρ x,ρ y with
  | .int k a,.int _ b=>some (.int k (if b < a then b else a),m)
  | _,_=>mmF P H ρ ⟨d,.call { callee:=.builtin .min,args:=#[x,y],argTypes:=tys },ty,pos,af,g⟩ { callee:=.builtin .min,args:=#[x,y],argTypes:=tys } m:=by
 cases hx:ρ x with
 | int k a =>
  cases hy:ρ y with
  | int j b =>
   have hc:Zc0 P ρ ⟨d,.call { callee:=.builtin .min,args:=#[x,y],argTypes:=tys },ty,pos,af,g⟩=some (.int k (if b < a then b else a)):=by
    unfold Zc0
    rw [if_pos (by simp [Op.operands,Call.operands,hx,hy,Zbs])]
    have hq:Zd6 P (execOp ρ ⟨d,.call { callee:=.builtin .min,args:=#[x,y],argTypes:=tys },ty,pos,af,g⟩)=some (Next.value (.int k (if b < a then b else a))):=by
     simp [execOp,resolve,hx,hy,List.size_toArray]
     rfl
    rw [hq]
    simp [Zbs]
   show (Zc0 P ρ _).map (·,m)=_
   rw [hc];rfl
  | _=>rfl
 | _=>rfl
theorem Z6p (x y:Operand)(tys:Array TypeId):sop P H ρ ⟨d,.call { callee:=.builtin .max,args:=#[x,y],argTypes:=tys },ty,pos,af,g⟩ m=match ρ x,ρ y with
  | .int k a,.int _ b=>some (.int k (if b > a then b else a),m)
  | _,_=>mmF P H ρ ⟨d,.call { callee:=.builtin .max,args:=#[x,y],argTypes:=tys },ty,pos,af,g⟩ { callee:=.builtin .max,args:=#[x,y],argTypes:=tys } m:=by
 cases hx:ρ x with
 | int k a =>
  cases hy:ρ y with
  | int j b =>
   have hc:Zc0 P ρ ⟨d,.call { callee:=.builtin .max,args:=#[x,y],argTypes:=tys },ty,pos,af,g⟩=some (.int k (if b > a then b else a)):=by
    unfold Zc0
    rw [if_pos (by simp [Op.operands,Call.operands,hx,hy,Zbs])]
    have hq:Zd6 P (execOp ρ ⟨d,.call { callee:=.builtin .max,args:=#[x,y],argTypes:=tys },ty,pos,af,g⟩)=some (Next.value (.int k (if b > a then b else a))):=by
     simp [execOp,resolve,hx,hy,List.size_toArray]
     rfl
    rw [hq]
    simp [Zbs]
   show (Zc0 P ρ _).map (·,m)=_
   rw [hc];rfl
  | _=>rfl
 | _=>rfl
end
end Go.Sh
namespace Go.Sh
def Zol (P:Program)(nv:Nat)(C:List Nat)(c:Code)(ups cs nd:List Nat)(ds:List (Option Nat)):Bool:=
 match c with
 | .region _ ops d=>(!d || (!(ops.toList.any Zdr) && Zrx P ops.toList)) && (Zyr nv ops.toList == ups) && (Zo0 C ops.toList == cs) && (Zxv (Zj2 ops.toList []) == nd) && (ops.toList.map (·.dst) == ds)
 | _=>false
def Zsi (P:Program)(nv:Nat)(C:List Nat)(c:Code)(ups cs nd:List Nat)(ds:List (Option Nat))(places:List (Nat × List Nat)):Bool:=
 match c with
 | .region _ ops d=>d && !Zrx P (Zb3 ops.toList) && (Zyr nv (Zb3 ops.toList) == ups) && (Zo0 C (Zb3 ops.toList) == cs) && (Zxv (Zj2 (Zb3 ops.toList) []) == nd) && ((Zb3 ops.toList).map (·.dst) == ds) && (Zhg P (Zb3 ops.toList) == places)
 | _=>false
def lgo (E:Zcu)(nd:List Nat)(r:Option (Zcu × Mem)):Option (Zcu × Mem):=match Zum E nd with | true=>r | false=>none
def Zqs (P:Program)(H:Zc4)(ds:List (Option Nat))(l:List Oper)(places:List (Nat × List Nat))(r:Option (List (Zcu × Mem))):Option (Zcu × Mem):=match r with
 | some S=>if Zgs P H ds l S places=true then S.getLast? else none
 | none=>none
section
variable {P:Program}{T:FuncId→Option Func}{S:Zed}{nv:Nat}{C:List Nat}{k:List Fr}{E:Zcu}{m:Mem}{Q:Zrm}{H:Zc4}
theorem Zpu (E:Zcu)(l:List Nat):Zum E (Zxv l)=Zum E l:=by
 rw [Bool.eq_iff_iff,Ze9,Ze9]
 exact⟨fun h i hi=>h i (Ziq.2 hi),fun h i hi=>h i (Ziq.1 hi)⟩
def Zj9 (o:Oper):Oper:=⟨o.dst,o.op,o.type,"",#[],o.guard⟩
theorem Zvk (ρ:Operand→Value)(o:Oper)(m:Mem):sop P H ρ (Zj9 o) m=sop P H ρ o m:=by
 obtain⟨d,op,t,p,a,g⟩:=o
 cases op <;> rfl
theorem Zii (ds:List (Option Nat))(o:Oper):Zlf P H ds (Zj9 o) E m=Zlf P H ds o E m:=by
 unfold Zlf
 simp only [Zvk]
 rfl
theorem Znr (ds:List (Option Nat)):∀ (l:List Oper) (E:Zcu) (m:Mem),Zll P H ds (l.map Zj9) E m=Zll P H ds l E m
 | [],E,m=>rfl
 | o::r,E,m=>by
  simp only [List.map_cons,Zll,Zii]
  cases Zlf P H ds o E m with
  | none=>rfl
  | some p=>exact Znr ds r _ _
theorem Zj0 (ds:List (Option Nat)):∀ (l:List Oper) (E:Zcu) (m:Mem),Zdb P H ds (l.map Zj9) E m=Zdb P H ds l E m
 | [],E,m=>rfl
 | o::r,E,m=>by
  simp only [List.map_cons,Zdb,Zii]
  cases Zlf P H ds o E m with
  | none=>rfl
  | some p =>
   have:=Zj0 ds r (Zk0 E o.dst p.1) p.2
   show (match Zdb P H ds (r.map Zj9) (Zk0 E o.dst p.1) p.2 with | some l=>_ | none=>_)=_
   rw [this]
   all_goals rfl
theorem Zk8 (ds:List (Option Nat))(l:List Oper)(S:List (Zcu × Mem)):∀ pl:List (Nat × List Nat),Zgs P H ds (l.map Zj9) S pl=Zgs P H ds l S pl
 | []=>rfl
 | (j,is)::r=>by
  simp only [Zgs,Zk8 ds l S r,List.getElem?_map]
  congr 1
  cases l[j]? with
  | none=>rfl
  | some o =>
   cases S[j]? with
   | none=>rfl
   | some p =>
    simp only [Option.map_some,Zii]
    cases Zlf P H ds o p.1 p.2 with
    | none=>rfl
    | some q =>
     simp only
     refine congrArg is.all (funext fun i=>?_)
     cases S[i]? with
     | none=>rfl
     | some w =>
      show Zqb P H ds (Zj9 o) p.1 q.1 w.2=Zqb P H ds o p.1 q.1 w.2
      unfold Zqb
      rw [Zii]
theorem Zrj (ds:List (Option Nat))(l:List Oper)(places:List (Nat × List Nat))(r:Option (List (Zcu × Mem))):Zqs P H ds (l.map Zj9) places r=Zqs P H ds l places r:=by
 cases r with
 | none=>rfl
 | some S=>simp only [Zqs,Zk8]
theorem Z1m {c:Code}{ups cs nd:List Nat}{ds:List (Option Nat)}{l:List Oper}(h:Zol P nv C c ups cs nd ds=true)(hl:(Zks c).map Zj9=l) :
  W P T S nv C c k E m Q↔Rg P T S nv C ups cs (lgo E nd (Zll P (Zbi P T S) ds l E m)) k E Q:=by
 cases c with
 | region i ops d =>
  simp only [Zol,Bool.and_eq_true,beq_iff_eq,Bool.or_eq_true,Bool.not_eq_true'] at h
  obtain⟨⟨⟨⟨h1,h2⟩,h3⟩,h4⟩,h5⟩:=h
  simp only [Zks] at hl
  subst hl
  rw [Znr,Zsw]
  have he:Zgu ops.toList d=ops.toList:=by
   unfold Zgu
   cases d with
   | false=>rfl
   | true =>
    simp only [Bool.true_eq_false,false_or] at h1
    simp only [if_true,Zb3]
    rw [if_neg (by simp [h1.1])]
  have hr:Ze0 P (Zbi P T S) ops.toList d E m=lgo E nd (Zll P (Zbi P T S) ds ops.toList E m):=by
   unfold Ze0 lgo
   rw [← h4,Zpu]
   have hm:∀ (b:Bool) (r:Option (Zcu × Mem)),(if b=true then r else none)=(match b with | true=>r | false=>none):=by intro b r;cases b <;> rfl
   cases d with
   | false=>simp only [Bool.false_eq_true,if_false,h5,hm]
   | true =>
    simp only [Zgu,if_true] at he
    simp only [Bool.true_eq_false,false_or] at h1
    simp only [if_true,he,h1.2,h5,hm]
  rw [he,hr,h2,h3]
 | _=>simp [Zol] at h
theorem Z3o {c:Code}{ups cs nd:List Nat}{ds:List (Option Nat)}{l:List Oper}{places:List (Nat × List Nat)}(h:Zsi P nv C c ups cs nd ds places=true)(hl:(Zb3 (Zks c)).map Zj9=l) :
  W P T S nv C c k E m Q↔Rg P T S nv C ups cs (lgo E nd (Zqs P (Zbi P T S) ds l places (Zdb P (Zbi P T S) ds l E m))) k E Q:=by
 cases c with
 | region i ops d =>
  simp only [Zsi,Bool.and_eq_true,beq_iff_eq,Bool.not_eq_true'] at h
  obtain⟨⟨⟨⟨⟨⟨h0,h1⟩,h2⟩,h3⟩,h4⟩,h5⟩,h6⟩:=h
  subst h0
  simp only [Zks] at hl
  subst hl
  rw [Zrj,Zj0,Zsw]
  have hr:Ze0 P (Zbi P T S) ops.toList true E m=lgo E nd (Zqs P (Zbi P T S) ds (Zb3 ops.toList) places (Zdb P (Zbi P T S) ds (Zb3 ops.toList) E m)):=by
   unfold Ze0 lgo Zqs
   rw [← h4,Zpu]
   have hm:∀ (b:Bool) (r:Option (Zcu × Mem)),(if b=true then r else none)=(match b with | true=>r | false=>none):=by intro b r;cases b <;> rfl
   simp only [if_true,h1,h5,h6,hm]
   rfl
  rw [hr]
  simp only [Zgu,if_true,h2,h3]
 | _=>simp [Zsi] at h
theorem Z59 (r:Option (Zcu × Mem)):lgo E [] r=r:=rfl
theorem Z5 (i:Nat)(nd:List Nat)(r:Option (Zcu × Mem)):lgo E (i::nd) r=match Zcm E i with
  | some _=>lgo E nd r
  | none=>none:=by
 unfold lgo
 rw [Zum]
 cases hb:Zcm E i with
 | none=>rfl
 | some v=>simp only [Option.isSome_some,Bool.true_and]
theorem Zx1 (ds:List (Option Nat)):Zll P H ds [] E m=some (E,m):=rfl
def lk (P:Program)(H:Zc4)(ds:List (Option Nat))(d:Option Tmp)(r:List Oper)(E:Zcu):Option (Value × Mem)→Option (Zcu × Mem)
 | some (v,m')=>Zll P H ds r (Zk0 E d v) m'
 | none=>none
theorem Z0o (ds:List (Option Nat))(d:Option Tmp)(r:List Oper)(v:Value)(m':Mem):lk P H ds d r E (some (v,m'))=Zll P H ds r (Zk0 E d v) m':=rfl
theorem Zwq (ds:List (Option Nat))(d:Option Tmp)(op:Op)(ty:TypeId)(pos:String)(af:Array Edge)(g:Option (Nat × Bool))(r:List Oper):Zll P H ds (⟨d,op,ty,pos,af,g⟩::r) E m=lk P H ds d r E (Zlf P H ds ⟨d,op,ty,pos,af,g⟩ E m):=by
 show (match Zlf P H ds ⟨d,op,ty,pos,af,g⟩ E m with
  | some (v,m')=>Zll P H ds r (Zk0 E d v) m'
  | none=>none)=_
 cases Zlf P H ds ⟨d,op,ty,pos,af,g⟩ E m <;> rfl
theorem Z1c (ds:List (Option Nat)):Zdb P H ds [] E m=some [(E,m)]:=rfl
def lkc (E:Zcu)(m:Mem):Option (List (Zcu × Mem))→Option (List (Zcu × Mem))
 | some l=>some ((E,m)::l)
 | none=>none
def lks (P:Program)(H:Zc4)(ds:List (Option Nat))(d:Option Tmp)(r:List Oper)(E:Zcu)(m:Mem):Option (Value × Mem)→Option (List (Zcu × Mem))
 | some (v,m')=>lkc E m (Zdb P H ds r (Zk0 E d v) m')
 | none=>none
theorem Zyu (l:List (Zcu × Mem)):lkc E m (some l)=some ((E,m)::l):=rfl
theorem Zy4 (ds:List (Option Nat))(d:Option Tmp)(r:List Oper)(v:Value)(m':Mem):lks P H ds d r E m (some (v,m'))=lkc E m (Zdb P H ds r (Zk0 E d v) m'):=rfl
theorem Zyf (ds:List (Option Nat))(d:Option Tmp)(op:Op)(ty:TypeId)(pos:String)(af:Array Edge)(g:Option (Nat × Bool))(r:List Oper):Zdb P H ds (⟨d,op,ty,pos,af,g⟩::r) E m=lks P H ds d r E m (Zlf P H ds ⟨d,op,ty,pos,af,g⟩ E m):=by
 show (match Zlf P H ds ⟨d,op,ty,pos,af,g⟩ E m with
  | some (v,m')=>(match Zdb P H ds r (Zk0 E d v) m' with
   | some l=>some ((E,m)::l)
   | none=>none)
  | none=>none)=_
 cases Zlf P H ds ⟨d,op,ty,pos,af,g⟩ E m with
 | none=>rfl
 | some p =>
  obtain⟨v,m'⟩:=p
  show (match Zdb P H ds r (Zk0 E d v) m' with
   | some l=>some ((E,m)::l)
   | none=>none)=lkc E m (Zdb P H ds r (Zk0 E d v) m')
  cases Zdb P H ds r (Zk0 E d v) m' <;> rfl
theorem Ztu (ds:List (Option Nat))(d:Option Tmp)(op:Op)(ty:TypeId)(pos:String)(af:Array Edge):Zlf P H ds ⟨d,op,ty,pos,af,none⟩ E m=sop P H (lev E) ⟨d,op,ty,pos,af,none⟩ m:=rfl
def gd (b w:Bool)(r:Option (Value × Mem))(m:Mem):Option (Value × Mem):=if b=w then r else some (undef,m)
def gdv (v:Value)(w:Bool)(r:Option (Value × Mem))(m:Mem):Option (Value × Mem):=match v with
 | .bool b=>gd b w r m
 | _=>some (undef,m)
theorem Z5k (b w:Bool)(r:Option (Value × Mem)):gdv (.bool b) w r m=gd b w r m:=rfl
theorem Z6s (w:Bool)(r:Option (Value × Mem)):gdv undef w r m=some (undef,m):=rfl
theorem Zuc (ds:List (Option Nat))(d:Option Tmp)(op:Op)(ty:TypeId)(pos:String)(af:Array Edge)(j:Nat)(w:Bool):Zlf P H ds ⟨d,op,ty,pos,af,some (j,w)⟩ E m=match ds[j]? with
  | some (some d')=>(match Zcm E d' with
   | some v=>gdv v w (sop P H (lev E) ⟨d,op,ty,pos,af,some (j,w)⟩ m) m
   | none=>none)
  | _=>none:=rfl
theorem Z6a (r:Option (Value × Mem)):gd true true r m=r:=rfl
theorem Z45 (r:Option (Value × Mem)):gd false false r m=r:=rfl
theorem Z5i (r:Option (Value × Mem)):gd true false r m=some (undef,m):=rfl
theorem Z5c (r:Option (Value × Mem)):gd false true r m=some (undef,m):=rfl
theorem Z37 (d:Nat)(v:Value):Zk0 E (some d) v=(d,v)::E:=rfl
theorem Z21 (v:Value):Zk0 E none v=E:=rfl
theorem Z47 (i:Nat):lev E (.tmp i)=(Zcm E i).getD undef:=rfl
theorem Z53 (v:Value):lev E (.const v)=v:=rfl
theorem Z6f (i:Nat):lev E (.global i)=.pointer (some ⟨i,0,none⟩):=rfl
theorem Z5w (i:Nat):lev E (.func i)=.func (.func i) #[] #[]:=rfl
theorem Z23 (i:Nat):Zcm [] i=none:=rfl
theorem Z4c (j:Nat)(v:Value)(r:Zcu)(i:Nat):Zcm ((j,v)::r) i=if i=j then some v else Zcm r i:=rfl
theorem Z25 (i:Nat)(v:Value):Zv6 [] i v=[(i,v)]:=rfl
theorem Z4p (j:Nat)(w:Value)(r:Zcu)(i:Nat)(v:Value):Zv6 ((j,w)::r) i v=if i=j then (j,v)::r else (j,w)::Zv6 r i v:=rfl
theorem Z16 (nv:Nat):Zit nv []=[]:=rfl
theorem Z1g (nv:Nat)(j:Nat)(w:Value)(r:Zcu):Zit nv ((j,w)::r)=if j < nv then (j,w)::Zit nv r else Zit nv r:=rfl
theorem Z2n (E':Zcu):Zi9 E' [] E=E:=rfl
theorem Z1i (E':Zcu)(i:Nat)(r:List Nat):Zi9 E' (i::r) E=match Zcm E' i with
  | some v=>Zi9 E' r (Zv6 E i v)
  | none=>Zi9 E' r E:=rfl
theorem Zyt (E':Zcu):Zg2 E' [] E=E:=rfl
theorem Zzp (E':Zcu)(i:Nat)(r:List Nat):Zg2 E' (i::r) E=match Zcm E' i with
  | some v=>(i,v)::Zg2 E' r E
  | none=>Zg2 E' r E:=rfl
theorem Z0k (ups cs:List Nat)(E':Zcu)(m':Mem):Rg P T S nv C ups cs (some (E',m')) k E Q↔R P T S nv C .normal k (Zg2 E' cs (Zi9 E' ups (Zit nv E))) m' Q:=Iff.rfl
theorem Zuj (ds:List (Option Nat))(l:List Oper)(places:List (Nat × List Nat))(S:List (Zcu × Mem)):Zqs P H ds l places (some S)=if Zgs P H ds l S places=true then S.getLast? else none:=rfl
theorem Zze (ds:List (Option Nat))(all:List Oper)(S:List (Zcu × Mem)):Zgs P H ds all S []=true:=rfl
theorem Zzt (ds:List (Option Nat))(all:List Oper)(S:List (Zcu × Mem))(j:Nat)(is:List Nat)(r:List (Nat × List Nat)):Zgs P H ds all S ((j,is)::r)=((match all[j]?,S[j]? with
  | some o,some (E,m)=>(match Zlf P H ds o E m with
   | some (v,_)=>is.all fun i=>match S[i]? with
    | some (_,m')=>Zqb P H ds o E v m'
    | none=>false
   | none=>false)
  | _,_=>false) && Zgs P H ds all S r):=rfl
theorem Z1v (ds:List (Option Nat))(o:Oper)(v:Value):Zqb P H ds o E v m=match Zlf P H ds o E m with
  | some (v',_)=>eqV v v'
  | none=>false:=rfl
theorem Z7g {rs:List ResultVar}{A:Value→Mem→Prop}(e:Zjx):QF P rs A e E m↔(okx e=true∧match Zgf P E m rs with
  | some v=>A v m
  | none=>False):=Iff.rfl
def Zdt (T:FuncId→Option Func)(f:FuncId)(c:Code)(rs:List ResultVar)(n:Nat):Prop:=∃ fn,T f=some fn∧fn.body=some c∧fn.results.toList=rs∧n≤fn.ntmps
theorem Zey {f:FuncId}{c:Code}{rs:List ResultVar}{n:Nat}{args:List Value}{A:Value→Mem→Prop}(nv:Nat)(C:List Nat)(hf:Zdt T f c rs n)(hS:S f=[])(hl:args.length=n)(h:W P T S nv C c [] (Zle args 0) m (QF P rs A)) :
  ∃ v m',Zbi P T S f args m=some (v,m')∧A v m':=by
 obtain⟨fn,h1,h2,h3,h4⟩:=hf
 subst h3
 exact Z28 nv C h1 h2 hS (by omega) h
theorem Zgh {f:FuncId}{c:Code}{rs:List ResultVar}{n:Nat}{args:List Value}{v:Value}{m':Mem}(nv:Nat)(C:List Nat)(hf:Zdt T f c rs n)(hS:S f=[])(hl:args.length=n)(h:W P T S nv C c [] (Zle args 0) m (QF P rs fun u m1=>u=v∧m1=m')) :
  Zbi P T S f args m=some (v,m'):=by
 obtain⟨u,m1,h1,rfl,rfl⟩:=Zey nv C hf hS hl h
 exact h1
end
end Go.Sh
namespace Go.Sh
section
variable {P:Program}{m:Mem}
def Sl (m:Mem)(ao:Option Addr)(n:Nat)(cells:List Value)(e:TypeId)(z fam:Nat):Prop:=
 n * z=cells.length∧((ao=none∧n=0)∨∃ b,ao=some ⟨b,0,none⟩∧Own m b cells e fam)
theorem Sl.nil (m:Mem)(e z fam:Nat):Sl m none 0 [] e z fam:=⟨by simp,Or.inl ⟨rfl,rfl⟩⟩
theorem Sl.of {b n:Nat}{cells:List Value}{e z fam:Nat}(h:Own m b cells e fam)(hn:n * z=cells.length):Sl m (some ⟨b,0,none⟩) n cells e z fam:=⟨hn,Or.inr ⟨b,rfl,h⟩⟩
theorem Sl.own {ao:Option Addr}{n:Nat}{cells:List Value}{e z fam:Nat}(h:Sl m ao n cells e z fam)(hn:n≠0):∃ b,ao=some ⟨b,0,none⟩∧Own m b cells e fam:=by
 rcases h.2 with⟨_,h0⟩ | h
 ·exact absurd h0 hn
 ·exact h
theorem Sl.keep {m':Mem}{ao:Option Addr}{n:Nat}{cells:List Value}{e z fam:Nat}{fs:List Nat}(h:Sl m ao n cells e z fam)(k:Zao m m' fs)(hf:fam∉fs):Sl m' ao n cells e z fam:=by
 refine⟨h.1,?_⟩
 rcases h.2 with h | ⟨b,h1,h2⟩
 ·exact Or.inl h
 ·exact Or.inr ⟨b,h1,h2.keep k hf⟩
theorem Zao.nil {m m':Mem}{fs:List Nat}(h:Zao m m' []):Zao m m' fs:=h.mono (fun _ hx=>by simp at hx)
theorem Zao.fresh {m m1 m2:Mem}{fs:List Nat}(h:Zao m m1 [])(k:Zao m1 m2 fs)(hb:∀ f∈fs,m.next≤f):Zao m m2 []:=by
 refine⟨Nat.le_trans h.1 k.1,fun l bl hl hg hq hf=>?_,fun f hl hf=>?_,fun f hl hf=>?_⟩
 ·exact k.2.1 l bl (Nat.lt_of_lt_of_le hl h.1) (h.2.1 l bl hl hg hq hf) (Nat.lt_of_lt_of_le hq h.1) (fun hx=>by have:=hb _ hx;omega)
 ·rw [k.2.2.1 f (Nat.lt_of_lt_of_le hl h.1) (fun hx=>by have:=hb _ hx;omega),h.2.2.1 f hl hf]
 ·rw [k.2.2.2 f (Nat.lt_of_lt_of_le hl h.1) (fun hx=>by have:=hb _ hx;omega),h.2.2.2 f hl hf]
theorem Zao.mono2 {m m1 m2:Mem}{fs:List Nat}{b:Nat}(h:Zao m m1 fs)(k:Zao m1 m2 (b::fs))(hb:m.next≤b):Zao m m2 fs:=by
 refine⟨Nat.le_trans h.1 k.1,fun l bl hl hg hq hf=>?_,fun f hl hf=>?_,fun f hl hf=>?_⟩
 ·exact k.2.1 l bl (Nat.lt_of_lt_of_le hl h.1) (h.2.1 l bl hl hg hq hf) (Nat.lt_of_lt_of_le hq h.1) (by simp only [List.mem_cons,not_or];exact⟨by omega,hf⟩)
 ·rw [k.2.2.1 f (Nat.lt_of_lt_of_le hl h.1) (by simp only [List.mem_cons,not_or];exact⟨by omega,hf⟩),h.2.2.1 f hl hf]
 ·rw [k.2.2.2 f (Nat.lt_of_lt_of_le hl h.1) (by simp only [List.mem_cons,not_or];exact⟨by omega,hf⟩),h.2.2.2 f hl hf]
theorem Zfm {ty e:TypeId}{z bt n k fam b:Nat}{cells news:List Value}{r:Option (Value × Mem)}(hr:Zcd P ty m (.slice (some ⟨b,0,none⟩) n n) news k=r)(ht:P.underlying ty=some (.slice e))(ha:Zna P e z bt=true)
  (h:Own m b cells e fam) (hn:n * z=cells.length) (hnews:news.length=k * z) (h1:news.all one=true) (hb:(n+k) * bt≤140737488355328) (h63:n+k≤9223372036854775807) :
  ∃ m1 b',r=some (.slice (some ⟨b',0,none⟩) (n+k) (n+k),m1)∧Own m1 b' (cells++news) e fam∧Zao m m1 [fam]:=by
 subst hr
 by_cases hk:k=0
 ·subst hk
  have hn:news=[]:=List.length_eq_zero_iff.1 (by rw [hnews];simp)
  subst hn
  exact⟨m,b,Zpn ht ha h (by simpa using hb) (by omega),by simpa using h,.refl _ _⟩
 ·exact⟨_,_,Zqh ht ha h hn hk hnews h1 hb h63,h.grow _ true,h.keeps_grow _ true (by simp)⟩
theorem Zr6 {ty e e0:TypeId}{z bt n k fam b:Nat}{cells news cs:List Value}{r:Option (Value × Mem)}(hr:Zcd P ty (m.new cs e0) (.slice (some ⟨b,0,none⟩) n n) news k=r)(ht:P.underlying ty=some (.slice e))(ha:Zna P e z bt=true)
  (h:Own m b cells e fam) (hn:n * z=cells.length) (hnews:news.length=k * z) (h1:news.all one=true) (hb:(n+k) * bt≤140737488355328) (h63:n+k≤9223372036854775807) :
  ∃ m1 b',r=some (.slice (some ⟨b',0,none⟩) (n+k) (n+k),m1)∧Own m1 b' (cells++news) e fam∧Zao m m1 [fam]:=by
 obtain⟨m1,b',h1,h2,h3⟩:=Zfm hr ht ha (h.keep (Zb9 m cs e0 []) (by simp)) hn hnews h1 hb h63
 exact⟨m1,b',h1,h2,(Zb9 m cs e0 _).trans h3⟩
theorem Za4 {l off fam:Nat}{cells vs:List Value}{e:TypeId}{r:Option Mem}(hr:Za8 m ⟨l,off,none⟩ vs=r)(h:Own m l cells e fam)(hk:off+vs.length≤cells.length)(h1:vs.all one=true) :
  ∃ m1,r=some m1∧Own m1 l (Zdh cells off vs) e fam∧Zao m m1 [fam]:=by
 subst hr
 exact⟨_,h.store hk h1,h.put _,h.keeps_put _ (by simp)⟩
theorem Z1t (a b:Int):(a == b)=decide (a=b):=by by_cases h:a=b <;> simp [h]
theorem Z0j (a b:Int):(a != b)=!decide (a=b):=by by_cases h:a=b <;> simp [h]
theorem Z2g (a b:List UInt8):(a == b)=decide (a=b):=by by_cases h:a=b <;> simp [h]
theorem Za7 {cs:List Value}{e:TypeId}{m1:Mem}(hr:m.new cs e=m1):Own m1 m.next cs e m.next∧Zao m m1 []∧m.next < m1.next:=by
 subst hr
 exact⟨Own.new _ _ _,Zb9 _ _ _ _,by simp [Mem.new]⟩
end
end Go.Sh
namespace Go.Sh
section
variable {P:Program}{T:FuncId→Option Func}{S:Zed}{k:List Fr}{E:Zcu}{m:Mem}{Q:Zrm}
theorem Zbg {b:Code}(nv:Nat)(C:List Nat)(I:Nat→Zcu→Mem→Prop)(n:Nat)(hI:∃ E0,I n E0 m∧Z2v E0 E)
  (step:∀ n E m,(∀ n' E1 E' m',I n' E1 m'→n' < n→Z2v E1 E'→Zr8 P T S (.loop b) k E' m' Q)→I n E m→W P T S nv C b (.loop b::k) E m Q):Zr8 P T S (.loop b) k E m Q:=by
 have all:∀ n E m,I n E m→Zr8 P T S (.loop b) k E m Q:=by
  intro n
  induction n using Nat.strongRecOn with
  | _ n ih=>exact fun E m hI=>Zzb (step n E m (fun n' E1 E' m' h1 hlt hs=>Zei (ih n' hlt E1 m' h1) hs) hI)
 obtain⟨E0,h0,hs⟩:=hI
 exact Zei (all n E0 m h0) hs
end
end Go.Sh
namespace Go.Sh
section
variable {P:Program}{m:Mem}
theorem Zl6:∀ l:List UInt8,bytesOf (l.map fun b=>Value.int .u8 b.toNat)=some l
 | []=>rfl
 | b::r=>by
  have h1:=b.toNat_lt
  simp only [List.map_cons,bytesOf]
  rw [if_pos (by simp;omega),Zl6 r]
  simp
end
end Go.Sh
namespace Go.Sh
section
variable {P:Program}{E:Zcu}{m:Mem}
theorem Zya (i:Nat):Zh P E m (.tmp i)=Zcm E i:=rfl
theorem Zbj {t:TypeId}{z:Nat}(h:Zu1 P t z=true)(a:Nat):Zh P E m (.cell a t)=match Zcm E a with
  | some (.pointer (some ad))=>(match loadRow m ad z with
   | some cs=>some (.agg cs.toArray)
   | none=>none)
  | _=>none:=by
 unfold Zu1 at h
 simp only [Bool.and_eq_true,beq_iff_eq] at h
 obtain⟨u,hu⟩:=Option.isSome_iff_exists.1 h.1.1
 simp only [Zh,hu,h.1.2,h.2,if_true]
 cases Zcm E a with
 | none=>rfl
 | some v =>
  cases v with
  | pointer ao =>
   cases ao with
   | none=>rfl
   | some ad=>simp only;cases loadRow m ad z <;> rfl
  | _=>rfl
end
end Go.Sh
namespace Go.Sh
open Go.RowKit Go.WideShapes Go.ChangeShapes
def SpN (ao:Option Addr):Prop:=∀ a,ao=some a→a.spot=none
theorem SpN.nil:SpN none:=fun a e=>by cases e
theorem SpN.blk (b:Nat):SpN (some ⟨b,0,none⟩):=fun a e=>by cases e;rfl
def Rs (m:Mem)(ao:Option Addr)(n:Nat)(cells:List Value)(e:TypeId)(z fam:Nat):Prop:=
 n * z=cells.length∧(n=0∧SpN ao∨∃ b,ao=some ⟨b,0,none⟩∧Rdo m b cells e fam)
section
variable {P:Program}{J:Inj}{m m':Mem}{w:World}
theorem Rs.keep {ao:Option Addr}{n:Nat}{cells:List Value}{e z fam:Nat}{fs:List Nat}(h:Rs m ao n cells e z fam)(k:Zao m m' fs)(hf:fam∉fs):Rs m' ao n cells e z fam:=by
 refine⟨h.1,?_⟩
 rcases h.2 with h | ⟨b,h1,h2⟩
 ·exact Or.inl h
 ·exact Or.inr ⟨b,h1,h2.keep k hf⟩
theorem Rs.rdo {ao:Option Addr}{n:Nat}{cells:List Value}{e z fam:Nat}(h:Rs m ao n cells e z fam)(hn:n≠0):∃ b,ao=some ⟨b,0,none⟩∧Rdo m b cells e fam:=by
 rcases h.2 with h | h
 ·exact absurd h.1 hn
 ·exact h
theorem Rs.spot {ao:Option Addr}{n:Nat}{cells:List Value}{e z fam:Nat}(h:Rs m ao n cells e z fam):SpN ao:=by
 rcases h.2 with h | ⟨b,rfl,_⟩
 ·exact h.2
 ·exact .blk b
theorem Sl.rs {ao:Option Addr}{n:Nat}{cells:List Value}{e z fam:Nat}(h:Sl m ao n cells e z fam):Rs m ao n cells e z fam:=by
 refine⟨h.1,?_⟩
 rcases h.2 with⟨e,h⟩ | ⟨b,h1,h2⟩
 ·exact Or.inl ⟨h,e ▸ .nil⟩
 ·exact Or.inr ⟨b,h1,h2.rdo⟩
def Zvo (P:Program)(w:World){R:Type}(f:R→List Value)(wf:R→Prop)(e z:Nat)(v:Value):Prop:=
 v=.slice none 0 0∨∃ (s:Zm7) (rs:List R),s.Ok P w∧s.cells=rs.flatMap f∧s.n=rs.length∧s.e=e∧s.z=z∧v=.slice (some s.a) s.n s.cap∧∀ r∈rs,wf r
theorem Zjg {R:Type}{f:R→List Value}{z:Nat}(hf:∀ r,(f r).length=z):∀ rs:List R,(rs.flatMap f).length=rs.length * z
 | []=>by simp
 | r::rs=>by rw [List.flatMap_cons,List.length_append,hf,Zjg hf rs,List.length_cons,Nat.add_mul];omega
theorem Z4b (hM:Zcf P J m (Zg1 w) w w){R:Type}{f:R→List Value}{wf:R→Prop}{e z:Nat}(he:Zbo P e=some z)(hz:0 < z)(hf:∀ r,(f r).length=z){v:Value}(hv:Zvo P w f wf e z v) :
  ∃ (rs:List R) (J':Inj) (m':Mem) (ao:Option Addr) (fam:Nat),J.le J'∧Zcf P J' m' (Zg1 w) w w∧Zbv J' (.slice ao rs.length rs.length) v∧Rs m' ao rs.length (rs.flatMap f) e z fam∧m.next≤fam∧fam < m'.next∧Zao m m' []∧
   rs.length≤9223372036854775807∧∀ r∈rs,wf r:=by
 rcases hv with rfl | ⟨s,rs,hs,h1,h2,h3,h4,rfl,h5⟩
 ·have hok:(⟨[],e,⟨0,0,none⟩,0,0,z⟩:Zm7).Ok P w:=⟨Option.map_eq_some_iff.1 he,rfl,Nat.le_refl _,by simp,fun h=>absurd rfl h,fun h=>absurd rfl h,fun i v hv=>by simp at hv⟩
  exact⟨[],_,_,none,m.next,J.le_snoc _ _ _ _,hM.addArg hok,.clo _ rfl,⟨by simp,Or.inl ⟨rfl,.nil⟩⟩,Nat.le_refl _,by rw [Zdl];omega,Zg3 _ _,by simp,fun n hn=>by simp at hn⟩
 ·have hr:=Z0s hM hs
  unfold Zm7.val at hr
  refine⟨rs,_,_,some ⟨m.next,0,none⟩,m.next,J.le_snoc _ _ _ _,hM.addArg hs,by rw [h2] at hr ⊢;exact hr,⟨(Zjg hf rs).symm,?_⟩,Nat.le_refl _,by rw [Zdl];omega,Zg3 _ _,by have:=hs.le;have:=hs.max;omega,h5⟩
  by_cases hn:rs.length=0
  ·exact Or.inl ⟨hn,.blk _⟩
  ·right
   have hne:s.cells≠[]:=by
    rw [h1]
    intro e0
    have:=Zjg hf rs
    rw [e0] at this
    have:0 < rs.length * z:=Nat.mul_pos (by omega) hz
    simp at *
    omega
   obtain⟨g1,g2⟩:=Zw9 (m:=m) (s:=s) hne
   refine⟨m.next,rfl,?_,⟨_,g2,Nat.le_refl _⟩,by rw [Zdl];omega,by rw [Zdl];omega⟩
   rw [g1,h1,h3]
section
variable {H:Type}{enc:TypeId × Value→H}
theorem Zzc {r:Reach}{b0:Nat}{t e:TypeId}{k:IntKind}{v:Value}{d:DataW H}{ps:List MemPlace}(ht:P.underlying t=some (.slice e))(he:P.underlying e=some (.int k))(hz:Zbo P e=some 1)
  (hval:Value.okWide P w r b0 t v) (hd:DataW.Trod enc P w 0 (fun _=>true) true t v d ps) :
  Zvo P w (fun n:Int=>[Value.int k n]) (fun n=>(Lit.int k n).wf=true) e 1 v:=by
 obtain⟨i,hi,hz⟩:=Option.map_eq_some_iff.1 hz
 rcases Zyn ht he hi hz hval hd with h | ⟨s,zs,h1,h2,h3,h4,h5,h6,h7⟩
 ·exact Or.inl h
 ·exact Or.inr ⟨s,zs,h1,by rw [h2];exact List.map_eq_flatMap,h3,h4,h5,h6,h7⟩
end
end
end Go.Sh
namespace Go.Sh
open Go.RowKit
section
variable {P:Program}{H:Zc4}{m:Mem}{ρ:Operand→Value}{o:Oper}{d:Option Tmp}{ty:TypeId}{pos:String}{af:Array Edge}{g:Option (Nat × Bool)}
def Zg0 (P:Program)(t:TypeId)(a b:Value):Option Bool:=match P.underlying t,a,b with
 | some .bool,.bool x,.bool y=>some (x == y)
 | some (.int _),.int k x,.int j y=>if k=j then some (x == y) else none
 | some .string,.string x,.string y=>some (x == y)
 | _,_,_=>none
def Zj5 (P:Program):List (TypeId × Nat)→Array Value→Array Value→Option Bool
 | [],_,_=>some true
 | (t,off)::r,xs,ys=>match xs[off]?,ys[off]? with
  | some a,some b=>match Zg0 P t a b with
   | some true=>Zj5 P r xs ys
   | some false=>some false
   | none=>none
  | _,_=>none
theorem Ze7 {t:TypeId}{u:TypeDesc}(h:P.underlying t=some u):Zd6 P (underlying t)=some u:=by
 unfold underlying
 rw [Zfi]
 show (some P).bind _=_
 simp [h]
 rfl
theorem Zms {t:TypeId}{a b:Value}{r:Bool}(dd:Nat)(h:Zg0 P t a b=some r):Zd6 P (Op.equalIn (dd+1) t a b)=some r:=by
 unfold Zg0 at h
 unfold Op.equalIn
 rw [Zfi]
 split at h
 ·rename_i hu
  rw [Ze7 hu]
  simp only [Option.some.injEq] at h
  subst h;rfl
 ·rename_i hu
  rw [Ze7 hu]
  split at h
  ·rename_i e
   simp only [Option.some.injEq] at h
   subst h;subst e
   simp only [Option.bind_some,if_true];rfl
  ·cases h
 ·rename_i hu
  rw [Ze7 hu]
  simp only [Option.some.injEq] at h
  subst h;rfl
 ·cases h
def Zrq (P:Program)(t:TypeId)(fs:List (TypeId × Nat)):Bool:=match P.underlying t with
 | some (.struct fields)=>(fields.toList.map (fun f=>(f.type,f.offset)) == fs) && fields.toList.all (fun f=>f.name != "_" && Zl7 P f.type) && !P.stoodInHeld t && !P.eqGuardType P.depth t
 | _=>false
theorem Zp9 {t:TypeId}(h:Zl7 P t=true){cs:Array Value}{off:Nat}{v:Value}(hv:cs[off]?=some v):Zd6 P (part t cs off)=some v:=by
 unfold Zl7 at h
 rw [Bool.and_eq_true,Bool.not_eq_true'] at h
 obtain⟨u,hu⟩:=Option.isSome_iff_exists.1 h.1
 have hag:Zd6 P (isAgg t)=some false:=by
  have h2:=h.2
  unfold Zhe at h2
  rw [hu] at h2
  unfold isAgg
  rw [Zfi,Ze7 hu]
  simp only [Option.bind_some]
  cases u <;> simp_all <;> rfl
 unfold part
 rw [Zfi,hag]
 simp only [Option.bind_some,Bool.false_eq_true,if_false,hv]
 rfl
theorem Zuz {t:TypeId}{fs:List (TypeId × Nat)}(h:Zrq P t fs=true){xs ys:Array Value}{b:Bool}(he:Zj5 P fs xs ys=some b)(dd:Nat):Zd6 P (Op.equalIn (dd+2) t (.agg xs) (.agg ys))=some b:=by
 unfold Zrq at h
 split at h
 ·rename_i fields hu
  simp only [Bool.and_eq_true,beq_iff_eq,Bool.not_eq_true'] at h
  obtain⟨⟨⟨h1,h2⟩,h3⟩,h4⟩:=h
  unfold Op.equalIn
  rw [Zfi,Ze7 hu]
  simp only [Option.bind_some]
  rw [Zfi]
  show (some P).bind _=_
  simp only [Option.bind_some,h3,Bool.false_eq_true,if_false]
  rw [Zfi,← Array.forIn_toList]
  generalize fields.toList=l at h1 h2
  subst h1
  have key:∀ (l:List Field),l.all (fun f=>f.name != "_" && Zl7 P f.type)=true→∀ b,Zj5 P (l.map fun f=>(f.type,f.offset)) xs ys=some b→
    Zd6 P (forIn l ((none,()):Option Bool × Unit) fun f __s=>if f.name≠"_" then do
       let a ← part f.type xs f.offset
       let c ← part f.type ys f.offset
       let e ← Op.equalIn (dd+1) f.type a c
       if (!e)=true then pure (ForInStep.done (some false,())) else pure (ForInStep.yield (none,()))
      else pure (ForInStep.yield (none,())))=some (if b then (none,()) else (some false,())):=by
   intro l
   induction l with
   | nil =>
    intro _ b hb
    simp only [List.map_nil,Zj5,Option.some.injEq] at hb
    subst hb
    rfl
   | cons f r ih =>
    intro hall b hb
    simp only [List.all_cons,Bool.and_eq_true,bne_iff_ne,ne_eq] at hall
    simp only [List.map_cons,Zj5] at hb
    split at hb
    ·rename_i u v hu hv
     rw [List.forIn_cons,Zfi]
     rw [if_pos hall.1.1,Zfi,Zp9 hall.1.2 hu]
     simp only [Option.bind_some]
     rw [Zfi,Zp9 hall.1.2 hv]
     simp only [Option.bind_some]
     split at hb
     ·rename_i hs
      rw [Zfi,Zms dd hs]
      exact ih (by simpa using hall.2) b hb
     ·rename_i hs
      rw [Zfi,Zms dd hs]
      simp only [Option.some.injEq] at hb
      subst hb
      rfl
     ·cases hb
    ·cases hb
  rw [key l h2 b he]
  cases b <;> rfl
 ·cases h
theorem Zdc {t:TypeId}{fs:List (TypeId × Nat)}(h:Zrq P t fs=true)(op:BinOp)(hop:op=.eql∨op=.neq)(x y:Operand){yt:TypeId}:Zdd P ρ ⟨d,.binOp op t x y yt,ty,pos,af,g⟩ op t x y m=match ρ x,ρ y with
  | .agg xs,.agg ys=>(match (if Zc8 xs=true∧Zc8 ys=true then Zj5 P fs xs ys else none) with
   | some b=>(Zeq op b).map (·,m)
   | none=>Z2s P ρ ⟨d,.binOp op t x y yt,ty,pos,af,g⟩ op t x y m)
  | _,_=>Z2s P ρ ⟨d,.binOp op t x y yt,ty,pos,af,g⟩ op t x y m:=by
 cases hx:ρ x with
 | agg xs =>
  cases hy:ρ y with
  | agg ys =>
   simp only
   split
   ·rename_i b hb
    split at hb
    ·rename_i hcl
     have hg:P.eqGuardType P.depth t=false:=by
      unfold Zrq at h
      split at h
      ·simp only [Bool.and_eq_true,Bool.not_eq_true'] at h;exact h.2
      ·cases h
     have he:Zd6 P (Op.equal t (.agg xs) (.agg ys))=some b:=Zuz h hb 9998
     have hgd:Zd6 P (eqGuard op t x y (.agg xs) (.agg ys))=some ():=by
      unfold eqGuard
      rcases hop with rfl | rfl
      ·show Zd6 P (do if !(← program).eqGuardType (← program).depth t then return else (do if ← Op.eqGuardIn Op.maxDepth t (.agg xs) (.agg ys) then unsupported (.noEntry "binop/eql: two nil values of an interface type with methods, in a part of a struct or an array")))=_
       rw [Zfi]
       show (some P).bind _=_
       simp only [Option.bind_some]
       rw [Zfi]
       show (some P).bind _=_
       simp only [Option.bind_some,hg,Bool.not_false,if_true]
       rfl
      ·show Zd6 P (do if !(← program).eqGuardType (← program).depth t then return else (do if ← Op.eqGuardIn Op.maxDepth t (.agg xs) (.agg ys) then unsupported (.noEntry "binop/eql: two nil values of an interface type with methods, in a part of a struct or an array")))=_
       rw [Zfi]
       show (some P).bind _=_
       simp only [Option.bind_some]
       rw [Zfi]
       show (some P).bind _=_
       simp only [Option.bind_some,hg,Bool.not_false,if_true]
       rfl
     have hc:Zc0 P ρ ⟨d,.binOp op t x y yt,ty,pos,af,g⟩=Zeq op b:=by
      refine Zqp (by simp [Op.operands,hx,hy,Zbs,hcl.1,hcl.2]) ?_ (by intro u hu;rcases hop with rfl | rfl <;> simp [Zeq] at hu <;> subst hu <;> rfl)
      have e:execOp ρ ⟨d,.binOp op t x y yt,ty,pos,af,g⟩=(Next.value <$> (do eqGuard op t x y (ρ x) (ρ y);binOp op t (ρ x) (ρ y))):=by
       rcases hop with rfl | rfl <;> rfl
      rw [e,Z3n,hx,hy,Zfi,hgd]
      simp only [Option.bind_some]
      rcases hop with rfl | rfl
      ·have:Zd6 P (binOp .eql t (.agg xs) (.agg ys))=some (.bool b):=by
        show Zd6 P (Op.equal t (.agg xs) (.agg ys) >>= fun r=>pure (Value.bool r))=_
        rw [Zfi,he];rfl
       rw [this];rfl
      ·have:Zd6 P (binOp .neq t (.agg xs) (.agg ys))=some (.bool !b):=by
        show Zd6 P (Op.equal t (.agg xs) (.agg ys) >>= fun r=>pure (Value.bool !r))=_
        rw [Zfi,he];rfl
       rw [this];rfl
     have hund:∃ fields,P.underlying t=some (.struct fields):=by
      unfold Zrq at h
      split at h
      ·rename_i fields hu;exact⟨fields,hu⟩
      ·cases h
     obtain⟨fields,hu⟩:=hund
     simp only [Zdd,hu,hx,hy,hc]
    ·cases hb
   ·rfl
  | _=>rfl
 | _=>rfl
theorem Zy9 (xs ys:Array Value):Zj5 P [] xs ys=some true:=rfl
theorem Zy5 (t off:Nat)(r:List (TypeId × Nat))(xs ys:Array Value):Zj5 P ((t,off)::r) xs ys=match xs[off]?,ys[off]? with
 | some a,some b=>(match Zg0 P t a b with
  | some true=>Zj5 P r xs ys
  | some false=>some false
  | none=>none)
 | _,_=>none:=rfl
theorem Zcy {t:TypeId}{k:IntKind}(h:P.underlying t=some (.int k))(i j:IntKind)(x y:Int):Zg0 P t (.int i x) (.int j y)=if i=j then some (x == y) else none:=by simp [Zg0,h]
theorem Zc5 {t:TypeId}(h:P.underlying t=some .string)(x y:ByteArray):Zg0 P t (.string x) (.string y)=some (x == y):=by simp [Zg0,h]
theorem Z30 (a b:List UInt8):((⟨a.toArray⟩:ByteArray) == ⟨b.toArray⟩)=decide (a=b):=by
 have e:((⟨a.toArray⟩:ByteArray) == ⟨b.toArray⟩)=(a.toArray == b.toArray):=rfl
 rw [e,Bool.eq_iff_iff]
 simp
theorem Zv2 (l:List Value):Zc8 l.toArray=Zd5 l:=rfl
theorem Zv9:Zd5 []=true:=rfl
theorem Zv1 (v:Value)(r:List Value):Zd5 (v::r)=(Zbs v && Zd5 r):=rfl
theorem Zr1 (k:IntKind)(n:Int):Zbs (.int k n)=true:=rfl
theorem Zs (s:ByteArray):Zbs (.string s)=true:=rfl
theorem Zph (b:Bool):Zbs (.bool b)=true:=rfl
end
end Go.Sh
namespace Go.Sh
section
variable {m:Mem}{l fam:Nat}{cells:List Value}{e:TypeId}
theorem Zmt {m m':Mem}(l off k:Nat)(h:m'.readable l=m.readable l):loadRow m' ⟨l,off,none⟩ k=loadRow m ⟨l,off,none⟩ k:=by
 simp only [loadRow,h]
theorem Own.ln (h:Own m l cells e fam)(cs:List Value)(e':TypeId)(off k:Nat):loadRow (m.new cs e') ⟨l,off,none⟩ k=loadRow m ⟨l,off,none⟩ k:=
 Zmt _ _ _ (by rw [(h.keep (Zb9 m cs e' []) (by simp)).readable,h.readable])
theorem Rdo.ln (h:Rdo m l cells e fam)(cs:List Value)(e':TypeId)(off k:Nat):loadRow (m.new cs e') ⟨l,off,none⟩ k=loadRow m ⟨l,off,none⟩ k:=
 Zmt _ _ _ (by rw [(h.keep (Zb9 m cs e' []) (by simp)).readable,h.readable])
end
end Go.Sh
namespace Go.Sh
theorem Z04 (a b:List Value):eqV (.agg a.toArray) (.agg b.toArray)=eqL a b:=by simp only [eqV,eqA]
theorem Z6k:eqL [] []=true:=by simp only [eqL]
theorem Z5r (a b:Value)(r s:List Value):eqL (a::r) (b::s)=(eqV a b && eqL r s):=by simp only [eqL]
theorem Zic (s:ByteArray):eqV (.string s) (.string s)=true:=by simp [eqV]
theorem Zx0 (b:Bool):eqV (.bool b) (.bool b)=true:=by simp [eqV]
end Go.Sh
namespace Go.Sh
theorem Zao.drop {m m1:Mem}{a b:Nat}{fs:List Nat}(h:Zao m m1 [a,b])(ha:a∈fs)(hb:m.next≤b):Zao m m1 fs:=by
 refine⟨h.1,fun l bl hl hg hq hf=>h.2.1 l bl hl hg hq ?_,fun f hl hf=>h.2.2.1 f hl ?_,fun f hl hf=>h.2.2.2 f hl ?_⟩
 ·simp only [List.mem_cons,List.not_mem_nil,or_false,not_or]
  exact⟨fun e=>hf (by rw [e];exact ha),by omega⟩
 ·simp only [List.mem_cons,List.not_mem_nil,or_false,not_or]
  exact⟨fun e=>hf (by rw [e];exact ha),by omega⟩
 ·simp only [List.mem_cons,List.not_mem_nil,or_false,not_or]
  exact⟨fun e=>hf (by rw [e];exact ha),by omega⟩
end Go.Sh
namespace Go.Sh
end Go.Sh
namespace Go.Sh
theorem Zvj:eqV undef undef=true:=by simp [undef,eqV,eqA,eqL]
end Go.Sh
namespace Go.Sh
open Go.RowKit Go.WideShapes Go.ChangeShapes
inductive Ty where
 | int (k:IntKind)
 | bool
 | str
 | slice (e:TypeId) (t:Ty)
 | unit
 | pair (a b:Ty)
abbrev Ty.D:Ty→Type
 | .int _=>Int
 | .bool=>Bool
 | .str=>List UInt8
 | .slice _ t=>List t.D
 | .unit=>Unit
 | .pair a b=>a.D × b.D
def Ty.size:Ty→Nat
 | .int _ | .bool | .str | .slice _ _=>1
 | .unit=>0
 | .pair a b=>a.size+b.size
def Ty.wf:(t:Ty)→t.D→Prop
 | .int k,n=>(Lit.int k n).wf=true
 | .bool,_=>True
 | .str,l=>l.length≤9223372036854775807
 | .slice _ t,l=>l.length≤9223372036854775807∧∀ x∈l,t.wf x
 | .unit,_=>True
 | .pair a b,x=>a.wf x.1∧b.wf x.2
def Ty.fits (P:Program):(t:Ty)→t.D→Prop
 | .int _,_=>True
 | .bool,_=>True
 | .str,l=>l.length≤140737488351232
 | .slice e t,l=>l.length * P.bytesOf e≤140737488351232∧∀ x∈l,t.fits P x
 | .unit,_=>True
 | .pair a b,x=>a.fits P x.1∧b.fits P x.2
def At (m:Mem):(t:Ty)→t.D→List Value→Prop
 | .int k,n,cs=>cs=[.int k n]
 | .bool,b,cs=>cs=[.bool b]
 | .str,l,cs=>cs=[.string ⟨l.toArray⟩]
 | .slice e t,l,cs=>∃ (ao:Option Addr) (css:List (List Value)) (fam:Nat),cs=[.slice ao l.length l.length]∧css.length=l.length∧(∀ (i:Nat) d c,l[i]?=some d→css[i]?=some c→At m t d c)∧Rs m ao l.length css.flatten e t.size fam
 | .unit,_,cs=>cs=[]
 | .pair a b,x,cs=>∃ c1 c2,cs=c1++c2∧At m a x.1 c1∧At m b x.2 c2
theorem At.keep {m m':Mem}(k:Zao m m' []):∀ {t:Ty} {d:t.D} {cs:List Value},At m t d cs→At m' t d cs
 | .int _,_,_,h=>h
 | .bool,_,_,h=>h
 | .str,_,_,h=>h
 | .slice e t,l,cs,⟨ao,css,fam,h1,h2,h3,h4⟩=>⟨ao,css,fam,h1,h2,fun i d c hd hc=>At.keep k (h3 i d c hd hc),h4.keep k (by simp)⟩
 | .unit,_,_,h=>h
 | .pair a b,x,cs,⟨c1,c2,h1,h2,h3⟩=>⟨c1,c2,h1,At.keep k h2,At.keep k h3⟩
theorem At.len {m:Mem}:∀ {t:Ty} {d:t.D} {cs:List Value},At m t d cs→cs.length=t.size
 | .int _,_,_,h=>by simp only [At] at h;subst h;rfl
 | .bool,_,_,h=>by simp only [At] at h;subst h;rfl
 | .str,_,_,h=>by simp only [At] at h;subst h;rfl
 | .slice e t,l,cs,⟨ao,css,fam,h1,_⟩=>by subst h1;rfl
 | .unit,_,_,h=>by simp only [At] at h;subst h;rfl
 | .pair a b,x,cs,⟨c1,c2,h1,h2,h3⟩=>by subst h1;rw [List.length_append,At.len h2,At.len h3];rfl
theorem At.elem {m:Mem}{t:Ty}{l:List t.D}{css:List (List Value)}(hl:css.length=l.length)(h:∀ (i:Nat) d c,l[i]?=some d→css[i]?=some c→At m t d c){i:Nat}(hi:i < l.length):∃ c,At m t l[i] c∧Zb css.flatten (i * t.size) t.size=c:=by
 have hc:i < css.length:=by omega
 have ha:=h i _ _ (List.getElem?_eq_getElem hi) (List.getElem?_eq_getElem hc)
 refine⟨css[i],ha,?_⟩
 have hlen:∀ c∈css,c.length=t.size:=by
  intro c hm
  obtain⟨j,hj,rfl⟩:=List.mem_iff_getElem.1 hm
  exact (h j _ _ (List.getElem?_eq_getElem (by omega)) (List.getElem?_eq_getElem hj)).len
 have flen:∀ (q:List (List Value)),(∀ c∈q,c.length=t.size)→q.flatten.length=q.length * t.size:=by
  intro q
  induction q with
  | nil=>intro _;simp
  | cons a r ih =>
   intro hq
   rw [List.flatten_cons,List.length_append,ih (fun c hc=>hq c (by simp [hc])),hq a (by simp),List.length_cons,Nat.add_mul]
   omega
 have hs:css.flatten=(css.take i).flatten++(css[i]++(css.drop (i+1)).flatten):=by
  have h1:=List.take_append_drop i css
  rw [List.drop_eq_getElem_cons hc] at h1
  have h2:=congrArg List.flatten h1
  rw [List.flatten_append,List.flatten_cons] at h2
  exact h2.symm
 have e:(css.take i).flatten.length=i * t.size:=by
  rw [flen _ (fun c hc=>hlen c (List.mem_of_mem_take hc)),List.length_take,Nat.min_eq_left (by omega)]
 rw [hs,← e]
 simp only [Zb,List.drop_left]
 rw [List.take_append_of_le_length (by rw [ha.len];exact Nat.le_refl _)]
 exact List.take_of_length_le (by rw [ha.len];exact Nat.le_refl _)
def AtQ (Q:Nat→Prop)(m:Mem):(t:Ty)→t.D→List Value→Prop
 | .int k,n,cs=>cs=[.int k n]
 | .bool,b,cs=>cs=[.bool b]
 | .str,l,cs=>cs=[.string ⟨l.toArray⟩]
 | .slice e t,l,cs=>∃ (ao:Option Addr) (css:List (List Value)) (fam:Nat),cs=[.slice ao l.length l.length]∧css.length=l.length∧(∀ (i:Nat) d c,l[i]?=some d→css[i]?=some c→AtQ Q m t d c)∧Rs m ao l.length css.flatten e t.size fam∧(l.length≠0→Q fam)
 | .unit,_,cs=>cs=[]
 | .pair a b,x,cs=>∃ c1 c2,cs=c1++c2∧AtQ Q m a x.1 c1∧AtQ Q m b x.2 c2
theorem Rs.keep0 {m m':Mem}{ao:Option Addr}{n:Nat}{cells:List Value}{e z fam:Nat}{fs:List Nat}(h:Rs m ao n cells e z fam)(k:Zao m m' fs)(hf:n≠0→fam∉fs):Rs m' ao n cells e z fam:=by
 refine⟨h.1,?_⟩
 rcases h.2 with h2 | ⟨b,h1,h2⟩
 ·exact Or.inl h2
 ·by_cases hn:n=0
  ·exact Or.inl ⟨hn,h1 ▸ .blk b⟩
  ·exact Or.inr ⟨b,h1,h2.keep k (hf hn)⟩
theorem AtQ.keep {Q:Nat→Prop}{m m':Mem}{fs:List Nat}(k:Zao m m' fs)(hf:∀ f∈fs,¬ Q f):∀ {t:Ty} {d:t.D} {cs:List Value},AtQ Q m t d cs→AtQ Q m' t d cs
 | .int _,_,_,h=>h
 | .bool,_,_,h=>h
 | .str,_,_,h=>h
 | .slice e t,l,cs,⟨ao,css,fam,h1,h2,h3,h4,h5⟩=>⟨ao,css,fam,h1,h2,fun i d c hd hc=>AtQ.keep k hf (h3 i d c hd hc),h4.keep0 k (fun hn hm=>hf fam hm (h5 hn)),h5⟩
 | .unit,_,_,h=>h
 | .pair a b,x,cs,⟨c1,c2,h1,h2,h3⟩=>⟨c1,c2,h1,AtQ.keep k hf h2,AtQ.keep k hf h3⟩
theorem AtQ.mono {Q R:Nat→Prop}{m:Mem}(hq:∀ f,Q f→R f):∀ {t:Ty} {d:t.D} {cs:List Value},AtQ Q m t d cs→AtQ R m t d cs
 | .int _,_,_,h=>h
 | .bool,_,_,h=>h
 | .str,_,_,h=>h
 | .slice e t,l,cs,⟨ao,css,fam,h1,h2,h3,h4,h5⟩=>⟨ao,css,fam,h1,h2,fun i d c hd hc=>AtQ.mono hq (h3 i d c hd hc),h4,fun hn=>hq _ (h5 hn)⟩
 | .unit,_,_,h=>h
 | .pair a b,x,cs,⟨c1,c2,h1,h2,h3⟩=>⟨c1,c2,h1,AtQ.mono hq h2,AtQ.mono hq h3⟩
theorem AtQ.at_ {Q:Nat→Prop}{m:Mem}:∀ {t:Ty} {d:t.D} {cs:List Value},AtQ Q m t d cs→At m t d cs
 | .int _,_,_,h=>h
 | .bool,_,_,h=>h
 | .str,_,_,h=>h
 | .slice e t,l,cs,⟨ao,css,fam,h1,h2,h3,h4,h5⟩=>⟨ao,css,fam,h1,h2,fun i d c hd hc=>AtQ.at_ (h3 i d c hd hc),h4⟩
 | .unit,_,_,h=>h
 | .pair a b,x,cs,⟨c1,c2,h1,h2,h3⟩=>⟨c1,c2,h1,AtQ.at_ h2,AtQ.at_ h3⟩
section
variable (P:Program)
def fok:Ty→(TypeId→Bool) × (List Field→Nat→Bool)
 | .int k=>(fun t=>match P.underlying t with
  | some (.int j)=>decide (j=k)
  | _=>false,fun _ _=>false)
 | .bool=>(fun t=>match P.underlying t with
  | some .bool=>true
  | _=>false,fun _ _=>false)
 | .str=>(fun t=>match P.underlying t with
  | some .string=>true
  | _=>false,fun _ _=>false)
 | .slice e ty=>(fun t=>match P.underlying t with
  | some (.slice j)=>decide (j=e) && decide (0 < ty.size) && decide (Zbo P e=some ty.size) && (fok ty).1 e
  | _=>false,fun _ _=>false)
 | .unit=>(fun t=>match P.underlying t with
  | some (.struct fs)=>decide (P.cellsOf t=0) && fs.toList.isEmpty
  | _=>false,fun fs _=>fs.isEmpty)
 | .pair a b =>
  let F:=fun (fs:List Field) (o:Nat)=>match fs with
   | []=>false
   | f::r=>decide (f.offset=o) && decide (P.cellsOf f.type=a.size) && (fok a).1 f.type && (fok b).2 r (o+a.size)
  (fun t=>match P.underlying t with
  | some (.struct fs)=>decide (P.cellsOf t=a.size+b.size) && F fs.toList 0
  | _=>false,F)
end
variable {P:Program}{J:Inj}{m:Mem}{w:World}
structure Zm7.OkR (P:Program)(J:Inj)(w:World)(s:Zm7):Prop where
 info:∃ i,P.info? s.e=some i∧i.size=s.z
 le:s.n≤s.cap
 max:s.cap≤9223372036854775807
 spot:s.cap≠0→s.a.spot=none
 lt:s.cells≠[]→s.a.block < w.heap.size
 cell:∀ i v,s.cells[i]?=some v→∃ v',w.cell? ⟨s.a.block,s.a.off+i,none⟩=some v'∧Zbv J v v'
theorem Zcf.addRow (h:Zcf P J m (Zg1 w) w w){s:Zm7}(hs:s.OkR P J w):Zcf P (J.snoc s.a.block s.a.off (s.cap * s.z) s.z) (Sh.addArg m s) (Zg1 w) w w:=by
 have hJ:=h.n
 have hlt:=fun l (hl:l < m.next)=>(hJ ▸ hl:l < J.n)
 have hself:(J.snoc s.a.block s.a.off (s.cap * s.z) s.z).blk m.next=s.a.block:=by simp [Inj.snoc,hJ]
 have hbase:(J.snoc s.a.block s.a.off (s.cap * s.z) s.z).base m.next=s.a.off:=by simp [Inj.snoc,hJ]
 have hblk:∀ l,l < m.next→(J.snoc s.a.block s.a.off (s.cap * s.z) s.z).blk l=J.blk l:=fun l hl=>J.snoc_blk_lt (hlt l hl) _ _ _ _
 have hbas:∀ l,l < m.next→(J.snoc s.a.block s.a.off (s.cap * s.z) s.z).base l=J.base l:=fun l hl=>J.snoc_base_lt (hlt l hl) _ _ _ _
 have rd:=fun l b=>Zl5 (s:=s) h.dom l b
 have wr:=fun l b=>Zlb (s:=s) h.dom l b
 constructor
 ·rw [Zdl];simp [Inj.snoc,hJ]
 ·intro l b hl
  rw [Zdl]
  unfold Sh.addArg at hl
  split at hl
  ·have:=h.dom l b hl;omega
  ·simp only [Tree.get_set] at hl
   split at hl
   ·omega
   ·have:=h.dom l b hl;omega
 ·intro l b hl
  unfold Sh.addArg at hl
  split at hl
  ·rw [J.snoc_esz_lt (hlt _ (h.dom l b hl))];exact h.esz l b hl
  ·simp only [Tree.get_set] at hl
   split at hl
   ·rename_i e
    subst e
    simp only [Option.some.injEq] at hl
    subst hl
    obtain⟨i,h1,h2⟩:=hs.info
    exact⟨i,h1,by simp [Inj.snoc,hJ,h2]⟩
   ·rw [J.snoc_esz_lt (hlt _ (h.dom l b hl))];exact h.esz l b hl
 ·intro l b hl
  rcases rd l b hl with⟨rfl,hne,_⟩ | ⟨g1,g2⟩
  ·rw [hself];exact hs.lt hne
  ·rw [hblk l g1];exact h.blk l b g2
 ·intro l b hl i v hv
  rcases rd l b hl with⟨rfl,hne,rfl⟩ | ⟨g1,g2⟩
  ·rw [hself,hbase]
   obtain⟨v',k1,k2⟩:=hs.cell i v hv
   exact⟨v',k1,k2.snoc _ _ _ _⟩
  ·obtain⟨v',k1,k2⟩:=h.rd l b g2 i v hv
   exact⟨v',by rw [hblk l g1,hbas l g1];exact k1,k2.snoc _ _ _ _⟩
 ·intro l b hl
  obtain⟨g1,g2⟩:=wr l b hl
  obtain⟨v1,v2,v3,v4⟩:=h.wr l b g2
  rw [hblk l g1,hbas l g1,J.snoc_ext_lt (hlt l g1)]
  exact⟨v1,v2,v3,v4⟩
 ·intro l1 b1 l2 b2 h1 h2 e
  obtain⟨g1,g2⟩:=wr l1 b1 h1
  rcases rd l2 b2 h2 with⟨rfl,hne,rfl⟩ | ⟨k1,k2⟩
  ·rw [hself,hblk l1 g1] at e
   exact absurd (show (Zg1 w).F (J.blk l1) by rw [← e];exact hs.lt hne) (h.wr l1 b1 g2).1
  ·rw [hblk l1 g1,hblk l2 k1] at e
   rw [hbas l2 k1,hbas l1 g1]
   exact h.sep l1 b1 l2 b2 g2 k2 e
 ·exact h.below
 ·exact h.size
 ·intro g hg
  obtain⟨g1,g2,g3⟩:=h.glob g hg
  exact⟨Nat.lt_of_lt_of_le g1 (J.le_snoc _ _ _ _).n,by rw [J.snoc_blk_lt g1];exact g2,by rw [J.snoc_base_lt g1];exact g3⟩
 ·intro l s1 h1
  rw [Zfr] at h1
  obtain⟨q1,q2,es',q3,q4⟩:=h.mp l s1 h1
  exact⟨by rw [Zdl];omega,by rw [hblk l q1];exact q2,es',by rw [hblk l q1];exact q3,q4.mono (J.le_snoc _ _ _ _)⟩
 ·intro l1 l2 s1 s2 h1 h2 e
  rw [Zfr] at h1 h2
  rw [hblk _ (h.mp l1 s1 h1).1,hblk _ (h.mp l2 s2 h2).1] at e
  exact h.mi l1 l2 s1 s2 h1 h2 e
 ·intro l1 s1 l2 b2 h1 h2
  rw [Zfr] at h1
  obtain⟨q1,q2,_⟩:=h.mp l1 s1 h1
  rw [hblk l1 q1]
  rcases rd l2 b2 h2 with⟨rfl,hne,_⟩ | ⟨k1,k2⟩
  ·rw [hself]
   exact fun e=>q2 (show (Zg1 w).F (J.blk l1) by rw [← e];exact hs.lt hne)
  ·rw [hblk l2 k1];exact h.ms l1 s1 l2 b2 h1 k2
 ·exact fun _ _ _ h=>h
 ·intro l b hl
  obtain⟨g1,g2⟩:=wr l b hl
  rw [hblk l g1]
  exact h.sh l b g2
theorem Z1w (h:Zcf P J m (Zg1 w) w w){s:Zm7}(hs:s.OkR P J w):Zbv (J.snoc s.a.block s.a.off (s.cap * s.z) s.z) (.slice (some ⟨m.next,0,none⟩) s.n s.n) (.slice (some s.a) s.n s.cap):=
 Zbv.slice (J:=J.snoc s.a.block s.a.off (s.cap * s.z) s.z) m.next 0 s.n s.a s.cap (by simp [Inj.snoc,h.n]) hs.le hs.max (by simp [Inj.snoc,h.n]) (by
  by_cases hc:s.cap=0
  ·exact Or.inl hc
  ·right
   have:=hs.spot hc
   cases ha:s.a with
   | mk b o sp =>
    rw [ha] at this
    simp only at this
    subst this
    simp [Inj.snoc,h.n])
def Zg (P:Program)(w:World)(Z:Prop)(ty:Ty)(cs:List Value):Prop:=∀ J m,Zcf P J m (Zg1 w) w w→∃ (d:ty.D) (J':Inj) (m':Mem) (cs':List Value),(ty.wf d∧(Z→ty.fits P d))∧J.le J'∧Zcf P J' m' (Zg1 w) w w∧Ze J' cs' cs∧At m' ty d cs'∧Zao m m' []
theorem Ze.one {J:Inj}{a b:Value}(h:Zbv J a b):Ze J [a] [b]:=.cons h .nil
theorem Zaj (m:Mem):Zao m m []:=⟨Nat.le_refl _,fun _ _ _ h _ _=>h,fun _ _ _=>rfl,fun _ _ _=>rfl⟩
theorem Zww {Z:Prop}{ty:Ty}{csf:Nat→List Value}:∀ n:Nat,(∀ i,i < n→Zg P w Z ty (csf i))→∀ J m,Zcf P J m (Zg1 w) w w→∃ (ds:List ty.D) (J':Inj) (m':Mem) (css:List (List Value)),
  ds.length=n∧css.length=n∧(∀ d∈ds,ty.wf d∧(Z→ty.fits P d))∧J.le J'∧Zcf P J' m' (Zg1 w) w w∧(∀ (i:Nat) c,css[i]?=some c→Ze J' c (csf i))∧(∀ (i:Nat) d c,ds[i]?=some d→css[i]?=some c→At m' ty d c)∧Zao m m' []
 | 0,_,J,m,hM=>⟨[],J,m,[],rfl,rfl,by simp,.rfl J,hM,by simp,by simp,Zaj m⟩
 | n+1,h,J,m,hM=>by
  obtain⟨ds,J1,m1,css,h1,h2,h3,h4,h5,h6,h7,h8⟩:=Zww n (fun i hi=>h i (by omega)) J m hM
  obtain⟨d,J2,m2,cs,g1,g2,g3,g4,g5,g6⟩:=h n (by omega) J1 m1 h5
  refine⟨ds++[d],J2,m2,css++[cs],by simp [h1],by simp [h2],?_,h4.trans g2,g3,?_,?_,h8.trans g6⟩
  ·intro x hx
   rcases List.mem_append.1 hx with hx | hx
   ·exact h3 x hx
   ·rw [List.mem_singleton.1 hx];exact g1
  ·intro i c hc
   rw [List.getElem?_append] at hc
   split at hc
   ·exact (h6 i c hc).mono g2
   ·rename_i hi
    have:i=n:=by
     have:=(List.getElem?_eq_some_iff.1 hc).1
     simp at this
     omega
    subst this
    rw [h2,Nat.sub_self] at hc
    simp at hc
    subst hc
    exact g4
  ·intro i e c he hc
   rw [List.getElem?_append] at he hc
   rw [h1] at he
   rw [h2] at hc
   split at hc
   ·rename_i hi
    rw [if_pos hi] at he
    exact (h7 i e c he hc).keep g6
   ·rename_i hi
    rw [if_neg hi] at he
    have:i - n=0:=by
     have:=(List.getElem?_eq_some_iff.1 hc).1
     simp at this
     omega
    rw [this] at he hc
    simp at he hc
    subst he hc
    exact g5
section
variable {H:Type}{enc:TypeId × Value→H}
theorem Zg7 {P:Program}{e:TypeId}{d:DataW H}{n:Nat}:∀ {l:List (DataW H)},d∈l→n∈d.weights P e→n∈DataW.weightsAll P e l
 | x::l,hd,hn=>by
  simp only [DataW.weightsAll]
  rcases List.mem_cons.1 hd with rfl | h
  ·exact List.mem_append_left _ hn
  ·exact List.mem_append_right _ (Zg7 h hn)
theorem Zh6 {P:Program}{n:Nat}:∀ {ts:List TypeId} {l:List (DataW H)} {i:Nat} {t:TypeId} {d:DataW H},ts[i]?=some t→l[i]?=some d→n∈d.weights P t→n∈DataW.weightsEach P ts l
 | t::ts,x::l,0,t',d,ht,hd,hn=>by
  simp at ht hd
  subst ht hd
  simp only [DataW.weightsEach]
  exact List.mem_append_left _ hn
 | t::ts,x::l,i+1,t',d,ht,hd,hn=>by
  simp only [DataW.weightsEach]
  exact List.mem_append_right _ (Zh6 (by simpa using ht) (by simpa using hd) hn)
 | [],_,_,_,_,ht,_,_=>by simp at ht
 | _::_,[],_,_,_,_,hd,_=>by simp at hd
theorem Zxi {Z:Prop}{ty:Ty}{t e:TypeId}{fuel:Nat}{cs:List Value}{x:DataW H × List MemPlace}(hZ:Z→∀ n∈x.1.weights P t,n≤reachBytes)(ht:P.underlying t=some (.slice e))(hp:0 < ty.size)(hz:Zbo P e=some ty.size)
  (ih:∀ fuel cs (x:DataW H × List MemPlace),DataW.trod enc P w 0 (fun _=>true) true fuel e cs=some x→(Z→∀ n∈x.1.weights P e,n≤reachBytes)→Zg P w Z ty cs) (h:DataW.trod enc P w 0 (fun _=>true) true fuel t cs=some x):Zg P w Z (.slice e ty) cs:=by
 have hc:P.cellsOf e=ty.size:=by
  obtain⟨i,hi,h2⟩:=Option.map_eq_some_iff.1 hz
  unfold Program.cellsOf;rw [hi];simpa using h2
 rcases Deep.open_slice ht h with⟨rfl,_⟩ | ⟨a,len,cap,q,n,D,Pl,rfl,hb,hl,hm,hmm,hxe,hx⟩
 ·intro J m hM
  exact⟨([]:List ty.D),J,m,[.slice none 0 0],⟨⟨by simp,by simp⟩,fun _=>⟨by simp,by simp⟩⟩,.rfl J,hM,.one (.clo _ rfl),⟨none,[],0,rfl,rfl,by simp,by simp,Or.inl ⟨rfl,.nil⟩⟩,Zaj m⟩
 ·simp only [if_true] at hmm
  subst hmm
  have hws:Z→∀ i,i < q→∀ n∈(D i).weights P e,n≤reachBytes:=by
   intro z i hi n hn
   refine hZ z n ?_
   rw [hxe]
   simp only [DataW.weights,ht]
   refine List.mem_cons_of_mem _ ?_
   by_cases hil:i < len
   ·exact List.mem_append_left _ (Zg7 (List.mem_map.2 ⟨i,List.mem_range.2 hil,rfl⟩) hn)
   ·exact List.mem_append_right _ (Zg7 (List.mem_map.2 ⟨i - len,List.mem_range.2 (by omega),by rw [show len+(i - len)=i by omega]⟩) hn)
  have hlb:Z→len * P.bytesOf e≤140737488351232:=by
   intro z
   have h1:=hZ z (((List.range len).map D).length * P.bytesOf e+((List.range (q - len)).map fun j=>D (len+j)).length * P.bytesOf e) (by
    rw [hxe]
    simp only [DataW.weights,ht,Nat.add_mul]
    exact List.mem_cons_self ..)
   simp only [List.length_map,List.length_range,reachBytes] at h1
   omega
  rw [hc] at hx
  have hx2:∀ i,i < q→∃ cs',cs'.length=ty.size∧(∀ j,j < ty.size→w.cell? ((a.add (i * ty.size)).add j)=cs'[j]?)∧Zg P w Z ty cs':=by
   intro i hi
   obtain⟨cs',h1,h2⟩:=hx i hi
   obtain⟨_,h3,h4⟩:=World.cells?_some h1
   exact⟨cs',h3,h4,ih _ _ _ h2 (fun z=>hws z i hi)⟩
  obtain⟨csf,hcsf⟩:=Deep.choose_lt hx2
  have hspot:q≠0→a.spot=none:=by
   intro hq
   obtain⟨g1,g2,_⟩:=hcsf 0 (by omega)
   have:=g2 0 hp
   rw [List.getElem?_eq_getElem (by omega)] at this
   simp only [Nat.zero_mul,Addr.add,if_true] at this
   unfold World.cell? at this
   split at this
   ·cases hs:a.spot with
    | none=>rfl
    | some q=>rw [hs] at this;simp at this
   ·cases this
  have hadd:q≠0→∀ j,a.add j=⟨a.block,a.off+j,none⟩:=by
   intro hq j
   have hs:=hspot hq
   unfold Addr.add
   by_cases h0:j=0
   ·subst h0
    cases a with
    | mk b o sp=>simp only at hs;subst hs;simp
   ·rw [if_neg h0]
  intro J m hM
  obtain⟨ds,J1,m1,css,h1,h2,h3,h4,h5,h6,h7,h8⟩:=Zww len (fun i hi=>(hcsf i (by omega)).2.2) J m hM
  have hlen:∀ c∈css,c.length=ty.size:=by
   intro c hm
   obtain⟨j,hj,rfl⟩:=List.mem_iff_getElem.1 hm
   exact (h7 j _ _ (List.getElem?_eq_getElem (by omega)) (List.getElem?_eq_getElem hj)).len
  have flat:∀ (l:List (List Value)),(∀ c∈l,c.length=ty.size)→l.flatten.length=l.length * ty.size∧∀ k v,l.flatten[k]?=some v→∃ i j c,i < l.length∧j < ty.size∧k=i * ty.size+j∧l[i]?=some c∧c[j]?=some v:=by
   intro l
   induction l with
   | nil=>intro _;simp
   | cons c r ihr =>
    intro hq
    obtain⟨e1,e2⟩:=ihr (fun c hc=>hq c (by simp [hc]))
    have hcl:=hq c (by simp)
    constructor
    ·rw [List.flatten_cons,List.length_append,e1,hcl,List.length_cons,Nat.add_mul];omega
    ·intro k v hk
     rw [List.flatten_cons,List.getElem?_append] at hk
     split at hk
     ·exact⟨0,k,c,by simp,by omega,by omega,rfl,hk⟩
     ·rename_i hge
      obtain⟨i,j,c',g1,g2,g3,g4,g5⟩:=e2 _ _ hk
      refine⟨i+1,j,c',by simp;omega,g2,?_,by simpa using g4,g5⟩
      rw [Nat.add_mul];omega
  obtain⟨f1,f2⟩:=flat css hlen
  have hs:(⟨css.flatten,e,a,len,q,ty.size⟩:Zm7).OkR P J1 w:=by
   refine⟨Option.map_eq_some_iff.1 hz,hl,by simpa [maxLen] using hm,hspot,?_,?_⟩
   ·intro hne
    have hl0:0 < len:=by
     rcases Nat.eq_zero_or_pos len with h0 | h0
     ·exfalso;rw [h0] at h2;exact hne (by rw [List.length_eq_zero_iff.1 h2];rfl)
     ·exact h0
    obtain⟨g1,g2,_⟩:=hcsf 0 (by omega)
    have:=g2 0 hp
    rw [List.getElem?_eq_getElem (by omega)] at this
    have:=World.block_lt_of_cell? w _ this
    simpa [Addr.add] using this
   ·intro k v hk
    obtain⟨i,j,c,g1,g2,g3,g4,g5⟩:=f2 k v hk
    obtain⟨q1,q2,_⟩:=hcsf i (by omega)
    obtain⟨l1,l2⟩:=h6 i c g4
    have hj:j < (csf i).length:=by omega
    refine⟨(csf i)[j],?_,l2 j v _ g5 (List.getElem?_eq_getElem hj)⟩
    have:=q2 j g2
    rw [Deep.add_add,hadd (by omega)] at this
    simp only at this ⊢
    rw [g3,this,List.getElem?_eq_getElem hj]
  refine⟨ds,_,_,[.slice (some ⟨m1.next,0,none⟩) ds.length ds.length],⟨⟨by rw [h1];simp [maxLen] at hm;omega,fun x hx=>(h3 x hx).1⟩,fun z=>⟨by rw [h1];exact hlb z,fun x hx=>(h3 x hx).2 z⟩⟩,h4.trans (J1.le_snoc _ _ _ _),h5.addRow hs,.one (by have:=Z1w h5 hs;simp only at this;rw [h1];exact this),?_,h8.trans (Zg3 _ _)⟩
  refine⟨some ⟨m1.next,0,none⟩,css,m1.next,rfl,by omega,fun i d c hd hc=>(h7 i d c hd hc).keep (Zg3 _ _),by rw [f1,h1,h2],?_⟩
  by_cases h0:ds.length=0
  ·exact Or.inl ⟨h0,.blk _⟩
  ·right
   have hne:css.flatten≠[]:=by
    intro e0
    rw [e0,List.length_nil] at f1
    have:0 < css.length * ty.size:=Nat.mul_pos (by omega) hp
    omega
   obtain⟨g1,g2⟩:=Zw9 (m:=m1) (s:=⟨css.flatten,e,a,len,q,ty.size⟩) hne
   exact⟨m1.next,rfl,⟨g1,⟨_,g2,Nat.le_refl _⟩,by rw [Zdl];omega,by rw [Zdl];omega⟩⟩
theorem Ze.app {J:Inj}{a b c d:List Value}(h1:Ze J a b)(h2:Ze J c d):Ze J (a++c) (b++d):=by
 refine⟨by simp [h1.1,h2.1],fun i x y hx hy=>?_⟩
 rw [List.getElem?_append] at hx hy
 rw [h1.1] at hx
 split at hy
 ·rename_i hi
  rw [if_pos hi] at hx
  exact h1.2 i x y hx hy
 ·rename_i hi
  rw [if_neg hi] at hx
  exact h2.2 _ x y hx hy
theorem Zg.pair {Z:Prop}{a b:Ty}{c1 c2:List Value}(h1:Zg P w Z a c1)(h2:Zg P w Z b c2):Zg P w Z (.pair a b) (c1++c2):=by
 intro J m hM
 obtain⟨d1,J1,m1,cs1,g1,g2,g3,g4,g5,g6⟩:=h1 J m hM
 obtain⟨d2,J2,m2,cs2,k1,k2,k3,k4,k5,k6⟩:=h2 J1 m1 g3
 exact⟨(d1,d2),J2,m2,cs1++cs2,⟨⟨g1.1,k1.1⟩,fun z=>⟨g1.2 z,k1.2 z⟩⟩,g2.trans k2,k3,(g4.mono k2).app k4,⟨cs1,cs2,rfl,g5.keep k6,k5⟩,g6.trans k6⟩
theorem lay {Z:Prop}:∀ (ty:Ty),
  (∀ (t:TypeId) (fuel:Nat) (cs:List Value) (x:DataW H × List MemPlace),(fok P ty).1 t=true→DataW.trod enc P w 0 (fun _=>true) true fuel t cs=some x→(Z→∀ n∈x.1.weights P t,n≤reachBytes)→Zg P w Z ty cs)∧
  (∀ (fs:List Field) (o fuel:Nat) (cs:List Value),(fok P ty).2 fs o=true→(∀ (i:Nat) f,fs[i]?=some f→∃ x:DataW H × List MemPlace,DataW.trod enc P w 0 (fun _=>true) true fuel f.type ((cs.drop f.offset).take (P.cellsOf f.type))=some x∧(Z→∀ n∈x.1.weights P f.type,n≤reachBytes))→cs.length=o+ty.size→Zg P w Z ty (cs.drop o))
 | .int k=>by
  refine⟨fun t fuel cs x hf h hz J m hM=>?_,fun _ _ _ _ h=>by simp [fok] at h⟩
  simp only [fok] at hf
  split at hf
  ·rename_i j hu
   have hj:j=k:=by simpa using hf
   subst hj
   obtain⟨n,rfl,_,hw⟩:=DataW.trod_int hu h
   exact⟨n,J,m,_,⟨hw,fun _=>trivial⟩,.rfl J,hM,.one (.clo _ rfl),rfl,Zaj m⟩
  ·cases hf
 | .bool=>by
  refine⟨fun t fuel cs x hf h hz J m hM=>?_,fun _ _ _ _ h=>by simp [fok] at h⟩
  simp only [fok] at hf
  split at hf
  ·rename_i hu
   obtain⟨b,rfl,_⟩:=DataW.trod_bool hu h
   exact⟨b,J,m,_,⟨trivial,fun _=>trivial⟩,.rfl J,hM,.one (.clo _ rfl),rfl,Zaj m⟩
  ·cases hf
 | .str=>by
  refine⟨fun t fuel cs x hf h hz J m hM=>?_,fun _ _ _ _ h=>by simp [fok] at h⟩
  simp only [fok] at hf
  split at hf
  ·rename_i hu
   obtain⟨s,rfl,hxs,hs⟩:=DataW.trod_string hu h
   exact⟨s.data.toList,J,m,[.string s],⟨(by simpa [maxLen] using hs:s.data.size≤9223372036854775807),fun z=>by
    have:=hz z s.data.toList.length (by rw [hxs];simp [DataW.weights])
    simpa [Ty.fits,reachBytes] using this⟩,.rfl J,hM,.one (.clo _ rfl),rfl,Zaj m⟩
  ·cases hf
 | .slice e ty=>by
  refine⟨fun t fuel cs x hf h hz=>?_,fun _ _ _ _ h=>by simp [fok] at h⟩
  simp only [fok] at hf
  split at hf
  ·rename_i j hu
   simp only [Bool.and_eq_true,decide_eq_true_eq] at hf
   obtain⟨⟨⟨rfl,h1⟩,h2⟩,h3⟩:=hf
   exact Zxi hz hu h1 h2 (fun fuel cs x hx hq=>(lay ty).1 _ _ _ _ h3 hx hq) h
  ·cases hf
 | .unit=>by
  refine⟨fun t fuel cs x hf h hz J m hM=>?_,fun fs o fuel cs hf h hl J m hM=>?_⟩
  ·simp only [fok] at hf
   split at hf
   ·rename_i fs hu
    simp only [Bool.and_eq_true,decide_eq_true_eq] at hf
    obtain⟨xs,n,_,_,hl,_⟩:=DataW.trod_struct hu h
    rw [hf.1] at hl
    rw [List.length_eq_zero_iff.1 hl]
    exact⟨(),J,m,[],⟨trivial,fun _=>trivial⟩,.rfl J,hM,.nil,rfl,Zaj m⟩
   ·cases hf
  ·have:cs.drop o=[]:=List.drop_eq_nil_of_le (by rw [hl];exact Nat.le_refl _)
   rw [this]
   exact⟨(),J,m,[],⟨trivial,fun _=>trivial⟩,.rfl J,hM,.nil,rfl,Zaj m⟩
 | .pair a b=>by
  have F:∀ (fs:List Field) (o fuel:Nat) (cs:List Value),(fok P (.pair a b)).2 fs o=true→(∀ (i:Nat) f,fs[i]?=some f→∃ x:DataW H × List MemPlace,DataW.trod enc P w 0 (fun _=>true) true fuel f.type ((cs.drop f.offset).take (P.cellsOf f.type))=some x∧(Z→∀ n∈x.1.weights P f.type,n≤reachBytes))→cs.length=o+(Ty.pair a b).size→Zg P w Z (.pair a b) (cs.drop o):=by
   intro fs o fuel cs hf h hl
   cases fs with
   | nil=>simp [fok] at hf
   | cons f r =>
    simp only [fok,Bool.and_eq_true,decide_eq_true_eq] at hf
    obtain⟨⟨⟨h1,h2⟩,h3⟩,h4⟩:=hf
    obtain⟨x,hx,hxz⟩:=h 0 f rfl
    rw [h1,h2] at hx
    have i1:=(lay a).1 _ _ _ _ h3 hx hxz
    have i2:=(lay b).2 r (o+a.size) fuel cs h4 (fun i g hg=>h (i+1) g (by simpa using hg)) (by rw [hl];simp only [Ty.size];omega)
    have:cs.drop o=(cs.drop o).take a.size++cs.drop (o+a.size):=by
     rw [← List.drop_drop];exact (List.take_append_drop _ _).symm
    rw [this]
    exact i1.pair i2
  refine⟨fun t fuel cs x hf h hz=>?_,F⟩
  simp only [fok] at hf
  split at hf
  ·rename_i fs hu
   simp only [Bool.and_eq_true,decide_eq_true_eq] at hf
   obtain⟨xs,n,_,hxe,hl,hxl,hx⟩:=DataW.trod_struct hu h
   have:=F fs.toList 0 n cs (by simp only [fok];exact hf.2) (fun i f hi=>by
    have hi2:fs[i]?=some f:=by simpa using hi
    have:=hx i f hi2
    have hlt:i < xs.length:=by
     rw [hxl]
     exact (Array.getElem?_eq_some_iff.1 hi2).1
    rw [List.getElem?_eq_getElem hlt] at this
    refine⟨_,this,fun z n hn=>hz z n ?_⟩
    rw [hxe]
    simp only [DataW.weights,hu]
    exact Zh6 (i:=i) (by rw [List.getElem?_map,hi];rfl) (by rw [List.getElem?_map,List.getElem?_eq_getElem hlt];rfl) hn) (by rw [hl,hf.1];simp [Ty.size])
   simpa using this
  ·cases hf
def Zo6:Ty→List Value→Value
 | .pair _ _,cs=>.agg cs.toArray
 | .unit,cs=>.agg cs.toArray
 | _,cs=>cs.headD undef
def Ty.zeros:Ty→List Value
 | .int k=>[.int k 0]
 | .bool=>[.bool false]
 | .str=>[.string ⟨#[]⟩]
 | .slice _ _=>[.slice none 0 0]
 | .unit=>[]
 | .pair a b=>a.zeros++b.zeros
def Ty.zd {K:Type}:Ty→DataW K × List (DataW K)
 | .int k=>(.lit (.int k 0),[])
 | .bool=>(.lit (.bool false),[])
 | .str=>(.lit (.string []),[])
 | .slice _ _=>(.nil,[])
 | .unit=>(.agg [],[])
 | .pair a b=>(.agg (a.zd.1::b.zd.2),a.zd.1::b.zd.2)
def Ty.zdata {K:Type}(t:Ty):DataW K:=t.zd.1
def Z0d (P:Program)(w:World)(ty:Ty)(v:Value):Prop:=∀ J m,Zcf P J m (Zg1 w) w w→∃ (d:ty.D) (J':Inj) (m':Mem) (cs:List Value),ty.wf d∧J.le J'∧Zcf P J' m' (Zg1 w) w w∧Zbv J' (Zo6 ty cs) v∧At m' ty d cs∧Zao m m' []
def Zqz (P:Program)(w:World)(Z:Prop)(ty:Ty)(v:Value):Prop:=∀ J m,Zcf P J m (Zg1 w) w w→∃ (d:ty.D) (J':Inj) (m':Mem) (cs:List Value),(ty.wf d∧(Z→ty.fits P d))∧J.le J'∧Zcf P J' m' (Zg1 w) w w∧Zbv J' (Zo6 ty cs) v∧At m' ty d cs∧Zao m m' []
theorem Zg.one {Z:Prop}{ty:Ty}{v:Value}(h:Zg P w Z ty [v])(hv:∀ u,Zo6 ty [u]=u):Zqz P w Z ty v:=by
 intro J m hM
 obtain⟨d,J1,m1,cs,g1,g2,g3,g4,g5,g6⟩:=h J m hM
 obtain⟨u,rfl⟩:∃ u,cs=[u]:=by
  have:=g4.1
  cases cs with
  | nil=>simp at this
  | cons u r=>cases r with
   | nil=>exact⟨u,rfl⟩
   | cons _ _=>simp at this
 exact⟨d,J1,m1,[u],g1,g2,g3,by rw [hv];exact g4.2 0 u v rfl rfl,g5,g6⟩
theorem Zg.all {Z:Prop}{ty:Ty}{xs:Array Value}(h:Zg P w Z ty xs.toList)(hv:∀ cs,Zo6 ty cs=.agg cs.toArray):Zqz P w Z ty (.agg xs):=by
 intro J m hM
 obtain⟨d,J1,m1,cs,g1,g2,g3,g4,g5,g6⟩:=h J m hM
 refine⟨d,J1,m1,cs,g1,g2,g3,?_,g5,g6⟩
 rw [hv]
 exact .agg _ _ (by simpa using g4.1) (fun i x y hx hy=>g4.2 i x y (by simpa using hx) (by simpa using hy))
theorem Zxr {r:Reach}{b0:Nat}{Z:Prop}{ty:Ty}{t:TypeId}{v:Value}{d:DataW H}{ps:List MemPlace}(hf:(fok P ty).1 t=true)(hval:Value.okWide P w r b0 t v)(hd:DataW.Trod enc P w 0 (fun _=>true) true t v d ps)(hz:Z→∀ n∈d.weights P t,n≤reachBytes):Zqz P w Z ty v:=by
 obtain⟨fuel,hd⟩:=hd
 have hL:Zg P w Z ty v.cells.toList:=(lay ty).1 t fuel _ _ hf hd hz
 cases ty with
 | int k =>
  simp only [fok] at hf
  split at hf
  ·rename_i j hu
   obtain⟨n,rfl⟩:=okWide_int hu hval
   exact hL.one fun _=>rfl
  ·cases hf
 | bool =>
  simp only [fok] at hf
  split at hf
  ·rename_i hu
   obtain⟨n,rfl⟩:=okWide_bool hu hval
   exact hL.one fun _=>rfl
  ·cases hf
 | str =>
  simp only [fok] at hf
  split at hf
  ·rename_i hu
   obtain⟨n,rfl⟩:=okWide_string hu hval
   exact hL.one fun _=>rfl
  ·cases hf
 | slice e ty =>
  simp only [fok] at hf
  split at hf
  ·rename_i j hu
   obtain⟨a0,l0,c0,rfl⟩:=okWide_slice hu hval
   exact hL.one fun _=>rfl
  ·cases hf
 | unit =>
  simp only [fok] at hf
  split at hf
  ·rename_i fs hu
   simp only [Value.okWide,hu] at hval
   obtain⟨xs,rfl,_⟩:=hval
   exact hL.all fun _=>rfl
  ·cases hf
 | pair a b =>
  simp only [fok] at hf
  split at hf
  ·rename_i fs hu
   simp only [Value.okWide,hu] at hval
   obtain⟨xs,rfl,_⟩:=hval
   exact hL.all fun _=>rfl
  ·cases hf
theorem Z00 {r:Reach}{b0:Nat}{ty:Ty}{t:TypeId}{v:Value}{d:DataW H}{ps:List MemPlace}(hf:(fok P ty).1 t=true)(hval:Value.okWide P w r b0 t v)(hd:DataW.Trod enc P w 0 (fun _=>true) true t v d ps):Z0d P w ty v:=by
 intro J m hM
 obtain⟨d,J1,m1,cs,g1,g2⟩:=Zxr (Z:=False) hf hval hd (fun h=>h.elim) J m hM
 exact⟨d,J1,m1,cs,g1.1,g2⟩
end
end Go.Sh
namespace Go.Sh
section
variable {P:Program}{T:FuncId→Option Func}{S:Zed}{m:Mem}
theorem Zvv {f:FuncId}{fn:Func}{c:Code}{args:List Value}{A:Value→Mem→Prop}(hT:T f=some fn)(hb:fn.body=some c)(hS:(S f).find? (fun p=>eqL p.1 args)=none)(hl:args.length≤fn.ntmps)(h:Zr8 P T S c [] (Zle args 0) m (QF P fn.results.toList A)) :
  ∃ v m',Zbi P T S f args m=some (v,m')∧A v m':=by
 obtain⟨e,t',E',m',h1,h2,h3,h4⟩:=h _ (Zoy args .leaf 0)
 simp only [rk] at h1
 have hx:Zbi P T S f args m=match Zfa P T S c (fill .leaf args 0) m with
   | some (.normal,t,m') | some (.ret,t,m')=>match Zgx P fn.results.toList t m' with
    | some v=>some (v,m')
    | none=>none
   | _=>none:=by
  unfold Zbi Zel Zj1
  rw [hS]
  simp only [hT,hb,if_pos hl]
  rfl
 rw [hx,h1]
 split at h4
 ·rename_i v hv
  have:=Zme h2 hv
  cases e with
  | normal=>simp only [this];exact⟨v,m',rfl,h4⟩
  | ret=>simp only [this];exact⟨v,m',rfl,h4⟩
  | exit i=>cases h3
 ·exact h4.elim
theorem Z5u {f:FuncId}{c:Code}{rs:List ResultVar}{n:Nat}{args:List Value}{A:Value→Mem→Prop}(nv:Nat)(C:List Nat)(hf:Zdt T f c rs n)(hS:(S f).find? (fun p=>eqL p.1 args)=none)(hl:args.length=n)(h:W P T S nv C c [] (Zle args 0) m (QF P rs A)) :
  ∃ v m',Zbi P T S f args m=some (v,m')∧A v m':=by
 obtain⟨fn,h1,h2,h3,h4⟩:=hf
 subst h3
 exact Zvv h1 h2 hS (by omega) (Z18 h)
theorem Z4l {f:FuncId}{c:Code}{rs:List ResultVar}{n:Nat}{args:List Value}{v:Value}{m':Mem}(nv:Nat)(C:List Nat)(hf:Zdt T f c rs n)(hS:(S f).find? (fun p=>eqL p.1 args)=none)(hl:args.length=n)(h:W P T S nv C c [] (Zle args 0) m (QF P rs fun u m1=>u=v∧m1=m')) :
  Zbi P T S f args m=some (v,m'):=by
 obtain⟨u,m1,h1,rfl,rfl⟩:=Z5u nv C hf hS hl h
 exact h1
theorem Zd {f:FuncId}{args:List Value}{p:List Value × Value}(h:(S f).find? (fun p=>eqL p.1 args)=some p):Zbi P T S f args m=some (p.2,m):=by
 unfold Zbi Zel
 rw [h]
end
end Go.Sh
namespace Go.Sh
section
variable {P:Program}{m:Mem}
theorem Sl.keepz {m':Mem}{ao:Option Addr}{n:Nat}{cells:List Value}{e z fam:Nat}{fs:List Nat}(h:Sl m ao n cells e z fam)(k:Zao m m' fs)(hf:ao≠none→fam∉fs):Sl m' ao n cells e z fam:=by
 refine⟨h.1,?_⟩
 rcases h.2 with h | ⟨b,h1,h2⟩
 ·exact Or.inl h
 ·exact Or.inr ⟨b,h1,h2.keep k (hf (by rw [h1];simp))⟩
theorem Zkt {ty e e0:TypeId}{z bt n k fam:Nat}{ao:Option Addr}{cells news cs:List Value}{r:Option (Value × Mem)}(hr:Zcd P ty (m.new cs e0) (.slice ao n n) news k=r)(ht:P.underlying ty=some (.slice e))(ha:Zna P e z bt=true)
  (h:Sl m ao n cells e z fam) (hk:k≠0) (hnews:news.length=k * z) (h1:news.all one=true) (hb:(n+k) * bt≤140737488355328) (h63:n+k≤9223372036854775807) :
  ∃ m1 b' fam',r=some (.slice (some ⟨b',0,none⟩) (n+k) (n+k),m1)∧Own m1 b' (cells++news) e fam'∧Zao m m1 (if ao=none then [] else [fam])∧((ao≠none∧fam'=fam)∨m.next≤fam')∧fam' < m1.next∧(ao≠none→fam'=fam):=by
 rcases h.2 with⟨rfl,rfl⟩ | ⟨b,rfl,ho⟩
 ·have hc:cells=[]:=List.length_eq_zero_iff.1 (by rw [← h.1];simp)
  subst hc
  have hs:=Zm (m:=m.new cs e0) ht ha hk hnews h1 (by simpa using hb) (by omega)
  rw [hs] at hr
  subst hr
  refine⟨(m.new cs e0).new news e,(m.new cs e0).next,(m.new cs e0).next,by simp,by simpa using Own.new (m.new cs e0) news e,?_,Or.inr (by simp [Mem.new]),by simp [Mem.new],fun h=>absurd rfl h⟩
  rw [if_pos rfl]
  exact (Zb9 _ _ _ _).trans (Zb9 _ _ _ _)
 ·obtain⟨m1,b1,rfl,o1,k1⟩:=Zr6 hr ht ha ho h.1 hnews h1 hb h63
  exact⟨m1,b1,fam,rfl,o1,by simpa using k1,Or.inl ⟨by simp,rfl⟩,o1.flt,fun _=>rfl⟩
end
end Go.Sh
namespace Go.Sh
theorem Z2 {T G:Prop}(main:T→G)(mp:T):G:=main mp
theorem Z2x {α β:Type}(H:α→β→Prop){T:α→β→Prop}{G:Prop}(main:(∀ a b,H a b→T a b)→G)(mp:∀ a b,H a b→T a b):G:=main mp
theorem Z4n {α β γ:Type}(H:α→β→γ→Prop){T:α→β→γ→Prop}{G:Prop}(main:(∀ a b c,H a b c→T a b c)→G)(mp:∀ a b c,H a b c→T a b c):G:=main mp
end Go.Sh
namespace Go.Sh
open Go.RowKit
section
variable {P:Program}{H:Zc4}
def Zf0 (E E':Zcu):Prop:=∀ i v,Zcm E i=some v→Zcm E' i=some v
theorem Zf0.isSome {E E':Zcu}(h:Zf0 E E'){i:Nat}(hi:(Zcm E i).isSome=true):(Zcm E' i).isSome=true:=by
 obtain⟨v,hv⟩:=Option.isSome_iff_exists.1 hi
 rw [h i v hv];rfl
theorem Zf0.eq {E E':Zcu}(h:Zf0 E E'){i:Nat}(hi:(Zcm E i).isSome=true):Zcm E' i=Zcm E i:=by
 obtain⟨v,hv⟩:=Option.isSome_iff_exists.1 hi
 rw [h i v hv,hv]
theorem Zf0.lev {E E':Zcu}(h:Zf0 E E'){x:Operand}(hx:lhas E x=true):lev E' x=lev E x:=by
 cases x with
 | tmp i=>simp only [Sh.lev];rw [h.eq hx]
 | _=>rfl
theorem Zf0.lhas {E E':Zcu}(h:Zf0 E E'){x:Operand}(hx:lhas E x=true):lhas E' x=true:=by
 cases x with
 | tmp i=>exact h.isSome hx
 | _=>rfl
theorem Zf0.put {E E':Zcu}(h:Zf0 E E')(d:Option Tmp)(v:Value):Zf0 (Zk0 E d v) (Zk0 E' d v):=by
 cases d with
 | none=>exact h
 | some d =>
  intro i w hi
  simp only [Zk0,Zcm] at hi ⊢
  split
  ·rename_i e;rw [if_pos e] at hi;exact hi
  ·rename_i e;rw [if_neg e] at hi;exact h i w hi
theorem Zf0.op1 {ds:List (Option Tmp)}{o:Oper}{E E':Zcu}(h:Zf0 E E')(hn:∀ i∈Zk3 o,(Zcm E i).isSome=true){m:Mem}{r:Value × Mem}(he:Zlf P H ds o E m=some r):Zlf P H ds o E' m=some r:=by
 have run:sop P H (Sh.lev E') o m=sop P H (Sh.lev E) o m:=by
  refine Zp6 o (fun x hx=>h.lev ?_) m
  cases x with
  | tmp i=>exact hn i (List.mem_filterMap.2 ⟨.tmp i,by simpa using hx,rfl⟩)
  | _=>rfl
 unfold Zlf at he ⊢
 split at he
 ·rename_i hg
  rw [run];exact he
 ·rename_i j w hg
  split at he
  ·rename_i d hj
   split at he
   ·rename_i v hb
    rw [h _ _ hb]
    simp only
    rw [run]
    exact he
   ·cases he
  ·cases he
theorem Zf0.ops {ds:List (Option Tmp)}:∀ (rest:List Oper) (D:List Nat) (E E':Zcu) (m:Mem) (E1:Zcu) (m1:Mem),Zf0 E E'→(∀ i∈Zj2 rest D,(Zcm E i).isSome=true)→(∀ i∈D,(Zcm E i).isSome=true)→Zll P H ds rest E m=some (E1,m1)→∃ E1',Zll P H ds rest E' m=some (E1',m1)∧Zf0 E1 E1'
 | [],D,E,E',m,E1,m1,h,_,_,he=>by
  simp only [Zll,Option.some.injEq,Prod.mk.injEq] at he
  obtain⟨rfl,rfl⟩:=he
  exact⟨E',rfl,h⟩
 | o::rest,D,E,E',m,E1,m1,h,hn,hD,he=>by
  simp only [Zll] at he ⊢
  split at he
  ·rename_i v m2 h1
   obtain⟨n1,n2,n3⟩:=Zio (v:=v) hn hD
   rw [h.op1 n1 h1]
   exact Zf0.ops rest _ _ _ _ _ _ (h.put _ _) n2 n3 he
  ·cases he
def Z03:List Oper→List (Zcu × Mem)→List (Zcu × Mem)→Prop
 | [],[a],[b]=>a.2=b.2∧Zf0 a.1 b.1
 | o::ro,a::r,b::s=>a.2=b.2∧Zf0 a.1 b.1∧(∀ i∈Zk3 o,(Zcm a.1 i).isSome=true)∧Z03 ro r s
 | _,_,_=>False
theorem Zf0.states {ds:List (Option Tmp)}:∀ (rest:List Oper) (D:List Nat) (E E':Zcu) (m:Mem) (S:List (Zcu × Mem)),Zf0 E E'→(∀ i∈Zj2 rest D,(Zcm E i).isSome=true)→(∀ i∈D,(Zcm E i).isSome=true)→Zdb P H ds rest E m=some S→∃ S',Zdb P H ds rest E' m=some S'∧Z03 rest S S'
 | [],D,E,E',m,S,h,_,_,he=>by
  simp only [Zdb,Option.some.injEq] at he
  subst he
  exact⟨_,rfl,rfl,h⟩
 | o::rest,D,E,E',m,S,h,hn,hD,he=>by
  simp only [Zdb] at he ⊢
  split at he
  ·rename_i v m2 h1
   obtain⟨n1,n2,n3⟩:=Zio (v:=v) hn hD
   rw [h.op1 n1 h1]
   simp only
   split at he
   ·rename_i l hl
    simp only [Option.some.injEq] at he
    subst he
    obtain⟨S',g1,g2⟩:=Zf0.states rest _ _ _ _ _ (h.put _ _) n2 n3 hl
    rw [g1]
    exact⟨_,rfl,rfl,h,n1,g2⟩
   ·cases he
  ·cases he
theorem Zo5:∀ {ops:List Oper} {S T:List (Zcu × Mem)} (h:Z03 ops S T) (i:Nat) (a:Zcu × Mem),S[i]?=some a→∃ b,T[i]?=some b∧a.2=b.2∧Zf0 a.1 b.1∧∀ o,ops[i]?=some o→∀ q∈Zk3 o,(Zcm a.1 q).isSome=true
 | [],[a],[b],h,i,a',hi=>by
  cases i with
  | zero=>simp at hi;subst hi;exact⟨b,rfl,h.1,h.2,by simp⟩
  | succ i=>simp at hi
 | o::ro,a::r,b::s,h,i,a',hi=>by
  cases i with
  | zero=>simp at hi;subst hi;exact⟨b,rfl,h.1,h.2.1,by simp;exact h.2.2.1⟩
  | succ i =>
   simp only [List.getElem?_cons_succ] at hi ⊢
   exact Zo5 h.2.2.2 i a' hi
 | [],[],_,h,_,_,_=>h.elim
 | [],[_],[],h,_,_,_=>h.elim
 | [],[_],_::_::_,h,_,_,_=>h.elim
 | [],_::_::_,_,h,_,_,_=>h.elim
 | _::_,[],_,h,_,_,_=>h.elim
 | _::_,_::_,[],h,_,_,_=>h.elim
theorem Zqq:∀ {ops:List Oper} {S T:List (Zcu × Mem)} (h:Z03 ops S T) {a:Zcu × Mem},S.getLast?=some a→∃ E,T.getLast?=some (E,a.2)∧Zf0 a.1 E
 | [],[a],[b],h,a',hi=>by
  simp at hi;subst hi
  obtain⟨b1,b2⟩:=b
  obtain⟨h1,h2⟩:=h
  simp only at h1 h2
  exact⟨b1,by simp [h1],h2⟩
 | o::ro,a::r,b::s,h,a',hi=>by
  have hr:=h.2.2.2
  have hne:r≠[]:=by rintro rfl;cases ro <;> simp [Z03] at hr
  have hne2:s≠[]:=by rintro rfl;cases ro <;> cases r <;> simp [Z03] at hr
  obtain⟨x,r',rfl⟩:=List.exists_cons_of_ne_nil hne
  obtain⟨y,s',rfl⟩:=List.exists_cons_of_ne_nil hne2
  rw [List.getLast?_cons_cons] at hi ⊢
  exact Zqq hr hi
 | [],[],_,h,_,_=>h.elim
 | [],[_],[],h,_,_=>h.elim
 | [],[_],_::_::_,h,_,_=>h.elim
 | [],_::_::_,_,h,_,_=>h.elim
 | _::_,[],_,h,_,_=>h.elim
 | _::_,_::_,[],h,_,_=>h.elim
theorem Zn5 {ds:List (Option Tmp)}{all:List Oper}{S T:List (Zcu × Mem)}(h:Z03 all S T):∀ (pl:List (Nat × List Nat)),Zgs P H ds all S pl=true→Zgs P H ds all T pl=true
 | [],_=>rfl
 | (j,is)::r,hr=>by
  simp only [Zgs,Bool.and_eq_true] at hr ⊢
  refine⟨?_,Zn5 h r hr.2⟩
  have h1:=hr.1
  split at h1
  ·rename_i o E m ho hS
   obtain⟨⟨E',m2⟩,g1,g2,g3,g4⟩:=Zo5 h j _ hS
   simp only at g2 g3 g4
   subst g2
   have n1:=g4 o ho
   split at h1
   ·rename_i v m' h2
    simp only [ho,g1,g3.op1 n1 h2]
    rw [List.all_eq_true] at h1 ⊢
    intro i hi
    have h3:=h1 i hi
    split at h3
    ·rename_i E3 m3 hS3
     obtain⟨⟨t3,m4⟩,k1,k2,_,_⟩:=Zo5 h i _ hS3
     simp only at k2
     subst k2
     simp only [k1]
     unfold Zqb at h3 ⊢
     split at h3
     ·rename_i v' m5 h5
      rw [g3.op1 n1 h5]
      exact h3
     ·cases h3
    ·cases h3
   ·cases h1
  ·cases h1
theorem Zox {E E':Zcu}(h:Zf0 E E'){l:List Nat}(hl:Zum E l=true):Zum E' l=true:=Ze9.2 fun i hi=>h.isSome (Ze9.1 hl i hi)
theorem Zf0.region {ops:List Oper}{draw:Bool}{E E' E1:Zcu}{m m1:Mem}(h:Zf0 E E')(he:Ze0 P H ops draw E m=some (E1,m1)):∃ E1',Ze0 P H ops draw E' m=some (E1',m1)∧Zf0 E1 E1':=by
 unfold Ze0 at he ⊢
 cases draw with
 | true =>
  simp only [if_true] at he ⊢
  split at he
  ·rename_i hq
   rw [if_pos hq]
   split at he
   ·rename_i hn
    rw [if_pos (Zox h hn)]
    exact Zf0.ops _ [] _ _ _ _ _ h (Ze9.1 hn) (fun i hi=>by simp at hi) he
   ·cases he
  ·rename_i hq
   rw [if_neg hq]
   split at he
   ·rename_i hn
    rw [if_pos (Zox h hn)]
    split at he
    ·rename_i S hS
     obtain⟨T,g1,g2⟩:=Zf0.states _ [] _ _ _ _ h (Ze9.1 hn) (fun i hi=>by simp at hi) hS
     rw [g1]
     simp only
     split at he
     ·rename_i hr
      rw [if_pos (Zn5 g2 _ hr)]
      exact Zqq g2 he
     ·cases he
    ·cases he
   ·cases he
 | false =>
  simp only [Bool.false_eq_true,if_false] at he ⊢
  split at he
  ·rename_i hn
   rw [if_pos (Zox h hn)]
   exact Zf0.ops _ [] _ _ _ _ _ h (Ze9.1 hn) (fun i hi=>by simp at hi) he
  ·cases he
theorem Zml {nv:Nat}:∀ {E:Zcu} {j:Nat} {v:Value},Zcm E j=some v→j < nv→Zcm (Zit nv E) j=some v
 | [],j,v,h,_=>by simp [Zcm] at h
 | (i,w)::r,j,v,h,hj=>by
  simp only [Zcm] at h
  simp only [Zit]
  split at h
  ·rename_i e
   subst e
   rw [if_pos hj]
   simp only [Zcm,if_true]
   exact h
  ·rename_i e
   split
   ·simp only [Zcm];rw [if_neg e];exact Zml h hj
   ·exact Zml h hj
theorem Zf0.keep {E E':Zcu}(h:Zf0 E E')(nv:Nat):Zf0 (Zit nv E) (Zit nv E'):=fun i v hi=>by
 obtain⟨h1,h2⟩:=Zkc hi
 exact Zml (h i v h1) h2
theorem Zf0.set {E E':Zcu}(h:Zf0 E E')(i:Nat)(v:Value):Zf0 (Zv6 E i v) (Zv6 E' i v):=fun j w hj=>by
 rw [Zob] at hj ⊢
 split
 ·rename_i e;rw [if_pos e] at hj;exact hj
 ·rename_i e;rw [if_neg e] at hj;exact h j w hj
theorem Zf0.sets {E1 E1':Zcu}(h1:Zf0 E1 E1'):∀ {l:List Nat} {E E':Zcu},(∀ i∈l,(Zcm E1 i).isSome=true)→Zf0 E E'→Zf0 (Zi9 E1 l E) (Zi9 E1' l E')
 | [],E,E',_,h=>h
 | i::r,E,E',hl,h=>by
  obtain⟨v,hv⟩:=Option.isSome_iff_exists.1 (hl i (List.mem_cons_self ..))
  simp only [Zi9,hv,h1 i v hv]
  exact Zf0.sets h1 (fun j hj=>hl j (List.mem_cons_of_mem _ hj)) (h.set i v)
theorem Zf0.conds {E1 E1':Zcu}(h1:Zf0 E1 E1'):∀ {l:List Nat} {E E':Zcu},(∀ i∈l,(Zcm E1 i).isSome=true)→Zf0 E E'→Zf0 (Zg2 E1 l E) (Zg2 E1' l E')
 | [],E,E',_,h=>h
 | i::r,E,E',hl,h=>by
  obtain⟨v,hv⟩:=Option.isSome_iff_exists.1 (hl i (List.mem_cons_self ..))
  simp only [Zg2,hv,h1 i v hv]
  have ih:=Zf0.conds h1 (fun j hj=>hl j (List.mem_cons_of_mem _ hj)) h (l:=r)
  intro j w hj
  simp only [Zcm] at hj ⊢
  split
  ·rename_i e;rw [if_pos e] at hj;exact hj
  ·rename_i e;rw [if_neg e] at hj;exact ih j w hj
theorem Zoc {ops:List Oper}{draw:Bool}{E E':Zcu}{m m':Mem}(he:Ze0 P H ops draw E m=some (E',m')):Zrs (Zgu ops draw) E E':=by
 unfold Ze0 at he
 cases draw with
 | true =>
  simp only [if_true,Zgu] at he ⊢
  split at he
  ·split at he
   ·exact Zhi _ _ _ _ _ he
   ·cases he
  ·split at he
   ·split at he
    ·rename_i S hS
     split at he
     ·exact (Zhr _ _ _ _ _ hS he).2
     ·cases he
    ·cases he
   ·cases he
 | false =>
  simp only [Bool.false_eq_true,if_false,Zgu] at he ⊢
  split at he
  ·exact Zhi _ _ _ _ _ he
  ·cases he
theorem Zf0.next {nv:Nat}{C:List Nat}{ops:List Oper}{E E' E1 E1':Zcu}(h:Zf0 E E')(h1:Zf0 E1 E1')(hg:Zrs ops E E1):Zf0 (Zuu nv C ops E E1) (Zuu nv C ops E' E1'):=by
 unfold Zuu
 have g:∀ p:Nat→Bool,∀ i∈Zxv ((Zh5 ops).filter p),(Zcm E1 i).isSome=true:=fun p i hi=>hg.2 i (Or.inr ((List.mem_filter.1 (Ziq.1 hi)).1))
 exact h1.conds (g _) (h1.sets (g _) (h.keep nv))
section
variable {T:FuncId→Option Func}{S:Zed}{nv:Nat}{C:List Nat}{k:List Fr}{E E':Zcu}{m:Mem}{Q:Zrm}
def Z3t (Q:Zrm):Prop:=∀ e E E' m,Zf0 E E'→Q e E m→Q e E' m
theorem Zqd {c:Code}(h:Zr8 P T S c k E m Q)(hs:Zf0 E E'):Zr8 P T S c k E' m Q:=fun t ht=>h t (fun i v hi=>ht i v (hs i v hi))
theorem Zhc (hQ:Z3t Q):∀ (n:Nat) (c:Cf) (k:List Fr) (E E':Zcu) (m:Mem),Zf0 E E'→Wn P T S nv C n c k E m Q→Wn P T S nv C n c k E' m Q
 | 0,c,k,E,E',m,hs,h=>by cases c <;> exact h.elim
 | n+1,.run c,k,E,E',m,hs,h=>by
  cases c
  case skip=>exact Zhc hQ n _ _ _ _ _ hs h
  case label=>exact Zhc hQ n _ _ _ _ _ hs h
  case ret=>exact Zhc hQ n _ _ _ _ _ hs h
  case exit=>exact Zhc hQ n _ _ _ _ _ hs h
  case seq=>exact Zhc hQ n _ _ _ _ _ hs h
  case block=>exact Zhc hQ n _ _ _ _ _ hs h
  case loop=>exact Zqd h hs
  case cond x a b =>
   simp only [Wn] at h ⊢
   by_cases hx:lhas E x=true
   ·rw [if_pos hx] at h
    rw [if_pos (hs.lhas hx),hs.lev hx]
    unfold Br at h ⊢
    split at h
    ·exact Zhc hQ n _ _ _ _ _ hs h
    ·exact Zhc hQ n _ _ _ _ _ hs h
    ·exact h.elim
   ·rw [if_neg hx] at h
    exact h.elim
  case region p ops d =>
   simp only [Wn] at h ⊢
   split at h
   ·rename_i E1 m1 he
    obtain⟨E1',g1,g2⟩:=hs.region he
    rw [g1]
    exact Zhc hQ n _ _ _ _ _ (hs.next g2 (Zoc he)) h
   ·exact h.elim
  all_goals exact h.elim
 | n+1,.back e,k,E,E',m,hs,h=>by
  cases k with
  | nil=>exact hQ _ _ _ _ hs h
  | cons f k =>
   cases f with
   | seq b=>cases e <;> exact Zhc hQ n _ _ _ _ _ hs h
   | block i=>cases e <;> exact Zhc hQ n _ _ _ _ _ hs h
   | loop b =>
    cases e
    case normal=>exact Zqd h hs
    all_goals exact Zhc hQ n _ _ _ _ _ hs h
theorem Z1b (P:Program)(rs:List ResultVar)(A:Value→Mem→Prop):Z3t (QF P rs A):=by
 intro e E E' m hs h
 refine⟨h.1,?_⟩
 have h2:=h.2
 have one:∀ r v,Zh P E m r=some v→Zh P E' m r=some v:=by
  intro r v hv
  cases r with
  | tmp i=>exact hs i v hv
  | cell a ty =>
   simp only [Zh] at hv ⊢
   split at hv
   ·rename_i ad ha
    rw [hs a _ ha]
    exact hv
   ·cases hv
 have lst:∀ (rs:List ResultVar) vs,Zfc P E m rs=some vs→Zfc P E' m rs=some vs:=by
  intro rs
  induction rs with
  | nil=>exact fun _ h=>h
  | cons r rs ih =>
   intro vs hv
   simp only [Zfc] at hv ⊢
   split at hv
   ·rename_i v h1
    rw [one _ _ h1]
    obtain⟨l,k1,k2⟩:=Option.map_eq_some_iff.1 hv
    simp only [ih _ k1]
    simp [k2]
   ·cases hv
 cases hr:Zfc P E m rs with
 | none=>unfold Zgf at h2;rw [hr] at h2;exact h2.elim
 | some vs =>
  have e:Zgf P E' m rs=Zgf P E m rs:=by unfold Zgf;rw [lst _ _ hr,hr]
  rw [e]
  exact h2
theorem Z50 {α:Type}(H:α→Prop){T:α→Prop}{G:Prop}(main:(∀ a,H a→T a)→G)(mp:∀ a,H a→T a):G:=main mp
theorem Zcq {c:Code}{rs:List ResultVar}{A:Value→Mem→Prop}(h:W P T S nv C c k E m (QF P rs A))(hs:Z2v E E'):W P T S nv C c k E' m (QF P rs A):=by
 obtain⟨n,hn⟩:=h
 exact⟨n,Zhc (Z1b P rs A) n _ _ _ _ _ (Zo4 hs) hn⟩
end
end
end Go.Sh
namespace Go.Sh
open Go.RowKit
section
variable {P:Program}{m:Mem}{ρ:Operand→Value}{o:Oper}{d:Option Tmp}{ty:TypeId}{pos:String}{af:Array Edge}{g:Option (Nat × Bool)}
end
end Go.Sh
namespace Go.Sh
open Go.RowKit
section
variable {P:Program}{m:Mem}{ρ:Operand→Value}{o:Oper}
def Z2y (a:Addr)(k z:Nat)(m:Mem):Option Nat→Option Nat→Option (Value × Mem)
 | some l,some h=>if l≤h∧h≤k∧k≤9223372036854775807∧a.spot.isNone=true then some (.slice (some { a with off:=a.off+l * z }) (h - l) (h - l+1),m) else none
 | _,_=>none
theorem Zrg (a:Addr)(k z l h:Nat):Z2y a k z m (some l) (some h)=if l≤h∧h≤k∧k≤9223372036854775807∧a.spot.isNone=true then some (.slice (some { a with off:=a.off+l * z }) (h - l) (h - l+1),m) else none:=rfl
end
def Qu (m:Mem)(b of:Nat)(cells:List Value)(e:TypeId)(fam:Nat):Prop:=∃ pre,pre.length=of∧Own m b (pre++cells) e fam
theorem Qu.keep {m m1:Mem}{b of fam:Nat}{cells:List Value}{e:TypeId}{fs:List Nat}(h:Qu m b of cells e fam)(k:Zao m m1 fs)(hf:fam∉fs):Qu m1 b of cells e fam:=by
 obtain⟨pre,h1,h2⟩:=h
 exact⟨pre,h1,h2.keep k hf⟩
theorem Qu.tail {m:Mem}{b of fam:Nat}{x:Value}{cells:List Value}{e:TypeId}(h:Qu m b of (x::cells) e fam):Qu m b (of+1) cells e fam:=by
 obtain⟨pre,h1,h2⟩:=h
 exact⟨pre++[x],by simp [h1],by simpa using h2⟩
theorem Qu.head {m:Mem}{b of fam:Nat}{x:Value}{cells:List Value}{e:TypeId}(h:Qu m b of (x::cells) e fam):loadRow m ⟨b,of,none⟩ 1=some [x]:=by
 obtain⟨pre,rfl,h2⟩:=h
 rw [h2.load (off:=pre.length) 1 (by simp)]
 simp [Zb]
end Go.Sh
namespace Go.Sh
open Go.RowKit
noncomputable instance keyDec (v:Value) (k:Int):Decidable (v=.int .i64 k):=Classical.propDecidable _
noncomputable def Zkv (k:Int):List MapEntry→Nat→Option (Nat × Value)
 | [],_=>none
 | e::r,i=>if e.key=.int .i64 k then some (i,e.val) else Zkv k r (i+1)
noncomputable def Zm8 (k:Int):List MapEntry→Option Value
 | []=>none
 | e::r=>if e.key=.int .i64 k then some e.val else Zm8 k r
def Zp4 (es:List MapEntry):Prop:=∀ e∈es,∃ q:Int,e.key=.int .i64 q
theorem Zmz (k:Int):∀ (es:List MapEntry) (i:Nat),Zp4 es→Instr.findNow (.int .i64) (.int .i64 k) es i=some (Zkv k es i)
 | [],i,_=>rfl
 | e::r,i,h=>by
  obtain⟨q,hq⟩:=h e (by simp)
  have ih:=Zmz k r (i+1) (fun x hx=>h x (by simp [hx]))
  simp only [Instr.findNow,hq,Instr.sameNow,if_true,Zkv,Value.int.injEq,true_and]
  by_cases hk:k=q
  ·simp [hk]
  ·have:(k == q)=false:=by simp [hk]
   rw [this,if_neg (fun e=>hk e.symm)]
   exact ih
theorem Zmw (k:Int):∀ (es:List MapEntry) (i:Nat),(Zkv k es i).map (·.2)=Zm8 k es
  | [],i=>rfl
  | e :: r, i => by simp only [Zkv,Zm8];split;· rfl
                    · exact Zmw k r (i+1)
theorem Zte (k:Int):∀ (es:List MapEntry) (i j:Nat) (v:Value),Zkv k es i=some (j,v)→i≤j∧∃ e,es[j - i]?=some e∧e.val=v∧e.key=.int .i64 k
 | [],i,j,v,h=>by simp [Zkv] at h
 | e::r,i,j,v,h=>by
  simp only [Zkv] at h
  split at h
  ·rename_i hk
   simp only [Option.some.injEq,Prod.mk.injEq] at h
   obtain⟨rfl,rfl⟩:=h
   exact⟨Nat.le_refl _,e,by simp,rfl,hk⟩
  ·obtain⟨h1,x,h2,h3⟩:=Zte k r (i+1) j v h
   exact⟨by omega,x,by rw [show j - i=(j - (i+1))+1 by omega];simpa using h2,h3⟩
section
variable {P:Program}{m:Mem}
theorem Zt1 {kt:TypeId}(hk:P.underlying kt=some (.int .i64))(b:Bool)(k:Int):Zd6 P (Instr.checkKey b 10000 kt (.int .i64 k))=some ():=by
 have h:=Ze7 hk
 unfold Instr.checkKey
 have:∀ {α β:Type} (s:Sem α) (f:α→Sem β) (a:α),Zd6 P s=some a→Zd6 P (s >>= f)=Zd6 P (f a):=by
  intro α β s
  induction s with
  | pure a=>intro f b h;simp [Zd6] at h;subst h;rfl
  | program q ih=>intro f b h;exact ih P f b h
  | mark q s ih=>intro f b h;exact ih f b h
  | _=>intro f b h;simp [Zd6] at h
 rw [this _ _ _ h]
 rfl
theorem Zqt {kt:TypeId}(hk:P.underlying kt=some (.int .i64))(b:Bool)(k:Int)(es:List MapEntry)(h:Zp4 es):Znc P b kt (.int .i64 k) es=some (Zkv k es 0):=by
 unfold Znc
 have hc:(Zbs (.int .i64 k) && es.all fun e=>Zbs e.key)=true:=by
  simp only [Bool.and_eq_true,List.all_eq_true]
  refine⟨rfl,fun e he=>?_⟩
  obtain⟨q,hq⟩:=h e he
  rw [hq];rfl
 rw [if_pos hc,Zt1 hk b k]
 simp only
 unfold Instr.findKey
 have:∀ {α β:Type} (s:Sem α) (f:α→Sem β) (a:α),Zd6 P s=some a→Zd6 P (s >>= f)=Zd6 P (f a):=by
  intro α β s
  induction s with
  | pure a=>intro f b h;simp [Zd6] at h;subst h;rfl
  | program q ih=>intro f b h;exact ih P f b h
  | mark q s ih=>intro f b h;exact ih f b h
  | _=>intro f b h;simp [Zd6] at h
 rw [this _ _ _ (Ze7 hk),Zmz k es 0 h]
 rfl
end
def ikb (es:List MapEntry):Bool:=es.all fun e=>match e.key with | .int .i64 _=>true | _=>false
theorem Zv {es:List MapEntry}:ikb es=true↔Zp4 es:=by
 unfold ikb Zp4
 rw [List.all_eq_true]
 constructor
 ·intro h e he
  have:=h e he
  cases hk:e.key with
  | int k q=>rw [hk] at this;cases k <;> simp at this;exact⟨q,rfl⟩
  | _=>rw [hk] at this;simp at this
 ·intro h e he
  obtain⟨q,hq⟩:=h e he
  simp [hq]
noncomputable def Z3i (m:Mem)(l:Nat)(k:Int):Option (Option Value):=match m.maps.get l with
 | some s=>if ikb s.entries=true then some (Zm8 k s.entries) else none
 | none=>none
def Z4r (P:Program)(kt:TypeId)(m:Mem)(l:Nat)(k:Int)(v:Value):Option Mem:=match m.maps.get l with
 | some s=>match Zzz P kt (.int .i64 k) v s with
  | some s'=>some (m.setMap l s')
  | none=>none
 | none=>none
def Z6u (m:Mem)(l:Nat)(b:Nat)(v:Value):Option Mem:=match m.maps.get l with
 | some s=>match s.entries.findIdx? (fun e=>e.born == b) with
  | some i=>some (m.setMap l ⟨Zff s.entries i fun e=>{ e with val:=v },s.clock⟩)
  | none=>none
 | none=>none
def Z34 (g:Int→Option Value)(k:Int)(v:Option Value):Int→Option Value:=fun q=>if q=k then v else g q
structure Mp (m:Mem)(l:Nat)(g:Int→Option Value):Prop where
 ex:∃ s:Zpd,m.maps.get l=some s∧Zp4 s.entries∧(s.entries.map (·.born)).Nodup∧(∀ e∈s.entries,e.born < s.clock)∧(s.entries.map (·.key)).Nodup∧∀ k,Zm8 k s.entries=g k
 lt:l < m.next
structure MpB (m:Mem)(l:Nat)(g:Int→Option Value)(k:Int)(b:Nat):Prop where
 ex:∃ s:Zpd,m.maps.get l=some s∧Zp4 s.entries∧(s.entries.map (·.born)).Nodup∧(∀ e∈s.entries,e.born < s.clock)∧(s.entries.map (·.key)).Nodup∧(∀ k,Zm8 k s.entries=g k)∧∃ e∈s.entries,e.key=.int .i64 k∧e.born=b
 lt:l < m.next
section
variable {P:Program}{m:Mem}{l:Nat}{g:Int→Option Value}
theorem MpB.mp {k:Int}{b:Nat}(h:MpB m l g k b):Mp m l g:=by
 obtain⟨s,h1,h2,h3,h4,h5,h6,_⟩:=h.ex
 exact⟨⟨s,h1,h2,h3,h4,h5,h6⟩,h.lt⟩
theorem Mp.keep {m':Mem}{fs:List Nat}(h:Mp m l g)(k:Zao m m' fs)(hf:l∉fs):Mp m' l g:=by
 obtain⟨s,h1,h2⟩:=h.ex
 exact⟨⟨s,by rw [k.2.2.2 l h.lt hf];exact h1,h2⟩,Nat.lt_of_lt_of_le h.lt k.1⟩
theorem MpB.keep {m':Mem}{fs:List Nat}{q:Int}{b:Nat}(h:MpB m l g q b)(k:Zao m m' fs)(hf:l∉fs):MpB m' l g q b:=by
 obtain⟨s,h1,h2⟩:=h.ex
 exact⟨⟨s,by rw [k.2.2.2 l h.lt hf];exact h1,h2⟩,Nat.lt_of_lt_of_le h.lt k.1⟩
theorem Mp.get (h:Mp m l g)(k:Int):Z3i m l k=some (g k):=by
 obtain⟨s,h1,h2,_,_,_,h6⟩:=h.ex
 simp only [Z3i,h1,Zv.2 h2,if_true,h6]
theorem Zp1 (m:Mem)(l:Nat)(s:Zpd):Zao m (m.setMap l s) [l]:=
 ⟨Nat.le_refl _,fun _ _ _ h _ _=>h,fun _ _ _=>rfl,fun q _ hq=>by
  simp only [Mem.setMap];rw [Tree.get_set_ne _ _ (by simpa using hq)]⟩
theorem Zur (m:Mem)(l:Nat)(s:Zpd):(m.setMap l s).maps.get l=some s:=by simp [Mem.setMap,Tree.get_set_self]
theorem Zvx {m1:Mem}(hr:m.newMap=m1):Mp m1 m.next (fun _=>none)∧Zao m m1 []∧m.next < m1.next:=by
 subst hr
 refine⟨⟨⟨⟨[],0⟩,by simp [Mem.newMap,Tree.get_set_self],fun e he=>by simp at he,by simp,fun e he=>by simp at he,by simp,fun k=>rfl⟩,by simp [Mem.newMap]⟩,⟨by simp [Mem.newMap],fun _ _ _ h _ _=>h,fun _ _ _=>rfl,fun q hq _=>?_⟩,by simp [Mem.newMap]⟩
 simp only [Mem.newMap];rw [Tree.get_set_ne _ _ (by omega)]
theorem Zmb (k:Int)(r:List MapEntry):∀ es,Zm8 k (es++r)=(Zm8 k es).or (Zm8 k r)
  | []=>by simp [Zm8]
  | e :: es => by simp only [List.cons_append,Zm8];split;· simp
                  · exact Zmb k r es
theorem Zpv {k:Int}:∀ {es:List MapEntry},Zm8 k es=none→∀ e∈es,e.key≠.int .i64 k
 | [],_,e,he=>by simp at he
 | x::es,h,e,he=>by
  simp only [Zm8] at h
  split at h
  ·cases h
  ·rename_i hk
   rcases List.mem_cons.1 he with rfl | he
   ·exact hk
   ·exact Zpv h e he
theorem Zkr {k:Int}:∀ {es:List MapEntry} {i:Nat},Zkv k es i=none→Zm8 k es=none:=by
 intro es i h
 have:=Zmw k es i
 rw [h] at this
 exact this.symm
theorem Zui {k:Int}{es:List MapEntry}{i j:Nat}{v:Value}(h:Zkv k es i=some (j,v)):Zm8 k es=some v:=by
 have:=Zmw k es i
 rw [h] at this
 exact this.symm
theorem Zs2 {k:Int}:∀ {es:List MapEntry} {j:Nat} {e:MapEntry},(es.map (·.key)).Nodup→es[j]?=some e→e.key=.int .i64 k→∀ (e':MapEntry),e'.key=e.key→∀ q,Zm8 q (es.set j e')=if q=k then some e'.val else Zm8 q es
 | [],j,e,_,h,_,_,_,_=>by simp at h
 | x::es,0,e,hn,h,hk,e',he,q=>by
  simp at h;subst h
  simp only [List.set_cons_zero,Zm8,he,hk,Value.int.injEq,true_and]
  by_cases hq:q=k
  ·simp [hq]
  ·have hq2:¬ k=q:=fun e=>hq e.symm
   simp only [hq,hq2,if_false]
 | x::es,j+1,e,hn,h,hk,e',he,q=>by
  simp only [List.map_cons,List.nodup_cons] at hn
  simp only [List.getElem?_cons_succ] at h
  have ih:=Zs2 hn.2 h hk e' he q
  rw [List.set_cons_succ]
  simp only [Zm8]
  by_cases hx:x.key=.int .i64 q
  ·rw [if_pos hx,if_pos hx]
   by_cases hq:q=k
   ·subst hq
    exact absurd (List.mem_map.2 ⟨e,List.mem_of_getElem? h,by rw [hx,hk]⟩) hn.1
   ·rw [if_neg hq]
  ·rw [if_neg hx,if_neg hx];exact ih
theorem Zs6 {α:Type}(f:MapEntry→α){es:List MapEntry}{j:Nat}{e e':MapEntry}(h:es[j]?=some e)(hf:f e'=f e):(es.set j e').map f=es.map f:=by
 apply List.ext_getElem?
 intro i
 simp only [List.getElem?_map,List.getElem?_set]
 split
 ·rename_i hj
  subst hj
  have:=(List.getElem?_eq_some_iff.1 h).1
  rw [h];simp [this,hf]
 ·rfl
theorem Zlv {es:List MapEntry}{j:Nat}{e e':MapEntry}(h:es[j]?=some e):∀ x∈es.set j e',x=e'∨x∈es:=fun x hx=>by
 rcases List.mem_or_eq_of_mem_set hx with h | h
 ·exact Or.inr h
 ·exact Or.inl h
theorem Zzj (k:Int):Instr.sameBits 10000 (.int .i64 k) (.int .i64 k)=true:=by simp [Instr.sameBits]
theorem Zzh {kt:TypeId}(hk:P.underlying kt=some (.int .i64))(k:Int)(v:Value){s:Zpd}(h2:Zp4 s.entries)(h3:(s.entries.map (·.born)).Nodup)(h4:∀ e∈s.entries,e.born < s.clock)(h5:(s.entries.map (·.key)).Nodup) :
  ∃ s',Zzz P kt (.int .i64 k) v s=some s'∧Zp4 s'.entries∧(s'.entries.map (·.born)).Nodup∧(∀ e∈s'.entries,e.born < s'.clock)∧(s'.entries.map (·.key)).Nodup∧∀ q,Zm8 q s'.entries=if q=k then some v else Zm8 q s.entries:=by
 unfold Zzz
 rw [Zqt hk false k _ h2]
 cases hf:Zkv k s.entries 0 with
 | none =>
  have hn:=Zpv (Zkr hf)
  refine⟨_,rfl,fun e he=>?_,?_,fun e he=>?_,?_,fun q=>?_⟩
  ·rcases List.mem_append.1 he with he | he
   ·exact h2 e he
   ·simp at he;subst he;exact⟨k,rfl⟩
  ·simp only [List.map_append,List.map_cons,List.map_nil]
   refine List.nodup_append.2 ⟨h3,by simp,fun a ha b hb=>?_⟩
   simp at hb;subst hb
   obtain⟨e,he,rfl⟩:=List.mem_map.1 ha
   have:=h4 e he;omega
  ·rcases List.mem_append.1 he with he | he
   ·have:=h4 e he;simp only;omega
   ·simp at he;subst he;simp
  ·simp only [List.map_append,List.map_cons,List.map_nil]
   refine List.nodup_append.2 ⟨h5,by simp,fun a ha b hb=>?_⟩
   simp at hb;subst hb
   obtain⟨e,he,rfl⟩:=List.mem_map.1 ha
   exact hn e he
  ·simp only [Zmb,Zm8,Value.int.injEq,true_and]
   by_cases hq:q=k
   ·subst hq;rw [Zkr hf];simp
   ·rw [if_neg hq,if_neg (fun e=>hq e.symm)];simp
 | some r =>
  obtain⟨j,u⟩:=r
  obtain⟨_,e,he,h7,h8⟩:=Zte k _ 0 j u hf
  simp only [Nat.sub_zero] at he
  simp only [he,h8,Zzj,if_true,Zff]
  refine⟨_,rfl,fun x hx=>?_,?_,fun x hx=>?_,?_,fun q=>?_⟩
  ·rcases Zlv he x hx with rfl | hx
   ·exact⟨k,rfl⟩
   ·exact h2 x hx
  ·exact Eq.mpr (congrArg List.Nodup (Zs6 (·.born) he rfl)) h3
  ·rcases Zlv he x hx with rfl | hx
   ·exact h4 e (List.mem_of_getElem? he)
   ·exact h4 x hx
  ·exact Eq.mpr (congrArg List.Nodup (Zs6 (·.key) he h8.symm)) h5
  ·exact Zs2 h5 he h8 _ h8.symm q
theorem Zvy {kt:TypeId}{k:Int}{v:Value}{r:Option Mem}(hr:Z4r P kt m l k v=r)(hk:P.underlying kt=some (.int .i64))(h:Mp m l g) :
  ∃ m1,r=some m1∧Mp m1 l (Z34 g k (some v))∧Zao m m1 [l]∧m1.next=m.next:=by
 obtain⟨s,h1,h2,h3,h4,h5,h6⟩:=h.ex
 obtain⟨s',g1,g2,g3,g4,g5,g6⟩:=Zzh hk k v h2 h3 h4 h5
 subst hr
 simp only [Z4r,h1,g1]
 exact⟨_,rfl,⟨⟨s',Zur _ _ _,g2,g3,g4,g5,fun q=>by rw [g6,h6];rfl⟩,h.lt⟩,Zp1 _ _ _,rfl⟩
end
section
variable {P:Program}{H:Zc4}{m:Mem}{ρ:Operand→Value}{d:Option Tmp}{ty:TypeId}{pos:String}{af:Array Edge}{g:Option (Nat × Bool)}{o:Oper}
def lkF:=Zf
def muF:=Zd7
theorem Zzq (t:TypeId)(x y:Operand)(ok:Bool):sop P H ρ ⟨d,.lookup t x y ok,ty,pos,af,g⟩ m=Zf P ρ ⟨d,.lookup t x y ok,ty,pos,af,g⟩ t x y ok m:=rfl
theorem Zr0 (t:TypeId)(x k y:Operand):sop P H ρ ⟨d,.mapUpdate t x k y,ty,pos,af,g⟩ m=Zd7 P ρ ⟨d,.mapUpdate t x k y,ty,pos,af,g⟩ t x k y m:=rfl
theorem Zy2 (t:TypeId)(x k y:Operand):sop P H ρ ⟨d,.insert t x k y,ty,pos,af,g⟩ m=Zd7 P ρ ⟨d,.insert t x k y,ty,pos,af,g⟩ t x k y m:=rfl
theorem Zto (t:TypeId)(x k:Operand):sop P H ρ ⟨d,.mapEntry t x k,ty,pos,af,g⟩ m=Zij P ρ ⟨d,.mapEntry t x k,ty,pos,af,g⟩ t x k m:=rfl
theorem Zp2 (t:TypeId)(x b y:Operand):sop P H ρ ⟨d,.entryStore t x b y,ty,pos,af,g⟩ m=Zdu P ρ ⟨d,.entryStore t x b y,ty,pos,af,g⟩ x b y m:=rfl
theorem Zwx (t:TypeId)(r:Option Operand):sop P H ρ ⟨d,.makeMap t r,ty,pos,af,g⟩ m=Zhk P ρ ⟨d,.makeMap t r,ty,pos,af,g⟩ t r m:=rfl
theorem Zmf (t:TypeId)(x:Operand):sop P H ρ ⟨d,.makeInterface t x,ty,pos,af,g⟩ m=Zc P ρ ⟨d,.makeInterface t x,ty,pos,af,g⟩ t x m:=rfl
theorem Zpr (x:Operand)(a b:TypeId)(ok:Bool):sop P H ρ ⟨d,.typeAssert x a b ok,ty,pos,af,g⟩ m=Zcz P ρ ⟨d,.typeAssert x a b ok,ty,pos,af,g⟩ x b ok m:=rfl
theorem Zzv (x k:Operand)(tys:Array TypeId):sop P H ρ ⟨d,.call { callee:=.builtin .delete,args:=#[x,k],argTypes:=tys },ty,pos,af,g⟩ m=Zlm P ρ #[x,k] tys m:=rfl
theorem Zyh (r:Operand)(n:String)(args:Array Operand)(tys:Array TypeId):sop P H ρ ⟨d,.call { callee:=.invoke r n,args:=args,argTypes:=tys },ty,pos,af,g⟩ m=Zim P H ρ r n args m:=rfl
def Z4u (P:Program)(e:TypeId)(z:Value):Bool:=(P.info? e).any fun i=>i.zero.any fun v=>Zbs v && eqV v z
theorem Z5d {e:TypeId}{z:Value}(h:Z4u P e z=true):∃ i,P.info? e=some i∧i.zero=some z∧Zbs z=true:=by
 unfold Z4u at h
 cases hi:P.info? e with
 | none=>rw [hi] at h;simp at h
 | some i =>
  rw [hi] at h
  simp only [Option.any_some] at h
  cases hz:i.zero with
  | none=>rw [hz] at h;simp at h
  | some v =>
   rw [hz] at h
   simp only [Option.any_some,Bool.and_eq_true] at h
   have:=Znp _ _ h.2
   subst this
   exact⟨i,rfl,hz,h.1⟩
theorem Zds {t kt e:TypeId}{z:Value}(ht:P.underlying t=some (.map kt e))(hk:P.underlying kt=some (.int .i64))(hz:Z4u P e z=true)(x y:Operand)(ok:Bool) :
  Zf P ρ o t x y ok m=match ρ x,ρ y with
  | .map (some l),.int .i64 k=>(match Z3i m l k with
   | some r=>some ((if ok then .tuple #[r.getD z,.bool r.isSome] else r.getD z),m)
   | none=>lkF P ρ o t x y ok m)
  | _,_=>lkF P ρ o t x y ok m:=by
 obtain⟨i,hi,hzz,hc⟩:=Z5d hz
 cases hx:ρ x with
 | map r =>
  cases r with
  | none=>rfl
  | some l =>
   cases hy:ρ y with
   | int kk k =>
    cases kk with
    | i64 =>
     simp only
     cases hg:Z3i m l k with
     | none=>rfl
     | some r =>
      simp only
      unfold Z3i at hg
      cases hm:m.maps.get l with
      | none=>rw [hm] at hg;simp at hg
      | some s =>
       rw [hm] at hg
       simp only at hg
       split at hg
       ·rename_i hik
        simp only [Option.some.injEq] at hg
        subst hg
        have hik:=Zv.1 hik
        simp only [Zf,ht,hx,hy,Zif,hm,Option.map_some]
        rw [Zqt hk _ k _ hik]
        cases hf:Zkv k s.entries 0 with
        | none=>simp only [Zkr hf,hi,hzz,hc,if_true,Option.getD_none,Option.isSome_none]
        | some q=>obtain⟨j,u⟩:=q;simp only [Zui hf,Option.getD_some,Option.isSome_some]
       ·cases hg
    | _=>rfl
   | _=>rfl
 | _=>rfl
theorem Zee {t kt e:TypeId}(ht:P.underlying t=some (.map kt e))(x k y:Operand):Zd7 P ρ o t x k y m=match ρ x,ρ k with
  | .map (some l),.int .i64 q=>(Z4r P kt m l q (ρ y)).map (undef,·)
  | _,_=>muF P ρ o t x k y m:=by
 cases hx:ρ x with
 | map r =>
  cases r with
  | none=>rfl
  | some l =>
   cases hk:ρ k with
   | int i q =>
    cases i with
    | i64 =>
     simp only [Zd7,ht,hx,hk,Z4r]
     cases m.maps.get l with
     | none=>rfl
     | some s=>simp only;cases Zzz P kt (.int .i64 q) (ρ y) s <;> rfl
    | _=>rfl
   | _=>rfl
 | _=>rfl
theorem Z0r (x b y:Operand):Zdu P ρ o x b y m=match ρ x,Zcx (ρ b) with
  | .map (some l),some st=>(Z6u m l st (ρ y)).map (undef,·)
  | _,_=>none:=by
 cases hx:ρ x with
 | map r =>
  cases r with
  | none=>simp only [Zdu,hx]
  | some l =>
   cases hb:Zcx (ρ b) with
   | none=>simp only [Zdu,hx,hb]
   | some st =>
    simp only [Zdu,hx,hb,Z6u]
    cases m.maps.get l with
    | none=>rfl
    | some s=>simp only;cases s.entries.findIdx? (fun e=>e.born == st) <;> rfl
 | _=>simp only [Zdu,hx]
theorem Zev {t kt e:TypeId}(ht:P.underlying t=some (.map kt e)):Zhk P ρ o t none m=some (.map (some m.next),m.newMap):=by
 simp only [Zhk,ht]
def Z2t (P:Program)(t:TypeId):Bool:=match P.underlying t with
 | some (.interface _)=>false
 | some _=>true
 | none=>false
theorem Zdm {t:TypeId}(h:Z2t P t=true)(x:Operand):Zc P ρ o t x m=some (.iface t (ρ x),m):=by
 unfold Z2t at h
 unfold Zc
 split at h <;> simp_all
theorem Zga {t:TypeId}(h:Z2t P t=true)(x:Operand):Zcz P ρ o x t false m=match ρ x with
  | .iface u v=>if u=t then some (v,m) else none
  | _=>none:=by
 unfold Z2t at h
 unfold Zcz
 split at h
 ·cases h
 ·rename_i d hd hu
  cases hx:ρ x with
  | iface u v =>
   rw [hu]
   cases d <;> simp_all
  | _=>rw [hu];cases d <;> simp_all
 ·cases h
def Zx4 (P:Program)(t:TypeId)(n:String)(f:FuncId):Bool:=(P.info? t).any fun i=>(i.methods.find? (·.name == n)).any fun mt=>mt.path.isEmpty && (match mt.func,P.underlying t with
 | some (q,true),some (.pointer _)=>q == f
 | _,_=>false)
def Z20 (P:Program)(H:Zc4)(t:TypeId)(v:Value)(n:String)(as:List Value)(m:Mem):Option (Value × Mem):=match Zia P m t v n with
 | some (f,recv)=>H f (recv::as) m
 | none=>none
theorem Z3h (r:Operand)(n:String)(args:Array Operand):Zim P H ρ r n args m=match ρ r with
  | .iface t v=>Z20 P H t v n (args.toList.map ρ) m
  | _=>none:=rfl
theorem Zx {t:TypeId}{n:String}{f:FuncId}(h:Zx4 P t n f=true)(v:Value)(as:List Value):Z20 P H t v n as m=H f (v::as) m:=by
 unfold Zx4 at h
 cases hi:P.info? t with
 | none=>rw [hi] at h;simp at h
 | some i =>
  rw [hi] at h
  simp only [Option.any_some] at h
  cases hm:i.methods.find? (·.name == n) with
  | none=>rw [hm] at h;simp at h
  | some mt =>
   rw [hm] at h
   simp only [Option.any_some,Bool.and_eq_true] at h
   obtain⟨hp,hq⟩:=h
   split at hq
   ·rename_i q e hf hu
    simp only [beq_iff_eq] at hq
    subst hq
    simp only [Z20,Zia,hi,hm,hp,if_true,hf,hu]
   ·cases hq
end
section
variable {P:Program}{H:Zc4}{m:Mem}
def Zpm (P:Program)(t:TypeId)(n:String)(f:FuncId)(e:TypeId):Bool:=Zl7 P e && (P.info? t).any fun i=>(i.methods.find? (·.name == n)).any fun mt=>mt.path.isEmpty && (match mt.func,P.underlying t with
 | some (q,false),some (.pointer x)=>q == f && x == e
 | _,_=>false)
theorem Zex {t:TypeId}{n:String}{f:FuncId}{e:TypeId}(h:Zpm P t n f e=true)(a:Addr)(as:List Value):Z20 P H t (.pointer (some a)) n as m=match loadRow m a 1 with
  | some [v]=>H f (v::as) m
  | _=>none:=by
 unfold Zpm at h
 simp only [Bool.and_eq_true] at h
 obtain⟨hl,h⟩:=h
 cases hi:P.info? t with
 | none=>rw [hi] at h;simp at h
 | some i =>
  rw [hi] at h
  simp only [Option.any_some] at h
  cases hm:i.methods.find? (·.name == n) with
  | none=>rw [hm] at h;simp at h
  | some mt =>
   rw [hm] at h
   simp only [Option.any_some,Bool.and_eq_true] at h
   obtain⟨hp,hq⟩:=h
   split at hq
   ·rename_i q x hf hu
    simp only [Bool.and_eq_true,beq_iff_eq] at hq
    obtain⟨rfl,rfl⟩:=hq
    unfold Zl7 at hl
    simp only [Bool.and_eq_true,Bool.not_eq_true'] at hl
    obtain⟨d,hd⟩:=Option.isSome_iff_exists.1 hl.1
    simp only [Z20,Zia,hi,hm,hp,if_true,hf,hu,Zvu,Zyg,hd,hl.2,Bool.false_eq_true,if_false]
    cases loadRow m a 1 with
    | none=>rfl
    | some l =>
     cases l with
     | nil=>rfl
     | cons v r=>cases r <;> rfl
   ·cases hq
end
section
variable {P:Program}{H:Zc4}{m:Mem}{ρ:Operand→Value}{o:Oper}
theorem Z0u (r:Option Nat):one (.map r)=true:=rfl
theorem Zwu (t:TypeId)(v:Value):one (.iface t v)=true:=rfl
theorem Zvq (r:Option Nat):(Value.map r).cells=#[.map r]:=rfl
theorem Z1y (r:Option Nat):eqV (.map r) (.map r)=true:=by simp [eqV]
theorem Z2p (t:TypeId)(v:Value):eqV (.iface t v) (.iface t v)=eqV v v:=by simp [eqV]
theorem Zq6 (t:TypeId)(v:Value):(Value.iface t v).cells=#[.iface t v]:=rfl
end
section
variable {P:Program}{m:Mem}
def Sr (m:Mem)(ao:Option Addr)(n:Nat)(cells:List Value)(e:TypeId)(z fam:Nat):Prop:=
 n * z=cells.length∧((ao=none∧n=0)∨∃ b rest,ao=some ⟨b,0,none⟩∧Own m b (cells++rest) e fam)
theorem Sl.sr {ao:Option Addr}{n:Nat}{cells:List Value}{e z fam:Nat}(h:Sl m ao n cells e z fam):Sr m ao n cells e z fam:=
 ⟨h.1,h.2.imp id fun⟨b,h1,h2⟩=>⟨b,[],h1,by simpa using h2⟩⟩
theorem Sr.nil (m:Mem)(e z fam:Nat):Sr m none 0 [] e z fam:=(Sl.nil m e z fam).sr
theorem Sr.own {ao:Option Addr}{n:Nat}{cells:List Value}{e z fam:Nat}(h:Sr m ao n cells e z fam)(hn:n≠0):∃ b rest,ao=some ⟨b,0,none⟩∧Own m b (cells++rest) e fam:=by
 rcases h.2 with⟨_,h0⟩ | h
 ·exact absurd h0 hn
 ·exact h
theorem Sr.flt {ao:Option Addr}{n:Nat}{cells:List Value}{e z fam:Nat}(h:Sr m ao n cells e z fam)(hn:ao≠none):fam < m.next:=by
 rcases h.2 with⟨h0,_⟩ | ⟨b,r,_,o⟩
 ·exact absurd h0 hn
 ·exact o.flt
theorem Sr.keep {m':Mem}{ao:Option Addr}{n:Nat}{cells:List Value}{e z fam:Nat}{fs:List Nat}(h:Sr m ao n cells e z fam)(k:Zao m m' fs)(hf:ao≠none→fam∉fs):Sr m' ao n cells e z fam:=by
 refine⟨h.1,?_⟩
 rcases h.2 with h | ⟨b,r,h1,h2⟩
 ·exact Or.inl h
 ·exact Or.inr ⟨b,r,h1,h2.keep k (hf (by rw [h1];simp))⟩
theorem Sr.cut {ao:Option Addr}{n k:Nat}{cells more:List Value}{e z fam:Nat}(h:Sr m ao n (cells++more) e z fam)(hk:k * z=cells.length)(hn:ao=none→k=0):Sr m ao k cells e z fam:=by
 refine⟨hk,?_⟩
 rcases h.2 with⟨h1,h2⟩ | ⟨b,r,h1,h2⟩
 ·exact Or.inl ⟨h1,hn h1⟩
 ·exact Or.inr ⟨b,more++r,h1,by simpa using h2⟩
theorem Zpg {ty e:TypeId}{z bt wb wf n k:Nat}{cells rest news:List Value}(ht:P.underlying ty=some (.slice e))(ha:Zna P e z bt=true)(h:Own m wb (cells++rest) e wf)(hn:n * z=cells.length)(hk:k≠0)(hnews:news.length=k * z)(h1:news.all one=true)
  (hb:(n+k) * bt≤140737488355328) (h63:n+k≤9223372036854775807) :
  Zcd P ty m (.slice (some ⟨wb,0,none⟩) n n) news k=if news.length≤rest.length then some (.slice (some ⟨wb,0,none⟩) (n+k) (n+k),m.put wb ⟨cells++rest,e,wf⟩ (Zdh (cells++rest) (n * z) news))
   else some (.slice (some ⟨m.next,0,none⟩) (n+k) (n+k),m.grow ⟨cells++rest,e,wf⟩ (cells++news) (n * z == (cells++rest).length)):=by
 unfold Zna at ha
 cases hi:P.info? e with
 | none=>rw [hi] at ha;simp at ha
 | some i =>
  rw [hi] at ha
  simp only [Option.any_some,Bool.and_eq_true,beq_iff_eq,decide_eq_true_eq] at ha
  obtain⟨⟨⟨h2,h3⟩,h4⟩,h5⟩:=ha
  subst h2 h3
  have hz:(0 < i.size && i.zero.any (fun z=>z.cells.size == i.size) && news.length == k * i.size && news.all one)=true:=by simp [h4,h5,hnews];simpa using h1
  unfold Zcd
  have hk0:(k == 0)=false:=by simpa using hk
  have hcond:(n == n && (none:Option (Nat ⊕ Nat)).isNone && decide ((n+k) * i.bytes≤140737488355328) && decide (n+k≤9223372036854775807))=true:=by simp [hb,h63]
  have hl:n * i.size≤(cells++rest).length:=by rw [hn];simp
  have ht2:List.take (n * i.size) (cells++rest)=cells:=by rw [hn];simp
  simp only [ht,hi,hz,Bool.not_true,Bool.false_eq_true,if_false,h.writable,bne_self_eq_false,hk0,Nat.zero_add]
  by_cases hr:news.length≤rest.length
  ·rw [if_pos hr,if_pos (by simp [hb,h63]),if_pos (by rw [hn,List.length_append];omega)]
  ·rw [if_neg hr,if_pos (by simp [hb,h63]),if_neg (by rw [hn,List.length_append];omega),if_pos (by rw [List.length_append] at hl;simp;omega),ht2]
theorem Zwd {cells rest news:List Value}(h:news.length≤rest.length):Zdh (cells++rest) cells.length news=cells++news++rest.drop news.length:=by
 simp [Zdh,List.drop_append,List.drop_of_length_le]
theorem Z4f {ty e:TypeId}{z bt n k fam:Nat}{ao:Option Addr}{cells news:List Value}{r:Option (Value × Mem)}(hr:Zcd P ty m (.slice ao n n) news k=r)(ht:P.underlying ty=some (.slice e))(ha:Zna P e z bt=true)
  (h:Sr m ao n cells e z fam) (hk:k≠0) (hnews:news.length=k * z) (h1:news.all one=true) (hb:(n+k) * bt≤140737488355328) (h63:n+k≤9223372036854775807) :
  ∃ m1 ao' fam',r=some (.slice ao' (n+k) (n+k),m1)∧Sr m1 ao' (n+k) (cells++news) e z fam'∧Zao m m1 (if ao=none then [] else [fam])∧((ao≠none∧fam'=fam)∨m.next≤fam')∧ao'≠none∧(ao≠none→fam'=fam):=by
 subst hr
 have hlen:(n+k) * z=(cells++news).length:=by rw [List.length_append,Nat.add_mul,h.1,hnews]
 rcases h.2 with⟨rfl,rfl⟩ | ⟨b,rest,rfl,ho⟩
 ·have hc:cells=[]:=List.length_eq_zero_iff.1 (by rw [← h.1];simp)
  subst hc
  have:=Zm (m:=m) ht ha hk hnews h1 (by simpa using hb) (by omega)
  exact⟨m.new news e,some ⟨m.next,0,none⟩,m.next,by simpa using this,⟨hlen,Or.inr ⟨m.next,[],rfl,by simpa using Own.new m news e⟩⟩,Zb9 _ _ _ _,Or.inr (Nat.le_refl _),by simp,fun h=>absurd rfl h⟩
 ·have hs:=Zpg ht ha ho h.1 hk hnews h1 hb h63
  rw [hs]
  by_cases hr:news.length≤rest.length
  ·rw [if_pos hr,h.1]
   exact⟨_,some ⟨b,0,none⟩,fam,rfl,⟨hlen,Or.inr ⟨b,rest.drop news.length,rfl,by rw [Zwd hr];exact ho.put _⟩⟩,by simpa using ho.keeps_put _ (by simp),Or.inl ⟨by simp,rfl⟩,by simp,fun _=>rfl⟩
  ·rw [if_neg hr]
   exact⟨_,some ⟨m.next,0,none⟩,fam,rfl,⟨hlen,Or.inr ⟨m.next,[],rfl,by simpa using ho.grow _ _⟩⟩,by simpa using ho.keeps_grow _ _ (by simp),Or.inl ⟨by simp,rfl⟩,by simp,fun _=>rfl⟩
theorem Zt3 {ty e e0:TypeId}{z bt n k fam:Nat}{ao:Option Addr}{cells news cs:List Value}{r:Option (Value × Mem)}(hr:Zcd P ty (m.new cs e0) (.slice ao n n) news k=r)(ht:P.underlying ty=some (.slice e))(ha:Zna P e z bt=true)
  (h:Sr m ao n cells e z fam) (hk:k≠0) (hnews:news.length=k * z) (h1:news.all one=true) (hb:(n+k) * bt≤140737488355328) (h63:n+k≤9223372036854775807) :
  ∃ m1 ao' fam',r=some (.slice ao' (n+k) (n+k),m1)∧Sr m1 ao' (n+k) (cells++news) e z fam'∧Zao m m1 (if ao=none then [] else [fam])∧((ao≠none∧fam'=fam)∨m.next≤fam')∧ao'≠none∧(ao≠none→fam'=fam):=by
 obtain⟨m1,ao',fam',g1,g2,g3,g4,g5,g6⟩:=Z4f hr ht ha (h.keep (Zb9 m cs e0 []) (by simp)) hk hnews h1 hb h63
 exact⟨m1,ao',fam',g1,g2,(Zb9 m cs e0 _).trans g3,g4.imp id (fun h=>by simp [Mem.new] at h;omega),g5,g6⟩
end
end Go.Sh
namespace Go.Sh
set_option linter.unnecessarySimpa false
variable {P:Program}{m:Mem}{H:Zc4}{ρ:Operand→Value}{o:Oper}{d:Option Tmp}{ty:TypeId}{pos:String}{af:Array Edge}{g:Option (Nat × Bool)}
theorem Zrd (x:Operand)(ts:Array TypeId):sop P H ρ ⟨d,.call { callee:=.builtin .unsafeSliceData,args:=#[x],argTypes:=ts },ty,pos,af,g⟩ m=match ρ x with
  | .slice none 0 0=>some (.pointer none,m)
  | .slice (some a) n _=>if n=0 then none else some (.pointer (some a),m)
  | _=>none:=by
 cases hx:ρ x with
 | slice a n c =>
  cases a with
  | none=>cases n <;> cases c <;> simp only [sop,Zd9,Zfn,hx]
  | some a=>simp only [sop,Zd9,Zfn,hx,beq_iff_eq]
 | _=>simp only [sop,Zd9,Zfn,hx]
def unsF (P:Program)(e:TypeId)(m:Mem)(a:Addr)(k:Int):Option (Value × Mem):=match m.writable a.block with
 | some b=>if !Znh P e && 0 < k && k≤9223372036854775807 && a.off == 0 && b.elem == e && P.cellsOf e == 1 && k.toNat≤b.cells.length then
   match bytesOf (Zb b.cells 0 k.toNat) with
   | some s=>some (.string ⟨s.toArray⟩,m.frz b)
   | none=>none
  else none
 | none=>none
theorem Znf (p n:Operand)(tp ti:TypeId):sop P H ρ ⟨d,.call { callee:=.builtin .unsafeString,args:=#[p,n],argTypes:=#[tp,ti] },ty,pos,af,g⟩ m=Zfx P ρ #[p,n] #[tp,ti] m:=rfl
def Z6x (P:Program)(e:TypeId)(m:Mem)(v w:Value):Option (Value × Mem):=match v,w with
 | .pointer none,.int .i64 0=>some (.string ⟨#[]⟩,m)
 | .pointer (some a),.int .i64 k=>unsF P e m a k
 | _,_=>none
theorem Zu6 (e:TypeId):Z6x P e m (.pointer none) (.int .i64 0)=some (.string ⟨#[]⟩,m):=rfl
theorem Zv4 (e:TypeId)(a:Addr)(k:Int):Z6x P e m (.pointer (some a)) (.int .i64 k)=unsF P e m a k:=rfl
theorem Own.unsF {l fam:Nat}{s:List UInt8}{e:TypeId}(h:Own m l (s.map fun b=>Value.int .u8 b.toNat) e fam)(hc:P.cellsOf e=1)(h0:s≠[])(h63:s.length≤9223372036854775807){k:Int}(hk:k=s.length)(hi:Znh P e=false:=by kernel_rfl) :
  Sh.unsF P e m ⟨l,0,none⟩ k=some (.string ⟨s.toArray⟩,m.frz ⟨s.map fun b=>Value.int .u8 b.toNat,e,fam⟩):=by
 have hl:0 < s.length:=List.length_pos_iff.2 h0
 subst hk
 have hw:Zb (s.map fun b=>Value.int .u8 b.toNat) 0 s.length=s.map fun b=>Value.int .u8 b.toNat:=by unfold Zb;rw [List.drop_zero];exact List.take_of_length_le (by simp)
 have h1:(0:Int) < (s.length:Int):=by omega
 have h2:(s.length:Int)≤9223372036854775807:=by omega
 simp [Sh.unsF,h.writable,hc,h1,h2,hw,Zl6,h0,hi]
end Go.Sh
namespace Go.Sh
def rgs:Code→List Code
 | .region i o d=>[.region i o d]
 | .seq a b=>rgs a++rgs b
 | .cond _ a b=>rgs a++rgs b
 | .block _ b=>rgs b
 | .loop b=>rgs b
 | _=>[]
def Znm:Code→List Code
 | .region _ _ _=>[]
 | .seq a b=>Znm a++Znm b
 | .cond _ a b=>Znm a++Znm b
 | .block _ b=>Znm b
 | .loop b=>Znm b
 | .skip=>[]
 | .ret=>[]
 | .exit _=>[]
 | c=>[c]
def nR:Code→Nat
 | .region _ _ _=>1
 | .seq a b=>nR a+nR b
 | .cond _ a b=>nR a+nR b
 | .block _ b=>nR b
 | .loop b=>nR b
 | _=>0
def nO:Code→Nat
 | .region _ _ _=>0
 | .seq a b=>nO a+nO b
 | .cond _ a b=>nO a+nO b
 | .block _ b=>nO b
 | .loop b=>nO b
 | .skip=>0
 | .ret=>0
 | .exit _=>0
 | _=>1
def Zb5 (T:FuncId→Option Func)(f:FuncId):Code:=match T f with
 | some fn=>Zlc fn
 | none=>.skip
def rgn (T:FuncId→Option Func)(f k:Nat):Code:=(rgs (Zb5 T f)).getD k .skip
def oth (T:FuncId→Option Func)(f k:Nat):Code:=(Znm (Zb5 T f)).getD k .skip
def skl (T:FuncId→Option Func)(f:FuncId):Code→Nat→Nat→Code
 | .region _ _ _,i,_=>rgn T f i
 | .seq a b,i,j=>.seq (skl T f a i j) (skl T f b (i+nR a) (j+nO a))
 | .cond x a b,i,j=>.cond x (skl T f a i j) (skl T f b (i+nR a) (j+nO a))
 | .block n b,i,j=>.block n (skl T f b i j)
 | .loop b,i,j=>.loop (skl T f b i j)
 | .skip,_,_=>.skip
 | .ret,_,_=>.ret
 | .exit n,_,_=>.exit n
 | _,_,j=>oth T f j
theorem Z0:∀ c:Code,nR c=(rgs c).length:=by
 intro c
 induction c with
 | seq a b ha hb=>simp only [nR,rgs,List.length_append,ha,hb]
 | cond x a b ha hb=>simp only [nR,rgs,List.length_append,ha,hb]
 | block n b hb=>simp only [nR,rgs,hb]
 | loop b hb=>simp only [nR,rgs,hb]
 | _=>rfl
theorem Zz6:∀ c:Code,nO c=(Znm c).length:=by
 intro c
 induction c with
 | seq a b ha hb=>simp only [nO,Znm,List.length_append,ha,hb]
 | cond x a b ha hb=>simp only [nO,Znm,List.length_append,ha,hb]
 | block n b hb=>simp only [nO,Znm,hb]
 | loop b hb=>simp only [nO,Znm,hb]
 | _=>rfl
theorem Ztl {a b c:List Code}{d:Code}{i:Nat}(x:Code)(h:a++x::b=c)(hi:a.length=i):c.getD i d=x:=by
 subst h;subst hi
 simp [List.getD]
theorem Z4 {T:FuncId→Option Func}{f:FuncId}:∀ (c:Code) (i j:Nat) (a b x y:List Code),rgs (Zb5 T f)=a++rgs c++b→a.length=i→Znm (Zb5 T f)=x++Znm c++y→x.length=j→skl T f c i j=c:=by
 intro c
 induction c with
 | region n o d=>intro i j a b x y h1 h2 h3 h4;exact Ztl _ (by simpa [rgs] using h1.symm) h2
 | seq p q hp hq =>
  intro i j a b x y h1 h2 h3 h4
  simp only [rgs,Znm] at h1 h3
  rw [skl,hp i j a (rgs q++b) x (Znm q++y) (by simpa using h1) h2 (by simpa using h3) h4,
   hq _ _ (a++rgs p) b (x++Znm p) y (by simpa using h1) (by rw [List.length_append,Z0,h2]) (by simpa using h3) (by rw [List.length_append,Zz6,h4])]
 | cond z p q hp hq =>
  intro i j a b x y h1 h2 h3 h4
  simp only [rgs,Znm] at h1 h3
  rw [skl,hp i j a (rgs q++b) x (Znm q++y) (by simpa using h1) h2 (by simpa using h3) h4,
   hq _ _ (a++rgs p) b (x++Znm p) y (by simpa using h1) (by rw [List.length_append,Z0,h2]) (by simpa using h3) (by rw [List.length_append,Zz6,h4])]
 | block n p hp=>intro i j a b x y h1 h2 h3 h4;rw [skl,hp i j a b x y h1 h2 h3 h4]
 | loop p hp=>intro i j a b x y h1 h2 h3 h4;rw [skl,hp i j a b x y h1 h2 h3 h4]
 | skip=>intros;rfl
 | ret=>intros;rfl
 | exit n=>intros;rfl
 | _=>intro i j a b x y h1 h2 h3 h4;exact Ztl _ (by simpa [Znm] using h3.symm) h4
theorem Zcn {T:FuncId→Option Func}{f:FuncId}(fn:Func)(hT:T f=some fn){c:Code}(h:skl T f (Zlc fn) 0 0=c):Zb5 T f=c:=by
 have e:Zb5 T f=Zlc fn:=by unfold Zb5;rw [hT]
 rw [← h,e]
 exact (Z4 _ 0 0 [] [] [] [] (by simp [e]) rfl (by simp [e]) rfl).symm
theorem Zdx {T:FuncId→Option Func}{f:FuncId}(fn:Func)(hT:T f=some fn)(hb:fn.body.isSome=true){rs:List ResultVar}(hr:fn.results.toList=rs){n:Nat}(hn:decide (n≤fn.ntmps)=true):Zdt T f (Zb5 T f) rs n:=by
 refine⟨fn,hT,?_,hr,of_decide_eq_true hn⟩
 unfold Zb5
 rw [hT]
 unfold Zlc
 cases h:fn.body with
 | none=>rw [h] at hb;exact Bool.noConfusion hb
 | some c=>simp only [h]
inductive Dat where
 | p (k:Nat) (ups cs nd:List Nat)
 | d (k:Nat) (ups cs nd:List Nat) (pl:List (Nat × List Nat)) (ord:List Nat)
def Zql (ops:List Oper):List Nat→List Oper
 | []=>ops
 | i::r=>List.filterMap (fun k=>(ops[k]?).map (Ziu (i::r))) (i::r)
def Z4w (rs:List Code):Dat→List (Option Nat) × List Oper
 | .p k _ _ _=>((Zks (rs.getD k .skip)).map (·.dst),(Zks (rs.getD k .skip)).map Zj9)
 | .d k _ _ _ _ o=>((Zql (Zks (rs.getD k .skip)) o).map (·.dst),(Zql (Zks (rs.getD k .skip)) o).map Zj9)
def Zxy (P:Program)(nv:Nat)(C:List Nat)(rs:List Code):Dat→Bool
 | .p k ups cs nd=>Zol P nv C (rs.getD k .skip) ups cs nd ((Zks (rs.getD k .skip)).map (·.dst))
 | .d k ups cs nd pl o=>(if (Zks (rs.getD k .skip)).any Zdr then Zhl (Zks (rs.getD k .skip)) == o && !o.isEmpty else o == []) && Zsi P nv C (rs.getD k .skip) ups cs nd ((Zql (Zks (rs.getD k .skip)) o).map (·.dst)) pl
section
variable (P:Program)(T:FuncId→Option Func)(f:FuncId)(nv:Nat)(C:List Nat)
def Wx (x:List (Option Nat) × List Oper):Dat→Prop
 | .p i ups cs nd=>∀ {S:Zed} {m:Mem} {k:List Fr} {E:Zcu} {Q:Zrm},W P T S nv C (rgn T f i) k E m Q↔Rg P T S nv C ups cs (lgo E nd (Zll P (Zbi P T S) x.1 x.2 E m)) k E Q
 | .d i ups cs nd pl _=>∀ {S:Zed} {m:Mem} {k:List Fr} {E:Zcu} {Q:Zrm},W P T S nv C (rgn T f i) k E m Q↔Rg P T S nv C ups cs (lgo E nd (Zqs P (Zbi P T S) x.1 x.2 pl (Zdb P (Zbi P T S) x.1 x.2 E m))) k E Q
def Ws:List Dat→List (List (Option Nat) × List Oper)→Prop
 | [a],[x]=>Wx P T f nv C x a
 | a::r,x::s=>Wx P T f nv C x a∧Ws r s
 | _,_=>True
end
theorem Zwj {ops:List Oper}{o:List Nat}(h:(if ops.any Zdr then Zhl ops == o && !o.isEmpty else o == [])=true):Zb3 ops=Zql ops o:=by
 unfold Zb3
 split at h
 ·next hb =>
  rw [if_pos hb]
  simp only [Bool.and_eq_true,beq_iff_eq] at h
  obtain⟨h1,h2⟩:=h
  subst h1
  cases hc:Zhl ops with
  | nil=>rw [hc] at h2;exact Bool.noConfusion h2
  | cons i r=>rfl
 ·next hb =>
  rw [if_neg hb]
  simp only [beq_iff_eq] at h
  subst h
  rfl
theorem Z3q {P:Program}{T:FuncId→Option Func}{f:FuncId}{nv:Nat}{C:List Nat}:∀ (a:Dat),Zxy P nv C (rgs (Zb5 T f)) a=true→Wx P T f nv C (Z4w (rgs (Zb5 T f)) a) a
 | .p i ups cs nd,h=>by
  exact Z1m h rfl
 | .d i ups cs nd pl o,h=>by
  simp only [Zxy,Bool.and_eq_true] at h
  exact Z3o h.2 (congrArg (List.map Zj9) (Zwj h.1))
theorem Z4k {P:Program}{T:FuncId→Option Func}{f:FuncId}{nv:Nat}{C:List Nat}:∀ (l:List Dat),(l.all fun a=>Zxy P nv C (rgs (Zb5 T f)) a)=true→Ws P T f nv C l (l.map (Z4w (rgs (Zb5 T f))))
 | [],_=>trivial
 | [a],h=>Z3q a (by simpa using h)
 | a::b::r,h=>by
  rw [List.all_cons,Bool.and_eq_true] at h
  exact⟨Z3q a h.1,Z4k (b::r) h.2⟩
theorem Zb6 (P:Program){T:FuncId→Option Func}{f:FuncId}(fn:Func)(hT:T f=some fn)(nv:Nat)(C:List Nat)(l:List Dat)(h:(l.all fun a=>Zxy P nv C (rgs (Zlc fn)) a)=true){xs:List (List (Option Nat) × List Oper)}(hx:l.map (Z4w (rgs (Zlc fn)))=xs){A:Prop}(hA:Ws P T f nv C l xs=A):A:=by
 have e:Zb5 T f=Zlc fn:=by unfold Zb5;rw [hT]
 rw [← e] at h hx
 subst hx
 rw [← hA]
 exact Z4k l h
end Go.Sh
