/- This text proves that an abstract, deterministic run of the model's code (logical blocks in the place of addresses, no capacities) is sound: where it answers, every run of the model answers alike and leaves all older memory as it was ('closed_true', 'call_sound'). No condition but what the theorems themselves say: the program's orders are Zs2, and the functions that are run pass the static check 'funcOk'. -/
import Derived.Test.YtcgmchechmbmeaaDoorShC
import Derived.Orders
import Derived.SliceStrings
import Derived.Deep.Slices
set_option linter.unusedVariables false
set_option linter.unusedSimpArgs false
namespace Go.Sh
open Go.RowKit
section
variable {P:Program}{H:Zbk}
theorem Znm {ρ ρ':Operand→Value}(o:Oper)(hs:∀ cs b,o.op≠.select cs b)(h:∀ x∈o.op.operands,ρ x=ρ' x):Zbq P ρ o=Zbq P ρ' o:=by
 unfold Zbq
 rw [execOp_congr o hs h]
 have:o.op.operands.all (fun x=>Zaz (ρ x))=o.op.operands.all (fun x=>Zaz (ρ' x)):=by
  rw [Bool.eq_iff_iff,Array.all_eq_true',Array.all_eq_true']
  constructor
  ·intro hh x hx;rw [← h x hx];exact hh x hx
  ·intro hh x hx;rw [h x hx];exact hh x hx
 rw [this]
theorem Zqd {ρ ρ':Operand→Value}(o:Oper)(h:∀ x∈o.op.operands,ρ x=ρ' x)(m:Mem):sop P H ρ o m=sop P H ρ' o m:=by
 by_cases hs:∀ cs b,o.op≠.select cs b
 ·have hc:=Znm (P:=P) o hs h
  obtain⟨dst,op,type,pos,after,guard⟩:=o
  have pairs:∀ ps:Array (Nat × Operand),(∀ x∈ps.map (·.2),ρ x=ρ' x)→
    (ps.map fun (i,x)=>(i,ρ x))=(ps.map fun (i,x)=>(i,ρ' x)):=fun ps hp =>
   Array.map_congr_left fun p hm=>by
    obtain⟨i,x⟩:=p
    simp only [hp x (Array.mem_map.2 ⟨(i,x),hm,rfl⟩)]
  cases op <;> simp only [Op.operands] at h
  case select cs b=>exact absurd rfl (hs cs b)
  case build t ps=>simp only [sop,Zen];rw [pairs ps fun x hx=>h x (by simpa using hx)]
  case buildSlice t n ps=>simp only [sop,Zck];rw [pairs ps fun x hx=>h x (by simpa using hx)]
  case makeFunc fn first captured =>
   have e1:=Array.map_congr_left (xs:=first) (f:=ρ) (g:=ρ') fun x hx=>h x (by simp [hx])
   have e2:=Array.map_congr_left (xs:=captured) (f:=ρ) (g:=ρ') fun x hx=>h x (by simp [hx])
   cases fn <;> simp only [sop] <;> first
    | rw [e1,e2]
    | rw [hc]
  case slice t x lo hi mx =>
   cases lo <;> cases hi <;> cases mx <;> simp only [sop,Zdg] <;> first
    | (rw [hc];simp_all;done)
    | (simp_all;done)
  case makeMap t r=>rfl
  case call c =>
   obtain⟨callee,args,argTypes⟩:=c
   have ha:args.toList.map ρ=args.toList.map ρ':=List.map_congr_left fun x hx=>h x (by cases callee <;> simp_all [Call.operands])
   cases callee with
   | value f =>
    have hf:ρ f=ρ' f:=h f (by simp [Call.operands])
    simp only [sop,Zdi,Zmf,hf,ha]
   | invoke r n=>rfl
   | builtin b =>
    have hm:∀ x∈args.toList,ρ x=ρ' x:=fun x hx=>h x (by simp_all [Call.operands])
    have tail:(Zbq P ρ ⟨dst,.call ⟨.builtin b,args,argTypes⟩,type,pos,after,guard⟩).map (·,m)=(Zbq P ρ' ⟨dst,.call ⟨.builtin b,args,argTypes⟩,type,pos,after,guard⟩).map (·,m):=by rw [hc]
    cases b with
    | delete =>
     rfl
    | append =>
     simp only [sop,Zdi,Zer]
     rcases hl:args.toList with _ | ⟨x,_ | ⟨y,_ | ⟨z,r⟩⟩⟩ <;> rw [hl] at hm <;> rcases hl2:argTypes.toList with _ | ⟨u,_ | ⟨v,_ | ⟨w,r2⟩⟩⟩ <;> simp_all
    | len =>
     simp only [sop,Zdi,Zse]
     rcases hl:args.toList with _ | ⟨x,_ | ⟨y,r⟩⟩ <;> rw [hl] at hm <;> rcases hl2:argTypes.toList with _ | ⟨u,_ | ⟨v,r2⟩⟩ <;> simp_all
    | copy =>
     simp only [sop,Zdi,Zzg]
     rcases hl:args.toList with _ | ⟨x,_ | ⟨y,_ | ⟨z,r⟩⟩⟩ <;> rw [hl] at hm <;> rcases hl2:argTypes.toList with _ | ⟨u,_ | ⟨v,_ | ⟨w,r2⟩⟩⟩ <;> simp_all
    | unsafeSliceData =>
     simp only [sop,Zdi,Zej]
     rcases hl:args.toList with _ | ⟨x,_ | ⟨y,r⟩⟩ <;> rw [hl] at hm <;> simp_all
    | unsafeString =>
     simp only [sop,Zdi,Zep]
     rcases hl:args.toList with _ | ⟨x,_ | ⟨y,_ | ⟨z,r⟩⟩⟩ <;> rw [hl] at hm <;> rcases hl2:argTypes.toList with _ | ⟨u,_ | ⟨v,_ | ⟨w,r2⟩⟩⟩ <;> simp_all
    | _=>exact tail
  all_goals first
   | exact congrArg (Option.map _) hc
   | (simp_all [sop,Zub,Zio,Zjb,Zs5,Zf5,Zky,Zbt,Zfl,Zbf,Zfu,Zdn,Zc3,Ze6,Zd,Zoi,Zd8,Zbi,Zb3,Zhd,Zg5,Zkw,Zh2];done)
   | (simp_all [sop];done)
 ·obtain⟨dst,op,type,pos,after,guard⟩:=o
  cases op with
  | select cs b=>rfl
  | _=>exact absurd (fun cs b=>by simp) hs
end
section
variable {P:Program}{H:Zbk}
abbrev Zb:=List (Nat × Value)
def Zbv:Zb→Nat→Option Value
 | [],_=>none
 | (j,v)::r,i=>if i=j then some v else Zbv r i
def Has (t:Tree Value)(E:Zb):Prop:=∀ i v,Zbv E i=some v→t.get i=some v
def lev (E:Zb):Operand→Value
 | .tmp i=>(Zbv E i).getD undef
 | .const v=>v
 | .global g=>.pointer (some ⟨g,0,none⟩)
 | .func f=>.func (.func f) #[] #[]
def lhas (E:Zb):Operand→Bool
 | .tmp i=>(Zbv E i).isSome
 | _=>true
theorem Zya {t:Tree Value}{E:Zb}(h:Has t E){x:Operand}(hx:lhas E x=true):ev t x=lev E x:=by
 cases x with
 | tmp i =>
  simp only [lhas] at hx
  obtain⟨v,hv⟩:=Option.isSome_iff_exists.1 hx
  simp [ev,lev,hv,h i v hv]
 | _=>rfl
def Zlp (P:Program)(H:Zbk)(ds:List (Option Tmp))(o:Oper)(E:Zb)(m:Mem):Option (Value × Mem):=
 match o.guard with
 | none=>sop P H (lev E) o m
 | some (j,w)=>match ds[j]? with
  | some (some d)=>match Zbv E d with
   | some v=>(match v with
    | .bool b=>if b=w then sop P H (lev E) o m else some (undef,m)
    | _=>some (undef,m))
   | none=>none
  | _=>none
def Zlc (E:Zb)(d:Option Tmp)(v:Value):Zb:=match d with
 | some d=>(d,v)::E
 | none=>E
def Zlu (P:Program)(H:Zbk)(ds:List (Option Tmp)):List Oper→Zb→Mem→Option (Zb × Mem)
 | [],E,m=>some (E,m)
 | o::rest,E,m=>match Zlp P H ds o E m with
  | some (v,m')=>Zlu P H ds rest (Zlc E o.dst v) m'
  | none=>none
def Zk1 (o:Oper):List Nat:=o.op.operands.toList.filterMap fun x=>match x with
 | .tmp i=>some i
 | _=>none
def Zjz:List Oper→List Nat→List Nat
 | [],_=>[]
 | o::r,D=>(Zk1 o).filter (fun i=>!D.contains i)++Zjz r (o.dst.toList++D)
def Zva (E:Zb):List Nat→Bool
 | []=>true
 | i::r=>(Zbv E i).isSome && Zva E r
theorem Zd2 {E:Zb}:∀ {l:List Nat},Zva E l=true↔∀ i∈l,(Zbv E i).isSome=true
 | []=>by simp [Zva]
 | i::r=>by simp [Zva,Zd2 (l:=r)]
theorem Zjp {E:Zb}{d:Option Tmp}{v:Value}{i:Nat}(h:(Zbv E i).isSome=true∨d=some i):(Zbv (Zlc E d v) i).isSome=true:=by
  cases d with
  | none => rcases h with h | h
            · exact h
            · cases h
  | some d =>
    simp only [Zlc,Zbv]
    split
    · rfl
    · rename_i hne
      rcases h with h | h
      · exact h
      · exact absurd (Option.some.inj h).symm hne
theorem Has.put {t:Tree Value}{E:Zb}(h:Has t E)(d:Option Tmp)(v:Value):Has (put t d v) (Zlc E d v):=by
 cases d with
 | none=>exact h
 | some d =>
  intro i w hi
  simp only [Zlc,Zbv] at hi
  simp only [Sh.put,Tree.get_set]
  split
  ·rename_i e
   rw [if_pos e] at hi
   exact hi
  ·rename_i e
   rw [if_neg e] at hi
   exact h i w hi
theorem Zjn {ds:List (Option Tmp)}{all:List Oper}(hd:all.map (·.dst)=ds){o:Oper}{E:Zb}{t:Tree Value}(h:Has t E)(hn:∀ i∈Zk1 o,(Zbv E i).isSome=true){m:Mem}{r:Value × Mem}(he:Zlp P H ds o E m=some r):Zik P H all o t m=some r:=by
 have run:sop P H (ev t) o m=sop P H (lev E) o m:=by
  refine Zqd o (fun x hx=>Zya h ?_) m
  cases x with
  | tmp i=>exact hn i (List.mem_filterMap.2 ⟨.tmp i,by simpa using hx,rfl⟩)
  | _=>rfl
 unfold Zlp at he
 unfold Zik Zg0
 split at he
 ·rename_i hg
  rw [hg]
  simp only [if_true]
  rw [run];exact he
 ·rename_i j w hg
  rw [hg]
  split at he
  ·rename_i d hj
   split at he
   ·rename_i v hb
    split at he
    ·rename_i b
     have hy:Zm6 all t j=some b:=by
      subst hd
      rw [List.getElem?_map] at hj
      obtain⟨o',h1,h2⟩:=Option.map_eq_some_iff.1 hj
      simp only [Zm6,h1,Option.bind_some,h2,h d _ hb]
     simp only [hy]
     split at he
     ·rename_i e
      subst e
      simp only [beq_self_eq_true,if_true]
      rw [run];exact he
     ·rename_i e
      rw [if_neg (by simpa using e)]
      exact he
    ·rename_i hnb
     have hy:Zm6 all t j=none:=by
      subst hd
      rw [List.getElem?_map] at hj
      obtain⟨o',h1,h2⟩:=Option.map_eq_some_iff.1 hj
      simp only [Zm6,h1,Option.bind_some,h2,h d _ hb]
      split
      ·rename_i b e
       simp only [Option.some.injEq] at e
       exact absurd e (hnb b)
      ·rfl
     simp only [hy]
     rw [if_neg (by simp)]
     exact he
   ·cases he
  ·cases he
theorem Zin {o:Oper}{r:List Oper}{D:List Nat}{E:Zb}{v:Value}(hn:∀ i∈Zjz (o::r) D,(Zbv E i).isSome=true)(hD:∀ i∈D,(Zbv E i).isSome=true) :
  (∀ i∈Zk1 o,(Zbv E i).isSome=true)∧(∀ i∈Zjz r (o.dst.toList++D),(Zbv (Zlc E o.dst v) i).isSome=true)∧(∀ i∈o.dst.toList++D,(Zbv (Zlc E o.dst v) i).isSome=true):=by
 refine⟨fun i hi=>?_,fun i hi=>Zjp (Or.inl (hn i ?_)),fun i hi=>?_⟩
 ·by_cases h:i∈D
  ·exact hD i h
  ·exact hn i (by simp only [Zjz];exact List.mem_append_left _ (List.mem_filter.2 ⟨hi,by simpa using h⟩))
 ·simp only [Zjz];exact List.mem_append_right _ hi
 ·rcases List.mem_append.1 hi with h | h
  ·exact Zjp (Or.inr (by simpa using h))
  ·exact Zjp (Or.inl (hD i h))
theorem Zmb {ds:List (Option Tmp)}{all:List Oper}(hd:all.map (·.dst)=ds):∀ (rest:List Oper) (D:List Nat) (E:Zb) (t:Tree Value) (m:Mem) (E':Zb) (m':Mem),Has t E→(∀ i∈Zjz rest D,(Zbv E i).isSome=true)→(∀ i∈D,(Zbv E i).isSome=true)→Zlu P H ds rest E m=some (E',m')→∃ t',Zp8 P H all rest t m=some (t',m')∧Has t' E'
 | [],D,E,t,m,E',m',h,_,_,he=>by
  simp only [Zlu,Option.some.injEq,Prod.mk.injEq] at he
  obtain⟨rfl,rfl⟩:=he
  exact⟨t,rfl,h⟩
 | o::rest,D,E,t,m,E',m',h,hn,hD,he=>by
  simp only [Zlu] at he
  split at he
  ·rename_i v m1 h1
   obtain⟨n1,n2,n3⟩:=Zin (v:=v) hn hD
   obtain⟨t',g1,g2⟩:=Zmb hd rest _ _ (put t o.dst v) _ _ _ (h.put _ _) n2 n3 he
   refine⟨t',?_,g2⟩
   simp only [Zp8,Zjn hd h n1 h1]
   exact g1
  ·cases he
def Zbp (P:Program)(H:Zbk)(ds:List (Option Tmp)):List Oper→Zb→Mem→Option (List (Zb × Mem))
 | [],E,m=>some [(E,m)]
 | o::rest,E,m=>match Zlp P H ds o E m with
  | some (v,m')=>match Zbp P H ds rest (Zlc E o.dst v) m' with
   | some l=>some ((E,m)::l)
   | none=>none
  | none=>none
def Zp5 (P:Program)(H:Zbk)(ds:List (Option Tmp))(o:Oper)(E:Zb)(v:Value)(m:Mem):Bool:=
 match Zlp P H ds o E m with
 | some (v',_)=>eqV v v'
 | none=>false
def Zfv (P:Program)(H:Zbk)(ds:List (Option Tmp))(all:List Oper)(S:List (Zb × Mem)):List (Nat × List Nat)→Bool
 | []=>true
 | (j,is)::r=>(match all[j]?,S[j]? with
  | some o,some (E,m)=>match Zlp P H ds o E m with
   | some (v,_)=>is.all fun i=>match S[i]? with
    | some (_,m')=>Zp5 P H ds o E v m'
    | none=>false
   | none=>false
  | _,_=>false) && Zfv P H ds all S r
def Z42:List Oper→List (Zb × Mem)→List (Tree Value × Mem)→Prop
 | [],[a],[b]=>a.2=b.2∧Has b.1 a.1
 | o::ro,a::r,b::s=>a.2=b.2∧Has b.1 a.1∧(∀ i∈Zk1 o,(Zbv a.1 i).isSome=true)∧Z42 ro r s
 | _,_,_=>False
theorem Zix {ds:List (Option Tmp)}{all:List Oper}(hd:all.map (·.dst)=ds):∀ (rest:List Oper) (D:List Nat) (E:Zb) (t:Tree Value) (m:Mem) (S:List (Zb × Mem)),Has t E→(∀ i∈Zjz rest D,(Zbv E i).isSome=true)→(∀ i∈D,(Zbv E i).isSome=true)→Zbp P H ds rest E m=some S→∃ T,states P H all rest t m=some T∧Z42 rest S T
 | [],D,E,t,m,S,h,_,_,he=>by
  simp only [Zbp,Option.some.injEq] at he
  subst he
  exact⟨[(t,m)],rfl,rfl,h⟩
 | o::rest,D,E,t,m,S,h,hn,hD,he=>by
  simp only [Zbp] at he
  split at he
  ·rename_i v m1 h1
   split at he
   ·rename_i l hl
    simp only [Option.some.injEq] at he
    subst he
    obtain⟨n1,n2,n3⟩:=Zin (v:=v) hn hD
    obtain⟨T,g1,g2⟩:=Zix hd rest _ _ (put t o.dst v) _ _ (h.put _ _) n2 n3 hl
    refine⟨(t,m)::T,?_,rfl,h,n1,g2⟩
    simp only [states,Zjn hd h n1 h1,g1]
   ·cases he
  ·cases he
theorem Zo4:∀ {ops:List Oper} {S:List (Zb × Mem)} {T:List (Tree Value × Mem)} (h:Z42 ops S T) (i:Nat) (a:Zb × Mem),S[i]?=some a→∃ b,T[i]?=some b∧a.2=b.2∧Has b.1 a.1∧∀ o,ops[i]?=some o→∀ q∈Zk1 o,(Zbv a.1 q).isSome=true
 | [],[a],[b],h,i,a',hi=>by
  cases i with
  | zero=>simp at hi;subst hi;exact⟨b,rfl,h.1,h.2,by simp⟩
  | succ i=>simp at hi
 | o::ro,a::r,b::s,h,i,a',hi=>by
  cases i with
  | zero=>simp at hi;subst hi;exact⟨b,rfl,h.1,h.2.1,by simp;exact h.2.2.1⟩
  | succ i =>
   simp only [List.getElem?_cons_succ] at hi ⊢
   exact Zo4 h.2.2.2 i a' hi
 | [],[],_,h,_,_,_=>h.elim
 | [],[_],[],h,_,_,_=>h.elim
 | [],[_],_::_::_,h,_,_,_=>h.elim
 | [],_::_::_,_,h,_,_,_=>h.elim
 | _::_,[],_,h,_,_,_=>h.elim
 | _::_,_::_,[],h,_,_,_=>h.elim
theorem Zq7:∀ {ops:List Oper} {S:List (Zb × Mem)} {T:List (Tree Value × Mem)} (h:Z42 ops S T) {a:Zb × Mem},S.getLast?=some a→∃ t,T.getLast?=some (t,a.2)∧Has t a.1
 | [],[a],[b],h,a',hi=>by
  simp at hi;subst hi
  obtain⟨b1,b2⟩:=b
  obtain⟨h1,h2⟩:=h
  simp only at h1 h2
  exact⟨b1,by simp [h1],h2⟩
 | o::ro,a::r,b::s,h,a',hi=>by
  have hr:=h.2.2.2
  have hne:r≠[]:=by rintro rfl;cases ro <;> simp [Z42] at hr
  have hne2:s≠[]:=by rintro rfl;cases ro <;> cases r <;> simp [Z42] at hr
  obtain⟨x,r',rfl⟩:=List.exists_cons_of_ne_nil hne
  obtain⟨y,s',rfl⟩:=List.exists_cons_of_ne_nil hne2
  rw [List.getLast?_cons_cons] at hi ⊢
  exact Zq7 hr hi
 | [],[],_,h,_,_=>h.elim
 | [],[_],[],h,_,_=>h.elim
 | [],[_],_::_::_,h,_,_=>h.elim
 | [],_::_::_,_,h,_,_=>h.elim
 | _::_,[],_,h,_,_=>h.elim
 | _::_,_::_,[],h,_,_=>h.elim
theorem Zlj {ds:List (Option Tmp)}{all:List Oper}(hd:all.map (·.dst)=ds){S:List (Zb × Mem)}{T:List (Tree Value × Mem)}(h:Z42 all S T):∀ (pl:List (Nat × List Nat)),Zfv P H ds all S pl=true→
  (pl.all fun (j,is)=>match all[j]?,T[j]? with
   | some o,some (t,m)=>match Zik P H all o t m with
    | some (v,_)=>is.all fun i=>match T[i]? with
     | some (_,m')=>Zcz P H all o t v m'
     | none=>false
    | none=>false
   | _,_=>false)=true
 | [],_=>rfl
 | (j,is)::r,hr=>by
  simp only [Zfv,Bool.and_eq_true] at hr
  rw [List.all_cons,Bool.and_eq_true]
  refine⟨?_,Zlj hd h r hr.2⟩
  have h1:=hr.1
  split at h1
  ·rename_i o E m ho hS
   obtain⟨⟨t,m2⟩,g1,g2,g3,g4⟩:=Zo4 h j _ hS
   simp only at g2 g3 g4
   subst g2
   have n1:=g4 o ho
   split at h1
   ·rename_i v m' h2
    simp only [ho,g1,Zjn hd g3 n1 h2]
    rw [List.all_eq_true] at h1 ⊢
    intro i hi
    have h3:=h1 i hi
    split at h3
    ·rename_i E3 m3 hS3
     obtain⟨⟨t3,m4⟩,k1,k2,_,_⟩:=Zo4 h i _ hS3
     simp only at k2
     subst k2
     simp only [k1]
     unfold Zp5 at h3
     unfold Zcz
     split at h3
     ·rename_i v' m5 h5
      rw [Zjn hd g3 n1 h5]
      exact h3
     ·cases h3
    ·cases h3
   ·cases h1
  ·cases h1
def Zdf (P:Program)(H:Zbk)(ops:List Oper)(draw:Bool)(E:Zb)(m:Mem):Option (Zb × Mem):=
 if draw then
  if Zst P (Zaw ops) then (if Zva E (Zjz (Zaw ops) []) then Zlu P H ((Zaw ops).map (·.dst)) (Zaw ops) E m else none)
  else if Zva E (Zjz (Zaw ops) []) then (match Zbp P H ((Zaw ops).map (·.dst)) (Zaw ops) E m with
   | some S=>if Zfv P H ((Zaw ops).map (·.dst)) (Zaw ops) S (Zgn P (Zaw ops)) then S.getLast? else none
   | none=>none) else none
 else if Zva E (Zjz ops []) then Zlu P H (ops.map (·.dst)) ops E m else none
theorem Zpl {ops:List Oper}{draw:Bool}{E E':Zb}{t:Tree Value}{m m':Mem}(h:Has t E)(he:Zdf P H ops draw E m=some (E',m')):∃ t',Ze4 P H ops draw t m=some (t',m')∧Has t' E':=by
 unfold Zdf at he
 unfold Ze4
 cases draw with
 | true =>
  simp only [if_true] at he ⊢
  split at he
  ·rename_i hq
   rw [if_pos hq]
   split at he
   ·rename_i hn
    exact Zmb rfl _ [] _ _ _ _ _ h (Zd2.1 hn) (fun i hi=>by simp at hi) he
   ·cases he
  ·rename_i hq
   rw [if_neg hq]
   split at he
   ·rename_i hn
    split at he
    ·rename_i S hS
     obtain⟨T,g1,g2⟩:=Zix rfl _ [] _ _ _ _ h (Zd2.1 hn) (fun i hi=>by simp at hi) hS
     rw [g1]
     simp only
     split at he
     ·rename_i hr
      have hc:Zbw P H (Zaw ops) T=true:=Zlj rfl g2 _ hr
      rw [if_pos hc]
      obtain⟨t',k1,k2⟩:=Zq7 g2 he
      exact⟨t',k1,k2⟩
     ·cases he
    ·cases he
   ·cases he
 | false =>
  simp only [Bool.false_eq_true,if_false] at he ⊢
  split at he
  ·rename_i hn
   exact Zmb rfl _ [] _ _ _ _ _ h (Zd2.1 hn) (fun i hi=>by simp at hi) he
  ·cases he
def Zit (nv:Nat):Zb→Zb
 | []=>[]
 | (j,w)::r=>if j < nv then (j,w)::Zit nv r else Zit nv r
def Zwt:Zb→Nat→Value→Zb
 | [],i,v=>[(i,v)]
 | (j,w)::r,i,v=>if i=j then (j,v)::r else (j,w)::Zwt r i v
def Zjd (E':Zb):List Nat→Zb→Zb
 | [],E=>E
 | i::r,E=>match Zbv E' i with
  | some v=>Zjd E' r (Zwt E i v)
  | none=>Zjd E' r E
def Zf7 (E':Zb):List Nat→Zb→Zb
 | [],E=>E
 | i::r,E=>match Zbv E' i with
  | some v=>(i,v)::Zf7 E' r E
  | none=>Zf7 E' r E
def Zhm (ops:List Oper):List Nat:=ops.filterMap (·.dst)
def Zzp:List Nat→List Nat
 | []=>[]
 | i::r=>if r.contains i then Zzp r else i::Zzp r
def Z0h (nv:Nat)(ops:List Oper):List Nat:=Zzp ((Zhm ops).filter (· < nv))
def Zpp (C:List Nat)(ops:List Oper):List Nat:=Zzp ((Zhm ops).filter (fun i=>C.contains i))
def Zuy (nv:Nat)(C:List Nat)(ops:List Oper)(E E':Zb):Zb:=Zf7 E' (Zpp C ops) (Zjd E' (Z0h nv ops) (Zit nv E))
theorem Zib {i:Nat}:∀ {l:List Nat},i∈Zzp l↔i∈l
 | []=>Iff.rfl
 | j::r=>by
  simp only [Zzp]
  split
  ·rename_i h
   rw [Zib,List.mem_cons]
   constructor
   ·exact Or.inr
   ·rintro (rfl | h2)
    ·simpa using h
    ·exact h2
  ·rw [List.mem_cons,List.mem_cons,Zib]
theorem Zkc {nv:Nat}:∀ {E:Zb} {j:Nat} {v:Value},Zbv (Zit nv E) j=some v→Zbv E j=some v∧j < nv
 | [],j,v,h=>by simp [Zit,Zbv] at h
 | (i,w)::r,j,v,h=>by
  simp only [Zit] at h
  split at h
  ·rename_i hi
   simp only [Zbv] at h ⊢
   split at h
   ·rename_i e;subst e;exact⟨by simp [h],hi⟩
   ·rename_i e;rw [if_neg e];exact Zkc h
  ·rename_i hi
   have:=Zkc h
   simp only [Zbv]
   rw [if_neg (by omega)]
   exact this
theorem Zop:∀ (E:Zb) (i:Nat) (v:Value) (j:Nat),Zbv (Zwt E i v) j=if j=i then some v else Zbv E j
 | [],i,v,j=>by simp [Zwt,Zbv]
 | (k,w)::r,i,v,j=>by
  simp only [Zwt]
  split
  ·rename_i e;subst e;simp only [Zbv];split <;> rfl
  ·rename_i e
   simp only [Zbv,Zop r i v j]
   split
   ·rename_i e2;subst e2;rw [if_neg (fun h=>e h.symm)]
   ·rfl
theorem Zl6 (E':Zb):∀ (l:List Nat) (E:Zb) (j:Nat),Zbv (Zjd E' l E) j=if j∈l∧(Zbv E' j).isSome=true then Zbv E' j else Zbv E j
 | [],E,j=>by simp [Zjd]
 | i::r,E,j=>by
  simp only [Zjd]
  split
  ·rename_i v hv
   rw [Zl6 E' r,Zop]
   by_cases h:j=i
   ·subst h;simp [hv]
   ·simp [h]
  ·rename_i hv
   rw [Zl6 E' r]
   by_cases h:j=i
   ·subst h;simp [hv]
   ·simp [h]
theorem Zku (E':Zb):∀ (l:List Nat) (E:Zb) (j:Nat) (v:Value),Zbv (Zf7 E' l E) j=some v→Zbv E' j=some v∨Zbv E j=some v
 | [],E,j,v,h=>Or.inr h
 | i::r,E,j,v,h=>by
  simp only [Zf7] at h
  split at h
  ·rename_i u hu
   simp only [Zbv] at h
   split at h
   ·rename_i e;subst e;rw [← h];exact Or.inl hu
   ·exact Zku E' r E j v h
  ·exact Zku E' r E j v h
def Zsn (ops:List Oper)(E E':Zb):Prop:=(∀ j,j∉Zhm ops→Zbv E' j=Zbv E j)∧∀ j,(Zbv E j).isSome=true∨j∈Zhm ops→(Zbv E' j).isSome=true
theorem Znu {o:Oper}{r:List Oper}{E E':Zb}{v:Value}(h:Zsn r (Zlc E o.dst v) E'):Zsn (o::r) E E':=by
 constructor
 ·intro j hj
  have hj2:j∉Zhm r∧o.dst≠some j:=by
   simp only [Zhm,List.filterMap_cons] at hj ⊢
   cases hd:o.dst with
   | none=>rw [hd] at hj;exact⟨hj,by simp⟩
   | some d=>rw [hd] at hj;simp only [List.mem_cons,not_or] at hj;exact⟨hj.2,fun e=>hj.1 (by simpa using e.symm)⟩
  rw [h.1 j hj2.1]
  cases hd:o.dst with
  | none=>rfl
  | some d =>
   simp only [Zlc,Zbv]
   rw [if_neg]
   intro e;exact hj2.2 (by rw [hd,e])
 ·intro j hj
  by_cases h1:(Zbv E j).isSome=true∨o.dst=some j
  ·exact h.2 j (Or.inl (Zjp h1))
  ·simp only [not_or] at h1
   refine h.2 j (Or.inr ?_)
   rcases hj with h2 | h2
   ·exact absurd h2 h1.1
   ·simp only [Zhm,List.filterMap_cons] at h2 ⊢
    cases hd:o.dst with
    | none=>rw [hd] at h2;exact h2
    | some d =>
     rw [hd] at h2
     simp only [List.mem_cons] at h2
     rcases h2 with rfl | h2
     ·exact absurd hd h1.2
     ·exact h2
theorem Zgk {ds:List (Option Tmp)}:∀ (ops:List Oper) (E:Zb) (m:Mem) (E':Zb) (m':Mem),Zlu P H ds ops E m=some (E',m')→Zsn ops E E'
 | [],E,m,E',m',he=>by
  simp only [Zlu,Option.some.injEq,Prod.mk.injEq] at he
  obtain⟨rfl,rfl⟩:=he
  exact⟨fun _ _=>rfl,fun j h=>by rcases h with h | h;exact h;simp [Zhm] at h⟩
 | o::r,E,m,E',m',he=>by
  simp only [Zlu] at he
  split at he
  ·exact Znu (Zgk r _ _ _ _ he)
  ·cases he
theorem Zgz {ds:List (Option Tmp)}:∀ (ops:List Oper) (E:Zb) (m:Mem) (S:List (Zb × Mem)) (a:Zb × Mem),Zbp P H ds ops E m=some S→S.getLast?=some a→S≠[]∧Zsn ops E a.1
 | [],E,m,S,a,he,hl=>by
  simp only [Zbp,Option.some.injEq] at he
  subst he
  simp at hl
  subst hl
  exact⟨by simp,fun _ _=>rfl,fun j h=>by rcases h with h | h;exact h;simp [Zhm] at h⟩
 | o::r,E,m,S,a,he,hl=>by
  simp only [Zbp] at he
  split at he
  ·split at he
   ·rename_i l hl2
    simp only [Option.some.injEq] at he
    subst he
    have hne:l≠[]:=by
     rintro rfl
     cases r with
     | nil=>simp [Zbp] at hl2
     | cons o2 r2 =>
      simp only [Zbp] at hl2
      split at hl2
      ·split at hl2
       ·simp at hl2
       ·cases hl2
      ·cases hl2
    obtain⟨x,l',rfl⟩:=List.exists_cons_of_ne_nil hne
    rw [List.getLast?_cons_cons] at hl
    exact⟨by simp,Znu (Zgz r _ _ _ _ hl2 hl).2⟩
   ·cases he
  ·cases he
def Zfm (ops:List Oper)(draw:Bool):List Oper:=if draw then Zaw ops else ops
theorem Zqy {nv:Nat}{C:List Nat}{ops:List Oper}{draw:Bool}{E E':Zb}{m m':Mem}(he:Zdf P H ops draw E m=some (E',m')){j:Nat}{v:Value}(hj:Zbv (Zuy nv C (Zfm ops draw) E E') j=some v):Zbv E' j=some v:=by
 have hg:Zsn (Zfm ops draw) E E':=by
  unfold Zdf at he
  cases draw with
  | true =>
   simp only [if_true,Zfm] at he ⊢
   split at he
   ·split at he
    ·exact Zgk _ _ _ _ _ he
    ·cases he
   ·split at he
    ·split at he
     ·rename_i S hS
      split at he
      ·exact (Zgz _ _ _ _ _ hS he).2
      ·cases he
     ·cases he
    ·cases he
  | false =>
   simp only [Bool.false_eq_true,if_false,Zfm] at he ⊢
   split at he
   ·exact Zgk _ _ _ _ _ he
   ·cases he
 unfold Zuy at hj
 rcases Zku _ _ _ _ _ hj with h | h
 ·exact h
 ·rw [Zl6] at h
  split at h
  ·exact h
  ·rename_i hn
   obtain⟨h1,h2⟩:=Zkc h
   by_cases hd:j∈Zhm (Zfm ops draw)
   ·exfalso
    exact hn ⟨Zib.2 (List.mem_filter.2 ⟨hd,by simpa using h2⟩),hg.2 j (Or.inr hd)⟩
   ·rw [hg.1 j hd];exact h1
inductive Fr where
 | seq (b:Code)
 | block (i:Nat)
 | loop (b:Code)
inductive Cf where
 | run (c:Code)
 | back (e:Zj3)
section
variable (P:Program)(T:FuncId→Option Func)(S:Zb4)
noncomputable def rk:List Fr→Option (Zj3 × Tree Value × Mem)→Option (Zj3 × Tree Value × Mem)
 | [],r=>r
 | .seq b::k,r=>rk k (match r with
  | some (.normal,t,m)=>Zd7 P T S b t m
  | r=>r)
 | .block i::k,r=>rk k (match r with
  | some (.exit j,t,m)=>some (if j=i then .normal else .exit j,t,m)
  | r=>r)
 | .loop b::k,r=>rk k (match r with
  | some (.normal,t,m)=>Zd7 P T S (.loop b) t m
  | r=>r)
abbrev Zsl:=Zj3→Zb→Mem→Prop
def Zr7 (c:Code)(k:List Fr)(E:Zb)(m:Mem)(Q:Zsl):Prop:=
 ∀ t,Has t E→∃ e t' E' m',rk P T S k (Zd7 P T S c t m)=some (e,t',m')∧Has t' E'∧Q e E' m'
def Br (v:Option Value)(A B:Prop):Prop:=match v with
 | some (.bool true)=>A
 | some (.bool false)=>B
 | _=>False
def Wn (nv:Nat)(C:List Nat):Nat→Cf→List Fr→Zb→Mem→Zsl→Prop
 | 0,_,_,_,_,_=>False
 | n+1,.run c,k,E,m,Q=>match c with
  | .skip | .label _=>Wn nv C n (.back .normal) k E m Q
  | .ret=>Wn nv C n (.back .ret) k E m Q
  | .exit i=>Wn nv C n (.back (.exit i)) k E m Q
  | .seq a b=>Wn nv C n (.run a) (.seq b::k) E m Q
  | .block i b=>Wn nv C n (.run b) (.block i::k) E m Q
  | .cond x a b=>Br (if lhas E x then some (lev E x) else none) (Wn nv C n (.run a) k E m Q) (Wn nv C n (.run b) k E m Q)
  | .region _ ops d=>match Zdf P (Zaq P T S) ops.toList d E m with
   | some (E',m')=>Wn nv C n (.back .normal) k (Zuy nv C (Zfm ops.toList d) E E') m' Q
   | none=>False
  | .loop b=>Zr7 P T S (.loop b) k E m Q
  | _=>False
 | n+1,.back e,k,E,m,Q=>match k with
  | []=>Q e E m
  | .seq b::k=>(match e with
   | .normal=>Wn nv C n (.run b) k E m Q
   | e=>Wn nv C n (.back e) k E m Q)
  | .block i::k=>(match e with
   | .exit j=>Wn nv C n (.back (if j=i then .normal else .exit j)) k E m Q
   | e=>Wn nv C n (.back e) k E m Q)
  | .loop b::k=>(match e with
   | .normal=>Zr7 P T S (.loop b) k E m Q
   | e=>Wn nv C n (.back e) k E m Q)
def W (nv:Nat)(C:List Nat)(c:Code)(k:List Fr)(E:Zb)(m:Mem)(Q:Zsl):Prop:=∃ n,Wn P T S nv C n (.run c) k E m Q
def R (nv:Nat)(C:List Nat)(e:Zj3)(k:List Fr)(E:Zb)(m:Mem)(Q:Zsl):Prop:=∃ n,Wn P T S nv C n (.back e) k E m Q
def Cnd (nv:Nat)(C:List Nat)(v:Option Value)(a b:Code)(k:List Fr)(E:Zb)(m:Mem)(Q:Zsl):Prop:=Br v (W P T S nv C a k E m Q) (W P T S nv C b k E m Q)
def Rg (nv:Nat)(C:List Nat)(ups cs:List Nat)(r:Option (Zb × Mem))(k:List Fr)(E:Zb)(Q:Zsl):Prop:=match r with
 | some (E',m')=>R P T S nv C .normal k (Zf7 E' cs (Zjd E' ups (Zit nv E))) m' Q
 | none=>False
variable {P T S}{nv:Nat}{C:List Nat}{k:List Fr}{E:Zb}{m:Mem}{Q:Zsl}
theorem Zcu {p:Nat→Prop}(h0:¬ p 0):(∃ n,p n)↔∃ n,p (n+1):=
 ⟨fun⟨n,h⟩=>by cases n with
  | zero=>exact absurd h h0
  | succ n=>exact⟨n,h⟩,fun⟨n,h⟩=>⟨n+1,h⟩⟩
theorem Zcl {c:Cf}:¬ Wn P T S nv C 0 c k E m Q:=by cases c <;> exact id
theorem Zuf:W P T S nv C .skip k E m Q↔R P T S nv C .normal k E m Q:=Zcu Zcl
theorem Z9c:W P T S nv C .ret k E m Q↔R P T S nv C .ret k E m Q:=Zcu Zcl
theorem Z7o (i:Nat):W P T S nv C (.exit i) k E m Q↔R P T S nv C (.exit i) k E m Q:=Zcu Zcl
theorem Zor (a b:Code):W P T S nv C (.seq a b) k E m Q↔W P T S nv C a (.seq b::k) E m Q:=Zcu Zcl
theorem Z36 (i:Nat)(b:Code):W P T S nv C (.block i b) k E m Q↔W P T S nv C b (.block i::k) E m Q:=Zcu Zcl
theorem Z5w (b:Code):W P T S nv C (.loop b) k E m Q↔Zr7 P T S (.loop b) k E m Q:=
 (Zcu Zcl).trans ⟨fun⟨_,h⟩=>h,fun h=>⟨0,h⟩⟩
theorem Z8s {v:Option Value}{p q:Nat→Prop}:(∃ n,Br v (p n) (q n))↔Br v (∃ n,p n) (∃ n,q n):=by
 unfold Br
 split
 ·exact Iff.rfl
 ·exact Iff.rfl
 ·exact⟨fun⟨_,h⟩=>h,fun h=>h.elim⟩
theorem Z73 (x:Operand)(a b:Code):W P T S nv C (.cond x a b) k E m Q↔Cnd P T S nv C (if lhas E x then some (lev E x) else none) a b k E m Q:=
 (Zcu Zcl).trans Z8s
theorem Zv1 (i:Nat)(a b:Code):W P T S nv C (.cond (.tmp i) a b) k E m Q↔Cnd P T S nv C (Zbv E i) a b k E m Q:=by
 rw [Z73]
 have:(if lhas E (.tmp i)=true then some (lev E (.tmp i)) else none)=Zbv E i:=by
  by_cases hs:lhas E (.tmp i)=true
  ·rw [if_pos hs]
   obtain⟨v,hv⟩:=Option.isSome_iff_exists.1 (show (Zbv E i).isSome=true from hs)
   show some ((Zbv E i).getD undef)=Zbv E i
   rw [hv];rfl
  ·rw [if_neg hs]
   cases hv:Zbv E i with
   | none=>rfl
   | some v=>exact absurd (show (Zbv E i).isSome=true by rw [hv];rfl) hs
 rw [this]
theorem Z9m (a b:Code):Cnd P T S nv C (some (.bool true)) a b k E m Q↔W P T S nv C a k E m Q:=Iff.rfl
theorem Z9i (a b:Code):Cnd P T S nv C (some (.bool false)) a b k E m Q↔W P T S nv C b k E m Q:=Iff.rfl
theorem Zt8 (i:Nat)(ops:Array Oper)(d:Bool):W P T S nv C (.region i ops d) k E m Q↔Rg P T S nv C (Z0h nv (Zfm ops.toList d)) (Zpp C (Zfm ops.toList d)) (Zdf P (Zaq P T S) ops.toList d E m) k E Q:=by
 refine (Zcu Zcl).trans ?_
 simp only [Wn,Rg]
 cases Zdf P (Zaq P T S) ops.toList d E m with
 | none=>exact⟨fun⟨_,h⟩=>h,fun h=>h.elim⟩
 | some r=>exact Iff.rfl
theorem Z9b (e:Zj3):R P T S nv C e [] E m Q↔Q e E m:=(Zcu Zcl).trans ⟨fun⟨_,h⟩=>h,fun h=>⟨0,h⟩⟩
theorem Z8l (b:Code):R P T S nv C .normal (.seq b::k) E m Q↔W P T S nv C b k E m Q:=Zcu Zcl
theorem Zw1 (b:Code):R P T S nv C .ret (.seq b::k) E m Q↔R P T S nv C .ret k E m Q:=Zcu Zcl
theorem Zvy (b:Code)(i:Nat):R P T S nv C (.exit i) (.seq b::k) E m Q↔R P T S nv C (.exit i) k E m Q:=Zcu Zcl
theorem Z4i (i:Nat):R P T S nv C .normal (.block i::k) E m Q↔R P T S nv C .normal k E m Q:=Zcu Zcl
theorem Ztk (i:Nat):R P T S nv C .ret (.block i::k) E m Q↔R P T S nv C .ret k E m Q:=Zcu Zcl
theorem Zq4 (i j:Nat):R P T S nv C (.exit j) (.block i::k) E m Q↔R P T S nv C (if j=i then .normal else .exit j) k E m Q:=Zcu Zcl
theorem Z7v (b:Code):R P T S nv C .normal (.loop b::k) E m Q↔Zr7 P T S (.loop b) k E m Q:=(Zcu Zcl).trans ⟨fun⟨_,h⟩=>h,fun h=>⟨0,h⟩⟩
theorem Zvt (b:Code):R P T S nv C .ret (.loop b::k) E m Q↔R P T S nv C .ret k E m Q:=Zcu Zcl
theorem Zrz (b:Code)(i:Nat):R P T S nv C (.exit i) (.loop b::k) E m Q↔R P T S nv C (.exit i) k E m Q:=Zcu Zcl
theorem Z0b:∀ (n:Nat) (c:Cf) (k:List Fr) (E:Zb) (m:Mem),Wn P T S nv C n c k E m Q→∀ t,Has t E→∃ e t' E' m',rk P T S k (match c with | .run c=>Zd7 P T S c t m | .back e=>some (e,t,m))=some (e,t',m')∧Has t' E'∧Q e E' m':=by
 intro n
 induction n with
 | zero=>intro c k E m h;exact absurd h Zcl
 | succ n ih =>
  intro c k E m h t ht
  cases c with
  | run c =>
   simp only
   cases c with
   | skip=>rw [Z66];exact ih (.back .normal) k E m h t ht
   | label s =>
    have:Zd7 P T S (.label s) t m=some (.normal,t,m):=by rw [Zdd];rfl
    rw [this];exact ih (.back .normal) k E m h t ht
   | ret=>rw [Z8w];exact ih (.back .ret) k E m h t ht
   | exit i=>rw [Z5z];exact ih (.back (.exit i)) k E m h t ht
   | seq a b =>
    have:=ih (.run a) (.seq b::k) E m h t ht
    simp only [rk] at this
    rw [Z86]
    exact this
   | block i b =>
    have:=ih (.run b) (.block i::k) E m h t ht
    simp only [rk] at this
    rw [Z3l]
    exact this
   | cond x a b =>
    simp only [Wn,Br] at h
    rw [Z7z]
    split at h
    ·rename_i hx
     split at hx
     ·rename_i hl
      simp only [Option.some.injEq] at hx
      rw [Zya ht hl,hx]
      exact ih (.run a) k E m h t ht
     ·cases hx
    ·rename_i hx
     split at hx
     ·rename_i hl
      simp only [Option.some.injEq] at hx
      rw [Zya ht hl,hx]
      exact ih (.run b) k E m h t ht
     ·cases hx
    ·exact h.elim
   | region i ops d =>
    simp only [Wn] at h
    split at h
    ·rename_i E' m' hr
     obtain⟨t',g1,g2⟩:=Zpl ht hr
     rw [Z1p,g1]
     exact ih (.back .normal) k _ m' h t' (fun j v hj=>g2 j v (Zqy hr hj))
    ·exact h.elim
   | loop b=>exact h t ht
   | _=>exact h.elim
  | back e =>
   simp only
   cases k with
   | nil=>exact⟨e,t,E,m,rfl,ht,h⟩
   | cons f k =>
    cases f with
    | seq b =>
     cases e with
     | normal=>simp only [rk];exact ih (.run b) k E m h t ht
     | exit i=>simp only [rk];exact ih (.back (.exit i)) k E m h t ht
     | ret=>simp only [rk];exact ih (.back .ret) k E m h t ht
    | block i =>
     cases e with
     | normal=>simp only [rk];exact ih (.back .normal) k E m h t ht
     | exit j=>simp only [rk];exact ih (.back (if j=i then .normal else .exit j)) k E m h t ht
     | ret=>simp only [rk];exact ih (.back .ret) k E m h t ht
    | loop b =>
     cases e with
     | normal=>simp only [rk];exact h t ht
     | exit i=>simp only [rk];exact ih (.back (.exit i)) k E m h t ht
     | ret=>simp only [rk];exact ih (.back .ret) k E m h t ht
theorem Z4v {c:Code}(h:W P T S nv C c k E m Q):Zr7 P T S c k E m Q:=by
 obtain⟨n,hn⟩:=h
 exact Z0b n (.run c) k E m hn
theorem Z1r {b:Code}(h:W P T S nv C b (.loop b::k) E m Q):Zr7 P T S (.loop b) k E m Q:=by
 intro t ht
 have:=Z4v h t ht
 simp only [rk] at this
 rw [Z5q]
 exact this
def Z5f:Zb→Zb→Prop
 | [],_=>True
 | (i,v)::r,E=>Zbv E i=some v∧Z5f r E
theorem Zpi:∀ {A B:Zb},Z5f A B→∀ i v,Zbv A i=some v→Zbv B i=some v
 | [],B,_,i,v,h=>by simp [Zbv] at h
 | (j,w)::r,B,hs,i,v,h=>by
  simp only [Zbv] at h
  split at h
  ·rename_i e;subst e;rw [← h];exact hs.1
  ·exact Zpi hs.2 i v h
theorem Zut {c:Code}{E':Zb}(h:Zr7 P T S c k E m Q)(hs:Z5f E E'):Zr7 P T S c k E' m Q:=
 fun t ht=>h t (fun i v hi=>ht i v (Zpi hs i v hi))
def okx:Zj3→Bool
 | .normal | .ret=>true
 | _=>false
def Zf8 (P:Program)(E:Zb)(m:Mem):ResultVar→Option Value
 | .tmp i=>Zbv E i
 | .cell a ty=>match Zbv E a with
  | some (.pointer (some ad))=>match P.underlying ty with
   | none=>none
   | some _=>if Zh8 P ty then match Zaj P ty with
     | some z=>(loadRow m ad z).map fun cs=>.agg cs.toArray
     | none=>none
    else match loadRow m ad 1 with
     | some [v]=>some v
     | _=>none
  | _=>none
def Zd3 (P:Program)(E:Zb)(m:Mem):List ResultVar→Option (List Value)
 | []=>some []
 | r::rest=>match Zf8 P E m r with
  | some v=>(Zd3 P E m rest).map (v::·)
  | none=>none
def Zfd (P:Program)(E:Zb)(m:Mem)(rs:List ResultVar):Option Value:=
 match Zd3 P E m rs with
 | some [v]=>some v
 | some vs=>some (.tuple vs.toArray)
 | none=>none
def QF (P:Program)(rs:List ResultVar)(A:Value→Mem→Prop):Zsl:=fun e E m=>okx e=true∧match Zfd P E m rs with
 | some v=>A v m
 | none=>False
theorem Zvu {t:Tree Value}(h:Has t E){r:ResultVar}{v:Value}(hv:Zf8 P E m r=some v):Zja P t m r=some v:=by
 cases r with
 | tmp i=>simp only [Zf8] at hv;simp [Zja,h i v hv]
 | cell a ty =>
  simp only [Zf8] at hv
  split at hv
  ·rename_i ad ha
   simp only [Zja,h a _ ha,Option.getD_some]
   exact hv
  ·cases hv
theorem Zh9 {t:Tree Value}(h:Has t E):∀ {rs:List ResultVar} {vs:List Value},Zd3 P E m rs=some vs→Ze1 P t m rs=some vs
 | [],vs,hv=>hv
 | r::rs,vs,hv=>by
  simp only [Zd3] at hv
  simp only [Ze1]
  split at hv
  ·rename_i v h1
   rw [Zvu h h1]
   simp only
   obtain⟨l,h2,h3⟩:=Option.map_eq_some_iff.1 hv
   rw [Zh9 h h2]
   simp [h3]
  ·cases hv
theorem Zm7 {t:Tree Value}(h:Has t E){rs:List ResultVar}{v:Value}(hv:Zfd P E m rs=some v):Zf3 P rs t m=some v:=by
 unfold Zfd at hv
 unfold Zf3
 split at hv
 ·rename_i u hu;rw [Zh9 h hu];exact hv
 ·rename_i vs hn hu
  rw [Zh9 h hu]
  simp only [Option.some.injEq] at hv
  subst hv
  split
  ·rename_i u e;simp only [Option.some.injEq] at e;subst e;exact absurd rfl (hn u)
  ·rename_i ws _ e;simp only [Option.some.injEq] at e;subst e;rfl
  ·rename_i e;cases e
 ·cases hv
def Zlq:List Value→Nat→Zb
 | [],_=>[]
 | v::r,i=>(i,v)::Zlq r (i+1)
theorem Zy7:∀ (l:List Value) (t:Tree Value) (i j:Nat),j < i→(fill t l i).get j=t.get j
 | [],t,i,j,h=>rfl
 | v::r,t,i,j,h=>by
  simp only [fill]
  rw [Zy7 r _ (i+1) j (by omega),Tree.get_set_ne _ _ (by omega)]
theorem Zot:∀ (l:List Value) (t:Tree Value) (i:Nat),Has (fill t l i) (Zlq l i)
 | [],t,i=>fun j v h=>by simp [Zlq,Zbv] at h
 | v::r,t,i=>fun j w h=>by
  simp only [Zlq,Zbv] at h
  simp only [fill]
  split at h
  ·rename_i e
   subst e
   rw [Zy7 r _ (j+1) j (by omega),Tree.get_set_self]
   exact h
  ·exact Zot r _ (i+1) j w h
theorem Z1y {f:FuncId}{fn:Func}{c:Code}{args:List Value}{A:Value→Mem→Prop}(hT:T f=some fn)(hb:fn.body=some c)(hS:S f=[])(hl:args.length≤fn.ntmps)(h:Zr7 P T S c [] (Zlq args 0) m (QF P fn.results.toList A)) :
  ∃ v m',Zaq P T S f args m=some (v,m')∧A v m':=by
 obtain⟨e,t',E',m',h1,h2,h3,h4⟩:=h _ (Zot args .leaf 0)
 simp only [rk] at h1
 rw [Z7m hT hb hS args hl,h1]
 split at h4
 ·rename_i v hv
  have:=Zm7 h2 hv
  cases e with
  | normal=>simp only [this];exact⟨v,m',rfl,h4⟩
  | ret=>simp only [this];exact⟨v,m',rfl,h4⟩
  | exit i=>cases h3
 ·exact h4.elim
theorem Z7u {f:FuncId}{fn:Func}{c:Code}{args:List Value}{A:Value→Mem→Prop}(nv:Nat)(C:List Nat)(hT:T f=some fn)(hb:fn.body=some c)(hS:S f=[])(hl:args.length≤fn.ntmps)(h:W P T S nv C c [] (Zlq args 0) m (QF P fn.results.toList A)) :
  ∃ v m',Zaq P T S f args m=some (v,m')∧A v m':=Z1y hT hb hS hl (Z4v h)
end
end
end Go.Sh
namespace Go.Sh
open Go.RowKit
section
variable {P:Program}{H:Zbk}{m:Mem}{ρ:Operand→Value}{o:Oper}{d:Option Tmp}{ty:TypeId}{pos:String}{af:Array Edge}{g:Option (Nat × Bool)}
def Z9f (op:BinOp)(a b:ByteArray):Option Value:=
 match op with
 | .add=>if ((a.size+b.size:Nat):Int)≤9223372036854775807 then some (.string (a++b)) else none
 | .lss=>some (.bool (Op.bytesLess a.toList b.toList))
 | .leq=>some (.bool (Op.bytesLess a.toList b.toList || a.toList == b.toList))
 | .gtr=>some (.bool !(Op.bytesLess a.toList b.toList || a.toList == b.toList))
 | .geq=>some (.bool !(Op.bytesLess a.toList b.toList))
 | _=>none
theorem Z6b (l:List UInt8):ByteArray.size ⟨l.toArray⟩=l.length:=rfl
theorem Z4r (a b:List UInt8):(⟨a.toArray⟩:ByteArray)++(⟨b.toArray⟩:ByteArray)=⟨(a++b).toArray⟩:=by
 have:(⟨a.toArray⟩++⟨b.toArray⟩:ByteArray).data=(a++b).toArray:=by
  rw [ByteArray.data_append];simp
 exact ByteArray.ext this
theorem Zz7 (l:List UInt8):(⟨l.toArray⟩:ByteArray).toList=l:=by
 rw [ByteArray.toList_eq]
def slF:=Zdg
theorem Z3o (t:TypeId)(x:Operand)(lo hi:Option Operand):sop P H ρ ⟨d,.slice t x lo hi none,ty,pos,af,g⟩ m=Zdg P ρ ⟨d,.slice t x lo hi none,ty,pos,af,g⟩ t x lo hi m:=rfl
def Zz9 (ρ:Operand→Value):Option Operand→Option Nat
 | none=>some 0
 | some l=>Zbg (ρ l)
def Z0t (ρ:Operand→Value)(n:Nat):Option Operand→Option Nat
 | none=>some n
 | some h=>Zbg (ρ h)
theorem Zza:Zz9 ρ none=some 0:=rfl
theorem Zwf (x:Operand):Zz9 ρ (some x)=Zbg (ρ x):=rfl
theorem Zw8 (n:Nat):Z0t ρ n none=some n:=rfl
theorem Zw2 (n:Nat)(x:Operand):Z0t ρ n (some x)=Zbg (ρ x):=rfl
theorem Zxy (k:IntKind)(n:Int):Zbg (.int k n)=if 0≤n∧n≤9223372036854775807 then some n.toNat else none:=by
 simp only [Zbg]
 by_cases h:0≤n∧n≤9223372036854775807
 ·rw [if_pos h,if_pos (by simpa using h)]
 ·rw [if_neg h,if_neg (by simpa using h)]
def Z7f (s:ByteArray)(m:Mem):Option Nat→Option Nat→Option (Value × Mem)
 | some l,some h=>if l≤h∧h≤s.data.toList.length then some (.string ⟨((s.data.toList.drop l).take (h - l)).toArray⟩,m) else none
 | _,_=>none
theorem Zs9 (s:ByteArray)(l h:Nat):Z7f s m (some l) (some h)=if l≤h∧h≤s.data.toList.length then some (.string ⟨((s.data.toList.drop l).take (h - l)).toArray⟩,m) else none:=rfl
theorem Z2y (t:TypeId)(x ix:Operand):sop P H ρ ⟨d,.index t x ix,ty,pos,af,g⟩ m=Zfu P ρ ⟨d,.index t x ix,ty,pos,af,g⟩ t x ix m:=rfl
theorem Zjr {t e:TypeId}{n z:Nat}(ht:P.underlying t=some (.array n e))(hz:Zaj P e=some z)(x ix:Operand):Zbf P ρ o t x ix m=match ρ x,ρ ix with
  | .pointer (some a),.int k i=>if 0≤i∧i≤9223372036854775807∧i.toNat < n∧a.spot.isNone=true then some (.pointer (some { a with off:=a.off+i.toNat * z }),m) else ixF P ρ o t x ix m
  | _,_=>ixF P ρ o t x ix m:=by
 cases hx:ρ x with
 | pointer ao =>
  cases ao with
  | none=>rfl
  | some a =>
   cases hi:ρ ix with
   | int k i =>
    by_cases h:0≤i∧i≤9223372036854775807∧i.toNat < n∧a.spot.isNone=true
    ·simp only [if_pos h]
     have h':Zbg (.int k i)=some i.toNat:=by simp [Zbg,h.1,h.2.1]
     simp only [Zbf,hx,hi,h',ht,hz]
     rw [if_pos (by simp [h.2.2.1,h.2.2.2])]
    ·simp only [if_neg h];rfl
   | _=>rfl
 | _=>rfl
def Zy (P:Program)(t:TypeId)(z:Nat):Bool:=(P.underlying t).isSome && Zh8 P t && (Zaj P t == some z)
theorem Z1l {t:TypeId}{z:Nat}(h:Zy P t z=true)(x:Operand):Zf5 P ρ o t x m=match ρ x with
  | .pointer (some a)=>match loadRow m a z with
   | some cs=>some (.agg cs.toArray,m)
   | none=>none
  | _=>none:=by
 unfold Zy at h
 simp only [Bool.and_eq_true,beq_iff_eq] at h
 obtain⟨u,hu⟩:=Option.isSome_iff_exists.1 h.1.1
 cases hx:ρ x with
 | pointer ao =>
  cases ao with
  | none=>simp [Zf5,hx]
  | some a =>
   simp only [Zf5,hx,hu,h.1.2,h.2,if_true]
   cases loadRow m a z <;> rfl
 | _=>simp [Zf5,hx]
theorem Z4o (s:TypeId)(x:Operand)(f:Nat):sop P H ρ ⟨d,.field s x f,ty,pos,af,g⟩ m=Zfl P ρ ⟨d,.field s x f,ty,pos,af,g⟩ s x f m:=rfl
def Zfn (P:Program)(t:TypeId)(zero:List Value):Bool:=(P.info? t).any fun i=>i.zero.any fun z=>Zbs z.cells && eqL z.cells.toList zero
theorem Z0i {t:TypeId}{zero:List Value}(h:Zfn P t zero=true):Zjb P ρ o t m=some (.pointer (some ⟨m.next,0,none⟩),m.new zero t):=by
 unfold Zfn at h
 cases hi:P.info? t with
 | none=>rw [hi] at h;simp at h
 | some i =>
  rw [hi] at h
  simp only [Option.any_some] at h
  cases hz:i.zero with
  | none=>rw [hz] at h;simp at h
  | some z =>
   rw [hz] at h
   simp only [Option.any_some,Bool.and_eq_true] at h
   have:=Zm9 _ _ h.2
   simp only [Zjb,hi,hz,h.1,if_true,this]
def Z2 (P:Program)(e:TypeId)(zero:List Value):Bool:=(P.info? e).any fun i=>(i.size == zero.length) && decide (0 < zero.length) && i.zero.any fun z=>Zbs z.cells && eqL z.cells.toList zero
def Zzq (zero:List Value):Nat→List Value
 | 0=>[]
 | n+1=>zero++Zzq zero n
theorem Zi4 (zero:List Value):∀ n,(Zzq zero n).length=n * zero.length
 | 0=>by simp [Zzq]
 | n+1=>by simp [Zzq,Zi4 zero n,Nat.add_mul,Nat.add_comm]
theorem Ztn (zero:List Value)(hz:0 < zero.length):∀ (n i:Nat),i < n * zero.length→(Zzq zero n)[i]?=zero[i % zero.length]?
 | 0,i,h=>by simp at h
 | n+1,i,h=>by
  simp only [Zzq]
  by_cases hi:i < zero.length
  ·rw [List.getElem?_append_left hi,Nat.mod_eq_of_lt hi]
  ·rw [List.getElem?_append_right (by omega),Ztn zero hz n (i - zero.length) (by rw [Nat.add_mul] at h;omega)]
   rw [Nat.mod_eq_sub_mod (by omega:i≥zero.length)]
theorem Za {t e:TypeId}{zero:List Value}{z:Nat}(ht:P.underlying t=some (.slice e))(h:Z2 P e zero=true)(hz:zero.length=z)(n:Nat)(ps:Array (Nat × Operand)):Zck P ρ o t n ps m=if n * z≤16777216 then
  (match Instr.fill (fun j=>some (j * z,z)) (Zzq zero n).toArray (ps.map fun (i,x)=>(i,ρ x)).toList with
   | some cells=>some (.slice (some ⟨m.next,0,none⟩) n n,m.new cells.toList e)
   | none=>none) else none:=by
 unfold Z2 at h
 cases hi:P.info? e with
 | none=>rw [hi] at h;simp at h
 | some i =>
  rw [hi] at h
  simp only [Option.any_some,Bool.and_eq_true,beq_iff_eq,decide_eq_true_eq] at h
  obtain⟨⟨h1,h2⟩,h3⟩:=h
  cases hzz:i.zero with
  | none=>rw [hzz] at h3;simp at h3
  | some zv =>
   rw [hzz] at h3
   simp only [Option.any_some,Bool.and_eq_true] at h3
   have hl:=Zm9 _ _ h3.2
   have hsz:zv.cells.size=i.size:=by rw [h1,← hl];simp
   rw [hz] at h1
   simp only [Zck,ht,hi,hzz,h3.1,hsz,h1]
   by_cases hn:n * z≤16777216
   ·rw [if_pos hn,if_pos (by simp [hn];omega)]
    have hcs:(if n * z=0 then #[] else (Array.range (n * z)).map (fun x=>zv.cells[x % z]!))=(Zzq zero n).toArray:=by
     apply Array.ext'
     split
     ·rename_i h0
      have:(Zzq zero n).length=0:=by rw [Zi4,hz];exact h0
      simp [List.length_eq_zero_iff.1 this]
     ·rename_i h0
      apply List.ext_getElem?
      intro j
      simp only [Array.toList_map,Array.toList_range,List.getElem?_map]
      by_cases hj:j < n * z
      ·rw [Ztn zero (by omega) n j (by rw [hz];exact hj)]
       rw [List.getElem?_range hj,hz]
       have hlt:j % z < zero.length:=by rw [hz];exact Nat.mod_lt _ (by omega)
       have hlt':j % z < zv.cells.size:=by rw [← Array.length_toList,hl];exact hlt
       simp only [Option.map_some]
       rw [getElem!_pos zv.cells (j % z) hlt',← hl]
       rw [Array.getElem?_toList,Array.getElem?_eq_getElem hlt']
      ·rw [List.getElem?_eq_none (by simpa using hj),List.getElem?_eq_none (by rw [Zi4,hz];omega)]
       rfl
    rw [hcs]
    cases Instr.fill _ _ _ <;> rfl
   ·rw [if_neg hn,if_neg (by simp [hn])]
theorem Zcc {t e:TypeId}{z:Nat}(ht:P.underlying t=some (.slice e))(hz:Zaj P e=some z)(x:Operand)(lo hi:Option Operand):Zdg P ρ o t x lo hi m=match ρ x with
  | .slice (some a) n c=>(match Zz9 ρ lo,Z0t ρ n hi with
   | some l,some h=>if l≤h && h≤n && a.spot.isNone then
     if c == n then (if l == 0 || Ze9 m a.block e then some (.slice (some { a with off:=a.off+l * z }) (h - l) (h - l),m) else none)
     else if c == n+1 then some (.slice (some { a with off:=a.off+l * z }) (h - l) (h - l+1),m)
     else none
    else none
   | _,_=>none)
  | .slice none 0 0=>(match Zz9 ρ lo,Z0t ρ 0 hi with
   | some 0,some 0=>some (.slice none 0 0,m)
   | _,_=>none)
  | _=>slF P ρ o t x lo hi m:=by
 cases hx:ρ x with
 | slice ao n c =>
  cases ao with
  | none =>
   cases n with
   | zero =>
    cases c with
    | zero =>
     cases lo <;> cases hi <;> simp only [Zdg,ht,hx,hz,Zz9,Z0t]
     all_goals first
      | rfl
      | (rename_i u;cases Zbg (ρ u) with
       | none=>rfl
       | some k=>cases k <;> rfl)
      | (rename_i u v;cases Zbg (ρ u) with
       | none=>rfl
       | some k=>cases k with
        | zero=>cases Zbg (ρ v) with
         | none=>rfl
         | some k=>cases k <;> rfl
        | succ k=>rfl)
    | succ c=>rfl
   | succ n=>rfl
  | some a =>
   cases lo with
   | none =>
    cases hi with
    | none=>simp only [Zdg,ht,hx,hz,Zz9,Z0t]
    | some v=>simp only [Zdg,ht,hx,hz,Zz9,Z0t];cases Zbg (ρ v) <;> rfl
   | some u =>
    cases hi with
    | none=>simp only [Zdg,ht,hx,hz,Zz9,Z0t];cases Zbg (ρ u) <;> rfl
    | some v=>simp only [Zdg,ht,hx,hz,Zz9,Z0t];cases Zbg (ρ u) <;> cases Zbg (ρ v) <;> rfl
 | _=>rfl
theorem Z2w {t:Nat}(args:Array Operand)(tys:Array TypeId):sop P H ρ ⟨d,.call { callee:=.value (.tmp t),args:=args,argTypes:=tys },ty,pos,af,g⟩ m=match ρ (.tmp t) with
  | .func (.func fid) first captured=>H fid (first.toList++args.toList.map ρ++captured.toList) m
  | _=>none:=rfl
theorem Z4u {E:Zb}(f:FuncId)(args:Array Operand)(tys:Array TypeId):sop P H (lev E) ⟨d,.call { callee:=.value (.func f),args:=args,argTypes:=tys },ty,pos,af,g⟩ m=H f (args.toList.map (lev E)) m:=by
 simp [sop,Zdi,Zmf,lev]
theorem Zu6 (f:FuncId)(first captured:Array Operand):sop P H ρ ⟨d,.makeFunc (.func f) first captured,ty,pos,af,g⟩ m=some (.func (.func f) (first.map ρ) (captured.map ρ),m):=rfl
def mmF:=Zdi
theorem Z8n (x y:Operand)(tys:Array TypeId):sop P H ρ ⟨d,.call { callee:=.builtin .min,args:=#[x,y],argTypes:=tys },ty,pos,af,g⟩ m=match ρ x,ρ y with
  | .int k a,.int _ b=>some (.int k (if b < a then b else a),m)
  | _,_=>mmF P H ρ ⟨d,.call { callee:=.builtin .min,args:=#[x,y],argTypes:=tys },ty,pos,af,g⟩ { callee:=.builtin .min,args:=#[x,y],argTypes:=tys } m:=by
 cases hx:ρ x with
 | int k a =>
  cases hy:ρ y with
  | int j b =>
   have hc:Zbq P ρ ⟨d,.call { callee:=.builtin .min,args:=#[x,y],argTypes:=tys },ty,pos,af,g⟩=some (.int k (if b < a then b else a)):=by
    unfold Zbq
    rw [if_pos (by simp [Op.operands,Call.operands,hx,hy,Zaz])]
    have hq:Zjk P (execOp ρ ⟨d,.call { callee:=.builtin .min,args:=#[x,y],argTypes:=tys },ty,pos,af,g⟩)=some (Next.value (.int k (if b < a then b else a))):=by
     simp [execOp,resolve,hx,hy,List.size_toArray]
     rfl
    rw [hq]
    simp [Zaz]
   show (Zbq P ρ _).map (·,m)=_
   rw [hc];rfl
  | _=>rfl
 | _=>rfl
theorem Z87 (x y:Operand)(tys:Array TypeId):sop P H ρ ⟨d,.call { callee:=.builtin .max,args:=#[x,y],argTypes:=tys },ty,pos,af,g⟩ m=match ρ x,ρ y with
  | .int k a,.int _ b=>some (.int k (if b > a then b else a),m)
  | _,_=>mmF P H ρ ⟨d,.call { callee:=.builtin .max,args:=#[x,y],argTypes:=tys },ty,pos,af,g⟩ { callee:=.builtin .max,args:=#[x,y],argTypes:=tys } m:=by
 cases hx:ρ x with
 | int k a =>
  cases hy:ρ y with
  | int j b =>
   have hc:Zbq P ρ ⟨d,.call { callee:=.builtin .max,args:=#[x,y],argTypes:=tys },ty,pos,af,g⟩=some (.int k (if b > a then b else a)):=by
    unfold Zbq
    rw [if_pos (by simp [Op.operands,Call.operands,hx,hy,Zaz])]
    have hq:Zjk P (execOp ρ ⟨d,.call { callee:=.builtin .max,args:=#[x,y],argTypes:=tys },ty,pos,af,g⟩)=some (Next.value (.int k (if b > a then b else a))):=by
     simp [execOp,resolve,hx,hy,List.size_toArray]
     rfl
    rw [hq]
    simp [Zaz]
   show (Zbq P ρ _).map (·,m)=_
   rw [hc];rfl
  | _=>rfl
 | _=>rfl
end
end Go.Sh
namespace Go.Sh
def Zon (P:Program)(nv:Nat)(C:List Nat)(c:Code)(ups cs nd:List Nat)(ds:List (Option Nat)):Bool:=
 match c with
 | .region _ ops d=>(!d || (!(ops.toList.any Zb8) && Zst P ops.toList)) && (Z0h nv ops.toList == ups) && (Zpp C ops.toList == cs) && (Zzp (Zjz ops.toList []) == nd) && (ops.toList.map (·.dst) == ds)
 | _=>false
def Zur (P:Program)(nv:Nat)(C:List Nat)(c:Code)(ups cs nd:List Nat)(ds:List (Option Nat))(places:List (Nat × List Nat)):Bool:=
 match c with
 | .region _ ops d=>d && !Zst P (Zaw ops.toList) && (Z0h nv (Zaw ops.toList) == ups) && (Zpp C (Zaw ops.toList) == cs) && (Zzp (Zjz (Zaw ops.toList) []) == nd) && ((Zaw ops.toList).map (·.dst) == ds) && (Zgn P (Zaw ops.toList) == places)
 | _=>false
def lgo (E:Zb)(nd:List Nat)(r:Option (Zb × Mem)):Option (Zb × Mem):=match Zva E nd with | true=>r | false=>none
def Zrt (P:Program)(H:Zbk)(ds:List (Option Nat))(l:List Oper)(places:List (Nat × List Nat))(r:Option (List (Zb × Mem))):Option (Zb × Mem):=match r with
 | some S=>if Zfv P H ds l S places=true then S.getLast? else none
 | none=>none
section
variable {P:Program}{T:FuncId→Option Func}{S:Zb4}{nv:Nat}{C:List Nat}{k:List Fr}{E:Zb}{m:Mem}{Q:Zsl}{H:Zbk}
theorem Zq0 (E:Zb)(l:List Nat):Zva E (Zzp l)=Zva E l:=by
 rw [Bool.eq_iff_iff,Zd2,Zd2]
 exact⟨fun h i hi=>h i (Zib.2 hi),fun h i hi=>h i (Zib.1 hi)⟩
def Zkf (o:Oper):Oper:=⟨o.dst,o.op,o.type,"",#[],o.guard⟩
theorem Zww (ρ:Operand→Value)(o:Oper)(m:Mem):sop P H ρ (Zkf o) m=sop P H ρ o m:=by
 obtain⟨d,op,t,p,a,g⟩:=o
 cases op <;> rfl
theorem Zif (ds:List (Option Nat))(o:Oper):Zlp P H ds (Zkf o) E m=Zlp P H ds o E m:=by
 unfold Zlp
 simp only [Zww]
 rfl
theorem Znz (ds:List (Option Nat)):∀ (l:List Oper) (E:Zb) (m:Mem),Zlu P H ds (l.map Zkf) E m=Zlu P H ds l E m
 | [],E,m=>rfl
 | o::r,E,m=>by
  simp only [List.map_cons,Zlu,Zif]
  cases Zlp P H ds o E m with
  | none=>rfl
  | some p=>exact Znz ds r _ _
theorem Zjy (ds:List (Option Nat)):∀ (l:List Oper) (E:Zb) (m:Mem),Zbp P H ds (l.map Zkf) E m=Zbp P H ds l E m
 | [],E,m=>rfl
 | o::r,E,m=>by
  simp only [List.map_cons,Zbp,Zif]
  cases Zlp P H ds o E m with
  | none=>rfl
  | some p =>
   have:=Zjy ds r (Zlc E o.dst p.1) p.2
   show (match Zbp P H ds (r.map Zkf) (Zlc E o.dst p.1) p.2 with | some l=>_ | none=>_)=_
   rw [this]
   all_goals rfl
theorem Zk7 (ds:List (Option Nat))(l:List Oper)(S:List (Zb × Mem)):∀ pl:List (Nat × List Nat),Zfv P H ds (l.map Zkf) S pl=Zfv P H ds l S pl
 | []=>rfl
 | (j,is)::r=>by
  simp only [Zfv,Zk7 ds l S r,List.getElem?_map]
  congr 1
  cases l[j]? with
  | none=>rfl
  | some o =>
   cases S[j]? with
   | none=>rfl
   | some p =>
    simp only [Option.map_some,Zif]
    cases Zlp P H ds o p.1 p.2 with
    | none=>rfl
    | some q =>
     simp only
     refine congrArg is.all (funext fun i=>?_)
     cases S[i]? with
     | none=>rfl
     | some w =>
      show Zp5 P H ds (Zkf o) p.1 q.1 w.2=Zp5 P H ds o p.1 q.1 w.2
      unfold Zp5
      rw [Zif]
theorem Ztm (ds:List (Option Nat))(l:List Oper)(places:List (Nat × List Nat))(r:Option (List (Zb × Mem))):Zrt P H ds (l.map Zkf) places r=Zrt P H ds l places r:=by
 cases r with
 | none=>rfl
 | some S=>simp only [Zrt,Zk7]
theorem Z22 {c:Code}{ups cs nd:List Nat}{ds:List (Option Nat)}{l:List Oper}(h:Zon P nv C c ups cs nd ds=true)(hl:(Zk0 c).map Zkf=l) :
  W P T S nv C c k E m Q↔Rg P T S nv C ups cs (lgo E nd (Zlu P (Zaq P T S) ds l E m)) k E Q:=by
 cases c with
 | region i ops d =>
  simp only [Zon,Bool.and_eq_true,beq_iff_eq,Bool.or_eq_true,Bool.not_eq_true'] at h
  obtain⟨⟨⟨⟨h1,h2⟩,h3⟩,h4⟩,h5⟩:=h
  simp only [Zk0] at hl
  subst hl
  rw [Znz,Zt8]
  have he:Zfm ops.toList d=ops.toList:=by
   unfold Zfm
   cases d with
   | false=>rfl
   | true =>
    simp only [Bool.true_eq_false,false_or] at h1
    simp only [if_true,Zaw]
    rw [if_neg (by simp [h1.1])]
  have hr:Zdf P (Zaq P T S) ops.toList d E m=lgo E nd (Zlu P (Zaq P T S) ds ops.toList E m):=by
   unfold Zdf lgo
   rw [← h4,Zq0]
   have hm:∀ (b:Bool) (r:Option (Zb × Mem)),(if b=true then r else none)=(match b with | true=>r | false=>none):=by intro b r;cases b <;> rfl
   cases d with
   | false=>simp only [Bool.false_eq_true,if_false,h5,hm]
   | true =>
    simp only [Zfm,if_true] at he
    simp only [Bool.true_eq_false,false_or] at h1
    simp only [if_true,he,h1.2,h5,hm]
  rw [he,hr,h2,h3]
 | _=>simp [Zon] at h
theorem Z7n {c:Code}{ups cs nd:List Nat}{ds:List (Option Nat)}{l:List Oper}{places:List (Nat × List Nat)}(h:Zur P nv C c ups cs nd ds places=true)(hl:(Zaw (Zk0 c)).map Zkf=l) :
  W P T S nv C c k E m Q↔Rg P T S nv C ups cs (lgo E nd (Zrt P (Zaq P T S) ds l places (Zbp P (Zaq P T S) ds l E m))) k E Q:=by
 cases c with
 | region i ops d =>
  simp only [Zur,Bool.and_eq_true,beq_iff_eq,Bool.not_eq_true'] at h
  obtain⟨⟨⟨⟨⟨⟨h0,h1⟩,h2⟩,h3⟩,h4⟩,h5⟩,h6⟩:=h
  subst h0
  simp only [Zk0] at hl
  subst hl
  rw [Ztm,Zjy,Zt8]
  have hr:Zdf P (Zaq P T S) ops.toList true E m=lgo E nd (Zrt P (Zaq P T S) ds (Zaw ops.toList) places (Zbp P (Zaq P T S) ds (Zaw ops.toList) E m)):=by
   unfold Zdf lgo Zrt
   rw [← h4,Zq0]
   have hm:∀ (b:Bool) (r:Option (Zb × Mem)),(if b=true then r else none)=(match b with | true=>r | false=>none):=by intro b r;cases b <;> rfl
   simp only [if_true,h1,h5,h6,hm]
   rfl
  rw [hr]
  simp only [Zfm,if_true,h2,h3]
 | _=>simp [Zur] at h
theorem Z9 (r:Option (Zb × Mem)):lgo E [] r=r:=rfl
theorem Z8i (i:Nat)(nd:List Nat)(r:Option (Zb × Mem)):lgo E (i::nd) r=match Zbv E i with
  | some _=>lgo E nd r
  | none=>none:=by
 unfold lgo
 rw [Zva]
 cases hb:Zbv E i with
 | none=>rfl
 | some v=>simp only [Option.isSome_some,Bool.true_and]
theorem Z1w (ds:List (Option Nat)):Zlu P H ds [] E m=some (E,m):=rfl
def lk (P:Program)(H:Zbk)(ds:List (Option Nat))(d:Option Tmp)(r:List Oper)(E:Zb):Option (Value × Mem)→Option (Zb × Mem)
 | some (v,m')=>Zlu P H ds r (Zlc E d v) m'
 | none=>none
theorem Z46 (ds:List (Option Nat))(d:Option Tmp)(r:List Oper)(v:Value)(m':Mem):lk P H ds d r E (some (v,m'))=Zlu P H ds r (Zlc E d v) m':=rfl
theorem Zys (ds:List (Option Nat))(d:Option Tmp)(op:Op)(ty:TypeId)(pos:String)(af:Array Edge)(g:Option (Nat × Bool))(r:List Oper):Zlu P H ds (⟨d,op,ty,pos,af,g⟩::r) E m=lk P H ds d r E (Zlp P H ds ⟨d,op,ty,pos,af,g⟩ E m):=by
 show (match Zlp P H ds ⟨d,op,ty,pos,af,g⟩ E m with
  | some (v,m')=>Zlu P H ds r (Zlc E d v) m'
  | none=>none)=_
 cases Zlp P H ds ⟨d,op,ty,pos,af,g⟩ E m <;> rfl
theorem Z32 (ds:List (Option Nat)):Zbp P H ds [] E m=some [(E,m)]:=rfl
def lkc (E:Zb)(m:Mem):Option (List (Zb × Mem))→Option (List (Zb × Mem))
 | some l=>some ((E,m)::l)
 | none=>none
def lks (P:Program)(H:Zbk)(ds:List (Option Nat))(d:Option Tmp)(r:List Oper)(E:Zb)(m:Mem):Option (Value × Mem)→Option (List (Zb × Mem))
 | some (v,m')=>lkc E m (Zbp P H ds r (Zlc E d v) m')
 | none=>none
theorem Z1m (l:List (Zb × Mem)):lkc E m (some l)=some ((E,m)::l):=rfl
theorem Zzz (ds:List (Option Nat))(d:Option Tmp)(r:List Oper)(v:Value)(m':Mem):lks P H ds d r E m (some (v,m'))=lkc E m (Zbp P H ds r (Zlc E d v) m'):=rfl
theorem Z0d (ds:List (Option Nat))(d:Option Tmp)(op:Op)(ty:TypeId)(pos:String)(af:Array Edge)(g:Option (Nat × Bool))(r:List Oper):Zbp P H ds (⟨d,op,ty,pos,af,g⟩::r) E m=lks P H ds d r E m (Zlp P H ds ⟨d,op,ty,pos,af,g⟩ E m):=by
 show (match Zlp P H ds ⟨d,op,ty,pos,af,g⟩ E m with
  | some (v,m')=>(match Zbp P H ds r (Zlc E d v) m' with
   | some l=>some ((E,m)::l)
   | none=>none)
  | none=>none)=_
 cases Zlp P H ds ⟨d,op,ty,pos,af,g⟩ E m with
 | none=>rfl
 | some p =>
  obtain⟨v,m'⟩:=p
  show (match Zbp P H ds r (Zlc E d v) m' with
   | some l=>some ((E,m)::l)
   | none=>none)=lkc E m (Zbp P H ds r (Zlc E d v) m')
  cases Zbp P H ds r (Zlc E d v) m' <;> rfl
theorem Zu9 (ds:List (Option Nat))(d:Option Tmp)(op:Op)(ty:TypeId)(pos:String)(af:Array Edge):Zlp P H ds ⟨d,op,ty,pos,af,none⟩ E m=sop P H (lev E) ⟨d,op,ty,pos,af,none⟩ m:=rfl
def gd (b w:Bool)(r:Option (Value × Mem))(m:Mem):Option (Value × Mem):=if b=w then r else some (undef,m)
def gdv (v:Value)(w:Bool)(r:Option (Value × Mem))(m:Mem):Option (Value × Mem):=match v with
 | .bool b=>gd b w r m
 | _=>some (undef,m)
theorem Z8z (b w:Bool)(r:Option (Value × Mem)):gdv (.bool b) w r m=gd b w r m:=rfl
theorem Z83 (w:Bool)(r:Option (Value × Mem)):gdv undef w r m=some (undef,m):=rfl
theorem Zu5 (ds:List (Option Nat))(d:Option Tmp)(op:Op)(ty:TypeId)(pos:String)(af:Array Edge)(j:Nat)(w:Bool):Zlp P H ds ⟨d,op,ty,pos,af,some (j,w)⟩ E m=match ds[j]? with
  | some (some d')=>(match Zbv E d' with
   | some v=>gdv v w (sop P H (lev E) ⟨d,op,ty,pos,af,some (j,w)⟩ m) m
   | none=>none)
  | _=>none:=rfl
theorem Z9k (r:Option (Value × Mem)):gd true true r m=r:=rfl
theorem Z8v (r:Option (Value × Mem)):gd false false r m=r:=rfl
theorem Z9d (r:Option (Value × Mem)):gd true false r m=some (undef,m):=rfl
theorem Z9g (r:Option (Value × Mem)):gd false true r m=some (undef,m):=rfl
theorem Z6o (d:Nat)(v:Value):Zlc E (some d) v=(d,v)::E:=rfl
theorem Z7x (v:Value):Zlc E none v=E:=rfl
theorem Z8r (i:Nat):lev E (.tmp i)=(Zbv E i).getD undef:=rfl
theorem Z81 (v:Value):lev E (.const v)=v:=rfl
theorem Z84 (i:Nat):lev E (.global i)=.pointer (some ⟨i,0,none⟩):=rfl
theorem Z89 (i:Nat):lev E (.func i)=.func (.func i) #[] #[]:=rfl
theorem Z57 (i:Nat):Zbv [] i=none:=rfl
theorem Z5p (j:Nat)(v:Value)(r:Zb)(i:Nat):Zbv ((j,v)::r) i=if i=j then some v else Zbv r i:=rfl
theorem Z67 (i:Nat)(v:Value):Zwt [] i v=[(i,v)]:=rfl
theorem Z7r (j:Nat)(w:Value)(r:Zb)(i:Nat)(v:Value):Zwt ((j,w)::r) i v=if i=j then (j,v)::r else (j,w)::Zwt r i v:=rfl
theorem Z3r (nv:Nat):Zit nv []=[]:=rfl
theorem Z4d (nv:Nat)(j:Nat)(w:Value)(r:Zb):Zit nv ((j,w)::r)=if j < nv then (j,w)::Zit nv r else Zit nv r:=rfl
theorem Z3d (E':Zb):Zjd E' [] E=E:=rfl
theorem Z5 (E':Zb)(i:Nat)(r:List Nat):Zjd E' (i::r) E=match Zbv E' i with
  | some v=>Zjd E' r (Zwt E i v)
  | none=>Zjd E' r E:=rfl
theorem Z0f (E':Zb):Zf7 E' [] E=E:=rfl
theorem Z1g (E':Zb)(i:Nat)(r:List Nat):Zf7 E' (i::r) E=match Zbv E' i with
  | some v=>(i,v)::Zf7 E' r E
  | none=>Zf7 E' r E:=rfl
theorem Z2x (ups cs:List Nat)(E':Zb)(m':Mem):Rg P T S nv C ups cs (some (E',m')) k E Q↔R P T S nv C .normal k (Zf7 E' cs (Zjd E' ups (Zit nv E))) m' Q:=Iff.rfl
theorem Zv (ds:List (Option Nat))(l:List Oper)(places:List (Nat × List Nat))(S:List (Zb × Mem)):Zrt P H ds l places (some S)=if Zfv P H ds l S places=true then S.getLast? else none:=rfl
theorem Z1q (ds:List (Option Nat))(all:List Oper)(S:List (Zb × Mem)):Zfv P H ds all S []=true:=rfl
theorem Z1e (ds:List (Option Nat))(all:List Oper)(S:List (Zb × Mem))(j:Nat)(is:List Nat)(r:List (Nat × List Nat)):Zfv P H ds all S ((j,is)::r)=((match all[j]?,S[j]? with
  | some o,some (E,m)=>(match Zlp P H ds o E m with
   | some (v,_)=>is.all fun i=>match S[i]? with
    | some (_,m')=>Zp5 P H ds o E v m'
    | none=>false
   | none=>false)
  | _,_=>false) && Zfv P H ds all S r):=rfl
theorem Z30 (ds:List (Option Nat))(o:Oper)(v:Value):Zp5 P H ds o E v m=match Zlp P H ds o E m with
  | some (v',_)=>eqV v v'
  | none=>false:=rfl
theorem Ybf {rs:List ResultVar}{A:Value→Mem→Prop}(e:Zj3):QF P rs A e E m↔(okx e=true∧match Zfd P E m rs with
  | some v=>A v m
  | none=>False):=Iff.rfl
def Ze0 (T:FuncId→Option Func)(f:FuncId)(c:Code)(rs:List ResultVar)(n:Nat):Prop:=∃ fn,T f=some fn∧fn.body=some c∧fn.results.toList=rs∧n≤fn.ntmps
theorem Zhk {f:FuncId}{c:Code}{rs:List ResultVar}{n:Nat}{args:List Value}{A:Value→Mem→Prop}(nv:Nat)(C:List Nat)(hf:Ze0 T f c rs n)(hS:S f=[])(hl:args.length=n)(h:W P T S nv C c [] (Zlq args 0) m (QF P rs A)) :
  ∃ v m',Zaq P T S f args m=some (v,m')∧A v m':=by
 obtain⟨fn,h1,h2,h3,h4⟩:=hf
 subst h3
 exact Z7u nv C h1 h2 hS (by omega) h
theorem Zlm {f:FuncId}{c:Code}{rs:List ResultVar}{n:Nat}{args:List Value}{v:Value}{m':Mem}(nv:Nat)(C:List Nat)(hf:Ze0 T f c rs n)(hS:S f=[])(hl:args.length=n)(h:W P T S nv C c [] (Zlq args 0) m (QF P rs fun u m1=>u=v∧m1=m')) :
  Zaq P T S f args m=some (v,m'):=by
 obtain⟨u,m1,h1,rfl,rfl⟩:=Zhk nv C hf hS hl h
 exact h1
end
end Go.Sh
namespace Go.Sh
section
variable {P:Program}{m:Mem}
def Sl (m:Mem)(ao:Option Addr)(n:Nat)(cells:List Value)(e:TypeId)(z fam:Nat):Prop:=
 n * z=cells.length∧((ao=none∧n=0)∨∃ b,ao=some ⟨b,0,none⟩∧Own m b cells e fam)
theorem Sl.nil (m:Mem)(e z fam:Nat):Sl m none 0 [] e z fam:=⟨by simp,Or.inl ⟨rfl,rfl⟩⟩
theorem Sl.of {b n:Nat}{cells:List Value}{e z fam:Nat}(h:Own m b cells e fam)(hn:n * z=cells.length):Sl m (some ⟨b,0,none⟩) n cells e z fam:=⟨hn,Or.inr ⟨b,rfl,h⟩⟩
theorem Sl.own {ao:Option Addr}{n:Nat}{cells:List Value}{e z fam:Nat}(h:Sl m ao n cells e z fam)(hn:n≠0):∃ b,ao=some ⟨b,0,none⟩∧Own m b cells e fam:=by
 rcases h.2 with⟨_,h0⟩ | h
 ·exact absurd h0 hn
 ·exact h
theorem Sl.keep {m':Mem}{ao:Option Addr}{n:Nat}{cells:List Value}{e z fam:Nat}{fs:List Nat}(h:Sl m ao n cells e z fam)(k:Zaa m m' fs)(hf:fam∉fs):Sl m' ao n cells e z fam:=by
 refine⟨h.1,?_⟩
 rcases h.2 with h | ⟨b,h1,h2⟩
 ·exact Or.inl h
 ·exact Or.inr ⟨b,h1,h2.keep k hf⟩
theorem Zaa.nil {m m':Mem}{fs:List Nat}(h:Zaa m m' []):Zaa m m' fs:=h.mono (fun _ hx=>by simp at hx)
theorem Zaa.fresh {m m1 m2:Mem}{fs:List Nat}(h:Zaa m m1 [])(k:Zaa m1 m2 fs)(hb:∀ f∈fs,m.next≤f):Zaa m m2 []:=by
 refine⟨Nat.le_trans h.1 k.1,fun l bl hl hg hq hf=>?_,fun f hl hf=>?_,fun f hl hf=>?_⟩
 ·exact k.2.1 l bl (Nat.lt_of_lt_of_le hl h.1) (h.2.1 l bl hl hg hq hf) (Nat.lt_of_lt_of_le hq h.1) (fun hx=>by have:=hb _ hx;omega)
 ·rw [k.2.2.1 f (Nat.lt_of_lt_of_le hl h.1) (fun hx=>by have:=hb _ hx;omega),h.2.2.1 f hl hf]
 ·rw [k.2.2.2 f (Nat.lt_of_lt_of_le hl h.1) (fun hx=>by have:=hb _ hx;omega),h.2.2.2 f hl hf]
theorem Z2g {ty e:TypeId}{z bt n k fam:Nat}{ao:Option Addr}{cells news:List Value}{r:Option (Value × Mem)}(hr:Zak P ty m (.slice ao n n) news k=r)(ht:P.underlying ty=some (.slice e))(ha:Zir P e z bt=true)
  (h:Sl m ao n cells e z fam) (hnews:news.length=k * z) (h1:news.all one=true) (hb:(n+k) * bt≤140737488355328) (h63:n+k≤9223372036854775807) :
  ∃ m1 ao' fam',r=some (.slice ao' (n+k) (n+k),m1)∧Sl m1 ao' (n+k) (cells++news) e z fam'∧Zaa m m1 [fam]∧(fam'=fam∨m.next≤fam'):=by
 subst hr
 have hz:0 < z:=by
  unfold Zir at ha
  cases hi:P.info? e with
  | none=>rw [hi] at ha;simp at ha
  | some i=>rw [hi] at ha;simp only [Option.any_some,Bool.and_eq_true,beq_iff_eq,decide_eq_true_eq] at ha;exact ha.1.2
 have hlen:(n+k) * z=(cells++news).length:=by rw [List.length_append,Nat.add_mul,h.1,hnews]
 rcases h.2 with⟨rfl,rfl⟩ | ⟨b,rfl,ho⟩
 ·have hc:cells=[]:=List.length_eq_zero_iff.1 (by rw [← h.1];simp)
  subst hc
  by_cases hk:k=0
  ·subst hk
   have hn:news=[]:=List.length_eq_zero_iff.1 (by rw [hnews];simp)
   subst hn
   refine⟨m,none,fam,?_,Sl.nil m e z fam,.refl _ _,Or.inl rfl⟩
   unfold Zir at ha
   cases hi:P.info? e with
   | none=>rw [hi] at ha;simp at ha
   | some i =>
    rw [hi] at ha
    simp only [Option.any_some,Bool.and_eq_true,beq_iff_eq,decide_eq_true_eq] at ha
    unfold Zak
    simp only [ht,hi]
    rw [if_neg (by simp [ha.1.1.1,ha.1.2,ha.2])]
    simp
  ·refine⟨m.new news e,some ⟨m.next,0,none⟩,m.next,?_,⟨hlen,Or.inr ⟨m.next,rfl,by simpa using Own.new m news e⟩⟩,Za4 _ _ _ _,Or.inr (Nat.le_refl _)⟩
   have:=Zi7 (m:=m) ht ha hk hnews h1 (by simpa using hb) (by omega)
   simpa using this
 ·by_cases hk:k=0
  ·subst hk
   have hn:news=[]:=List.length_eq_zero_iff.1 (by rw [hnews];simp)
   subst hn
   refine⟨m,some ⟨b,0,none⟩,fam,Zlb ht ha ho (by simpa using hb) (by omega),⟨hlen,Or.inr ⟨b,rfl,by simpa using ho⟩⟩,.refl _ _,Or.inl rfl⟩
  ·exact⟨_,_,fam,Zlf ht ha ho h.1 hk hnews h1 hb h63,⟨hlen,Or.inr ⟨_,rfl,ho.grow _ true⟩⟩,ho.keeps_grow _ true (by simp),Or.inl rfl⟩
theorem Zg {ty e:TypeId}{z bt n k fam b:Nat}{cells news:List Value}{r:Option (Value × Mem)}(hr:Zak P ty m (.slice (some ⟨b,0,none⟩) n n) news k=r)(ht:P.underlying ty=some (.slice e))(ha:Zir P e z bt=true)
  (h:Own m b cells e fam) (hn:n * z=cells.length) (hnews:news.length=k * z) (h1:news.all one=true) (hb:(n+k) * bt≤140737488355328) (h63:n+k≤9223372036854775807) :
  ∃ m1 b',r=some (.slice (some ⟨b',0,none⟩) (n+k) (n+k),m1)∧Own m1 b' (cells++news) e fam∧Zaa m m1 [fam]:=by
 subst hr
 by_cases hk:k=0
 ·subst hk
  have hn:news=[]:=List.length_eq_zero_iff.1 (by rw [hnews];simp)
  subst hn
  exact⟨m,b,Zlb ht ha h (by simpa using hb) (by omega),by simpa using h,.refl _ _⟩
 ·exact⟨_,_,Zlf ht ha h hn hk hnews h1 hb h63,h.grow _ true,h.keeps_grow _ true (by simp)⟩
theorem Ztf {ty e e0:TypeId}{z bt n k fam b:Nat}{cells news cs:List Value}{r:Option (Value × Mem)}(hr:Zak P ty (m.new cs e0) (.slice (some ⟨b,0,none⟩) n n) news k=r)(ht:P.underlying ty=some (.slice e))(ha:Zir P e z bt=true)
  (h:Own m b cells e fam) (hn:n * z=cells.length) (hnews:news.length=k * z) (h1:news.all one=true) (hb:(n+k) * bt≤140737488355328) (h63:n+k≤9223372036854775807) :
  ∃ m1 b',r=some (.slice (some ⟨b',0,none⟩) (n+k) (n+k),m1)∧Own m1 b' (cells++news) e fam∧Zaa m m1 [fam]:=by
 obtain⟨m1,b',h1,h2,h3⟩:=Zg hr ht ha (h.keep (Za4 m cs e0 []) (by simp)) hn hnews h1 hb h63
 exact⟨m1,b',h1,h2,(Za4 m cs e0 _).trans h3⟩
theorem Zap {l off fam:Nat}{cells vs:List Value}{e:TypeId}{r:Option Mem}(hr:Zad m ⟨l,off,none⟩ vs=r)(h:Own m l cells e fam)(hk:off+vs.length≤cells.length)(h1:vs.all one=true) :
  ∃ m1,r=some m1∧Own m1 l (Zbx cells off vs) e fam∧Zaa m m1 [fam]:=by
 subst hr
 exact⟨_,h.store hk h1,h.put _,h.keeps_put _ (by simp)⟩
theorem Z4w (a b:Int):(a == b)=decide (a=b):=by by_cases h:a=b <;> simp [h]
theorem Z2z (a b:Int):(a != b)=!decide (a=b):=by by_cases h:a=b <;> simp [h]
theorem Z47 (a b:List UInt8):(a == b)=decide (a=b):=by by_cases h:a=b <;> simp [h]
theorem Zar {cs:List Value}{e:TypeId}{m1:Mem}(hr:m.new cs e=m1):Own m1 m.next cs e m.next∧Zaa m m1 []∧m.next < m1.next:=by
 subst hr
 exact⟨Own.new _ _ _,Za4 _ _ _ _,by simp [Mem.new]⟩
end
end Go.Sh
namespace Go.Sh
section
variable {P:Program}{T:FuncId→Option Func}{S:Zb4}{k:List Fr}{E:Zb}{m:Mem}{Q:Zsl}
theorem Zag {b:Code}(nv:Nat)(C:List Nat)(I:Nat→Zb→Mem→Prop)(n:Nat)(hI:∃ E0,I n E0 m∧Z5f E0 E)
  (step:∀ n E m,(∀ n' E1 E' m',I n' E1 m'→n' < n→Z5f E1 E'→Zr7 P T S (.loop b) k E' m' Q)→I n E m→W P T S nv C b (.loop b::k) E m Q):Zr7 P T S (.loop b) k E m Q:=by
 have all:∀ n E m,I n E m→Zr7 P T S (.loop b) k E m Q:=by
  intro n
  induction n using Nat.strongRecOn with
  | _ n ih=>exact fun E m hI=>Z1r (step n E m (fun n' E1 E' m' h1 hlt hs=>Zut (ih n' hlt E1 m' h1) hs) hI)
 obtain⟨E0,h0,hs⟩:=hI
 exact Zut (all n E0 m h0) hs
end
end Go.Sh
namespace Go.Sh
section
variable {P:Program}{m:Mem}
theorem Zmw:∀ l:List UInt8,bytesOf (l.map fun b=>Value.int .u8 b.toNat)=some l
 | []=>rfl
 | b::r=>by
  have h1:=b.toNat_lt
  simp only [List.map_cons,bytesOf]
  rw [if_pos (by simp;omega),Zmw r]
  simp
end
end Go.Sh
namespace Go.Sh
section
variable {P:Program}{E:Zb}{m:Mem}
theorem Z0z (i:Nat):Zf8 P E m (.tmp i)=Zbv E i:=rfl
theorem Zig {t:TypeId}{z:Nat}(h:Zy P t z=true)(a:Nat):Zf8 P E m (.cell a t)=match Zbv E a with
  | some (.pointer (some ad))=>(match loadRow m ad z with
   | some cs=>some (.agg cs.toArray)
   | none=>none)
  | _=>none:=by
 unfold Zy at h
 simp only [Bool.and_eq_true,beq_iff_eq] at h
 obtain⟨u,hu⟩:=Option.isSome_iff_exists.1 h.1.1
 simp only [Zf8,hu,h.1.2,h.2,if_true]
 cases Zbv E a with
 | none=>rfl
 | some v =>
  cases v with
  | pointer ao =>
   cases ao with
   | none=>rfl
   | some ad=>simp only;cases loadRow m ad z <;> rfl
  | _=>rfl
end
end Go.Sh
namespace Go.Sh
open Go.RowKit Go.WideShapes Go.ChangeShapes
def SpN (ao:Option Addr):Prop:=∀ a,ao=some a→a.spot=none
theorem SpN.nil:SpN none:=fun a e=>by cases e
theorem SpN.blk (b:Nat):SpN (some ⟨b,0,none⟩):=fun a e=>by cases e;rfl
def Rs (m:Mem)(ao:Option Addr)(n:Nat)(cells:List Value)(e:TypeId)(z fam:Nat):Prop:=
 n * z=cells.length∧(n=0∧SpN ao∨∃ b,ao=some ⟨b,0,none⟩∧Rdo m b cells e fam)
section
variable {P:Program}{J:Inj}{m m':Mem}{w:World}
theorem Rs.keep {ao:Option Addr}{n:Nat}{cells:List Value}{e z fam:Nat}{fs:List Nat}(h:Rs m ao n cells e z fam)(k:Zaa m m' fs)(hf:fam∉fs):Rs m' ao n cells e z fam:=by
 refine⟨h.1,?_⟩
 rcases h.2 with h | ⟨b,h1,h2⟩
 ·exact Or.inl h
 ·exact Or.inr ⟨b,h1,h2.keep k hf⟩
theorem Rs.rdo {ao:Option Addr}{n:Nat}{cells:List Value}{e z fam:Nat}(h:Rs m ao n cells e z fam)(hn:n≠0):∃ b,ao=some ⟨b,0,none⟩∧Rdo m b cells e fam:=by
 rcases h.2 with h | h
 ·exact absurd h.1 hn
 ·exact h
theorem Rs.spot {ao:Option Addr}{n:Nat}{cells:List Value}{e z fam:Nat}(h:Rs m ao n cells e z fam):SpN ao:=by
 rcases h.2 with h | ⟨b,rfl,_⟩
 ·exact h.2
 ·exact .blk b
theorem Sl.rs {ao:Option Addr}{n:Nat}{cells:List Value}{e z fam:Nat}(h:Sl m ao n cells e z fam):Rs m ao n cells e z fam:=by
 refine⟨h.1,?_⟩
 rcases h.2 with⟨e,h⟩ | ⟨b,h1,h2⟩
 ·exact Or.inl ⟨h,e ▸ .nil⟩
 ·exact Or.inr ⟨b,h1,h2.rdo⟩
section
variable {H:Type}{enc:TypeId × Value→H}
end
end
end Go.Sh
namespace Go.Sh
open Go.RowKit
section
variable {P:Program}{H:Zbk}{m:Mem}{ρ:Operand→Value}{o:Oper}{d:Option Tmp}{ty:TypeId}{pos:String}{af:Array Edge}{g:Option (Nat × Bool)}
def Ztw (P:Program)(t:TypeId)(a b:Value):Option Bool:=match P.underlying t,a,b with
 | some .bool,.bool x,.bool y=>some (x == y)
 | some (.int _),.int k x,.int j y=>if k=j then some (x == y) else none
 | some .string,.string x,.string y=>some (x == y)
 | _,_,_=>none
def Zue (P:Program):List (TypeId × Nat)→Array Value→Array Value→Option Bool
 | [],_,_=>some true
 | (t,off)::r,xs,ys=>match xs[off]?,ys[off]? with
  | some a,some b=>match Ztw P t a b with
   | some true=>Zue P r xs ys
   | some false=>some false
   | none=>none
  | _,_=>none
theorem Z07 (xs ys:Array Value):Zue P [] xs ys=some true:=rfl
theorem Z1i (t off:Nat)(r:List (TypeId × Nat))(xs ys:Array Value):Zue P ((t,off)::r) xs ys=match xs[off]?,ys[off]? with
 | some a,some b=>(match Ztw P t a b with
  | some true=>Zue P r xs ys
  | some false=>some false
  | none=>none)
 | _,_=>none:=rfl
theorem Z7j (a b:List UInt8):((⟨a.toArray⟩:ByteArray) == ⟨b.toArray⟩)=decide (a=b):=by
 have e:((⟨a.toArray⟩:ByteArray) == ⟨b.toArray⟩)=(a.toArray == b.toArray):=rfl
 rw [e,Bool.eq_iff_iff]
 simp
theorem Zw6 (l:List Value):Zbs l.toArray=Zdk l:=rfl
theorem Zzl:Zdk []=true:=rfl
theorem Zwl (v:Value)(r:List Value):Zdk (v::r)=(Zaz v && Zdk r):=rfl
theorem Zs1 (k:IntKind)(n:Int):Zaz (.int k n)=true:=rfl
theorem Zs3 (s:ByteArray):Zaz (.string s)=true:=rfl
theorem Zqb (b:Bool):Zaz (.bool b)=true:=rfl
end
end Go.Sh
namespace Go.Sh
section
variable {m:Mem}{l fam:Nat}{cells:List Value}{e:TypeId}
theorem Zmj {m m':Mem}(l off k:Nat)(h:m'.readable l=m.readable l):loadRow m' ⟨l,off,none⟩ k=loadRow m ⟨l,off,none⟩ k:=by
 simp only [loadRow,h]
theorem Own.ln (h:Own m l cells e fam)(cs:List Value)(e':TypeId)(off k:Nat):loadRow (m.new cs e') ⟨l,off,none⟩ k=loadRow m ⟨l,off,none⟩ k:=
 Zmj _ _ _ (by rw [(h.keep (Za4 m cs e' []) (by simp)).readable,h.readable])
theorem Rdo.ln (h:Rdo m l cells e fam)(cs:List Value)(e':TypeId)(off k:Nat):loadRow (m.new cs e') ⟨l,off,none⟩ k=loadRow m ⟨l,off,none⟩ k:=
 Zmj _ _ _ (by rw [(h.keep (Za4 m cs e' []) (by simp)).readable,h.readable])
end
end Go.Sh
namespace Go.Sh
theorem Z24 (a b:List Value):eqV (.agg a.toArray) (.agg b.toArray)=eqL a b:=by simp only [eqV,eqA]
theorem Z9l:eqL [] []=true:=by simp only [eqL]
theorem Z8q (a b:Value)(r s:List Value):eqL (a::r) (b::s)=(eqV a b && eqL r s):=by simp only [eqL]
theorem Z27 (s:ByteArray):eqV (.string s) (.string s)=true:=by simp [eqV]
theorem Z03 (b:Bool):eqV (.bool b) (.bool b)=true:=by simp [eqV]
end Go.Sh
namespace Go.Sh
theorem Zaa.drop {m m1:Mem}{a b:Nat}{fs:List Nat}(h:Zaa m m1 [a,b])(ha:a∈fs)(hb:m.next≤b):Zaa m m1 fs:=by
 refine⟨h.1,fun l bl hl hg hq hf=>h.2.1 l bl hl hg hq ?_,fun f hl hf=>h.2.2.1 f hl ?_,fun f hl hf=>h.2.2.2 f hl ?_⟩
 ·simp only [List.mem_cons,List.not_mem_nil,or_false,not_or]
  exact⟨fun e=>hf (by rw [e];exact ha),by omega⟩
 ·simp only [List.mem_cons,List.not_mem_nil,or_false,not_or]
  exact⟨fun e=>hf (by rw [e];exact ha),by omega⟩
 ·simp only [List.mem_cons,List.not_mem_nil,or_false,not_or]
  exact⟨fun e=>hf (by rw [e];exact ha),by omega⟩
end Go.Sh
namespace Go.Sh
end Go.Sh
namespace Go.Sh
theorem Zxh:eqV undef undef=true:=by simp [undef,eqV,eqA,eqL]
end Go.Sh
namespace Go.Sh
open Go.RowKit Go.WideShapes Go.ChangeShapes
inductive Ty where
 | int (k:IntKind)
 | bool
 | str
 | slice (e:TypeId) (t:Ty)
 | unit
 | pair (a b:Ty)
abbrev Ty.D:Ty→Type
 | .int _=>Int
 | .bool=>Bool
 | .str=>List UInt8
 | .slice _ t=>List t.D
 | .unit=>Unit
 | .pair a b=>a.D × b.D
def Ty.size:Ty→Nat
 | .int _ | .bool | .str | .slice _ _=>1
 | .unit=>0
 | .pair a b=>a.size+b.size
def Ty.wf:(t:Ty)→t.D→Prop
 | .int k,n=>(Lit.int k n).wf=true
 | .bool,_=>True
 | .str,l=>l.length≤9223372036854775807
 | .slice _ t,l=>l.length≤9223372036854775807∧∀ x∈l,t.wf x
 | .unit,_=>True
 | .pair a b,x=>a.wf x.1∧b.wf x.2
def Ty.fits (P:Program):(t:Ty)→t.D→Prop
 | .int _,_=>True
 | .bool,_=>True
 | .str,l=>l.length≤140737488351232
 | .slice e t,l=>l.length * P.bytesOf e≤140737488351232∧∀ x∈l,t.fits P x
 | .unit,_=>True
 | .pair a b,x=>a.fits P x.1∧b.fits P x.2
def At (m:Mem):(t:Ty)→t.D→List Value→Prop
 | .int k,n,cs=>cs=[.int k n]
 | .bool,b,cs=>cs=[.bool b]
 | .str,l,cs=>cs=[.string ⟨l.toArray⟩]
 | .slice e t,l,cs=>∃ (ao:Option Addr) (css:List (List Value)) (fam:Nat),cs=[.slice ao l.length l.length]∧css.length=l.length∧(∀ (i:Nat) d c,l[i]?=some d→css[i]?=some c→At m t d c)∧Rs m ao l.length css.flatten e t.size fam
 | .unit,_,cs=>cs=[]
 | .pair a b,x,cs=>∃ c1 c2,cs=c1++c2∧At m a x.1 c1∧At m b x.2 c2
theorem At.keep {m m':Mem}(k:Zaa m m' []):∀ {t:Ty} {d:t.D} {cs:List Value},At m t d cs→At m' t d cs
 | .int _,_,_,h=>h
 | .bool,_,_,h=>h
 | .str,_,_,h=>h
 | .slice e t,l,cs,⟨ao,css,fam,h1,h2,h3,h4⟩=>⟨ao,css,fam,h1,h2,fun i d c hd hc=>At.keep k (h3 i d c hd hc),h4.keep k (by simp)⟩
 | .unit,_,_,h=>h
 | .pair a b,x,cs,⟨c1,c2,h1,h2,h3⟩=>⟨c1,c2,h1,At.keep k h2,At.keep k h3⟩
theorem At.len {m:Mem}:∀ {t:Ty} {d:t.D} {cs:List Value},At m t d cs→cs.length=t.size
 | .int _,_,_,h=>by simp only [At] at h;subst h;rfl
 | .bool,_,_,h=>by simp only [At] at h;subst h;rfl
 | .str,_,_,h=>by simp only [At] at h;subst h;rfl
 | .slice e t,l,cs,⟨ao,css,fam,h1,_⟩=>by subst h1;rfl
 | .unit,_,_,h=>by simp only [At] at h;subst h;rfl
 | .pair a b,x,cs,⟨c1,c2,h1,h2,h3⟩=>by subst h1;rw [List.length_append,At.len h2,At.len h3];rfl
theorem At.elem {m:Mem}{t:Ty}{l:List t.D}{css:List (List Value)}(hl:css.length=l.length)(h:∀ (i:Nat) d c,l[i]?=some d→css[i]?=some c→At m t d c){i:Nat}(hi:i < l.length):∃ c,At m t l[i] c∧Zao css.flatten (i * t.size) t.size=c:=by
 have hc:i < css.length:=by omega
 have ha:=h i _ _ (List.getElem?_eq_getElem hi) (List.getElem?_eq_getElem hc)
 refine⟨css[i],ha,?_⟩
 have hlen:∀ c∈css,c.length=t.size:=by
  intro c hm
  obtain⟨j,hj,rfl⟩:=List.mem_iff_getElem.1 hm
  exact (h j _ _ (List.getElem?_eq_getElem (by omega)) (List.getElem?_eq_getElem hj)).len
 have flen:∀ (q:List (List Value)),(∀ c∈q,c.length=t.size)→q.flatten.length=q.length * t.size:=by
  intro q
  induction q with
  | nil=>intro _;simp
  | cons a r ih =>
   intro hq
   rw [List.flatten_cons,List.length_append,ih (fun c hc=>hq c (by simp [hc])),hq a (by simp),List.length_cons,Nat.add_mul]
   omega
 have hs:css.flatten=(css.take i).flatten++(css[i]++(css.drop (i+1)).flatten):=by
  have h1:=List.take_append_drop i css
  rw [List.drop_eq_getElem_cons hc] at h1
  have h2:=congrArg List.flatten h1
  rw [List.flatten_append,List.flatten_cons] at h2
  exact h2.symm
 have e:(css.take i).flatten.length=i * t.size:=by
  rw [flen _ (fun c hc=>hlen c (List.mem_of_mem_take hc)),List.length_take,Nat.min_eq_left (by omega)]
 rw [hs,← e]
 simp only [Zao,List.drop_left]
 rw [List.take_append_of_le_length (by rw [ha.len];exact Nat.le_refl _)]
 exact List.take_of_length_le (by rw [ha.len];exact Nat.le_refl _)
def AtQ (Q:Nat→Prop)(m:Mem):(t:Ty)→t.D→List Value→Prop
 | .int k,n,cs=>cs=[.int k n]
 | .bool,b,cs=>cs=[.bool b]
 | .str,l,cs=>cs=[.string ⟨l.toArray⟩]
 | .slice e t,l,cs=>∃ (ao:Option Addr) (css:List (List Value)) (fam:Nat),cs=[.slice ao l.length l.length]∧css.length=l.length∧(∀ (i:Nat) d c,l[i]?=some d→css[i]?=some c→AtQ Q m t d c)∧Rs m ao l.length css.flatten e t.size fam∧(l.length≠0→Q fam)
 | .unit,_,cs=>cs=[]
 | .pair a b,x,cs=>∃ c1 c2,cs=c1++c2∧AtQ Q m a x.1 c1∧AtQ Q m b x.2 c2
theorem Rs.keep0 {m m':Mem}{ao:Option Addr}{n:Nat}{cells:List Value}{e z fam:Nat}{fs:List Nat}(h:Rs m ao n cells e z fam)(k:Zaa m m' fs)(hf:n≠0→fam∉fs):Rs m' ao n cells e z fam:=by
 refine⟨h.1,?_⟩
 rcases h.2 with h2 | ⟨b,h1,h2⟩
 ·exact Or.inl h2
 ·by_cases hn:n=0
  ·exact Or.inl ⟨hn,h1 ▸ .blk b⟩
  ·exact Or.inr ⟨b,h1,h2.keep k (hf hn)⟩
theorem AtQ.keep {Q:Nat→Prop}{m m':Mem}{fs:List Nat}(k:Zaa m m' fs)(hf:∀ f∈fs,¬ Q f):∀ {t:Ty} {d:t.D} {cs:List Value},AtQ Q m t d cs→AtQ Q m' t d cs
 | .int _,_,_,h=>h
 | .bool,_,_,h=>h
 | .str,_,_,h=>h
 | .slice e t,l,cs,⟨ao,css,fam,h1,h2,h3,h4,h5⟩=>⟨ao,css,fam,h1,h2,fun i d c hd hc=>AtQ.keep k hf (h3 i d c hd hc),h4.keep0 k (fun hn hm=>hf fam hm (h5 hn)),h5⟩
 | .unit,_,_,h=>h
 | .pair a b,x,cs,⟨c1,c2,h1,h2,h3⟩=>⟨c1,c2,h1,AtQ.keep k hf h2,AtQ.keep k hf h3⟩
theorem AtQ.mono {Q R:Nat→Prop}{m:Mem}(hq:∀ f,Q f→R f):∀ {t:Ty} {d:t.D} {cs:List Value},AtQ Q m t d cs→AtQ R m t d cs
 | .int _,_,_,h=>h
 | .bool,_,_,h=>h
 | .str,_,_,h=>h
 | .slice e t,l,cs,⟨ao,css,fam,h1,h2,h3,h4,h5⟩=>⟨ao,css,fam,h1,h2,fun i d c hd hc=>AtQ.mono hq (h3 i d c hd hc),h4,fun hn=>hq _ (h5 hn)⟩
 | .unit,_,_,h=>h
 | .pair a b,x,cs,⟨c1,c2,h1,h2,h3⟩=>⟨c1,c2,h1,AtQ.mono hq h2,AtQ.mono hq h3⟩
theorem AtQ.at_ {Q:Nat→Prop}{m:Mem}:∀ {t:Ty} {d:t.D} {cs:List Value},AtQ Q m t d cs→At m t d cs
 | .int _,_,_,h=>h
 | .bool,_,_,h=>h
 | .str,_,_,h=>h
 | .slice e t,l,cs,⟨ao,css,fam,h1,h2,h3,h4,h5⟩=>⟨ao,css,fam,h1,h2,fun i d c hd hc=>AtQ.at_ (h3 i d c hd hc),h4⟩
 | .unit,_,_,h=>h
 | .pair a b,x,cs,⟨c1,c2,h1,h2,h3⟩=>⟨c1,c2,h1,AtQ.at_ h2,AtQ.at_ h3⟩
theorem At.atQ {m:Mem}:∀ {t:Ty} {d:t.D} {cs:List Value},At m t d cs→AtQ (· < m.next) m t d cs
 | .int _,_,_,h=>h
 | .bool,_,_,h=>h
 | .str,_,_,h=>h
 | .slice e t,l,cs,⟨ao,css,fam,h1,h2,h3,h4⟩=>⟨ao,css,fam,h1,h2,fun i d c hd hc=>At.atQ (h3 i d c hd hc),h4,fun hn=>by obtain⟨b,_,hr⟩:=h4.rdo hn;exact hr.flt⟩
 | .unit,_,_,h=>h
 | .pair a b,x,cs,⟨c1,c2,h1,h2,h3⟩=>⟨c1,c2,h1,At.atQ h2,At.atQ h3⟩
section
variable (P:Program)
def fok:Ty→(TypeId→Bool) × (List Field→Nat→Bool)
 | .int k=>(fun t=>match P.underlying t with
  | some (.int j)=>decide (j=k)
  | _=>false,fun _ _=>false)
 | .bool=>(fun t=>match P.underlying t with
  | some .bool=>true
  | _=>false,fun _ _=>false)
 | .str=>(fun t=>match P.underlying t with
  | some .string=>true
  | _=>false,fun _ _=>false)
 | .slice e ty=>(fun t=>match P.underlying t with
  | some (.slice j)=>decide (j=e) && decide (0 < ty.size) && decide (Zaj P e=some ty.size) && (fok ty).1 e
  | _=>false,fun _ _=>false)
 | .unit=>(fun t=>match P.underlying t with
  | some (.struct fs)=>decide (P.cellsOf t=0) && fs.toList.isEmpty
  | _=>false,fun fs _=>fs.isEmpty)
 | .pair a b =>
  let F:=fun (fs:List Field) (o:Nat)=>match fs with
   | []=>false
   | f::r=>decide (f.offset=o) && decide (P.cellsOf f.type=a.size) && (fok a).1 f.type && (fok b).2 r (o+a.size)
  (fun t=>match P.underlying t with
  | some (.struct fs)=>decide (P.cellsOf t=a.size+b.size) && F fs.toList 0
  | _=>false,F)
end
variable {P:Program}{J:Inj}{m:Mem}{w:World}
structure Zq9.OkR (P:Program)(J:Inj)(w:World)(s:Zq9):Prop where
 info:∃ i,P.info? s.e=some i∧i.size=s.z
 le:s.n≤s.cap
 max:s.cap≤9223372036854775807
 spot:s.cap≠0→s.a.spot=none
 lt:s.cells≠[]→s.a.block < w.heap.size
 cell:∀ i v,s.cells[i]?=some v→∃ v',w.cell? ⟨s.a.block,s.a.off+i,none⟩=some v'∧Zav J v v'
theorem Za8.addRow (h:Za8 P J m (Zdo w) w w){s:Zq9}(hs:s.OkR P J w):Za8 P (J.snoc s.a.block s.a.off (s.cap * s.z) s.z) (Sh.addArg m s) (Zdo w) w w:=by
 have hJ:=h.n
 have hlt:=fun l (hl:l < m.next)=>(hJ ▸ hl:l < J.n)
 have hself:(J.snoc s.a.block s.a.off (s.cap * s.z) s.z).blk m.next=s.a.block:=by simp [Inj.snoc,hJ]
 have hbase:(J.snoc s.a.block s.a.off (s.cap * s.z) s.z).base m.next=s.a.off:=by simp [Inj.snoc,hJ]
 have hblk:∀ l,l < m.next→(J.snoc s.a.block s.a.off (s.cap * s.z) s.z).blk l=J.blk l:=fun l hl=>J.snoc_blk_lt (hlt l hl) _ _ _ _
 have hbas:∀ l,l < m.next→(J.snoc s.a.block s.a.off (s.cap * s.z) s.z).base l=J.base l:=fun l hl=>J.snoc_base_lt (hlt l hl) _ _ _ _
 have rd:=fun l b=>Zmy (s:=s) h.dom l b
 have wr:=fun l b=>Zk8 (s:=s) h.dom l b
 constructor
 ·rw [Zc1];simp [Inj.snoc,hJ]
 ·intro l b hl
  rw [Zc1]
  unfold Sh.addArg at hl
  split at hl
  ·have:=h.dom l b hl;omega
  ·simp only [Tree.get_set] at hl
   split at hl
   ·omega
   ·have:=h.dom l b hl;omega
 ·intro l b hl
  unfold Sh.addArg at hl
  split at hl
  ·rw [J.snoc_esz_lt (hlt _ (h.dom l b hl))];exact h.esz l b hl
  ·simp only [Tree.get_set] at hl
   split at hl
   ·rename_i e
    subst e
    simp only [Option.some.injEq] at hl
    subst hl
    obtain⟨i,h1,h2⟩:=hs.info
    exact⟨i,h1,by simp [Inj.snoc,hJ,h2]⟩
   ·rw [J.snoc_esz_lt (hlt _ (h.dom l b hl))];exact h.esz l b hl
 ·intro l b hl
  rcases rd l b hl with⟨rfl,hne,_⟩ | ⟨g1,g2⟩
  ·rw [hself];exact hs.lt hne
  ·rw [hblk l g1];exact h.blk l b g2
 ·intro l b hl i v hv
  rcases rd l b hl with⟨rfl,hne,rfl⟩ | ⟨g1,g2⟩
  ·rw [hself,hbase]
   obtain⟨v',k1,k2⟩:=hs.cell i v hv
   exact⟨v',k1,k2.snoc _ _ _ _⟩
  ·obtain⟨v',k1,k2⟩:=h.rd l b g2 i v hv
   exact⟨v',by rw [hblk l g1,hbas l g1];exact k1,k2.snoc _ _ _ _⟩
 ·intro l b hl
  obtain⟨g1,g2⟩:=wr l b hl
  obtain⟨v1,v2,v3,v4⟩:=h.wr l b g2
  rw [hblk l g1,hbas l g1,J.snoc_ext_lt (hlt l g1)]
  exact⟨v1,v2,v3,v4⟩
 ·intro l1 b1 l2 b2 h1 h2 e
  obtain⟨g1,g2⟩:=wr l1 b1 h1
  rcases rd l2 b2 h2 with⟨rfl,hne,rfl⟩ | ⟨k1,k2⟩
  ·rw [hself,hblk l1 g1] at e
   exact absurd (show (Zdo w).F (J.blk l1) by rw [← e];exact hs.lt hne) (h.wr l1 b1 g2).1
  ·rw [hblk l1 g1,hblk l2 k1] at e
   rw [hbas l2 k1,hbas l1 g1]
   exact h.sep l1 b1 l2 b2 g2 k2 e
 ·exact h.below
 ·exact h.size
 ·intro g hg
  obtain⟨g1,g2,g3⟩:=h.glob g hg
  exact⟨Nat.lt_of_lt_of_le g1 (J.le_snoc _ _ _ _).n,by rw [J.snoc_blk_lt g1];exact g2,by rw [J.snoc_base_lt g1];exact g3⟩
 ·intro l s1 h1
  rw [Zei] at h1
  obtain⟨q1,q2,es',q3,q4⟩:=h.mp l s1 h1
  exact⟨by rw [Zc1];omega,by rw [hblk l q1];exact q2,es',by rw [hblk l q1];exact q3,q4.mono (J.le_snoc _ _ _ _)⟩
 ·intro l1 l2 s1 s2 h1 h2 e
  rw [Zei] at h1 h2
  rw [hblk _ (h.mp l1 s1 h1).1,hblk _ (h.mp l2 s2 h2).1] at e
  exact h.mi l1 l2 s1 s2 h1 h2 e
 ·intro l1 s1 l2 b2 h1 h2
  rw [Zei] at h1
  obtain⟨q1,q2,_⟩:=h.mp l1 s1 h1
  rw [hblk l1 q1]
  rcases rd l2 b2 h2 with⟨rfl,hne,_⟩ | ⟨k1,k2⟩
  ·rw [hself]
   exact fun e=>q2 (show (Zdo w).F (J.blk l1) by rw [← e];exact hs.lt hne)
  ·rw [hblk l2 k1];exact h.ms l1 s1 l2 b2 h1 k2
 ·exact fun _ _ _ h=>h
 ·intro l b hl
  obtain⟨g1,g2⟩:=wr l b hl
  rw [hblk l g1]
  exact h.sh l b g2
theorem Z3h (h:Za8 P J m (Zdo w) w w){s:Zq9}(hs:s.OkR P J w):Zav (J.snoc s.a.block s.a.off (s.cap * s.z) s.z) (.slice (some ⟨m.next,0,none⟩) s.n s.n) (.slice (some s.a) s.n s.cap):=
 Zav.slice (J:=J.snoc s.a.block s.a.off (s.cap * s.z) s.z) m.next 0 s.n s.a s.cap (by simp [Inj.snoc,h.n]) hs.le hs.max (by simp [Inj.snoc,h.n]) (by
  by_cases hc:s.cap=0
  ·exact Or.inl hc
  ·right
   have:=hs.spot hc
   cases ha:s.a with
   | mk b o sp =>
    rw [ha] at this
    simp only at this
    subst this
    simp [Inj.snoc,h.n])
def Zf (P:Program)(w:World)(Z:Prop)(ty:Ty)(cs:List Value):Prop:=∀ J m,Za8 P J m (Zdo w) w w→∃ (d:ty.D) (J':Inj) (m':Mem) (cs':List Value),(ty.wf d∧(Z→ty.fits P d))∧J.le J'∧Za8 P J' m' (Zdo w) w w∧Zcr J' cs' cs∧At m' ty d cs'∧Zaa m m' []
theorem Zcr.one {J:Inj}{a b:Value}(h:Zav J a b):Zcr J [a] [b]:=.cons h .nil
theorem Zdy (m:Mem):Zaa m m []:=⟨Nat.le_refl _,fun _ _ _ h _ _=>h,fun _ _ _=>rfl,fun _ _ _=>rfl⟩
theorem Zxc {Z:Prop}{ty:Ty}{csf:Nat→List Value}:∀ n:Nat,(∀ i,i < n→Zf P w Z ty (csf i))→∀ J m,Za8 P J m (Zdo w) w w→∃ (ds:List ty.D) (J':Inj) (m':Mem) (css:List (List Value)),
  ds.length=n∧css.length=n∧(∀ d∈ds,ty.wf d∧(Z→ty.fits P d))∧J.le J'∧Za8 P J' m' (Zdo w) w w∧(∀ (i:Nat) c,css[i]?=some c→Zcr J' c (csf i))∧(∀ (i:Nat) d c,ds[i]?=some d→css[i]?=some c→At m' ty d c)∧Zaa m m' []
 | 0,_,J,m,hM=>⟨[],J,m,[],rfl,rfl,by simp,.rfl J,hM,by simp,by simp,Zdy m⟩
 | n+1,h,J,m,hM=>by
  obtain⟨ds,J1,m1,css,h1,h2,h3,h4,h5,h6,h7,h8⟩:=Zxc n (fun i hi=>h i (by omega)) J m hM
  obtain⟨d,J2,m2,cs,g1,g2,g3,g4,g5,g6⟩:=h n (by omega) J1 m1 h5
  refine⟨ds++[d],J2,m2,css++[cs],by simp [h1],by simp [h2],?_,h4.trans g2,g3,?_,?_,h8.trans g6⟩
  ·intro x hx
   rcases List.mem_append.1 hx with hx | hx
   ·exact h3 x hx
   ·rw [List.mem_singleton.1 hx];exact g1
  ·intro i c hc
   rw [List.getElem?_append] at hc
   split at hc
   ·exact (h6 i c hc).mono g2
   ·rename_i hi
    have:i=n:=by
     have:=(List.getElem?_eq_some_iff.1 hc).1
     simp at this
     omega
    subst this
    rw [h2,Nat.sub_self] at hc
    simp at hc
    subst hc
    exact g4
  ·intro i e c he hc
   rw [List.getElem?_append] at he hc
   rw [h1] at he
   rw [h2] at hc
   split at hc
   ·rename_i hi
    rw [if_pos hi] at he
    exact (h7 i e c he hc).keep g6
   ·rename_i hi
    rw [if_neg hi] at he
    have:i - n=0:=by
     have:=(List.getElem?_eq_some_iff.1 hc).1
     simp at this
     omega
    rw [this] at he hc
    simp at he hc
    subst he hc
    exact g5
section
variable {H:Type}{enc:TypeId × Value→H}
theorem Zgc {P:Program}{e:TypeId}{d:DataW H}{n:Nat}:∀ {l:List (DataW H)},d∈l→n∈d.weights P e→n∈DataW.weightsAll P e l
 | x::l,hd,hn=>by
  simp only [DataW.weightsAll]
  rcases List.mem_cons.1 hd with rfl | h
  ·exact List.mem_append_left _ hn
  ·exact List.mem_append_right _ (Zgc h hn)
theorem Zh6 {P:Program}{n:Nat}:∀ {ts:List TypeId} {l:List (DataW H)} {i:Nat} {t:TypeId} {d:DataW H},ts[i]?=some t→l[i]?=some d→n∈d.weights P t→n∈DataW.weightsEach P ts l
 | t::ts,x::l,0,t',d,ht,hd,hn=>by
  simp at ht hd
  subst ht hd
  simp only [DataW.weightsEach]
  exact List.mem_append_left _ hn
 | t::ts,x::l,i+1,t',d,ht,hd,hn=>by
  simp only [DataW.weightsEach]
  exact List.mem_append_right _ (Zh6 (by simpa using ht) (by simpa using hd) hn)
 | [],_,_,_,_,ht,_,_=>by simp at ht
 | _::_,[],_,_,_,_,hd,_=>by simp at hd
theorem Zwh {Z:Prop}{ty:Ty}{t e:TypeId}{fuel:Nat}{cs:List Value}{x:DataW H × List MemPlace}(hZ:Z→∀ n∈x.1.weights P t,n≤reachBytes)(ht:P.underlying t=some (.slice e))(hp:0 < ty.size)(hz:Zaj P e=some ty.size)
  (ih:∀ fuel cs (x:DataW H × List MemPlace),DataW.trod enc P w 0 (fun _=>true) true fuel e cs=some x→(Z→∀ n∈x.1.weights P e,n≤reachBytes)→Zf P w Z ty cs) (h:DataW.trod enc P w 0 (fun _=>true) true fuel t cs=some x):Zf P w Z (.slice e ty) cs:=by
 have hc:P.cellsOf e=ty.size:=by
  obtain⟨i,hi,h2⟩:=Option.map_eq_some_iff.1 hz
  unfold Program.cellsOf;rw [hi];simpa using h2
 rcases Deep.open_slice ht h with⟨rfl,_⟩ | ⟨a,len,cap,q,n,D,Pl,rfl,hb,hl,hm,hmm,hxe,hx⟩
 ·intro J m hM
  exact⟨([]:List ty.D),J,m,[.slice none 0 0],⟨⟨by simp,by simp⟩,fun _=>⟨by simp,by simp⟩⟩,.rfl J,hM,.one (.clo _ rfl),⟨none,[],0,rfl,rfl,by simp,by simp,Or.inl ⟨rfl,.nil⟩⟩,Zdy m⟩
 ·simp only [if_true] at hmm
  subst hmm
  have hws:Z→∀ i,i < q→∀ n∈(D i).weights P e,n≤reachBytes:=by
   intro z i hi n hn
   refine hZ z n ?_
   rw [hxe]
   simp only [DataW.weights,ht]
   refine List.mem_cons_of_mem _ ?_
   by_cases hil:i < len
   ·exact List.mem_append_left _ (Zgc (List.mem_map.2 ⟨i,List.mem_range.2 hil,rfl⟩) hn)
   ·exact List.mem_append_right _ (Zgc (List.mem_map.2 ⟨i - len,List.mem_range.2 (by omega),by rw [show len+(i - len)=i by omega]⟩) hn)
  have hlb:Z→len * P.bytesOf e≤140737488351232:=by
   intro z
   have h1:=hZ z (((List.range len).map D).length * P.bytesOf e+((List.range (q - len)).map fun j=>D (len+j)).length * P.bytesOf e) (by
    rw [hxe]
    simp only [DataW.weights,ht,Nat.add_mul]
    exact List.mem_cons_self ..)
   simp only [List.length_map,List.length_range,reachBytes] at h1
   omega
  rw [hc] at hx
  have hx2:∀ i,i < q→∃ cs',cs'.length=ty.size∧(∀ j,j < ty.size→w.cell? ((a.add (i * ty.size)).add j)=cs'[j]?)∧Zf P w Z ty cs':=by
   intro i hi
   obtain⟨cs',h1,h2⟩:=hx i hi
   obtain⟨_,h3,h4⟩:=World.cells?_some h1
   exact⟨cs',h3,h4,ih _ _ _ h2 (fun z=>hws z i hi)⟩
  obtain⟨csf,hcsf⟩:=Deep.choose_lt hx2
  have hspot:q≠0→a.spot=none:=by
   intro hq
   obtain⟨g1,g2,_⟩:=hcsf 0 (by omega)
   have:=g2 0 hp
   rw [List.getElem?_eq_getElem (by omega)] at this
   simp only [Nat.zero_mul,Addr.add,if_true] at this
   unfold World.cell? at this
   split at this
   ·cases hs:a.spot with
    | none=>rfl
    | some q=>rw [hs] at this;simp at this
   ·cases this
  have hadd:q≠0→∀ j,a.add j=⟨a.block,a.off+j,none⟩:=by
   intro hq j
   have hs:=hspot hq
   unfold Addr.add
   by_cases h0:j=0
   ·subst h0
    cases a with
    | mk b o sp=>simp only at hs;subst hs;simp
   ·rw [if_neg h0]
  intro J m hM
  obtain⟨ds,J1,m1,css,h1,h2,h3,h4,h5,h6,h7,h8⟩:=Zxc len (fun i hi=>(hcsf i (by omega)).2.2) J m hM
  have hlen:∀ c∈css,c.length=ty.size:=by
   intro c hm
   obtain⟨j,hj,rfl⟩:=List.mem_iff_getElem.1 hm
   exact (h7 j _ _ (List.getElem?_eq_getElem (by omega)) (List.getElem?_eq_getElem hj)).len
  have flat:∀ (l:List (List Value)),(∀ c∈l,c.length=ty.size)→l.flatten.length=l.length * ty.size∧∀ k v,l.flatten[k]?=some v→∃ i j c,i < l.length∧j < ty.size∧k=i * ty.size+j∧l[i]?=some c∧c[j]?=some v:=by
   intro l
   induction l with
   | nil=>intro _;simp
   | cons c r ihr =>
    intro hq
    obtain⟨e1,e2⟩:=ihr (fun c hc=>hq c (by simp [hc]))
    have hcl:=hq c (by simp)
    constructor
    ·rw [List.flatten_cons,List.length_append,e1,hcl,List.length_cons,Nat.add_mul];omega
    ·intro k v hk
     rw [List.flatten_cons,List.getElem?_append] at hk
     split at hk
     ·exact⟨0,k,c,by simp,by omega,by omega,rfl,hk⟩
     ·rename_i hge
      obtain⟨i,j,c',g1,g2,g3,g4,g5⟩:=e2 _ _ hk
      refine⟨i+1,j,c',by simp;omega,g2,?_,by simpa using g4,g5⟩
      rw [Nat.add_mul];omega
  obtain⟨f1,f2⟩:=flat css hlen
  have hs:(⟨css.flatten,e,a,len,q,ty.size⟩:Zq9).OkR P J1 w:=by
   refine⟨Option.map_eq_some_iff.1 hz,hl,by simpa [maxLen] using hm,hspot,?_,?_⟩
   ·intro hne
    have hl0:0 < len:=by
     rcases Nat.eq_zero_or_pos len with h0 | h0
     ·exfalso;rw [h0] at h2;exact hne (by rw [List.length_eq_zero_iff.1 h2];rfl)
     ·exact h0
    obtain⟨g1,g2,_⟩:=hcsf 0 (by omega)
    have:=g2 0 hp
    rw [List.getElem?_eq_getElem (by omega)] at this
    have:=World.block_lt_of_cell? w _ this
    simpa [Addr.add] using this
   ·intro k v hk
    obtain⟨i,j,c,g1,g2,g3,g4,g5⟩:=f2 k v hk
    obtain⟨q1,q2,_⟩:=hcsf i (by omega)
    obtain⟨l1,l2⟩:=h6 i c g4
    have hj:j < (csf i).length:=by omega
    refine⟨(csf i)[j],?_,l2 j v _ g5 (List.getElem?_eq_getElem hj)⟩
    have:=q2 j g2
    rw [Deep.add_add,hadd (by omega)] at this
    simp only at this ⊢
    rw [g3,this,List.getElem?_eq_getElem hj]
  refine⟨ds,_,_,[.slice (some ⟨m1.next,0,none⟩) ds.length ds.length],⟨⟨by rw [h1];simp [maxLen] at hm;omega,fun x hx=>(h3 x hx).1⟩,fun z=>⟨by rw [h1];exact hlb z,fun x hx=>(h3 x hx).2 z⟩⟩,h4.trans (J1.le_snoc _ _ _ _),h5.addRow hs,.one (by have:=Z3h h5 hs;simp only at this;rw [h1];exact this),?_,h8.trans (Zk2 _ _)⟩
  refine⟨some ⟨m1.next,0,none⟩,css,m1.next,rfl,by omega,fun i d c hd hc=>(h7 i d c hd hc).keep (Zk2 _ _),by rw [f1,h1,h2],?_⟩
  by_cases h0:ds.length=0
  ·exact Or.inl ⟨h0,.blk _⟩
  ·right
   have hne:css.flatten≠[]:=by
    intro e0
    rw [e0,List.length_nil] at f1
    have:0 < css.length * ty.size:=Nat.mul_pos (by omega) hp
    omega
   obtain⟨g1,g2⟩:=Z4z (m:=m1) (s:=⟨css.flatten,e,a,len,q,ty.size⟩) hne
   exact⟨m1.next,rfl,⟨g1,⟨_,g2,Nat.le_refl _⟩,by rw [Zc1];omega,by rw [Zc1];omega⟩⟩
theorem Zcr.app {J:Inj}{a b c d:List Value}(h1:Zcr J a b)(h2:Zcr J c d):Zcr J (a++c) (b++d):=by
 refine⟨by simp [h1.1,h2.1],fun i x y hx hy=>?_⟩
 rw [List.getElem?_append] at hx hy
 rw [h1.1] at hx
 split at hy
 ·rename_i hi
  rw [if_pos hi] at hx
  exact h1.2 i x y hx hy
 ·rename_i hi
  rw [if_neg hi] at hx
  exact h2.2 _ x y hx hy
theorem Zf.pair {Z:Prop}{a b:Ty}{c1 c2:List Value}(h1:Zf P w Z a c1)(h2:Zf P w Z b c2):Zf P w Z (.pair a b) (c1++c2):=by
 intro J m hM
 obtain⟨d1,J1,m1,cs1,g1,g2,g3,g4,g5,g6⟩:=h1 J m hM
 obtain⟨d2,J2,m2,cs2,k1,k2,k3,k4,k5,k6⟩:=h2 J1 m1 g3
 exact⟨(d1,d2),J2,m2,cs1++cs2,⟨⟨g1.1,k1.1⟩,fun z=>⟨g1.2 z,k1.2 z⟩⟩,g2.trans k2,k3,(g4.mono k2).app k4,⟨cs1,cs2,rfl,g5.keep k6,k5⟩,g6.trans k6⟩
theorem lay {Z:Prop}:∀ (ty:Ty),
  (∀ (t:TypeId) (fuel:Nat) (cs:List Value) (x:DataW H × List MemPlace),(fok P ty).1 t=true→DataW.trod enc P w 0 (fun _=>true) true fuel t cs=some x→(Z→∀ n∈x.1.weights P t,n≤reachBytes)→Zf P w Z ty cs)∧
  (∀ (fs:List Field) (o fuel:Nat) (cs:List Value),(fok P ty).2 fs o=true→(∀ (i:Nat) f,fs[i]?=some f→∃ x:DataW H × List MemPlace,DataW.trod enc P w 0 (fun _=>true) true fuel f.type ((cs.drop f.offset).take (P.cellsOf f.type))=some x∧(Z→∀ n∈x.1.weights P f.type,n≤reachBytes))→cs.length=o+ty.size→Zf P w Z ty (cs.drop o))
 | .int k=>by
  refine⟨fun t fuel cs x hf h hz J m hM=>?_,fun _ _ _ _ h=>by simp [fok] at h⟩
  simp only [fok] at hf
  split at hf
  ·rename_i j hu
   have hj:j=k:=by simpa using hf
   subst hj
   obtain⟨n,rfl,_,hw⟩:=DataW.trod_int hu h
   exact⟨n,J,m,_,⟨hw,fun _=>trivial⟩,.rfl J,hM,.one (.clo _ rfl),rfl,Zdy m⟩
  ·cases hf
 | .bool=>by
  refine⟨fun t fuel cs x hf h hz J m hM=>?_,fun _ _ _ _ h=>by simp [fok] at h⟩
  simp only [fok] at hf
  split at hf
  ·rename_i hu
   obtain⟨b,rfl,_⟩:=DataW.trod_bool hu h
   exact⟨b,J,m,_,⟨trivial,fun _=>trivial⟩,.rfl J,hM,.one (.clo _ rfl),rfl,Zdy m⟩
  ·cases hf
 | .str=>by
  refine⟨fun t fuel cs x hf h hz J m hM=>?_,fun _ _ _ _ h=>by simp [fok] at h⟩
  simp only [fok] at hf
  split at hf
  ·rename_i hu
   obtain⟨s,rfl,hxs,hs⟩:=DataW.trod_string hu h
   exact⟨s.data.toList,J,m,[.string s],⟨(by simpa [maxLen] using hs:s.data.size≤9223372036854775807),fun z=>by
    have:=hz z s.data.toList.length (by rw [hxs];simp [DataW.weights])
    simpa [Ty.fits,reachBytes] using this⟩,.rfl J,hM,.one (.clo _ rfl),rfl,Zdy m⟩
  ·cases hf
 | .slice e ty=>by
  refine⟨fun t fuel cs x hf h hz=>?_,fun _ _ _ _ h=>by simp [fok] at h⟩
  simp only [fok] at hf
  split at hf
  ·rename_i j hu
   simp only [Bool.and_eq_true,decide_eq_true_eq] at hf
   obtain⟨⟨⟨rfl,h1⟩,h2⟩,h3⟩:=hf
   exact Zwh hz hu h1 h2 (fun fuel cs x hx hq=>(lay ty).1 _ _ _ _ h3 hx hq) h
  ·cases hf
 | .unit=>by
  refine⟨fun t fuel cs x hf h hz J m hM=>?_,fun fs o fuel cs hf h hl J m hM=>?_⟩
  ·simp only [fok] at hf
   split at hf
   ·rename_i fs hu
    simp only [Bool.and_eq_true,decide_eq_true_eq] at hf
    obtain⟨xs,n,_,_,hl,_⟩:=DataW.trod_struct hu h
    rw [hf.1] at hl
    rw [List.length_eq_zero_iff.1 hl]
    exact⟨(),J,m,[],⟨trivial,fun _=>trivial⟩,.rfl J,hM,.nil,rfl,Zdy m⟩
   ·cases hf
  ·have:cs.drop o=[]:=List.drop_eq_nil_of_le (by rw [hl];exact Nat.le_refl _)
   rw [this]
   exact⟨(),J,m,[],⟨trivial,fun _=>trivial⟩,.rfl J,hM,.nil,rfl,Zdy m⟩
 | .pair a b=>by
  have F:∀ (fs:List Field) (o fuel:Nat) (cs:List Value),(fok P (.pair a b)).2 fs o=true→(∀ (i:Nat) f,fs[i]?=some f→∃ x:DataW H × List MemPlace,DataW.trod enc P w 0 (fun _=>true) true fuel f.type ((cs.drop f.offset).take (P.cellsOf f.type))=some x∧(Z→∀ n∈x.1.weights P f.type,n≤reachBytes))→cs.length=o+(Ty.pair a b).size→Zf P w Z (.pair a b) (cs.drop o):=by
   intro fs o fuel cs hf h hl
   cases fs with
   | nil=>simp [fok] at hf
   | cons f r =>
    simp only [fok,Bool.and_eq_true,decide_eq_true_eq] at hf
    obtain⟨⟨⟨h1,h2⟩,h3⟩,h4⟩:=hf
    obtain⟨x,hx,hxz⟩:=h 0 f rfl
    rw [h1,h2] at hx
    have i1:=(lay a).1 _ _ _ _ h3 hx hxz
    have i2:=(lay b).2 r (o+a.size) fuel cs h4 (fun i g hg=>h (i+1) g (by simpa using hg)) (by rw [hl];simp only [Ty.size];omega)
    have:cs.drop o=(cs.drop o).take a.size++cs.drop (o+a.size):=by
     rw [← List.drop_drop];exact (List.take_append_drop _ _).symm
    rw [this]
    exact i1.pair i2
  refine⟨fun t fuel cs x hf h hz=>?_,F⟩
  simp only [fok] at hf
  split at hf
  ·rename_i fs hu
   simp only [Bool.and_eq_true,decide_eq_true_eq] at hf
   obtain⟨xs,n,_,hxe,hl,hxl,hx⟩:=DataW.trod_struct hu h
   have:=F fs.toList 0 n cs (by simp only [fok];exact hf.2) (fun i f hi=>by
    have hi2:fs[i]?=some f:=by simpa using hi
    have:=hx i f hi2
    have hlt:i < xs.length:=by
     rw [hxl]
     exact (Array.getElem?_eq_some_iff.1 hi2).1
    rw [List.getElem?_eq_getElem hlt] at this
    refine⟨_,this,fun z n hn=>hz z n ?_⟩
    rw [hxe]
    simp only [DataW.weights,hu]
    exact Zh6 (i:=i) (by rw [List.getElem?_map,hi];rfl) (by rw [List.getElem?_map,List.getElem?_eq_getElem hlt];rfl) hn) (by rw [hl,hf.1];simp [Ty.size])
   simpa using this
  ·cases hf
def Zo2:Ty→List Value→Value
 | .pair _ _,cs=>.agg cs.toArray
 | .unit,cs=>.agg cs.toArray
 | _,cs=>cs.headD undef
def Ty.zeros:Ty→List Value
 | .int k=>[.int k 0]
 | .bool=>[.bool false]
 | .str=>[.string ⟨#[]⟩]
 | .slice _ _=>[.slice none 0 0]
 | .unit=>[]
 | .pair a b=>a.zeros++b.zeros
def Ty.zd {K:Type}:Ty→DataW K × List (DataW K)
 | .int k=>(.lit (.int k 0),[])
 | .bool=>(.lit (.bool false),[])
 | .str=>(.lit (.string []),[])
 | .slice _ _=>(.nil,[])
 | .unit=>(.agg [],[])
 | .pair a b=>(.agg (a.zd.1::b.zd.2),a.zd.1::b.zd.2)
def Ty.zdata {K:Type}(t:Ty):DataW K:=t.zd.1
def Zti (P:Program)(w:World)(Z:Prop)(ty:Ty)(v:Value):Prop:=∀ J m,Za8 P J m (Zdo w) w w→∃ (d:ty.D) (J':Inj) (m':Mem) (cs:List Value),(ty.wf d∧(Z→ty.fits P d))∧J.le J'∧Za8 P J' m' (Zdo w) w w∧Zav J' (Zo2 ty cs) v∧At m' ty d cs∧Zaa m m' []
def Zyx (P:Program)(w:World)(ty:Ty)(v:Value):Prop:=∀ J m,Za8 P J m (Zdo w) w w→∃ (d:ty.D) (J':Inj) (m':Mem) (cs:List Value),(ty.wf d∧ty.fits P d)∧J.le J'∧Za8 P J' m' (Zdo w) w w∧Zav J' (Zo2 ty cs) v∧At m' ty d cs∧Zaa m m' []
theorem Zf.one {Z:Prop}{ty:Ty}{v:Value}(h:Zf P w Z ty [v])(hv:∀ u,Zo2 ty [u]=u):Zti P w Z ty v:=by
 intro J m hM
 obtain⟨d,J1,m1,cs,g1,g2,g3,g4,g5,g6⟩:=h J m hM
 obtain⟨u,rfl⟩:∃ u,cs=[u]:=by
  have:=g4.1
  cases cs with
  | nil=>simp at this
  | cons u r=>cases r with
   | nil=>exact⟨u,rfl⟩
   | cons _ _=>simp at this
 exact⟨d,J1,m1,[u],g1,g2,g3,by rw [hv];exact g4.2 0 u v rfl rfl,g5,g6⟩
theorem Zf.all {Z:Prop}{ty:Ty}{xs:Array Value}(h:Zf P w Z ty xs.toList)(hv:∀ cs,Zo2 ty cs=.agg cs.toArray):Zti P w Z ty (.agg xs):=by
 intro J m hM
 obtain⟨d,J1,m1,cs,g1,g2,g3,g4,g5,g6⟩:=h J m hM
 refine⟨d,J1,m1,cs,g1,g2,g3,?_,g5,g6⟩
 rw [hv]
 exact .agg _ _ (by simpa using g4.1) (fun i x y hx hy=>g4.2 i x y (by simpa using hx) (by simpa using hy))
theorem Zxd {r:Reach}{b0:Nat}{Z:Prop}{ty:Ty}{t:TypeId}{v:Value}{d:DataW H}{ps:List MemPlace}(hf:(fok P ty).1 t=true)(hval:Value.okWide P w r b0 t v)(hd:DataW.Trod enc P w 0 (fun _=>true) true t v d ps)(hz:Z→∀ n∈d.weights P t,n≤reachBytes):Zti P w Z ty v:=by
 obtain⟨fuel,hd⟩:=hd
 have hL:Zf P w Z ty v.cells.toList:=(lay ty).1 t fuel _ _ hf hd hz
 cases ty with
 | int k =>
  simp only [fok] at hf
  split at hf
  ·rename_i j hu
   obtain⟨n,rfl⟩:=okWide_int hu hval
   exact hL.one fun _=>rfl
  ·cases hf
 | bool =>
  simp only [fok] at hf
  split at hf
  ·rename_i hu
   obtain⟨n,rfl⟩:=okWide_bool hu hval
   exact hL.one fun _=>rfl
  ·cases hf
 | str =>
  simp only [fok] at hf
  split at hf
  ·rename_i hu
   obtain⟨n,rfl⟩:=okWide_string hu hval
   exact hL.one fun _=>rfl
  ·cases hf
 | slice e ty =>
  simp only [fok] at hf
  split at hf
  ·rename_i j hu
   obtain⟨a0,l0,c0,rfl⟩:=okWide_slice hu hval
   exact hL.one fun _=>rfl
  ·cases hf
 | unit =>
  simp only [fok] at hf
  split at hf
  ·rename_i fs hu
   simp only [Value.okWide,hu] at hval
   obtain⟨xs,rfl,_⟩:=hval
   exact hL.all fun _=>rfl
  ·cases hf
 | pair a b =>
  simp only [fok] at hf
  split at hf
  ·rename_i fs hu
   simp only [Value.okWide,hu] at hval
   obtain⟨xs,rfl,_⟩:=hval
   exact hL.all fun _=>rfl
  ·cases hf
theorem Zwm {r:Reach}{b0:Nat}{ty:Ty}{t:TypeId}{v:Value}{d:DataW H}{ps:List MemPlace}(hf:(fok P ty).1 t=true)(hval:Value.okWide P w r b0 t v)(hd:DataW.Trod enc P w 0 (fun _=>true) true t v d ps)(hw:(d.weights P t).all (·≤reachBytes)=true):Zyx P w ty v:=by
 intro J m hM
 obtain⟨d,J1,m1,cs,g1,g2⟩:=Zxd (Z:=True) hf hval hd (fun _ n hn=>by simpa using List.all_eq_true.1 hw n hn) J m hM
 exact⟨d,J1,m1,cs,⟨g1.1,g1.2 trivial⟩,g2⟩
end
end Go.Sh
namespace Go.Sh
section
variable {P:Program}{T:FuncId→Option Func}{S:Zb4}{m:Mem}
theorem Zx6 {f:FuncId}{fn:Func}{c:Code}{args:List Value}{A:Value→Mem→Prop}(hT:T f=some fn)(hb:fn.body=some c)(hS:(S f).find? (fun p=>eqL p.1 args)=none)(hl:args.length≤fn.ntmps)(h:Zr7 P T S c [] (Zlq args 0) m (QF P fn.results.toList A)) :
  ∃ v m',Zaq P T S f args m=some (v,m')∧A v m':=by
 obtain⟨e,t',E',m',h1,h2,h3,h4⟩:=h _ (Zot args .leaf 0)
 simp only [rk] at h1
 have hx:Zaq P T S f args m=match Zd7 P T S c (fill .leaf args 0) m with
   | some (.normal,t,m') | some (.ret,t,m')=>match Zf3 P fn.results.toList t m' with
    | some v=>some (v,m')
    | none=>none
   | _=>none:=by
  unfold Zaq Zcn Zkb
  rw [hS]
  simp only [hT,hb,if_pos hl]
  rfl
 rw [hx,h1]
 split at h4
 ·rename_i v hv
  have:=Zm7 h2 hv
  cases e with
  | normal=>simp only [this];exact⟨v,m',rfl,h4⟩
  | ret=>simp only [this];exact⟨v,m',rfl,h4⟩
  | exit i=>cases h3
 ·exact h4.elim
theorem Z8h {f:FuncId}{c:Code}{rs:List ResultVar}{n:Nat}{args:List Value}{A:Value→Mem→Prop}(nv:Nat)(C:List Nat)(hf:Ze0 T f c rs n)(hS:(S f).find? (fun p=>eqL p.1 args)=none)(hl:args.length=n)(h:W P T S nv C c [] (Zlq args 0) m (QF P rs A)) :
  ∃ v m',Zaq P T S f args m=some (v,m')∧A v m':=by
 obtain⟨fn,h1,h2,h3,h4⟩:=hf
 subst h3
 exact Zx6 h1 h2 hS (by omega) (Z4v h)
theorem Z6n {f:FuncId}{c:Code}{rs:List ResultVar}{n:Nat}{args:List Value}{v:Value}{m':Mem}(nv:Nat)(C:List Nat)(hf:Ze0 T f c rs n)(hS:(S f).find? (fun p=>eqL p.1 args)=none)(hl:args.length=n)(h:W P T S nv C c [] (Zlq args 0) m (QF P rs fun u m1=>u=v∧m1=m')) :
  Zaq P T S f args m=some (v,m'):=by
 obtain⟨u,m1,h1,rfl,rfl⟩:=Z8h nv C hf hS hl h
 exact h1
theorem Zc2 {f:FuncId}{args:List Value}{p:List Value × Value}(h:(S f).find? (fun p=>eqL p.1 args)=some p):Zaq P T S f args m=some (p.2,m):=by
 unfold Zaq Zcn
 rw [h]
end
end Go.Sh
namespace Go.Sh
section
variable {P:Program}{m:Mem}
theorem Sl.keepz {m':Mem}{ao:Option Addr}{n:Nat}{cells:List Value}{e z fam:Nat}{fs:List Nat}(h:Sl m ao n cells e z fam)(k:Zaa m m' fs)(hf:ao≠none→fam∉fs):Sl m' ao n cells e z fam:=by
 refine⟨h.1,?_⟩
 rcases h.2 with h | ⟨b,h1,h2⟩
 ·exact Or.inl h
 ·exact Or.inr ⟨b,h1,h2.keep k (hf (by rw [h1];simp))⟩
theorem Zs {ty e e0:TypeId}{z bt n k fam:Nat}{ao:Option Addr}{cells news cs:List Value}{r:Option (Value × Mem)}(hr:Zak P ty (m.new cs e0) (.slice ao n n) news k=r)(ht:P.underlying ty=some (.slice e))(ha:Zir P e z bt=true)
  (h:Sl m ao n cells e z fam) (hk:k≠0) (hnews:news.length=k * z) (h1:news.all one=true) (hb:(n+k) * bt≤140737488355328) (h63:n+k≤9223372036854775807) :
  ∃ m1 b' fam',r=some (.slice (some ⟨b',0,none⟩) (n+k) (n+k),m1)∧Own m1 b' (cells++news) e fam'∧Zaa m m1 (if ao=none then [] else [fam])∧((ao≠none∧fam'=fam)∨m.next≤fam')∧fam' < m1.next∧(ao≠none→fam'=fam):=by
 rcases h.2 with⟨rfl,rfl⟩ | ⟨b,rfl,ho⟩
 ·have hc:cells=[]:=List.length_eq_zero_iff.1 (by rw [← h.1];simp)
  subst hc
  have hs:=Zi7 (m:=m.new cs e0) ht ha hk hnews h1 (by simpa using hb) (by omega)
  rw [hs] at hr
  subst hr
  refine⟨(m.new cs e0).new news e,(m.new cs e0).next,(m.new cs e0).next,by simp,by simpa using Own.new (m.new cs e0) news e,?_,Or.inr (by simp [Mem.new]),by simp [Mem.new],fun h=>absurd rfl h⟩
  rw [if_pos rfl]
  exact (Za4 _ _ _ _).trans (Za4 _ _ _ _)
 ·obtain⟨m1,b1,rfl,o1,k1⟩:=Ztf hr ht ha ho h.1 hnews h1 hb h63
  exact⟨m1,b1,fam,rfl,o1,by simpa using k1,Or.inl ⟨by simp,rfl⟩,o1.flt,fun _=>rfl⟩
end
end Go.Sh
namespace Go.Sh
theorem Z8y {α β:Type}(H:α→β→Prop){T:α→β→Prop}{G:Prop}(main:(∀ a b,H a b→T a b)→G)(mp:∀ a b,H a b→T a b):G:=main mp
end Go.Sh
namespace Go.Sh
open Go.RowKit
section
variable {P:Program}{H:Zbk}
def Zev (E E':Zb):Prop:=∀ i v,Zbv E i=some v→Zbv E' i=some v
theorem Zev.isSome {E E':Zb}(h:Zev E E'){i:Nat}(hi:(Zbv E i).isSome=true):(Zbv E' i).isSome=true:=by
 obtain⟨v,hv⟩:=Option.isSome_iff_exists.1 hi
 rw [h i v hv];rfl
theorem Zev.eq {E E':Zb}(h:Zev E E'){i:Nat}(hi:(Zbv E i).isSome=true):Zbv E' i=Zbv E i:=by
 obtain⟨v,hv⟩:=Option.isSome_iff_exists.1 hi
 rw [h i v hv,hv]
theorem Zev.lev {E E':Zb}(h:Zev E E'){x:Operand}(hx:lhas E x=true):lev E' x=lev E x:=by
 cases x with
 | tmp i=>simp only [Sh.lev];rw [h.eq hx]
 | _=>rfl
theorem Zev.lhas {E E':Zb}(h:Zev E E'){x:Operand}(hx:lhas E x=true):lhas E' x=true:=by
 cases x with
 | tmp i=>exact h.isSome hx
 | _=>rfl
theorem Zev.put {E E':Zb}(h:Zev E E')(d:Option Tmp)(v:Value):Zev (Zlc E d v) (Zlc E' d v):=by
 cases d with
 | none=>exact h
 | some d =>
  intro i w hi
  simp only [Zlc,Zbv] at hi ⊢
  split
  ·rename_i e;rw [if_pos e] at hi;exact hi
  ·rename_i e;rw [if_neg e] at hi;exact h i w hi
theorem Zev.op1 {ds:List (Option Tmp)}{o:Oper}{E E':Zb}(h:Zev E E')(hn:∀ i∈Zk1 o,(Zbv E i).isSome=true){m:Mem}{r:Value × Mem}(he:Zlp P H ds o E m=some r):Zlp P H ds o E' m=some r:=by
 have run:sop P H (Sh.lev E') o m=sop P H (Sh.lev E) o m:=by
  refine Zqd o (fun x hx=>h.lev ?_) m
  cases x with
  | tmp i=>exact hn i (List.mem_filterMap.2 ⟨.tmp i,by simpa using hx,rfl⟩)
  | _=>rfl
 unfold Zlp at he ⊢
 split at he
 ·rename_i hg
  rw [run];exact he
 ·rename_i j w hg
  split at he
  ·rename_i d hj
   split at he
   ·rename_i v hb
    rw [h _ _ hb]
    simp only
    rw [run]
    exact he
   ·cases he
  ·cases he
theorem Zev.ops {ds:List (Option Tmp)}:∀ (rest:List Oper) (D:List Nat) (E E':Zb) (m:Mem) (E1:Zb) (m1:Mem),Zev E E'→(∀ i∈Zjz rest D,(Zbv E i).isSome=true)→(∀ i∈D,(Zbv E i).isSome=true)→Zlu P H ds rest E m=some (E1,m1)→∃ E1',Zlu P H ds rest E' m=some (E1',m1)∧Zev E1 E1'
 | [],D,E,E',m,E1,m1,h,_,_,he=>by
  simp only [Zlu,Option.some.injEq,Prod.mk.injEq] at he
  obtain⟨rfl,rfl⟩:=he
  exact⟨E',rfl,h⟩
 | o::rest,D,E,E',m,E1,m1,h,hn,hD,he=>by
  simp only [Zlu] at he ⊢
  split at he
  ·rename_i v m2 h1
   obtain⟨n1,n2,n3⟩:=Zin (v:=v) hn hD
   rw [h.op1 n1 h1]
   exact Zev.ops rest _ _ _ _ _ _ (h.put _ _) n2 n3 he
  ·cases he
def Z4s:List Oper→List (Zb × Mem)→List (Zb × Mem)→Prop
 | [],[a],[b]=>a.2=b.2∧Zev a.1 b.1
 | o::ro,a::r,b::s=>a.2=b.2∧Zev a.1 b.1∧(∀ i∈Zk1 o,(Zbv a.1 i).isSome=true)∧Z4s ro r s
 | _,_,_=>False
theorem Zev.states {ds:List (Option Tmp)}:∀ (rest:List Oper) (D:List Nat) (E E':Zb) (m:Mem) (S:List (Zb × Mem)),Zev E E'→(∀ i∈Zjz rest D,(Zbv E i).isSome=true)→(∀ i∈D,(Zbv E i).isSome=true)→Zbp P H ds rest E m=some S→∃ S',Zbp P H ds rest E' m=some S'∧Z4s rest S S'
 | [],D,E,E',m,S,h,_,_,he=>by
  simp only [Zbp,Option.some.injEq] at he
  subst he
  exact⟨_,rfl,rfl,h⟩
 | o::rest,D,E,E',m,S,h,hn,hD,he=>by
  simp only [Zbp] at he ⊢
  split at he
  ·rename_i v m2 h1
   obtain⟨n1,n2,n3⟩:=Zin (v:=v) hn hD
   rw [h.op1 n1 h1]
   simp only
   split at he
   ·rename_i l hl
    simp only [Option.some.injEq] at he
    subst he
    obtain⟨S',g1,g2⟩:=Zev.states rest _ _ _ _ _ (h.put _ _) n2 n3 hl
    rw [g1]
    exact⟨_,rfl,rfl,h,n1,g2⟩
   ·cases he
  ·cases he
theorem Zol:∀ {ops:List Oper} {S T:List (Zb × Mem)} (h:Z4s ops S T) (i:Nat) (a:Zb × Mem),S[i]?=some a→∃ b,T[i]?=some b∧a.2=b.2∧Zev a.1 b.1∧∀ o,ops[i]?=some o→∀ q∈Zk1 o,(Zbv a.1 q).isSome=true
 | [],[a],[b],h,i,a',hi=>by
  cases i with
  | zero=>simp at hi;subst hi;exact⟨b,rfl,h.1,h.2,by simp⟩
  | succ i=>simp at hi
 | o::ro,a::r,b::s,h,i,a',hi=>by
  cases i with
  | zero=>simp at hi;subst hi;exact⟨b,rfl,h.1,h.2.1,by simp;exact h.2.2.1⟩
  | succ i =>
   simp only [List.getElem?_cons_succ] at hi ⊢
   exact Zol h.2.2.2 i a' hi
 | [],[],_,h,_,_,_=>h.elim
 | [],[_],[],h,_,_,_=>h.elim
 | [],[_],_::_::_,h,_,_,_=>h.elim
 | [],_::_::_,_,h,_,_,_=>h.elim
 | _::_,[],_,h,_,_,_=>h.elim
 | _::_,_::_,[],h,_,_,_=>h.elim
theorem Zrl:∀ {ops:List Oper} {S T:List (Zb × Mem)} (h:Z4s ops S T) {a:Zb × Mem},S.getLast?=some a→∃ E,T.getLast?=some (E,a.2)∧Zev a.1 E
 | [],[a],[b],h,a',hi=>by
  simp at hi;subst hi
  obtain⟨b1,b2⟩:=b
  obtain⟨h1,h2⟩:=h
  simp only at h1 h2
  exact⟨b1,by simp [h1],h2⟩
 | o::ro,a::r,b::s,h,a',hi=>by
  have hr:=h.2.2.2
  have hne:r≠[]:=by rintro rfl;cases ro <;> simp [Z4s] at hr
  have hne2:s≠[]:=by rintro rfl;cases ro <;> cases r <;> simp [Z4s] at hr
  obtain⟨x,r',rfl⟩:=List.exists_cons_of_ne_nil hne
  obtain⟨y,s',rfl⟩:=List.exists_cons_of_ne_nil hne2
  rw [List.getLast?_cons_cons] at hi ⊢
  exact Zrl hr hi
 | [],[],_,h,_,_=>h.elim
 | [],[_],[],h,_,_=>h.elim
 | [],[_],_::_::_,h,_,_=>h.elim
 | [],_::_::_,_,h,_,_=>h.elim
 | _::_,[],_,h,_,_=>h.elim
 | _::_,_::_,[],h,_,_=>h.elim
theorem Zo {ds:List (Option Tmp)}{all:List Oper}{S T:List (Zb × Mem)}(h:Z4s all S T):∀ (pl:List (Nat × List Nat)),Zfv P H ds all S pl=true→Zfv P H ds all T pl=true
 | [],_=>rfl
 | (j,is)::r,hr=>by
  simp only [Zfv,Bool.and_eq_true] at hr ⊢
  refine⟨?_,Zo h r hr.2⟩
  have h1:=hr.1
  split at h1
  ·rename_i o E m ho hS
   obtain⟨⟨E',m2⟩,g1,g2,g3,g4⟩:=Zol h j _ hS
   simp only at g2 g3 g4
   subst g2
   have n1:=g4 o ho
   split at h1
   ·rename_i v m' h2
    simp only [ho,g1,g3.op1 n1 h2]
    rw [List.all_eq_true] at h1 ⊢
    intro i hi
    have h3:=h1 i hi
    split at h3
    ·rename_i E3 m3 hS3
     obtain⟨⟨t3,m4⟩,k1,k2,_,_⟩:=Zol h i _ hS3
     simp only at k2
     subst k2
     simp only [k1]
     unfold Zp5 at h3 ⊢
     split at h3
     ·rename_i v' m5 h5
      rw [g3.op1 n1 h5]
      exact h3
     ·cases h3
    ·cases h3
   ·cases h1
  ·cases h1
theorem Zo8 {E E':Zb}(h:Zev E E'){l:List Nat}(hl:Zva E l=true):Zva E' l=true:=Zd2.2 fun i hi=>h.isSome (Zd2.1 hl i hi)
theorem Zev.region {ops:List Oper}{draw:Bool}{E E' E1:Zb}{m m1:Mem}(h:Zev E E')(he:Zdf P H ops draw E m=some (E1,m1)):∃ E1',Zdf P H ops draw E' m=some (E1',m1)∧Zev E1 E1':=by
 unfold Zdf at he ⊢
 cases draw with
 | true =>
  simp only [if_true] at he ⊢
  split at he
  ·rename_i hq
   rw [if_pos hq]
   split at he
   ·rename_i hn
    rw [if_pos (Zo8 h hn)]
    exact Zev.ops _ [] _ _ _ _ _ h (Zd2.1 hn) (fun i hi=>by simp at hi) he
   ·cases he
  ·rename_i hq
   rw [if_neg hq]
   split at he
   ·rename_i hn
    rw [if_pos (Zo8 h hn)]
    split at he
    ·rename_i S hS
     obtain⟨T,g1,g2⟩:=Zev.states _ [] _ _ _ _ h (Zd2.1 hn) (fun i hi=>by simp at hi) hS
     rw [g1]
     simp only
     split at he
     ·rename_i hr
      rw [if_pos (Zo g2 _ hr)]
      exact Zrl g2 he
     ·cases he
    ·cases he
   ·cases he
 | false =>
  simp only [Bool.false_eq_true,if_false] at he ⊢
  split at he
  ·rename_i hn
   rw [if_pos (Zo8 h hn)]
   exact Zev.ops _ [] _ _ _ _ _ h (Zd2.1 hn) (fun i hi=>by simp at hi) he
  ·cases he
theorem Zma {nv:Nat}:∀ {E:Zb} {j:Nat} {v:Value},Zbv E j=some v→j < nv→Zbv (Zit nv E) j=some v
 | [],j,v,h,_=>by simp [Zbv] at h
 | (i,w)::r,j,v,h,hj=>by
  simp only [Zbv] at h
  simp only [Zit]
  split at h
  ·rename_i e
   subst e
   rw [if_pos hj]
   simp only [Zbv,if_true]
   exact h
  ·rename_i e
   split
   ·simp only [Zbv];rw [if_neg e];exact Zma h hj
   ·exact Zma h hj
theorem Zev.keep {E E':Zb}(h:Zev E E')(nv:Nat):Zev (Zit nv E) (Zit nv E'):=fun i v hi=>by
 obtain⟨h1,h2⟩:=Zkc hi
 exact Zma (h i v h1) h2
theorem Zev.set {E E':Zb}(h:Zev E E')(i:Nat)(v:Value):Zev (Zwt E i v) (Zwt E' i v):=fun j w hj=>by
 rw [Zop] at hj ⊢
 split
 ·rename_i e;rw [if_pos e] at hj;exact hj
 ·rename_i e;rw [if_neg e] at hj;exact h j w hj
theorem Zev.sets {E1 E1':Zb}(h1:Zev E1 E1'):∀ {l:List Nat} {E E':Zb},(∀ i∈l,(Zbv E1 i).isSome=true)→Zev E E'→Zev (Zjd E1 l E) (Zjd E1' l E')
 | [],E,E',_,h=>h
 | i::r,E,E',hl,h=>by
  obtain⟨v,hv⟩:=Option.isSome_iff_exists.1 (hl i (List.mem_cons_self ..))
  simp only [Zjd,hv,h1 i v hv]
  exact Zev.sets h1 (fun j hj=>hl j (List.mem_cons_of_mem _ hj)) (h.set i v)
theorem Zev.conds {E1 E1':Zb}(h1:Zev E1 E1'):∀ {l:List Nat} {E E':Zb},(∀ i∈l,(Zbv E1 i).isSome=true)→Zev E E'→Zev (Zf7 E1 l E) (Zf7 E1' l E')
 | [],E,E',_,h=>h
 | i::r,E,E',hl,h=>by
  obtain⟨v,hv⟩:=Option.isSome_iff_exists.1 (hl i (List.mem_cons_self ..))
  simp only [Zf7,hv,h1 i v hv]
  have ih:=Zev.conds h1 (fun j hj=>hl j (List.mem_cons_of_mem _ hj)) h (l:=r)
  intro j w hj
  simp only [Zbv] at hj ⊢
  split
  ·rename_i e;rw [if_pos e] at hj;exact hj
  ·rename_i e;rw [if_neg e] at hj;exact ih j w hj
theorem Zom {ops:List Oper}{draw:Bool}{E E':Zb}{m m':Mem}(he:Zdf P H ops draw E m=some (E',m')):Zsn (Zfm ops draw) E E':=by
 unfold Zdf at he
 cases draw with
 | true =>
  simp only [if_true,Zfm] at he ⊢
  split at he
  ·split at he
   ·exact Zgk _ _ _ _ _ he
   ·cases he
  ·split at he
   ·split at he
    ·rename_i S hS
     split at he
     ·exact (Zgz _ _ _ _ _ hS he).2
     ·cases he
    ·cases he
   ·cases he
 | false =>
  simp only [Bool.false_eq_true,if_false,Zfm] at he ⊢
  split at he
  ·exact Zgk _ _ _ _ _ he
  ·cases he
theorem Zev.next {nv:Nat}{C:List Nat}{ops:List Oper}{E E' E1 E1':Zb}(h:Zev E E')(h1:Zev E1 E1')(hg:Zsn ops E E1):Zev (Zuy nv C ops E E1) (Zuy nv C ops E' E1'):=by
 unfold Zuy
 have g:∀ p:Nat→Bool,∀ i∈Zzp ((Zhm ops).filter p),(Zbv E1 i).isSome=true:=fun p i hi=>hg.2 i (Or.inr ((List.mem_filter.1 (Zib.1 hi)).1))
 exact h1.conds (g _) (h1.sets (g _) (h.keep nv))
section
variable {T:FuncId→Option Func}{S:Zb4}{nv:Nat}{C:List Nat}{k:List Fr}{E E':Zb}{m:Mem}{Q:Zsl}
def Z5x (Q:Zsl):Prop:=∀ e E E' m,Zev E E'→Q e E m→Q e E' m
theorem Zrv {c:Code}(h:Zr7 P T S c k E m Q)(hs:Zev E E'):Zr7 P T S c k E' m Q:=fun t ht=>h t (fun i v hi=>ht i v (hs i v hi))
theorem Zgp (hQ:Z5x Q):∀ (n:Nat) (c:Cf) (k:List Fr) (E E':Zb) (m:Mem),Zev E E'→Wn P T S nv C n c k E m Q→Wn P T S nv C n c k E' m Q
 | 0,c,k,E,E',m,hs,h=>by cases c <;> exact h.elim
 | n+1,.run c,k,E,E',m,hs,h=>by
  cases c
  case skip=>exact Zgp hQ n _ _ _ _ _ hs h
  case label=>exact Zgp hQ n _ _ _ _ _ hs h
  case ret=>exact Zgp hQ n _ _ _ _ _ hs h
  case exit=>exact Zgp hQ n _ _ _ _ _ hs h
  case seq=>exact Zgp hQ n _ _ _ _ _ hs h
  case block=>exact Zgp hQ n _ _ _ _ _ hs h
  case loop=>exact Zrv h hs
  case cond x a b =>
   simp only [Wn] at h ⊢
   by_cases hx:lhas E x=true
   ·rw [if_pos hx] at h
    rw [if_pos (hs.lhas hx),hs.lev hx]
    unfold Br at h ⊢
    split at h
    ·exact Zgp hQ n _ _ _ _ _ hs h
    ·exact Zgp hQ n _ _ _ _ _ hs h
    ·exact h.elim
   ·rw [if_neg hx] at h
    exact h.elim
  case region p ops d =>
   simp only [Wn] at h ⊢
   split at h
   ·rename_i E1 m1 he
    obtain⟨E1',g1,g2⟩:=hs.region he
    rw [g1]
    exact Zgp hQ n _ _ _ _ _ (hs.next g2 (Zom he)) h
   ·exact h.elim
  all_goals exact h.elim
 | n+1,.back e,k,E,E',m,hs,h=>by
  cases k with
  | nil=>exact hQ _ _ _ _ hs h
  | cons f k =>
   cases f with
   | seq b=>cases e <;> exact Zgp hQ n _ _ _ _ _ hs h
   | block i=>cases e <;> exact Zgp hQ n _ _ _ _ _ hs h
   | loop b =>
    cases e
    case normal=>exact Zrv h hs
    all_goals exact Zgp hQ n _ _ _ _ _ hs h
theorem Z3a (P:Program)(rs:List ResultVar)(A:Value→Mem→Prop):Z5x (QF P rs A):=by
 intro e E E' m hs h
 refine⟨h.1,?_⟩
 have h2:=h.2
 have one:∀ r v,Zf8 P E m r=some v→Zf8 P E' m r=some v:=by
  intro r v hv
  cases r with
  | tmp i=>exact hs i v hv
  | cell a ty =>
   simp only [Zf8] at hv ⊢
   split at hv
   ·rename_i ad ha
    rw [hs a _ ha]
    exact hv
   ·cases hv
 have lst:∀ (rs:List ResultVar) vs,Zd3 P E m rs=some vs→Zd3 P E' m rs=some vs:=by
  intro rs
  induction rs with
  | nil=>exact fun _ h=>h
  | cons r rs ih =>
   intro vs hv
   simp only [Zd3] at hv ⊢
   split at hv
   ·rename_i v h1
    rw [one _ _ h1]
    obtain⟨l,k1,k2⟩:=Option.map_eq_some_iff.1 hv
    simp only [ih _ k1]
    simp [k2]
   ·cases hv
 cases hr:Zd3 P E m rs with
 | none=>unfold Zfd at h2;rw [hr] at h2;exact h2.elim
 | some vs =>
  have e:Zfd P E' m rs=Zfd P E m rs:=by unfold Zfd;rw [lst _ _ hr,hr]
  rw [e]
  exact h2
theorem Zxk {α:Type}(H:α→Prop){T:α→Prop}{G:Prop}(main:(∀ a,H a→T a)→G)(mp:∀ a,H a→T a):G:=main mp
theorem Zbz {c:Code}{rs:List ResultVar}{A:Value→Mem→Prop}(h:W P T S nv C c k E m (QF P rs A))(hs:Z5f E E'):W P T S nv C c k E' m (QF P rs A):=by
 obtain⟨n,hn⟩:=h
 exact⟨n,Zgp (Z3a P rs A) n _ _ _ _ _ (Zpi hs) hn⟩
end
end
end Go.Sh
namespace Go.Sh
open Go.RowKit
section
variable {P:Program}{m:Mem}{ρ:Operand→Value}{o:Oper}{d:Option Tmp}{ty:TypeId}{pos:String}{af:Array Edge}{g:Option (Nat × Bool)}
end
end Go.Sh
namespace Go.Sh
open Go.RowKit
section
variable {P:Program}{m:Mem}{ρ:Operand→Value}{o:Oper}
def Z7d (a:Addr)(k z:Nat)(m:Mem):Option Nat→Option Nat→Option (Value × Mem)
 | some l,some h=>if l≤h∧h≤k∧k≤9223372036854775807∧a.spot.isNone=true then some (.slice (some { a with off:=a.off+l * z }) (h - l) (h - l+1),m) else none
 | _,_=>none
theorem Zr9 (a:Addr)(k z l h:Nat):Z7d a k z m (some l) (some h)=if l≤h∧h≤k∧k≤9223372036854775807∧a.spot.isNone=true then some (.slice (some { a with off:=a.off+l * z }) (h - l) (h - l+1),m) else none:=rfl
end
def Qu (m:Mem)(b of:Nat)(cells:List Value)(e:TypeId)(fam:Nat):Prop:=∃ pre,pre.length=of∧Own m b (pre++cells) e fam
theorem Qu.keep {m m1:Mem}{b of fam:Nat}{cells:List Value}{e:TypeId}{fs:List Nat}(h:Qu m b of cells e fam)(k:Zaa m m1 fs)(hf:fam∉fs):Qu m1 b of cells e fam:=by
 obtain⟨pre,h1,h2⟩:=h
 exact⟨pre,h1,h2.keep k hf⟩
theorem Qu.tail {m:Mem}{b of fam:Nat}{x:Value}{cells:List Value}{e:TypeId}(h:Qu m b of (x::cells) e fam):Qu m b (of+1) cells e fam:=by
 obtain⟨pre,h1,h2⟩:=h
 exact⟨pre++[x],by simp [h1],by simpa using h2⟩
theorem Qu.head {m:Mem}{b of fam:Nat}{x:Value}{cells:List Value}{e:TypeId}(h:Qu m b of (x::cells) e fam):loadRow m ⟨b,of,none⟩ 1=some [x]:=by
 obtain⟨pre,rfl,h2⟩:=h
 rw [h2.load (off:=pre.length) 1 (by simp)]
 simp [Zao]
theorem Z5t {P:Program}{m:Mem}{ty e:TypeId}{bt n fam b of:Nat}{cells:List Value}{x:Value}{r:Option (Value × Mem)}(hr:Zak P ty m (.slice (some ⟨b,of,none⟩) n n) [x] 1=r)(ht:P.underlying ty=some (.slice e))(ha:Zir P e 1 bt=true)(h64:Zmp P e=true)
  (h:Qu m b of cells e fam) (hn:n=cells.length) (h1:one x=true) (hb:(n+1) * bt≤140737488355328) (h63:n+1≤9223372036854775807) :
  ∃ m1 b' of',r=some (.slice (some ⟨b',of',none⟩) (n+1) (n+1),m1)∧Qu m1 b' of' (cells++[x]) e fam∧Zaa m m1 [fam]:=by
 subst hr
 obtain⟨pre,hp,ho⟩:=h
 unfold Zir at ha
 cases hi:P.info? e with
 | none=>rw [hi] at ha;simp at ha
 | some i =>
  rw [hi] at ha
  simp only [Option.any_some,Bool.and_eq_true,beq_iff_eq,decide_eq_true_eq] at ha
  obtain⟨⟨⟨ha1,ha2⟩,ha3⟩,ha4⟩:=ha
  have hl:(pre++cells).length=of+n:=by simp [hp,hn]
  unfold Zak
  simp only [ht,hi,ho.writable]
  rw [if_neg (by simp [ha1,ha4,h1])]
  rw [if_pos (by simp [ha2,hb,h63])]
  rw [if_neg (by simp),if_neg (by simp)]
  rw [if_neg (by rw [ha1,hl];simp)]
  by_cases h0:of=0
  ·have hp0:pre=[]:=List.length_eq_zero_iff.1 (by omega)
   subst hp0
   rw [if_pos (by rw [ha1,hl];simp [h0])]
   refine⟨_,m.next,0,rfl,⟨[],rfl,?_⟩,ho.keeps_grow _ _ (by simp)⟩
   have e1:List.take (n * i.size) ([]++cells)=cells:=by rw [ha1,hn];simp
   rw [e1]
   exact ho.grow _ _
  ·rw [if_neg (by simp [h0])]
   rw [if_pos (by rw [ha1,hl,h64];simp)]
   refine⟨_,m.next,0,rfl,⟨[],rfl,?_⟩,ho.keeps_grow _ _ (by simp)⟩
   have e1:Zao (pre++cells) of (n * i.size)=cells:=by rw [ha1,hn,← hp];simp [Zao]
   rw [e1]
   exact ho.grow _ _
end Go.Sh
namespace Go.Sh
open Go.RowKit
noncomputable instance keyDec (v:Value) (k:Int):Decidable (v=.int .i64 k):=Classical.propDecidable _
noncomputable def Z77 (k:Int):List MapEntry→Option Value
 | []=>none
 | e::r=>if e.key=.int .i64 k then some e.val else Z77 k r
def Z0w (es:List MapEntry):Prop:=∀ e∈es,∃ q:Int,e.key=.int .i64 q
section
variable {P:Program}{m:Mem}
end
def ikb (es:List MapEntry):Bool:=es.all fun e=>match e.key with | .int .i64 _=>true | _=>false
theorem Z3z {es:List MapEntry}:ikb es=true↔Z0w es:=by
 unfold ikb Z0w
 rw [List.all_eq_true]
 constructor
 ·intro h e he
  have:=h e he
  cases hk:e.key with
  | int k q=>rw [hk] at this;cases k <;> simp at this;exact⟨q,rfl⟩
  | _=>rw [hk] at this;simp at this
 ·intro h e he
  obtain⟨q,hq⟩:=h e he
  simp [hq]
noncomputable def Z99 (m:Mem)(l:Nat)(k:Int):Option (Option Value):=match m.maps.get l with
 | some s=>if ikb s.entries=true then some (Z77 k s.entries) else none
 | none=>none
structure Mp (m:Mem)(l:Nat)(g:Int→Option Value):Prop where
 ex:∃ s:Z8j,m.maps.get l=some s∧Z0w s.entries∧(s.entries.map (·.born)).Nodup∧(∀ e∈s.entries,e.born < s.clock)∧(s.entries.map (·.key)).Nodup∧∀ k,Z77 k s.entries=g k
 lt:l < m.next
structure MpB (m:Mem)(l:Nat)(g:Int→Option Value)(k:Int)(b:Nat):Prop where
 ex:∃ s:Z8j,m.maps.get l=some s∧Z0w s.entries∧(s.entries.map (·.born)).Nodup∧(∀ e∈s.entries,e.born < s.clock)∧(s.entries.map (·.key)).Nodup∧(∀ k,Z77 k s.entries=g k)∧∃ e∈s.entries,e.key=.int .i64 k∧e.born=b
 lt:l < m.next
section
variable {P:Program}{m:Mem}{l:Nat}{g:Int→Option Value}
theorem MpB.mp {k:Int}{b:Nat}(h:MpB m l g k b):Mp m l g:=by
 obtain⟨s,h1,h2,h3,h4,h5,h6,_⟩:=h.ex
 exact⟨⟨s,h1,h2,h3,h4,h5,h6⟩,h.lt⟩
theorem Mp.keep {m':Mem}{fs:List Nat}(h:Mp m l g)(k:Zaa m m' fs)(hf:l∉fs):Mp m' l g:=by
 obtain⟨s,h1,h2⟩:=h.ex
 exact⟨⟨s,by rw [k.2.2.2 l h.lt hf];exact h1,h2⟩,Nat.lt_of_lt_of_le h.lt k.1⟩
theorem MpB.keep {m':Mem}{fs:List Nat}{q:Int}{b:Nat}(h:MpB m l g q b)(k:Zaa m m' fs)(hf:l∉fs):MpB m' l g q b:=by
 obtain⟨s,h1,h2⟩:=h.ex
 exact⟨⟨s,by rw [k.2.2.2 l h.lt hf];exact h1,h2⟩,Nat.lt_of_lt_of_le h.lt k.1⟩
theorem Mp.get (h:Mp m l g)(k:Int):Z99 m l k=some (g k):=by
 obtain⟨s,h1,h2,_,_,_,h6⟩:=h.ex
 simp only [Z99,h1,Z3z.2 h2,if_true,h6]
theorem Zt5 {α:Type}(f:MapEntry→α){es:List MapEntry}{j:Nat}{e e':MapEntry}(h:es[j]?=some e)(hf:f e'=f e):(es.set j e').map f=es.map f:=by
 apply List.ext_getElem?
 intro i
 simp only [List.getElem?_map,List.getElem?_set]
 split
 ·rename_i hj
  subst hj
  have:=(List.getElem?_eq_some_iff.1 h).1
  rw [h];simp [this,hf]
 ·rfl
end
section
variable {P:Program}{H:Zbk}{m:Mem}{ρ:Operand→Value}{d:Option Tmp}{ty:TypeId}{pos:String}{af:Array Edge}{g:Option (Nat × Bool)}{o:Oper}
end
section
variable {P:Program}{H:Zbk}{m:Mem}
end
section
variable {P:Program}{H:Zbk}{m:Mem}{ρ:Operand→Value}{o:Oper}
theorem Z3i (r:Option Nat):one (.map r)=true:=rfl
theorem Zy1 (t:TypeId)(v:Value):one (.iface t v)=true:=rfl
theorem Zxx (r:Option Nat):(Value.map r).cells=#[.map r]:=rfl
theorem Z3e (r:Option Nat):eqV (.map r) (.map r)=true:=by simp [eqV]
theorem Z3p (t:TypeId)(v:Value):eqV (.iface t v) (.iface t v)=eqV v v:=by simp [eqV]
theorem Zsv (t:TypeId)(v:Value):(Value.iface t v).cells=#[.iface t v]:=rfl
end
section
variable {P:Program}{m:Mem}
def Sr (m:Mem)(ao:Option Addr)(n:Nat)(cells:List Value)(e:TypeId)(z fam:Nat):Prop:=
 n * z=cells.length∧((ao=none∧n=0)∨∃ b rest,ao=some ⟨b,0,none⟩∧Own m b (cells++rest) e fam)
theorem Sl.sr {ao:Option Addr}{n:Nat}{cells:List Value}{e z fam:Nat}(h:Sl m ao n cells e z fam):Sr m ao n cells e z fam:=
 ⟨h.1,h.2.imp id fun⟨b,h1,h2⟩=>⟨b,[],h1,by simpa using h2⟩⟩
theorem Sr.nil (m:Mem)(e z fam:Nat):Sr m none 0 [] e z fam:=(Sl.nil m e z fam).sr
theorem Sr.own {ao:Option Addr}{n:Nat}{cells:List Value}{e z fam:Nat}(h:Sr m ao n cells e z fam)(hn:n≠0):∃ b rest,ao=some ⟨b,0,none⟩∧Own m b (cells++rest) e fam:=by
 rcases h.2 with⟨_,h0⟩ | h
 ·exact absurd h0 hn
 ·exact h
theorem Sr.flt {ao:Option Addr}{n:Nat}{cells:List Value}{e z fam:Nat}(h:Sr m ao n cells e z fam)(hn:ao≠none):fam < m.next:=by
 rcases h.2 with⟨h0,_⟩ | ⟨b,r,_,o⟩
 ·exact absurd h0 hn
 ·exact o.flt
theorem Sr.keep {m':Mem}{ao:Option Addr}{n:Nat}{cells:List Value}{e z fam:Nat}{fs:List Nat}(h:Sr m ao n cells e z fam)(k:Zaa m m' fs)(hf:ao≠none→fam∉fs):Sr m' ao n cells e z fam:=by
 refine⟨h.1,?_⟩
 rcases h.2 with h | ⟨b,r,h1,h2⟩
 ·exact Or.inl h
 ·exact Or.inr ⟨b,r,h1,h2.keep k (hf (by rw [h1];simp))⟩
theorem Sr.cut {ao:Option Addr}{n k:Nat}{cells more:List Value}{e z fam:Nat}(h:Sr m ao n (cells++more) e z fam)(hk:k * z=cells.length)(hn:ao=none→k=0):Sr m ao k cells e z fam:=by
 refine⟨hk,?_⟩
 rcases h.2 with⟨h1,h2⟩ | ⟨b,r,h1,h2⟩
 ·exact Or.inl ⟨h1,hn h1⟩
 ·exact Or.inr ⟨b,more++r,h1,by simpa using h2⟩
theorem Zru {ty e:TypeId}{z bt wb wf n k:Nat}{cells rest news:List Value}(ht:P.underlying ty=some (.slice e))(ha:Zir P e z bt=true)(h:Own m wb (cells++rest) e wf)(hn:n * z=cells.length)(hk:k≠0)(hnews:news.length=k * z)(h1:news.all one=true)
  (hb:(n+k) * bt≤140737488355328) (h63:n+k≤9223372036854775807) :
  Zak P ty m (.slice (some ⟨wb,0,none⟩) n n) news k=if news.length≤rest.length then some (.slice (some ⟨wb,0,none⟩) (n+k) (n+k),m.put wb ⟨cells++rest,e,wf⟩ (Zbx (cells++rest) (n * z) news))
   else some (.slice (some ⟨m.next,0,none⟩) (n+k) (n+k),m.grow ⟨cells++rest,e,wf⟩ (cells++news) (n * z == (cells++rest).length)):=by
 unfold Zir at ha
 cases hi:P.info? e with
 | none=>rw [hi] at ha;simp at ha
 | some i =>
  rw [hi] at ha
  simp only [Option.any_some,Bool.and_eq_true,beq_iff_eq,decide_eq_true_eq] at ha
  obtain⟨⟨⟨h2,h3⟩,h4⟩,h5⟩:=ha
  subst h2 h3
  have hz:(0 < i.size && i.zero.any (fun z=>z.cells.size == i.size) && news.length == k * i.size && news.all one)=true:=by simp [h4,h5,hnews];simpa using h1
  unfold Zak
  have hk0:(k == 0)=false:=by simpa using hk
  have hcond:(n == n && (none:Option (Nat ⊕ Nat)).isNone && decide ((n+k) * i.bytes≤140737488355328) && decide (n+k≤9223372036854775807))=true:=by simp [hb,h63]
  have hl:n * i.size≤(cells++rest).length:=by rw [hn];simp
  have ht2:List.take (n * i.size) (cells++rest)=cells:=by rw [hn];simp
  simp only [ht,hi,hz,Bool.not_true,Bool.false_eq_true,if_false,h.writable,bne_self_eq_false,hk0,Nat.zero_add]
  by_cases hr:news.length≤rest.length
  ·rw [if_pos hr,if_pos (by simp [hb,h63]),if_pos (by rw [hn,List.length_append];omega)]
  ·rw [if_neg hr,if_pos (by simp [hb,h63]),if_neg (by rw [hn,List.length_append];omega),if_pos (by rw [List.length_append] at hl;simp;omega),ht2]
theorem Zxp {cells rest news:List Value}(h:news.length≤rest.length):Zbx (cells++rest) cells.length news=cells++news++rest.drop news.length:=by
 simp [Zbx,List.drop_append,List.drop_of_length_le]
theorem Z7l {ty e:TypeId}{z bt n k fam:Nat}{ao:Option Addr}{cells news:List Value}{r:Option (Value × Mem)}(hr:Zak P ty m (.slice ao n n) news k=r)(ht:P.underlying ty=some (.slice e))(ha:Zir P e z bt=true)
  (h:Sr m ao n cells e z fam) (hk:k≠0) (hnews:news.length=k * z) (h1:news.all one=true) (hb:(n+k) * bt≤140737488355328) (h63:n+k≤9223372036854775807) :
  ∃ m1 ao' fam',r=some (.slice ao' (n+k) (n+k),m1)∧Sr m1 ao' (n+k) (cells++news) e z fam'∧Zaa m m1 (if ao=none then [] else [fam])∧((ao≠none∧fam'=fam)∨m.next≤fam')∧ao'≠none∧(ao≠none→fam'=fam):=by
 subst hr
 have hlen:(n+k) * z=(cells++news).length:=by rw [List.length_append,Nat.add_mul,h.1,hnews]
 rcases h.2 with⟨rfl,rfl⟩ | ⟨b,rest,rfl,ho⟩
 ·have hc:cells=[]:=List.length_eq_zero_iff.1 (by rw [← h.1];simp)
  subst hc
  have:=Zi7 (m:=m) ht ha hk hnews h1 (by simpa using hb) (by omega)
  exact⟨m.new news e,some ⟨m.next,0,none⟩,m.next,by simpa using this,⟨hlen,Or.inr ⟨m.next,[],rfl,by simpa using Own.new m news e⟩⟩,Za4 _ _ _ _,Or.inr (Nat.le_refl _),by simp,fun h=>absurd rfl h⟩
 ·have hs:=Zru ht ha ho h.1 hk hnews h1 hb h63
  rw [hs]
  by_cases hr:news.length≤rest.length
  ·rw [if_pos hr,h.1]
   exact⟨_,some ⟨b,0,none⟩,fam,rfl,⟨hlen,Or.inr ⟨b,rest.drop news.length,rfl,by rw [Zxp hr];exact ho.put _⟩⟩,by simpa using ho.keeps_put _ (by simp),Or.inl ⟨by simp,rfl⟩,by simp,fun _=>rfl⟩
  ·rw [if_neg hr]
   exact⟨_,some ⟨m.next,0,none⟩,fam,rfl,⟨hlen,Or.inr ⟨m.next,[],rfl,by simpa using ho.grow _ _⟩⟩,by simpa using ho.keeps_grow _ _ (by simp),Or.inl ⟨by simp,rfl⟩,by simp,fun _=>rfl⟩
theorem Zkh {ty e e0:TypeId}{z bt n k fam:Nat}{ao:Option Addr}{cells news cs:List Value}{r:Option (Value × Mem)}(hr:Zak P ty (m.new cs e0) (.slice ao n n) news k=r)(ht:P.underlying ty=some (.slice e))(ha:Zir P e z bt=true)
  (h:Sr m ao n cells e z fam) (hk:k≠0) (hnews:news.length=k * z) (h1:news.all one=true) (hb:(n+k) * bt≤140737488355328) (h63:n+k≤9223372036854775807) :
  ∃ m1 ao' fam',r=some (.slice ao' (n+k) (n+k),m1)∧Sr m1 ao' (n+k) (cells++news) e z fam'∧Zaa m m1 (if ao=none then [] else [fam])∧((ao≠none∧fam'=fam)∨m.next≤fam')∧ao'≠none∧(ao≠none→fam'=fam):=by
 obtain⟨m1,ao',fam',g1,g2,g3,g4,g5,g6⟩:=Z7l hr ht ha (h.keep (Za4 m cs e0 []) (by simp)) hk hnews h1 hb h63
 exact⟨m1,ao',fam',g1,g2,(Za4 m cs e0 _).trans g3,g4.imp id (fun h=>by simp [Mem.new] at h;omega),g5,g6⟩
end
end Go.Sh
namespace Go.Sh
set_option linter.unnecessarySimpa false
variable {P:Program}{m:Mem}{H:Zbk}{ρ:Operand→Value}{o:Oper}{d:Option Tmp}{ty:TypeId}{pos:String}{af:Array Edge}{g:Option (Nat × Bool)}
def upF (m:Mem)(a:Addr):Option (Value × Mem):=match m.writable a.block with
 | some b=>if a.off < b.cells.length then some (.pointer (some a),m) else none
 | none=>none
theorem Own.upF {l off fam:Nat}{cells:List Value}{e:TypeId}(h:Own m l cells e fam)(hk:off < cells.length):Sh.upF m ⟨l,off,none⟩=some (.pointer (some ⟨l,off,none⟩),m):=by
 simp [Sh.upF,h.writable,hk]
theorem Zsg (x:Operand)(ts:Array TypeId):sop P H ρ ⟨d,.call { callee:=.builtin .unsafeSliceData,args:=#[x],argTypes:=ts },ty,pos,af,g⟩ m=match ρ x with
  | .slice none 0 0=>some (.pointer none,m)
  | .slice (some a) n _=>if n=0 then none else some (.pointer (some a),m)
  | _=>none:=by
 cases hx:ρ x with
 | slice a n c =>
  cases a with
  | none=>cases n <;> cases c <;> simp only [sop,Zdi,Zej,hx]
  | some a=>simp only [sop,Zdi,Zej,hx,beq_iff_eq]
 | _=>simp only [sop,Zdi,Zej,hx]
def unsF (P:Program)(e:TypeId)(m:Mem)(a:Addr)(k:Int):Option (Value × Mem):=match m.writable a.block with
 | some b=>if !Zmp P e && 0 < k && k≤9223372036854775807 && a.off == 0 && b.elem == e && P.cellsOf e == 1 && k.toNat≤b.cells.length then
   match bytesOf (Zao b.cells 0 k.toNat) with
   | some s=>some (.string ⟨s.toArray⟩,m.frz b)
   | none=>none
  else none
 | none=>none
theorem Znc (p n:Operand)(tp ti:TypeId):sop P H ρ ⟨d,.call { callee:=.builtin .unsafeString,args:=#[p,n],argTypes:=#[tp,ti] },ty,pos,af,g⟩ m=Zep P ρ #[p,n] #[tp,ti] m:=rfl
def Z91 (P:Program)(e:TypeId)(m:Mem)(v w:Value):Option (Value × Mem):=match v,w with
 | .pointer none,.int .i64 0=>some (.string ⟨#[]⟩,m)
 | .pointer (some a),.int .i64 k=>unsF P e m a k
 | _,_=>none
theorem Zwp (e:TypeId):Z91 P e m (.pointer none) (.int .i64 0)=some (.string ⟨#[]⟩,m):=rfl
theorem Zwj (e:TypeId)(a:Addr)(k:Int):Z91 P e m (.pointer (some a)) (.int .i64 k)=unsF P e m a k:=rfl
theorem Own.unsF {l fam:Nat}{s:List UInt8}{e:TypeId}(h:Own m l (s.map fun b=>Value.int .u8 b.toNat) e fam)(hc:P.cellsOf e=1)(h0:s≠[])(h63:s.length≤9223372036854775807){k:Int}(hk:k=s.length)(hi:Zmp P e=false:=by kernel_rfl) :
  Sh.unsF P e m ⟨l,0,none⟩ k=some (.string ⟨s.toArray⟩,m.frz ⟨s.map fun b=>Value.int .u8 b.toNat,e,fam⟩):=by
 have hl:0 < s.length:=List.length_pos_iff.2 h0
 subst hk
 have hw:Zao (s.map fun b=>Value.int .u8 b.toNat) 0 s.length=s.map fun b=>Value.int .u8 b.toNat:=by unfold Zao;rw [List.drop_zero];exact List.take_of_length_le (by simp)
 have h1:(0:Int) < (s.length:Int):=by omega
 have h2:(s.length:Int)≤9223372036854775807:=by omega
 simp [Sh.unsF,h.writable,hc,h1,h2,hw,Zmw,h0,hi]
end Go.Sh
namespace Go.Sh
def rgs:Code→List Code
 | .region i o d=>[.region i o d]
 | .seq a b=>rgs a++rgs b
 | .cond _ a b=>rgs a++rgs b
 | .block _ b=>rgs b
 | .loop b=>rgs b
 | _=>[]
def Znk:Code→List Code
 | .region _ _ _=>[]
 | .seq a b=>Znk a++Znk b
 | .cond _ a b=>Znk a++Znk b
 | .block _ b=>Znk b
 | .loop b=>Znk b
 | .skip=>[]
 | .ret=>[]
 | .exit _=>[]
 | c=>[c]
def nR:Code→Nat
 | .region _ _ _=>1
 | .seq a b=>nR a+nR b
 | .cond _ a b=>nR a+nR b
 | .block _ b=>nR b
 | .loop b=>nR b
 | _=>0
def nO:Code→Nat
 | .region _ _ _=>0
 | .seq a b=>nO a+nO b
 | .cond _ a b=>nO a+nO b
 | .block _ b=>nO b
 | .loop b=>nO b
 | .skip=>0
 | .ret=>0
 | .exit _=>0
 | _=>1
def Zbj (T:FuncId→Option Func)(f:FuncId):Code:=match T f with
 | some fn=>Zll fn
 | none=>.skip
def rgn (T:FuncId→Option Func)(f k:Nat):Code:=(rgs (Zbj T f)).getD k .skip
def oth (T:FuncId→Option Func)(f k:Nat):Code:=(Znk (Zbj T f)).getD k .skip
def skl (T:FuncId→Option Func)(f:FuncId):Code→Nat→Nat→Code
 | .region _ _ _,i,_=>rgn T f i
 | .seq a b,i,j=>.seq (skl T f a i j) (skl T f b (i+nR a) (j+nO a))
 | .cond x a b,i,j=>.cond x (skl T f a i j) (skl T f b (i+nR a) (j+nO a))
 | .block n b,i,j=>.block n (skl T f b i j)
 | .loop b,i,j=>.loop (skl T f b i j)
 | .skip,_,_=>.skip
 | .ret,_,_=>.ret
 | .exit n,_,_=>.exit n
 | _,_,j=>oth T f j
theorem Z2h:∀ c:Code,nR c=(rgs c).length:=by
 intro c
 induction c with
 | seq a b ha hb=>simp only [nR,rgs,List.length_append,ha,hb]
 | cond x a b ha hb=>simp only [nR,rgs,List.length_append,ha,hb]
 | block n b hb=>simp only [nR,rgs,hb]
 | loop b hb=>simp only [nR,rgs,hb]
 | _=>rfl
theorem Z2d:∀ c:Code,nO c=(Znk c).length:=by
 intro c
 induction c with
 | seq a b ha hb=>simp only [nO,Znk,List.length_append,ha,hb]
 | cond x a b ha hb=>simp only [nO,Znk,List.length_append,ha,hb]
 | block n b hb=>simp only [nO,Znk,hb]
 | loop b hb=>simp only [nO,Znk,hb]
 | _=>rfl
theorem Zul {a b c:List Code}{d:Code}{i:Nat}(x:Code)(h:a++x::b=c)(hi:a.length=i):c.getD i d=x:=by
 subst h;subst hi
 simp [List.getD]
theorem Z70 {T:FuncId→Option Func}{f:FuncId}:∀ (c:Code) (i j:Nat) (a b x y:List Code),rgs (Zbj T f)=a++rgs c++b→a.length=i→Znk (Zbj T f)=x++Znk c++y→x.length=j→skl T f c i j=c:=by
 intro c
 induction c with
 | region n o d=>intro i j a b x y h1 h2 h3 h4;exact Zul _ (by simpa [rgs] using h1.symm) h2
 | seq p q hp hq =>
  intro i j a b x y h1 h2 h3 h4
  simp only [rgs,Znk] at h1 h3
  rw [skl,hp i j a (rgs q++b) x (Znk q++y) (by simpa using h1) h2 (by simpa using h3) h4,
   hq _ _ (a++rgs p) b (x++Znk p) y (by simpa using h1) (by rw [List.length_append,Z2h,h2]) (by simpa using h3) (by rw [List.length_append,Z2d,h4])]
 | cond z p q hp hq =>
  intro i j a b x y h1 h2 h3 h4
  simp only [rgs,Znk] at h1 h3
  rw [skl,hp i j a (rgs q++b) x (Znk q++y) (by simpa using h1) h2 (by simpa using h3) h4,
   hq _ _ (a++rgs p) b (x++Znk p) y (by simpa using h1) (by rw [List.length_append,Z2h,h2]) (by simpa using h3) (by rw [List.length_append,Z2d,h4])]
 | block n p hp=>intro i j a b x y h1 h2 h3 h4;rw [skl,hp i j a b x y h1 h2 h3 h4]
 | loop p hp=>intro i j a b x y h1 h2 h3 h4;rw [skl,hp i j a b x y h1 h2 h3 h4]
 | skip=>intros;rfl
 | ret=>intros;rfl
 | exit n=>intros;rfl
 | _=>intro i j a b x y h1 h2 h3 h4;exact Zul _ (by simpa [Znk] using h3.symm) h4
theorem Zb5 {T:FuncId→Option Func}{f:FuncId}(fn:Func)(hT:T f=some fn){c:Code}(h:skl T f (Zll fn) 0 0=c):Zbj T f=c:=by
 have e:Zbj T f=Zll fn:=by unfold Zbj;rw [hT]
 rw [← h,e]
 exact (Z70 _ 0 0 [] [] [] [] (by simp [e]) rfl (by simp [e]) rfl).symm
theorem Zff {T:FuncId→Option Func}{f:FuncId}(fn:Func)(hT:T f=some fn)(hb:fn.body.isSome=true){rs:List ResultVar}(hr:fn.results.toList=rs){n:Nat}(hn:decide (n≤fn.ntmps)=true):Ze0 T f (Zbj T f) rs n:=by
 refine⟨fn,hT,?_,hr,of_decide_eq_true hn⟩
 unfold Zbj
 rw [hT]
 unfold Zll
 cases h:fn.body with
 | none=>rw [h] at hb;exact Bool.noConfusion hb
 | some c=>simp only [h]
inductive Dat where
 | p (k:Nat) (ups cs nd:List Nat)
 | d (k:Nat) (ups cs nd:List Nat) (pl:List (Nat × List Nat)) (ord:List Nat)
def Zrr (ops:List Oper):List Nat→List Oper
 | []=>ops
 | i::r=>List.filterMap (fun k=>(ops[k]?).map (Zis (i::r))) (i::r)
def Z79 (rs:List Code):Dat→List (Option Nat) × List Oper
 | .p k _ _ _=>((Zk0 (rs.getD k .skip)).map (·.dst),(Zk0 (rs.getD k .skip)).map Zkf)
 | .d k _ _ _ _ o=>((Zrr (Zk0 (rs.getD k .skip)) o).map (·.dst),(Zrr (Zk0 (rs.getD k .skip)) o).map Zkf)
def Z00 (P:Program)(nv:Nat)(C:List Nat)(rs:List Code):Dat→Bool
 | .p k ups cs nd=>Zon P nv C (rs.getD k .skip) ups cs nd ((Zk0 (rs.getD k .skip)).map (·.dst))
 | .d k ups cs nd pl o=>(if (Zk0 (rs.getD k .skip)).any Zb8 then Zgo (Zk0 (rs.getD k .skip)) == o && !o.isEmpty else o == []) && Zur P nv C (rs.getD k .skip) ups cs nd ((Zrr (Zk0 (rs.getD k .skip)) o).map (·.dst)) pl
section
variable (P:Program)(T:FuncId→Option Func)(f:FuncId)(nv:Nat)(C:List Nat)
def Wx (x:List (Option Nat) × List Oper):Dat→Prop
 | .p i ups cs nd=>∀ {S:Zb4} {m:Mem} {k:List Fr} {E:Zb} {Q:Zsl},W P T S nv C (rgn T f i) k E m Q↔Rg P T S nv C ups cs (lgo E nd (Zlu P (Zaq P T S) x.1 x.2 E m)) k E Q
 | .d i ups cs nd pl _=>∀ {S:Zb4} {m:Mem} {k:List Fr} {E:Zb} {Q:Zsl},W P T S nv C (rgn T f i) k E m Q↔Rg P T S nv C ups cs (lgo E nd (Zrt P (Zaq P T S) x.1 x.2 pl (Zbp P (Zaq P T S) x.1 x.2 E m))) k E Q
def Ws:List Dat→List (List (Option Nat) × List Oper)→Prop
 | [a],[x]=>Wx P T f nv C x a
 | a::r,x::s=>Wx P T f nv C x a∧Ws r s
 | _,_=>True
end
theorem Zxa {ops:List Oper}{o:List Nat}(h:(if ops.any Zb8 then Zgo ops == o && !o.isEmpty else o == [])=true):Zaw ops=Zrr ops o:=by
 unfold Zaw
 split at h
 ·next hb =>
  rw [if_pos hb]
  simp only [Bool.and_eq_true,beq_iff_eq] at h
  obtain⟨h1,h2⟩:=h
  subst h1
  cases hc:Zgo ops with
  | nil=>rw [hc] at h2;exact Bool.noConfusion h2
  | cons i r=>rfl
 ·next hb =>
  rw [if_neg hb]
  simp only [beq_iff_eq] at h
  subst h
  rfl
theorem Z51 {P:Program}{T:FuncId→Option Func}{f:FuncId}{nv:Nat}{C:List Nat}:∀ (a:Dat),Z00 P nv C (rgs (Zbj T f)) a=true→Wx P T f nv C (Z79 (rgs (Zbj T f)) a) a
 | .p i ups cs nd,h=>by
  exact Z22 h rfl
 | .d i ups cs nd pl o,h=>by
  simp only [Z00,Bool.and_eq_true] at h
  exact Z7n h.2 (congrArg (List.map Zkf) (Zxa h.1))
theorem Z5y {P:Program}{T:FuncId→Option Func}{f:FuncId}{nv:Nat}{C:List Nat}:∀ (l:List Dat),(l.all fun a=>Z00 P nv C (rgs (Zbj T f)) a)=true→Ws P T f nv C l (l.map (Z79 (rgs (Zbj T f))))
 | [],_=>trivial
 | [a],h=>Z51 a (by simpa using h)
 | a::b::r,h=>by
  rw [List.all_cons,Bool.and_eq_true] at h
  exact⟨Z51 a h.1,Z5y (b::r) h.2⟩
theorem Zam (P:Program){T:FuncId→Option Func}{f:FuncId}(fn:Func)(hT:T f=some fn)(nv:Nat)(C:List Nat)(l:List Dat)(h:(l.all fun a=>Z00 P nv C (rgs (Zll fn)) a)=true){xs:List (List (Option Nat) × List Oper)}(hx:l.map (Z79 (rgs (Zll fn)))=xs){A:Prop}(hA:Ws P T f nv C l xs=A):A:=by
 have e:Zbj T f=Zll fn:=by unfold Zbj;rw [hT]
 rw [← e] at h hx
 subst hx
 rw [← hA]
 exact Z5y l h
set_option linter.defProp false
def Zca {P:Program}{t:TypeId}{zero:List Value}(h:Zfn P t zero=true):=fun (ρ:Operand→Value) (o:Oper) (m:Mem)=>Z0i (ρ:=ρ) (o:=o) (m:=m) h
def Zaf {P:Program}{s:TypeId}{f off:Nat}(h:Zil P s f off=true):=fun (ρ:Operand→Value) (o:Oper) (m:Mem) (x:Operand)=>Zqx (ρ:=ρ) (o:=o) (m:=m) h x
def Zb0 {P:Program}{t e:TypeId}{z:Nat}(ht:P.underlying t=some (.slice e))(hz:Zaj P e=some z):=fun (ρ:Operand→Value) (o:Oper) (m:Mem) (x y:Operand)=>Zs8 (ρ:=ρ) (o:=o) (m:=m) ht hz x y
def Zc4 {P:Program}{t e:TypeId}(h:P.underlying t=some (.slice e)):=fun (ρ:Operand→Value) (m:Mem) (x:Operand)=>Zw4 (ρ:=ρ) (m:=m) h x
def Zfe {P:Program}{t:TypeId}{z:Nat}(h:Zy P t z=true):=fun (ρ:Operand→Value) (o:Oper) (m:Mem) (x:Operand)=>Z1l (ρ:=ρ) (o:=o) (m:=m) h x
def Zce {P:Program}{t:TypeId}(h:Zrx P t=true):=fun (ρ:Operand→Value) (o:Oper) (m:Mem) (x:Operand)=>Z3w (ρ:=ρ) (o:=o) (m:=m) h x
def Zbm {P:Program}{t:TypeId}{z:Nat}(h:Zaj P t=some z):=fun (ρ:Operand→Value) (o:Oper) (m:Mem) (x y:Operand)=>Z0c (ρ:=ρ) (o:=o) (m:=m) h x y
end Go.Sh
