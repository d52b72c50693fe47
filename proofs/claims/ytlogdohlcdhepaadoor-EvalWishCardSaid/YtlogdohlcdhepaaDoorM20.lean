/- This text proves what ssa.Name answers, and that ssa.Check answers at any unit, over the abstract run. Condition: of the calls nothing is known ahead but ssa.Name's at the ops ('nmL'). -/
import Derived.Test.YtlogdohlcdhepaaDoorM13
import Derived.Test.YtlogdohlcdhepaaDoorM19
set_option linter.unusedVariables false
set_option linter.unusedSimpArgs false
section
set_option maxRecDepth 100000
namespace Go.Proofs.YtlogdohlcdhepaaDoor.base
open Go.Sh gen
variable {S:Sums}{m:Mem}
def nameF (op:Int):List UInt8:=if 1≤op∧op≤23 then opsL.getD op.toNat [] else []
theorem nameF_ne (op:Int):(nameF op=[])↔¬ (1≤op∧op≤23):=by
  rcases op_cases op with (rfl | rfl | rfl | rfl | rfl | rfl | rfl | rfl | rfl | rfl | rfl | rfl | rfl | rfl | rfl | rfl | rfl | rfl | rfl | rfl | rfl | rfl | rfl | hno)
  all_goals first
    | (simp [nameF,opsL];done)
    | (unfold nameF;rw [if_neg (by omega)];simp;omega)
theorem name_run (hS:S 66=nmL)(op:Int):callw Tryd.prog TT S 66 [.int .i64 op] m=some (.string ⟨(nameF op).toArray⟩,m):=by
  rcases op_cases op with (rfl | rfl | rfl | rfl | rfl | rfl | rfl | rfl | rfl | rfl | rfl | rfl | rfl | rfl | rfl | rfl | rfl | rfl | rfl | rfl | rfl | rfl | rfl | hno)
  · exact sum_at (p:=([.int .i64 1],.string ⟨(nameF 1).toArray⟩)) (by rw [hS];rfl)
  · exact sum_at (p:=([.int .i64 2],.string ⟨(nameF 2).toArray⟩)) (by rw [hS];rfl)
  · exact sum_at (p:=([.int .i64 3],.string ⟨(nameF 3).toArray⟩)) (by rw [hS];rfl)
  · exact sum_at (p:=([.int .i64 4],.string ⟨(nameF 4).toArray⟩)) (by rw [hS];rfl)
  · exact sum_at (p:=([.int .i64 5],.string ⟨(nameF 5).toArray⟩)) (by rw [hS];rfl)
  · exact sum_at (p:=([.int .i64 6],.string ⟨(nameF 6).toArray⟩)) (by rw [hS];rfl)
  · exact sum_at (p:=([.int .i64 7],.string ⟨(nameF 7).toArray⟩)) (by rw [hS];rfl)
  · exact sum_at (p:=([.int .i64 8],.string ⟨(nameF 8).toArray⟩)) (by rw [hS];rfl)
  · exact sum_at (p:=([.int .i64 9],.string ⟨(nameF 9).toArray⟩)) (by rw [hS];rfl)
  · exact sum_at (p:=([.int .i64 10],.string ⟨(nameF 10).toArray⟩)) (by rw [hS];rfl)
  · exact sum_at (p:=([.int .i64 11],.string ⟨(nameF 11).toArray⟩)) (by rw [hS];rfl)
  · exact sum_at (p:=([.int .i64 12],.string ⟨(nameF 12).toArray⟩)) (by rw [hS];rfl)
  · exact sum_at (p:=([.int .i64 13],.string ⟨(nameF 13).toArray⟩)) (by rw [hS];rfl)
  · exact sum_at (p:=([.int .i64 14],.string ⟨(nameF 14).toArray⟩)) (by rw [hS];rfl)
  · exact sum_at (p:=([.int .i64 15],.string ⟨(nameF 15).toArray⟩)) (by rw [hS];rfl)
  · exact sum_at (p:=([.int .i64 16],.string ⟨(nameF 16).toArray⟩)) (by rw [hS];rfl)
  · exact sum_at (p:=([.int .i64 17],.string ⟨(nameF 17).toArray⟩)) (by rw [hS];rfl)
  · exact sum_at (p:=([.int .i64 18],.string ⟨(nameF 18).toArray⟩)) (by rw [hS];rfl)
  · exact sum_at (p:=([.int .i64 19],.string ⟨(nameF 19).toArray⟩)) (by rw [hS];rfl)
  · exact sum_at (p:=([.int .i64 20],.string ⟨(nameF 20).toArray⟩)) (by rw [hS];rfl)
  · exact sum_at (p:=([.int .i64 21],.string ⟨(nameF 21).toArray⟩)) (by rw [hS];rfl)
  · exact sum_at (p:=([.int .i64 22],.string ⟨(nameF 22).toArray⟩)) (by rw [hS];rfl)
  · exact sum_at (p:=([.int .i64 23],.string ⟨(nameF 23).toArray⟩)) (by rw [hS];rfl)
  · have hf:(S 66).find? (fun p=>eqL p.1 [Value.int .i64 op])=none:=by
      rw [hS,List.find?_eq_none]
      intro p hp
      simp only [nmL,List.mem_cons,List.not_mem_nil,or_false] at hp
      rcases hp with rfl | rfl | rfl | rfl | rfl | rfl | rfl | rfl | rfl | rfl | rfl | rfl | rfl | rfl | rfl | rfl | rfl | rfl | rfl | rfl | rfl | rfl | rfl
      all_goals (simp [eqL,eqV];omega)
    have e0:nameF op=[]:=by unfold nameF;rw [if_neg (by omega)]
    rw [e0]
    refine fn_eq2 3 [8] k66 hf rfl ?_
    rcases hno with h | h
    · simp [h]
    · have h1:¬ op < 1:=by omega
      simp [h,h1]
theorem nmOk_of (hS:S 66=nmL):NmOk S:=by
  intro m op
  refine⟨nameF op,name_run hS op,?_⟩
  rw [nameF_ne]
  unfold isOp
  rw [Bool.and_eq_false_iff,decide_eq_false_iff_not,decide_eq_false_iff_not]
  omega
structure Nz (S:Sums):Prop where
  name:S 66=nmL
  e:∀ f,f≠66→f≠12→S f=[]
theorem nz:Nz sums:=⟨rfl,fun f h1 h2=>by simp [sums,sums0,h1,h2]⟩
theorem Nz.nk (h:Nz S):Nk S:=
  ⟨h.e _ (by decide) (by decide),h.e _ (by decide) (by decide),h.e _ (by decide) (by decide),h.e _ (by decide) (by decide),h.e _ (by decide) (by decide),h.e _ (by decide) (by decide),
    ⟨nmOk_of h.name,h.e _ (by decide) (by decide),h.e _ (by decide) (by decide),h.e _ (by decide) (by decide),h.e _ (by decide) (by decide),h.e _ (by decide) (by decide),h.e _ (by decide) (by decide),h.e _ (by decide) (by decide),h.e _ (by decide) (by decide),h.e _ (by decide) (by decide)⟩,
    ⟨h.e _ (by decide) (by decide),h.e _ (by decide) (by decide),h.e _ (by decide) (by decide),h.e _ (by decide) (by decide)⟩,
    ⟨h.e _ (by decide) (by decide),h.e _ (by decide) (by decide),h.e _ (by decide) (by decide),h.e _ (by decide) (by decide),h.e _ (by decide) (by decide),h.e _ (by decide) (by decide)⟩,
    ⟨h.e _ (by decide) (by decide),h.e _ (by decide) (by decide),h.e _ (by decide) (by decide),h.e _ (by decide) (by decide),h.e _ (by decide) (by decide),h.e _ (by decide) (by decide),h.e _ (by decide) (by decide)⟩⟩
theorem preF_some {u:UnT.D}{s:StS}(h:preF u=some s):sizeB u=true∧stAll u=true∧standF u=some s∧vlAll u s.1=true∧enAll u=true∧ldAll u=true:=by
  unfold preF at h
  split at h
  · rename_i h1
    rw [Bool.and_eq_true] at h1
    obtain⟨h2,h3⟩:=Option.filter_eq_some_iff.1 h
    rw [Bool.and_eq_true,Bool.and_eq_true] at h3
    exact⟨h1.1,h1.2,h2,h3.1.1,h3.1.2,h3.2⟩
  · cases h
theorem check_any (hN:Nk S){u:UnT.D}(hz:SizeOk u)(hzv:nv u≤20000000000000)(hzb:nb u≤20000000000000)(hzs:ns u≤20000000000000) :
    ∃ O I,(∀ s,preF u=some s→TermH u O I)∧∀ (m:Mem) {Q:Nat→Prop} {vo bo so:Option Addr},UAt Q m u vo bo so→(∀ f,Q f→f < m.next)→
      ∃ m1,callw Tryd.prog TT S 22 [.agg (uCells u vo bo so).toArray] m=some (.bool (checkP u O I),m1)∧Keeps m m1 []:=by
  have key:∃ O I,∀ s,preF u=some s→TermH u O I:=by
    cases hp:preF u with
    | none=>exact⟨[],[],fun s h=>by cases h⟩
    | some s =>
      obtain⟨h1,_,_,_,h5,_⟩:=preF_some hp
      obtain⟨O,I,hT,_⟩:=term_ex (nxOk_of h5) (sizeB_pos h1)
      exact⟨O,I,fun _ _=>hT⟩
  obtain⟨O,I,hT⟩:=key
  refine⟨O,I,hT,fun m Q vo bo so hU hQ=>?_⟩
  obtain⟨_,m1,c1,rfl,k1⟩:=check_run hN hU hQ hz hzv hzb hzs hT
  exact⟨m1,c1,k1⟩
end Go.Proofs.YtlogdohlcdhepaaDoor.base
end
section
set_option maxRecDepth 100000
namespace Go.Proofs.YtlogdohlcdhepaaDoor.base
open Go.Sh gen
variable {S:Sums}{m:Mem}{Q:Nat→Prop}
theorem IntsAt.atQ {ao:Option Addr}{l:List Int}(h:IntsAt Q m ao l):AtQ Q m (Ty.slice 3 (Ty.int .i64)) l [.slice ao l.length l.length]:=by
  obtain⟨f,h1,h2⟩:=h
  refine⟨ao,l.map fun n=>[Value.int .i64 n],f,rfl,by simp,fun i d c hd hc=>?_,?_,h2⟩
  · rw [List.getElem?_map,hd] at hc
    simp only [Option.map_some,Option.some.injEq] at hc
    exact hc.symm
  · rw [← List.flatMap_def,← List.map_eq_flatMap]
    exact h1
theorem words_cells {l:List Int}{e:TypeId}{css:List (List Value)}(h2:css.length=l.length)(h3:∀ (i:Nat) (d:(Ty.int .u64).D) c,l[i]?=some d→css[i]?=some c→At m (Ty.int .u64) d c):css.flatten=words l:=by
  have:css=l.map fun n=>[Value.int .u64 n]:=by
    apply List.ext_getElem?
    intro i
    by_cases hi:i < l.length
    · have hc:i < css.length:=by omega
      have:=h3 i l[i] css[i] (List.getElem?_eq_getElem hi) (List.getElem?_eq_getElem hc)
      simp only [At] at this
      simp [hi,hc,this]
    · rw [List.getElem?_eq_none (by omega),List.getElem?_eq_none (by simp;omega)]
  rw [this,← List.flatMap_def]
  exact List.map_eq_flatMap.symm
theorem words_of {l:List Int}{c:List Value}(h:AtQ Q m (Ty.slice 45 (Ty.int .u64)) l c):∃ ao f,c=[.slice ao l.length l.length]∧Rs m ao l.length (words l) 45 1 f:=by
  obtain⟨ao,css,fam,h1,h2,h3,h4,h5⟩:=h
  have:=words_cells (e:=45) h2 (fun i d c h6 h7=>(h3 i d c h6 h7).at_)
  rw [this] at h4
  exact⟨ao,fam,h1,h4⟩
theorem aframe_at {fs:List AFrT.D}{fo:Option Addr}(h:AtQ Q m (Ty.slice 44 (Ty.pair (Ty.int .i64) (Ty.pair (Ty.int .i64) (Ty.pair (Ty.slice 45 (Ty.int .u64)) (Ty.pair (Ty.slice 45 (Ty.int .u64)) Ty.unit))))) fs [.slice fo fs.length fs.length]){i:Nat}(hi:i < fs.length) :
    ∃ (b:Nat) (lo so:Option Addr) (f1 f2:Nat),fo=some ⟨b,0,none⟩∧loadRow m ⟨b,i * 4,none⟩ 4=some [.int .i64 (fs[i]).1,.int .i64 (fs[i]).2.1,.slice lo (fs[i]).2.2.1.length (fs[i]).2.2.1.length,.slice so (fs[i]).2.2.2.1.length (fs[i]).2.2.2.1.length]∧
      Rs m lo (fs[i]).2.2.1.length (words (show List Int from (fs[i]).2.2.1)) 45 1 f1∧Rs m so (fs[i]).2.2.2.1.length (words (show List Int from (fs[i]).2.2.2.1)) 45 1 f2:=by
  obtain⟨vb,c,fam,e,hc,hl,hq,_⟩:=slice_elem h hi
  obtain⟨_,_,e1,rfl,_,_,e2,rfl,_,_,e3,h3,_,_,e4,h4,h5⟩:=hc
  simp only [AtQ] at h5
  subst h5
  obtain⟨lo,f1,rfl,r1⟩:=words_of h3
  obtain⟨so,f2,rfl,r2⟩:=words_of h4
  refine⟨vb,lo,so,f1,f2,e,?_,r1,r2⟩
  rw [e1,e2,e3,e4] at hl
  exact hl
def At2 (Q:Nat→Prop)(m:Mem)(t:Ty):List t.D→List (List Value)→Prop
  | [],[]=>True
  | d::r,c::s=>AtQ Q m t d c∧At2 Q m t r s
  | _,_=>False
theorem At2.len {t:Ty}:∀ {l:List t.D} {css:List (List Value)},At2 Q m t l css→css.length=l.length
  | [],[],_=>rfl
  | _::_,_::_,h=>by rw [List.length_cons,List.length_cons,At2.len h.2]
  | [],_::_,h=>h.elim
  | _::_,[],h=>h.elim
theorem At2.get {t:Ty}:∀ {l:List t.D} {css:List (List Value)},At2 Q m t l css→∀ (i:Nat) d c,l[i]?=some d→css[i]?=some c→AtQ Q m t d c
  | [],[],_,i,d,c,h1,_=>by simp at h1
  | a::r,b::s,h,0,d,c,h1,h2=>by simp at h1 h2;rw [← h1,← h2];exact h.1
  | a::r,b::s,h,i+1,d,c,h1,h2=>At2.get h.2 i d c (by simpa using h1) (by simpa using h2)
  | [],_::_,h,_,_,_,_,_=>h.elim
  | _::_,[],h,_,_,_,_,_=>h.elim
end Go.Proofs.YtlogdohlcdhepaaDoor.base
end
section
set_option maxRecDepth 100000
namespace Go.Proofs.YtlogdohlcdhepaaDoor.base
open Go.Sh gen
variable {S:Sums}{m:Mem}
theorem samewR_run (hS:S 63=[]){ao bo:Option Addr}{a b:List Int}{af bf ae be:Nat}(ha:Rs m ao a.length (words a) ae 1 af)(hb:Rs m bo b.length (words b) be 1 bf)(hal:a.length≤4611686018427387904)(hbl:b.length≤4611686018427387904) :
    ∃ q:Bool,callw Tryd.prog TT S 63 [.slice ao a.length a.length,.slice bo b.length b.length] m=some (.bool q,m)∧(q=true↔a=b):=by
  suffices h:∃ v m1,callw Tryd.prog TT S 63 [.slice ao a.length a.length,.slice bo b.length b.length] m=some (v,m1)∧∃ q:Bool,v=.bool q∧(q=true↔a=b)∧m1=m by
    obtain⟨_,_,h,q,rfl,hq,rfl⟩:=h
    exact⟨q,h,hq⟩
  refine fn_w 6 [10,14,25] k63 hS rfl ?_
  by_cases hll:a.length=b.length
  · simp [-Int.natCast_add,len_slice u42,hll]
    rw [hll] at ha
    refine wsem_loop 6 [10,14,25] (fun d E m2=>∃ i:Nat,b.length - i=d∧i≤b.length∧a.take i=b.take i∧m2=m∧E=[(0,.slice ao b.length b.length),(1,.slice bo b.length b.length),(5,.int .i64 i)]) _ ⟨_,⟨0,rfl,by omega,by simp,rfl,rfl⟩,⟨by rfl,by rfl,by rfl,trivial⟩⟩ ?_
    rintro d E m2 ih ⟨i,hd,hi,heq,rfl,rfl⟩
    by_cases hlt:i < b.length
    · have em:(i:Int)≤9223372036854775807:=by omega
      have hlt':(i:Int) < b.length:=by omega
      have wi:IntKind.i64.wrap ((i:Int)+1)=((i+1:Nat):Int):=by rw [wrap_i64 (by omega) (by omega)];omega
      have hla:i < a.length:=by omega
      obtain⟨ab,rfl,oa⟩:=ha.rdo (by omega)
      obtain⟨bb,rfl,ob⟩:=hb.rdo (by omega)
      have la:loadRow m2 ⟨ab,i,none⟩ 1=some [.int .u64 a[i]]:=oa.load1 (by simp [words,hla])
      have lb:loadRow m2 ⟨bb,i,none⟩ 1=some [.int .u64 b[i]]:=ob.load1 (by simp [words,hlt])
      have ta:a.take (i+1)=a.take i++[a[i]]:=List.take_succ_eq_append_getElem hla
      have tb:b.take (i+1)=b.take i++[b[i]]:=List.take_succ_eq_append_getElem hlt
      have hne:=take_ne hla hlt
      generalize a[i]=x at *
      generalize b[i]=y at *
      by_cases c:x=y
      · subst c
        simp [-Int.natCast_add,len_slice u42,index_slice u42 sz45,load_of ld45,hlt,hlt',em,la,lb,wi]
        exact ih _ _ _ _ ⟨i+1,rfl,by omega,by rw [ta,tb,heq],rfl,rfl⟩ (by omega) ⟨by rfl,by rfl,by rfl,trivial⟩
      · simp [-Int.natCast_add,len_slice u42,index_slice u42 sz45,load_of ld45,hlt,hlt',em,la,lb,c]
        exact hne c
    · have hlt':¬ (i:Int) < b.length:=by omega
      have e1:a=b:=by
        have h1:a.take i=a:=List.take_of_length_le (by omega)
        have h2:b.take i=b:=List.take_of_length_le (by omega)
        rw [← h1,heq,h2]
      simp [-Int.natCast_add,len_slice u42,hlt']
      exact e1
  · have hll':¬ (a.length:Int)=(b.length:Int):=by omega
    simp [-Int.natCast_add,len_slice u42,hll']
    exact fun e=>hll (by rw [e])
set_option maxHeartbeats 4000000 in
theorem samefr_run (hS:S 45=[])(hW:S 63=[]){Q R:Nat→Prop}{fs:List AFrT.D}{fo go:Option Addr}(h:AtQ Q m (Ty.slice 44 (Ty.pair (Ty.int .i64) (Ty.pair (Ty.int .i64) (Ty.pair (Ty.slice 45 (Ty.int .u64)) (Ty.pair (Ty.slice 45 (Ty.int .u64)) Ty.unit))))) fs [.slice fo fs.length fs.length])(g:AtQ R m (Ty.slice 44 (Ty.pair (Ty.int .i64) (Ty.pair (Ty.int .i64) (Ty.pair (Ty.slice 45 (Ty.int .u64)) (Ty.pair (Ty.slice 45 (Ty.int .u64)) Ty.unit))))) fs [.slice go fs.length fs.length])
    (hl:fs.length≤1000000) (hf:∀ f∈fs,List.length f.2.2.1≤1000000∧List.length f.2.2.2.1≤1000000) :
    callw Tryd.prog TT S 45 [.slice fo fs.length fs.length,.slice go fs.length fs.length] m=some (.bool true,m):=by
  refine fn_eq 6 [10,14,68] k45 hS rfl ?_
  simp [-Int.natCast_add,len_slice u26]
  refine wsem_loop 6 [10,14,68] (fun d E m2=>∃ i:Nat,fs.length - i=d∧i≤fs.length∧m2=m∧E=[(0,.slice fo fs.length fs.length),(1,.slice go fs.length fs.length),(5,.int .i64 (i:Nat))]) _ ⟨_,⟨0,rfl,by omega,rfl,rfl⟩,⟨by rfl,by rfl,by rfl,trivial⟩⟩ ?_
  rintro d E m2 ih ⟨i,hd,hi,rfl,rfl⟩
  by_cases hlt:i < fs.length
  · have hlt':(i:Int) < fs.length:=by omega
    have em:(i:Int)≤9223372036854775807:=by omega
    have wi:IntKind.i64.wrap ((i:Int)+1)=((i+1:Nat):Int):=by rw [wrap_i64 (by omega) (by omega)];omega
    obtain⟨b,lo,so,f1,f2,rfl,l1,r1,r2⟩:=aframe_at h hlt
    obtain⟨c,lo',so',f1',f2',rfl,l1',r1',r2'⟩:=aframe_at g hlt
    obtain⟨z1,z2⟩:=hf _ (List.getElem_mem hlt)
    obtain⟨p,hp,hp'⟩:=samewR_run hW r1 r1' (by omega) (by omega)
    obtain⟨q,hq,hq'⟩:=samewR_run hW r2 r2' (by omega) (by omega)
    have ep:p=true:=hp'.2 rfl
    have eq:q=true:=hq'.2 rfl
    subst ep eq
    have a0:=load_sub (k:=0) l1 rfl
    have a1:=load_sub (k:=1) l1 rfl
    have a2:=load_sub (k:=2) l1 rfl
    have a3:=load_sub (k:=3) l1 rfl
    have b0:=load_sub (k:=0) l1' rfl
    have b1:=load_sub (k:=1) l1' rfl
    have b2:=load_sub (k:=2) l1' rfl
    have b3:=load_sub (k:=3) l1' rfl
    simp only [Nat.add_zero] at a0 b0
    simp [-Int.natCast_add,len_slice u26,index_slice u26 sz44,fieldAddr_of fa44_0,load_of ld3,fieldAddr_of fa44_1,fieldAddr_of fa44_2,load_of ld42,fieldAddr_of fa44_3,hlt,hlt',em,a0,a1,a2,a3,b0,b1,b2,b3,hp,hq,wi]
    exact ih _ _ _ _ ⟨i+1,rfl,by omega,rfl,rfl⟩ (by omega) ⟨by rfl,by rfl,by rfl,trivial⟩
  · have hlt':¬ (i:Int) < fs.length:=by omega
    simp [-Int.natCast_add,len_slice u26,hlt']
set_option maxHeartbeats 4000000 in
theorem same_run (hS:S 18=[]){c st val n:Int}{a b:Option Addr}{k:Nat}(hF:∀ m2,Keeps m m2 []→callw Tryd.prog TT S 45 [.slice a k k,.slice b k k] m2=some (.bool true,m2)) :
    ∃ v m1,callw Tryd.prog TT S 18 [.agg #[.int .i64 c,.int .i64 st,.int .i64 val,.slice a k k,.int .i64 n],.agg #[.int .i64 c,.int .i64 st,.int .i64 val,.slice b k k,.int .i64 n]] m=some (v,m1)∧v=.bool true∧Keeps m m1 []:=by
  obtain⟨o1,k1,n1⟩:=new_own (m:=m) (cs:=[.int .i64 c,.int .i64 st,.int .i64 val,.slice a k k,.int .i64 n]) (e:=28) rfl
  refine fn_w 5 [] k18 hS rfl ?_
  simp [-Int.natCast_add,-w18_1,box_of b28]
  obtain⟨m1,hm1⟩:∃ mm,m.new [.int .i64 c,.int .i64 st,.int .i64 val,.slice a k k,.int .i64 n] 28=mm:=⟨_,rfl⟩
  obtain⟨b1,hb1⟩:∃ b,m.next=b:=⟨_,rfl⟩
  rw [hm1,hb1] at o1 n1
  rw [hm1] at k1
  simp only [hm1,hb1]
  obtain⟨o2,k2,n2⟩:=new_own (m:=m1) (cs:=[.int .i64 c,.int .i64 st,.int .i64 val,.slice b k k,.int .i64 n]) (e:=28) rfl
  generalize m1.new _ _=m2 at *
  generalize m1.next=b2 at *
  have o1:=o1.keep k2 (by simp)
  have x0:=o1.load1 (off:=0) rfl
  have x1:=o1.load1 (off:=1) rfl
  have x2:=o1.load1 (off:=2) rfl
  have x3:=o1.load1 (off:=3) rfl
  have x4:=o1.load1 (off:=4) rfl
  have y0:=o2.load1 (off:=0) rfl
  have y1:=o2.load1 (off:=1) rfl
  have y2:=o2.load1 (off:=2) rfl
  have y3:=o2.load1 (off:=3) rfl
  have y4:=o2.load1 (off:=4) rfl
  have hc:=hF m2 (k1.trans k2)
  simp [-Int.natCast_add,fieldAddr_of fa28_0,load_of ld3,fieldAddr_of fa28_1,fieldAddr_of fa28_2,fieldAddr_of fa28_4,fieldAddr_of fa28_3,load_of ld26,x0,x1,x2,x3,x4,y0,y1,y2,y3,y4,hc]
  exact k1.trans k2
set_option maxHeartbeats 4000000 in
theorem refuse_run (hS:S 10=[]){a2:Value}{hb:Nat}{wish fuel:Int}{va ba sa:Option Addr}{nv nb ns:Nat}{x y:Int}
    (hck:∀ m1,Keeps m m1 []→∃ m2,callw Tryd.prog TT S 22 [.agg #[.int .i64 x,.int .i64 y,.slice va nv nv,.slice ba nb nb,.slice sa ns ns]] m1=some (.bool false,m2)∧Keeps m1 m2 []) :
    ∃ v m1,callw Tryd.prog TT S 10 [.agg #[.int .i64 x,.int .i64 y,.slice va nv nv,.slice ba nb nb,.slice sa ns ns],.pointer (some ⟨hb,0,none⟩),a2,.int .i64 wish,.int .i64 fuel] m=some (v,m1)∧v=.agg #[.int .i64 0,.int .i64 (-1),.int .i64 (-1),.slice none 0 0,.int .i64 0]∧Keeps m m1 []:=by
  obtain⟨o1,k1,n1⟩:=new_own (m:=m) (cs:=[.int .i64 x,.int .i64 y,.slice va nv nv,.slice ba nb nb,.slice sa ns ns]) (e:=34) rfl
  refine fn_w 112 [112,118,128] k10 hS rfl ?_
  simp [-Int.natCast_add,-w10_1,box_of b34,alloc_of zo28]
  obtain⟨m1,hm1⟩:∃ mm,m.new [.int .i64 x,.int .i64 y,.slice va nv nv,.slice ba nb nb,.slice sa ns ns] 34=mm:=⟨_,rfl⟩
  obtain⟨b1,hb1⟩:∃ b,m.next=b:=⟨_,rfl⟩
  rw [hm1,hb1] at o1 n1
  rw [hm1] at k1
  simp only [hm1,hb1]
  obtain⟨o2,k2,n2⟩:=new_own (m:=m1) (cs:=[.int .i64 0,.int .i64 0,.int .i64 0,.slice none 0 0,.int .i64 0]) (e:=28) rfl
  generalize m1.new _ _=m2 at *
  generalize m1.next=b2 at *
  have l1:=(o1.keep k2 (by simp)).load (off:=0) 5 (by simp)
  simp [window] at l1
  obtain⟨m3,c3,k3⟩:=hck m2 (k1.trans k2)
  obtain⟨m4,e4,o4,k4⟩:=store_own (r:=_) rfl (o2.keep k3 (by simp)) (off:=0) (vs:=[.int .i64 0,.int .i64 (-1),.int .i64 (-1),.slice none 0 0,.int .i64 0]) (by simp) (by simp [one_int,one_slice])
  simp [over] at o4
  have l4:=o4.load (off:=0) 5 (by simp)
  simp [window] at l4
  simp [-Int.natCast_add,lres_agg ld28,bin_ptr u22,load_agg ld34,build_of bo28,store_of sz28,l1,c3,e4,l4]
  have:=k1.1
  exact ((k1.trans k2).trans k3).fresh k4 (by simp;omega)
end Go.Proofs.YtlogdohlcdhepaaDoor.base
end
section
set_option maxRecDepth 100000
namespace Go.Proofs.YtlogdohlcdhepaaDoor.base
open Go.Sh gen
variable {u:UnT.D}{fuel:Int}
def up (V:Vv):Vv:={ V with wish:=V.wish+1 }
def StepsV (n:Int):Ro→Prop
  | .go V=>n≤V.steps
  | .tired _=>True
  | .left V _ _=>n < V.steps
def StepsR (n:Int):Ro→Prop
  | .go V=>False
  | .tired _=>True
  | .left V _ _=>n < V.steps
theorem StepsV.mono {n k:Int}(h:n≤k):∀ {r:Ro},StepsV k r→StepsV n r
  | .go V,h1=>Int.le_trans h h1
  | .tired _,_=>trivial
  | .left V _ _,h1=>Int.lt_of_le_of_lt h h1
theorem StepsR.mono {n k:Int}(h:n≤k):∀ {r:Ro},StepsR k r→StepsR n r
  | .go V,h1=>h1
  | .tired _,_=>trivial
  | .left V _ _,h1=>Int.lt_of_le_of_lt h h1
theorem valsF_steps:∀ (l:List Int) (V:Vv),StepsV V.steps (valsF u fuel l V)
  | [],V=>by rw [valsF];exact Int.le_refl _
  | v::r,V=>by
    rw [valsF]
    dsimp only
    split
    · exact valsF_steps r V
    split
    · trivial
    split
    · show V.steps < V.steps+1
      omega
    · exact (valsF_steps r _).mono (by dsimp only;omega)
theorem runF_steps:∀ (k a:Nat) (V:Vv),StepsR V.steps (runF u fuel k a V)
  | 0,a,V=>by rw [runF];trivial
  | k+1,a,V=>by
    have h:=valsF_steps (u:=u) (fuel:=fuel) (blkD u a).1 V
    rw [runF]
    dsimp only
    cases e:valsF u fuel (blkD u a).1 V with
    | go V1 =>
      rw [e] at h
      have h:V.steps≤V1.steps:=h
      dsimp only
      split
      · trivial
      split
      · show V.steps < V1.steps+1
        omega
      · exact (runF_steps k _ _).mono (by dsimp only;omega)
    | tired V1=>trivial
    | left V1 st val=>rw [e] at h;exact h
def RelV (u:UnT.D)(b:Ro):Ro→Prop
  | .go A=>b=.go (up A)∧0≤A.wish
  | .tired A=>b=.tired (up A)
  | .left A st val=>(0≤val∧val < (nv u:Int))∧((valD u val).1=22∧b=.left (up A) st val∨(valD u val).1=23∧StepsV A.steps b)
theorem valsF_rel:∀ (l:List Int) (V:Vv),(∀ v∈l,0≤v∧v < (nv u:Int))→0≤V.wish→RelV u (valsF u fuel l (up V)) (valsF u fuel l V)
  | [],V,_,hw=>by rw [valsF,valsF];exact⟨rfl,hw⟩
  | v::r,V,hl,hw=>by
    have hr:∀ v∈r,0≤v∧v < (nv u:Int):=fun x hx=>hl x (by simp [hx])
    have hv:=hl v (by simp)
    rw [valsF,valsF]
    dsimp only
    by_cases h1:(valD u v).1=21∨(valD u v).1=1
    · rw [if_pos h1,if_pos h1]
      exact valsF_rel r V hr hw
    rw [if_neg h1,if_neg h1]
    by_cases h2:fuel≤V.steps
    · rw [if_pos h2,if_pos (by exact h2)]
      rfl
    rw [if_neg h2,if_neg (show ¬ fuel≤(up V).steps from h2)]
    by_cases h22:(valD u v).1=22
    · have e1:∀ w,leavesB (valD u v) V.ws w=decide (V.ws.getD (show Int from (valD u v).2.1).toNat 0=0):=fun w=>by unfold leavesB;rw [if_pos h22]
      have e2:∀ w,leavesW (valD u v) w=w:=fun w=>by unfold leavesW;rw [if_neg (fun h=>absurd (h22.symm.trans h.1) (by decide))]
      rw [show (up V).ws=V.ws from rfl,e1,e1]
      split
      · refine⟨hv,Or.inl ⟨h22,?_⟩⟩
        rw [e2,e2]
        rfl
      · rw [e2,e2]
        exact valsF_rel r { V with steps:=V.steps+1,hw:=doesH (valD u v) V.hw V.ws,ws:=doesW (valD u v) v.toNat V.hw V.ws } hr hw
    · by_cases h23:(valD u v).1=23
      · have e1:∀ w,leavesB (valD u v) V.ws w=decide (w=0):=fun w=>by unfold leavesB;rw [if_neg h22,if_pos h23]
        have e2:∀ w,leavesW (valD u v) w=if 0 < w then w - 1 else w:=fun w=>by unfold leavesW;simp only [h23,true_and]
        have hu:(up V).wish=V.wish+1:=rfl
        rw [show (up V).ws=V.ws from rfl,e1,e1,if_neg (show ¬ decide ((up V).wish=0)=true by rw [hu];simp;omega)]
        by_cases h0:V.wish=0
        · rw [if_pos (by simpa using h0)]
          refine⟨hv,Or.inr ⟨h23,?_⟩⟩
          exact valsF_steps r _
        · rw [if_neg (by simpa using h0),e2,e2,if_pos (by rw [hu];omega),if_pos (by omega)]
          have:=valsF_rel r { V with steps:=V.steps+1,wish:=V.wish - 1,hw:=doesH (valD u v) V.hw V.ws,ws:=doesW (valD u v) v.toNat V.hw V.ws } hr (by dsimp only;omega)
          have e3:up { V with steps:=V.steps+1,wish:=V.wish - 1,hw:=doesH (valD u v) V.hw V.ws,ws:=doesW (valD u v) v.toNat V.hw V.ws }={ up V with steps:=V.steps+1,wish:=V.wish+1 - 1,hw:=doesH (valD u v) V.hw V.ws,ws:=doesW (valD u v) v.toNat V.hw V.ws }:=by
            unfold up
            simp only [Vv.mk.injEq,true_and,and_true]
            omega
          rw [e3] at this
          exact this
      · have e1:∀ w,leavesB (valD u v) V.ws w=false:=fun w=>by unfold leavesB;rw [if_neg h22,if_neg h23]
        have e2:∀ w,leavesW (valD u v) w=w:=fun w=>by unfold leavesW;rw [if_neg (fun h=>h23 h.1)]
        rw [show (up V).ws=V.ws from rfl,e1,e1,if_neg (by simp),if_neg (by simp),e2,e2]
        exact valsF_rel r { V with steps:=V.steps+1,hw:=doesH (valD u v) V.hw V.ws,ws:=doesW (valD u v) v.toNat V.hw V.ws } hr hw
def RelR (u:UnT.D)(b:Ro):Ro→Prop
  | .go A=>False
  | .tired A=>b=.tired (up A)
  | .left A st val=>((val=-1∨(0≤val∧val < (nv u:Int))∧(valD u val).1=22)∧b=.left (up A) st val)∨((0≤val∧val < (nv u:Int))∧(valD u val).1=23∧StepsR A.steps b)
theorem runF_rel (hu:UOk u):∀ (k a:Nat) (V:Vv),a < nb u→0≤V.wish→RelR u (runF u fuel k a (up V)) (runF u fuel k a V)
  | 0,a,V,_,_=>by rw [runF,runF];rfl
  | k+1,a,V,ha,hw=>by
    have hB:=hu.bl a ha
    have h:=valsF_rel (u:=u) (fuel:=fuel) (blkD u a).1 V hB.vin hw
    have hs:=runF_steps (u:=u) (fuel:=fuel) (k+1) a (up V)
    rw [runF] at hs
    rw [runF,runF]
    dsimp only at hs ⊢
    cases e:valsF u fuel (blkD u a).1 V with
    | go A =>
      rw [e] at h
      obtain⟨h1,h2⟩:=h
      rw [h1] at hs ⊢
      dsimp only at hs ⊢
      have eu:(up A).steps=A.steps:=rfl
      have ew:(up A).ws=A.ws:=rfl
      rw [eu,ew]
      by_cases h3:fuel≤A.steps
      · rw [if_pos h3,if_pos h3];rfl
      rw [if_neg h3,if_neg h3]
      by_cases h4:(blkD u a).2.1=3
      · rw [if_pos h4,if_pos h4]
        exact Or.inl ⟨Or.inl rfl,rfl⟩
      rw [if_neg h4,if_neg h4]
      have hwh:whichF (blkD u a) A.ws < List.length (blkD u a).2.2.2.1:=by
        have:=hB.n2 h4
        unfold whichF
        split
        · rename_i hh;rw [if_pos hh.1] at this;exact this
        · split at this <;> omega
      have hto:=hB.nx ((show List Int from (blkD u a).2.2.2.1).getD (whichF (blkD u a) A.ws) 0) (by
        rw [List.getD_eq_getElem?_getD,List.getElem?_eq_getElem hwh];exact List.getElem_mem _)
      exact runF_rel hu k _ { A with ws:=_,steps:=_ } ((Int.toNat_lt hto.1).2 hto.2.1) h2
    | tired A =>
      rw [e] at h
      rw [h]
      rfl
    | left A st val =>
      rw [e] at h
      obtain⟨h1,h2⟩:=h
      rcases h2 with⟨h2,h3⟩ | ⟨h2,h3⟩
      · rw [h3]
        exact Or.inl ⟨Or.inr ⟨h1,h2⟩,rfl⟩
      · refine Or.inr ⟨h1,h2,?_⟩
        cases e2:valsF u fuel (blkD u a).1 (up V) with
        | go B =>
          rw [e2] at h3
          have h3:A.steps≤B.steps:=h3
          dsimp only
          split
          · trivial
          split
          · show A.steps < B.steps+1
            omega
          · exact (runF_steps k _ _).mono (by dsimp only;omega)
        | tired B=>trivial
        | left B st' val'=>rw [e2] at h3;exact h3
end Go.Proofs.YtlogdohlcdhepaaDoor.base
end
section
set_option maxRecDepth 100000
namespace Go.Proofs.YtlogdohlcdhepaaDoor.base
open Go.Sh gen
variable {S:Sums}{m:Mem}
set_option maxHeartbeats 4000000 in
theorem wtail_eq (hN:Nz S){Q:Nat→Prop}{u:UnT.D}{vo bo so fo go:Option Addr}{xb xf ea fa eb fb h1 hf1 wb1 wf1 h2 hf2 wb2 wf2 k:Nat}{hw:List Int}{room room2 c st val n:Int}
    (hU:UAt Q m u vo bo so) (hu:Own m xb (uCells u vo bo so) 34 xf)
    (hA:Own m ea [.int .i64 c,.int .i64 st,.int .i64 val,.slice fo k k,.int .i64 n] 28 fa) (hB:Own m eb [.int .i64 c,.int .i64 st,.int .i64 val,.slice go k k,.int .i64 n] 28 fb)
    (hF:∀ m2,Keeps m m2 []→callw Tryd.prog TT S 45 [.slice fo k k,.slice go k k] m2=some (.bool true,m2))
    (H1:HeapAt m h1 hf1 wb1 wf1 hw room) (H2:HeapAt m h2 hf2 wb2 wf2 hw room2) (hne:hw≠[]) (hwl:hw.length≤1000000)
    (hc:c≠1∨val < 0∨(0≤val∧val < (nv u:Int))∧(valD u val).1≠23) (hnv:nv u≤1000000) :
    W Tryd.prog TT S 16 [39,70] (.seq (.seq (rgn TT 6 9) (.cond (.tmp 70) (.seq (rgn TT 6 10) .ret) .skip)) (.seq (rgn TT 6 11) .ret)) [] [(9,.pointer (some ⟨xb,0,none⟩)),(10,.pointer (some ⟨h1,0,none⟩)),(12,.pointer (some ⟨h2,0,none⟩)),(14,.pointer (some ⟨ea,0,none⟩)),(15,.pointer (some ⟨eb,0,none⟩))] m (QF Tryd.prog [.tmp 8] fun v m1=>v=.bool true):=by
  have fin:W Tryd.prog TT S 16 [39,70] (.seq (rgn TT 6 11) .ret) [] [(10,.pointer (some ⟨h1,0,none⟩)),(12,.pointer (some ⟨h2,0,none⟩)),(14,.pointer (some ⟨ea,0,none⟩)),(15,.pointer (some ⟨eb,0,none⟩))] m (QF Tryd.prog [.tmp 8] fun v m1=>v=.bool true):=by
    have la:=hA.load (off:=0) 5 (by simp)
    have lb:=hB.load (off:=0) 5 (by simp)
    simp [window] at la lb
    obtain⟨_,m1,c1,rfl,k1⟩:=same_run (m:=m) (hN.e 18 (by decide) (by decide)) (c:=c) (st:=st) (val:=val) (n:=n) hF
    obtain⟨_,m2,c2,nb1,nf1,rfl,o2,n2,k2⟩:=words_run (hN.e 20 (by decide) (by decide)) (H1.keep k1 (by simp) (by simp)) hne hwl
    obtain⟨_,m3,c3,nb2,nf2,rfl,o3,n3,k3⟩:=words_run (hN.e 20 (by decide) (by decide)) ((H2.keep k1 (by simp) (by simp)).keep k2 (by simp) (by simp)) hne hwl
    obtain⟨q,c4,hq⟩:=samew_run (m:=m3) (hN.e 19 (by decide) (by decide)) (Sl.of (o2.keep k3 (by simp)) (by rw [words_len];simp)).rs (Sl.of o3 (by rw [words_len];simp)).rs (by omega) (by omega)
    have hqt:=hq.2 rfl
    subst hqt
    simp [-Int.natCast_add,load_agg ld28,la,lb,c1,c2,c3,c4]
  have a0:=hA.load1 (off:=0) rfl
  have a2:=hA.load1 (off:=2) rfl
  have u2:=hu.load1 (off:=2) rfl
  by_cases c1:c=1
  · by_cases v0:val < 0
    · have v1:¬ 0≤val:=by omega
      simp [-Int.natCast_add,-w6_11,fieldAddr_of fa28_0,load_of ld3,fieldAddr_of fa28_2,fieldAddr_of fa34_2,load_of ld30,index_slice u30 sz38,fieldAddr_of fa38_0,a0,a2,c1,v1]
      exact (w_seq _ _).1 (w_sub fin ⟨by rfl,by rfl,by rfl,by rfl,trivial⟩)
    · have v1:0≤val:=by omega
      obtain⟨⟨_,v2⟩,v3⟩:(0≤val∧val < (nv u:Int))∧(valD u val).1≠23:=by
        rcases hc with h | h | h
        · exact absurd c1 h
        · omega
        · exact h
      obtain⟨i,rfl⟩:∃ i:Nat,val=(i:Int):=⟨val.toNat,by omega⟩
      have hi:i < nv u:=by omega
      have im:(i:Int)≤9223372036854775807:=by omega
      obtain⟨vb,ao,f,rfl,lv,_,_⟩:=val_at hU hi
      have lv0:=load_sub (k:=0) lv rfl
      simp only [Nat.add_zero] at lv0
      have ev:valD u (i:Int)=u.2.2.1[i]:=valD_eq hi
      rw [ev] at v3
      simp [-Int.natCast_add,-w6_11,fieldAddr_of fa28_0,load_of ld3,fieldAddr_of fa28_2,fieldAddr_of fa34_2,load_of ld30,index_slice u30 sz38,fieldAddr_of fa38_0,a0,a2,c1,v1,u2,hi,im,lv0,v3]
      exact (w_seq _ _).1 (w_sub fin ⟨by rfl,by rfl,by rfl,by rfl,trivial⟩)
  · simp [-Int.natCast_add,-w6_11,fieldAddr_of fa28_0,load_of ld3,fieldAddr_of fa28_2,fieldAddr_of fa34_2,load_of ld30,index_slice u30 sz38,fieldAddr_of fa38_0,a0,c1]
    exact (w_seq _ _).1 (w_sub fin ⟨by rfl,by rfl,by rfl,by rfl,trivial⟩)
set_option maxHeartbeats 4000000 in
theorem wtail_23 (hN:Nz S){Q:Nat→Prop}{u:UnT.D}{vo bo so fo go:Option Addr}{xb xf ea fa eb fb h1 h2 k k2:Nat}{st val n c2 st2 val2 n2:Int}
    (hU:UAt Q m u vo bo so) (hu:Own m xb (uCells u vo bo so) 34 xf)
    (hA:Own m ea [.int .i64 1,.int .i64 st,.int .i64 val,.slice fo k k,.int .i64 n] 28 fa) (hB:Own m eb [.int .i64 c2,.int .i64 st2,.int .i64 val2,.slice go k2 k2,.int .i64 n2] 28 fb)
    (hv:0≤val∧val < (nv u:Int)) (h23:(valD u val).1=23) (hnv:nv u≤1000000) (hc:n < n2∨c2=0) :
    W Tryd.prog TT S 16 [39,70] (.seq (.seq (rgn TT 6 9) (.cond (.tmp 70) (.seq (rgn TT 6 10) .ret) .skip)) (.seq (rgn TT 6 11) .ret)) [] [(9,.pointer (some ⟨xb,0,none⟩)),(10,.pointer (some ⟨h1,0,none⟩)),(12,.pointer (some ⟨h2,0,none⟩)),(14,.pointer (some ⟨ea,0,none⟩)),(15,.pointer (some ⟨eb,0,none⟩))] m (QF Tryd.prog [.tmp 8] fun v m1=>v=.bool true):=by
  have a0:=hA.load1 (off:=0) rfl
  have a2:=hA.load1 (off:=2) rfl
  have a4:=hA.load1 (off:=4) rfl
  have b0:=hB.load1 (off:=0) rfl
  have b4:=hB.load1 (off:=4) rfl
  have u2:=hu.load1 (off:=2) rfl
  obtain⟨v1,v2⟩:=hv
  obtain⟨i,rfl⟩:∃ i:Nat,val=(i:Int):=⟨val.toNat,by omega⟩
  have hi:i < nv u:=by omega
  have im:(i:Int)≤9223372036854775807:=by omega
  obtain⟨vb,ao,f,rfl,lv,_,_⟩:=val_at hU hi
  have lv0:=load_sub (k:=0) lv rfl
  simp only [Nat.add_zero] at lv0
  have ev:valD u (i:Int)=u.2.2.1[i]:=valD_eq hi
  rw [ev] at h23
  rw [h23] at lv0
  by_cases q:n < n2
  · simp [-Int.natCast_add,fieldAddr_of fa28_0,load_of ld3,fieldAddr_of fa28_2,fieldAddr_of fa34_2,load_of ld30,index_slice u30 sz38,fieldAddr_of fa38_0,fieldAddr_of fa28_4,a0,a2,a4,b4,v1,u2,hi,im,lv0,q]
  · have q2:c2=0:=by
      rcases hc with h | h
      · exact absurd h q
      · exact h
    simp [-Int.natCast_add,fieldAddr_of fa28_0,load_of ld3,fieldAddr_of fa28_2,fieldAddr_of fa34_2,load_of ld30,index_slice u30 sz38,fieldAddr_of fa38_0,fieldAddr_of fa28_4,a0,a2,a4,b0,b4,v1,u2,hi,im,lv0,q,q2]
end Go.Proofs.YtlogdohlcdhepaaDoor.base
end
section
set_option maxRecDepth 100000
namespace Go.Proofs.YtlogdohlcdhepaaDoor.base
open Go.Sh gen
variable {S:Sums}{m:Mem}{u:UnT.D}{fuel:Int}
theorem Sz.size {s:Us}(h:Sz s)(hv:s.vals.length≤300):SizeOk s.un:=by
  refine⟨fun b hb=>?_,fun t ht=>?_,fun x hx=>?_⟩
  · have:=h.b b hb
    omega
  · have:=h.t t ht
    exact⟨by omega,fun f hf=>by have:=this.2 f hf;omega⟩
  · have:=(h.v x hx).1
    have e:List.length x.2.2.2.2.1=(vargs x).length:=rfl
    omega
theorem Sz.rng {s:Us}(h:Sz s):∀ x∈s.un.2.2.1,-9223372036854775808≤(show Int from x.2.2.2.1)∧(show Int from x.2.2.2.1)≤9223372036854775807:=fun x hx=>by
  have:=(h.v x hx).2
  omega
theorem uOk_un {s:Us}(h:Sz s)(h1:1≤s.vals.length)(hv:s.vals.length≤300){O I:List Int}(hc:checkP s.un O I=true):UOk s.un:=by
  unfold checkP at hc
  cases hp:preF s.un with
  | none=>rw [hp] at hc;cases hc
  | some t =>
    obtain⟨a1,a2,a3,a4,a5,a6⟩:=preF_some hp
    exact uOk_of (h.size hv) a1 a2 a3 a4 a5 a6 (by show 0 < s.vals.length;omega) h.rng
def Ro.hb (b:Nat):Ro→Ro
  | .go V=>.go { V with hwb:=b }
  | .tired V=>.tired { V with hwb:=b }
  | .left V st val=>.left { V with hwb:=b } st val
theorem valsF_hb (b:Nat):∀ (l:List Int) (V:Vv),valsF u fuel l { V with hwb:=b }=(valsF u fuel l V).hb b
  | [],V=>by rw [valsF,valsF];rfl
  | v::r,V=>by
    rw [valsF,valsF]
    dsimp only
    split
    · exact valsF_hb b r V
    split
    · rfl
    split
    · rfl
    · exact valsF_hb b r { V with steps:=V.steps+1,wish:=leavesW (valD u v) V.wish,hw:=doesH (valD u v) V.hw V.ws,ws:=doesW (valD u v) v.toNat V.hw V.ws }
theorem runF_hb (b:Nat):∀ (k a:Nat) (V:Vv),runF u fuel k a { V with hwb:=b }=(runF u fuel k a V).hb b
  | 0,a,V=>by rw [runF,runF];rfl
  | k+1,a,V=>by
    rw [runF,runF]
    dsimp only
    rw [valsF_hb]
    cases valsF u fuel (blkD u a).1 V with
    | go A =>
      rw [show (Ro.go A).hb b=Ro.go { A with hwb:=b } from rfl]
      dsimp only
      split
      · rfl
      split
      · rfl
      · rw [← runF_hb b k]
    | tired A=>rfl
    | left A st val=>rfl
def HwL (n:Nat):Ro→Prop
  | .go V=>V.hw.length=n
  | .tired V=>V.hw.length=n
  | .left V _ _=>V.hw.length=n
theorem doesH_len (x:ValT.D)(hw ws:List Int):(doesH x hw ws).length=hw.length:=by
  unfold doesH actH putF
  repeat' split
  all_goals simp
theorem valsF_hwl:∀ (l:List Int) (V:Vv),HwL V.hw.length (valsF u fuel l V)
  | [],V=>by rw [valsF];rfl
  | v::r,V=>by
    rw [valsF]
    dsimp only
    split
    · exact valsF_hwl r V
    split
    · rfl
    split
    · rfl
    · have:=valsF_hwl r { V with steps:=V.steps+1,wish:=leavesW (valD u v) V.wish,hw:=doesH (valD u v) V.hw V.ws,ws:=doesW (valD u v) v.toNat V.hw V.ws }
      dsimp only at this
      rw [doesH_len] at this
      exact this
theorem runF_hwl:∀ (k a:Nat) (V:Vv),HwL V.hw.length (runF u fuel k a V)
  | 0,a,V=>by rw [runF];rfl
  | k+1,a,V=>by
    have h:=valsF_hwl (u:=u) (fuel:=fuel) (blkD u a).1 V
    rw [runF]
    dsimp only
    cases e:valsF u fuel (blkD u a).1 V with
    | go A =>
      rw [e] at h
      have h:A.hw.length=V.hw.length:=h
      dsimp only
      split
      · exact h
      split
      · exact h
      · rw [← h]
        exact runF_hwl k _ { A with ws:=_,steps:=_ }
    | tired A=>rw [e] at h;exact h
    | left A st val=>rw [e] at h;exact h
theorem nuw_of (hN:Nz S):Nu S:=by
  refine⟨⟨⟨?_,?_,?_,?_,?_⟩,?_,?_,?_,?_,?_,?_,?_,?_⟩,?_,?_,?_,?_,?_,?_,?_⟩
  all_goals exact hN.e _ (by decide) (by decide)
theorem newst {zs vs:List Value}{e:TypeId}(hl:zs.length=vs.length)(h1:vs.all one=true):∃ m1 f,storeRow (m.new zs e) ⟨m.next,0,none⟩ vs=some m1∧Own m1 m.next vs e f∧Keeps m m1 []∧m.next≤f:=by
  obtain⟨o,k,n⟩:=new_own (m:=m) (cs:=zs) (e:=e) rfl
  obtain⟨m1,h2,o1,k2⟩:=store_own (r:=_) rfl o (off:=0) (by omega) h1
  have ev:over zs 0 vs=vs:=by simp [over,← hl]
  rw [ev] at o1
  exact⟨m1,_,h2,o1,k.fresh k2 (by simp),Nat.le_refl _⟩
end Go.Proofs.YtlogdohlcdhepaaDoor.base
end
