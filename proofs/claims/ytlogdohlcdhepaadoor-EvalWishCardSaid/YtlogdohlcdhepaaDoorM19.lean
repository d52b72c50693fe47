/- This text proves that the units of turnstonehand.Unit are small, in plain Lean. No condition but what the theorems themselves say. -/
import Derived.Test.YtlogdohlcdhepaaDoorM18
import Derived.Test.YtlogdohlcdhepaaDoorM2
import Derived.Test.YtlogdohlcdhepaaDoorGen
set_option linter.unusedVariables false
set_option linter.unusedSimpArgs false
section
set_option maxRecDepth 100000
namespace Go.Proofs.YtlogdohlcdhepaaDoor.base
open Go.Sh gen
variable {s s1:Us}{ops:List Int}
structure Sz (s:Us):Prop where
  v:∀ x∈s.vals,(vargs x).length≤2∧-1048576≤(show Int from x.2.2.2.1)∧(show Int from x.2.2.2.1)≤1048576
  b:∀ x∈s.blks,List.length x.1≤s.vals.length∧List.length x.2.2.2.1≤2∧List.length x.2.2.2.2.1≤2
  t:∀ x∈s.sts,List.length x.1≤1∧∀ f∈x.1,List.length f.2.2.1≤4∧List.length f.2.2.2.1≤4
  p:s.bp.length≤2
  n:s.bv.length≤s.vals.length
theorem Sz.at (h:Sz s)(a:Nat):Sz { s with at_:=a }:=⟨h.v,h.b,h.t,h.p,h.n⟩
theorem Sz.next (h:Sz s)(k:Int):Sz (nextP ops k s).1:=by
  obtain⟨a,e⟩:=nextP_is ops k s
  rw [e];exact h.at a
theorem Sz.any (h:Sz s):Sz (anyP ops s).1:=h.next _
theorem Sz.kn (h:Sz s)(l:List Int):Sz { s with known:=l }:=⟨h.v,h.b,h.t,h.p,h.n⟩
theorem Sz.bp (h:Sz s){l:List Int}(hl:l.length≤2):Sz (bpP l s):=⟨h.v,h.b,h.t,hl,h.n⟩
theorem Sz.cut (h:Sz s)(k:Nat):Sz (cutP k s):=h.kn _
theorem Sz.put (h:Sz s){d:ValT.D}(hd:(vargs d).length≤2∧-1048576≤(show Int from d.2.2.2.1)∧(show Int from d.2.2.2.1)≤1048576):Sz (putP d s):=by
  refine⟨fun x hx=>?_,fun x hx=>?_,h.t,h.p,?_⟩
  · simp only [putP,List.mem_append,List.mem_singleton] at hx
    rcases hx with hx | rfl
    · exact h.v x hx
    · exact hd
  · have:=h.b x hx
    simp only [putP,List.length_append,List.length_cons,List.length_nil]
    omega
  · have:=h.n
    simp only [putP,List.length_append,List.length_cons,List.length_nil]
    omega
theorem Sz.knp (h:Sz s){d:ValT.D}(hd:(vargs d).length≤2∧-1048576≤(show Int from d.2.2.2.1)∧(show Int from d.2.2.2.1)≤1048576):Sz (knP d s):=(h.put hd).kn _
theorem locsP_is (k:Nat):∀ {s:Us} {l:List Int},(∃ a,(locsP ops k s l).1={ s with at_:=a })∧(locsP ops k s l).2.length=l.length+k:=by
  induction k with
  | zero=>intro s l;exact⟨⟨s.at_,rfl⟩,rfl⟩
  | succ k ih =>
    intro s l
    rw [locsP]
    obtain⟨⟨a,e⟩,e2⟩:=ih (s:=(anyP ops s).1) (l:=l++[(anyP ops s).2])
    obtain⟨a2,e3⟩:=nextP_is ops (s.known.length:Nat) s
    have e3:(anyP ops s).1={ s with at_:=a2 }:=e3
    refine⟨⟨a,?_⟩,?_⟩
    · rw [e,e3]
    · rw [e2];simp;omega
theorem Sz.state (h:Sz s):Sz (stateP ops s).1:=by
  have q:=nextP_lt (ops:=ops) (s:=s) (k:=4) (by omega)
  obtain⟨⟨a,e⟩,e2⟩:=locsP_is (ops:=ops) (nextP ops 4 s).2.toNat (s:=(nextP ops 4 s).1) (l:=[])
  have h1:Sz (locsP ops (nextP ops 4 s).2.toNat (nextP ops 4 s).1 []).1:=by rw [e];exact (h.next 4).at a
  refine⟨h1.v,h1.b,fun x hx=>?_,h1.p,h1.n⟩
  simp only [stateP,List.mem_append,List.mem_singleton] at hx
  rcases hx with hx | rfl
  · exact h1.t x hx
  · refine⟨by simp,fun f hf=>?_⟩
    simp only [List.mem_singleton] at hf
    subst hf
    simp only [e2,List.length_cons,List.length_nil]
    omega
theorem Sz.end (h:Sz s){e c:Int}{next:List Int}{st:Int}(hn:next.length≤2):Sz (endP e c next st s):=by
  refine⟨h.v,fun x hx=>?_,h.t,by simp [endP],by simp [endP]⟩
  simp only [endP,List.mem_append,List.mem_singleton] at hx
  rcases hx with hx | rfl
  · exact h.b x hx
  · exact⟨h.n,hn,h.p⟩
theorem Sz.sets (h:Sz s){p:Nat}{l:List Int}(hl:l.length≤2):Sz (setArgs p l s):=by
  unfold setArgs
  split
  · rename_i hp
    refine⟨fun x hx=>?_,fun x hx=>?_,h.t,h.p,?_⟩
    · rcases List.mem_or_eq_of_mem_set hx with hx | rfl
      · exact h.v x hx
      · exact⟨hl,(h.v _ (List.getElem_mem hp)).2⟩
    · have:=h.b x hx
      simpa using this
    · have:=h.n
      simpa using this
  · exact h
theorem kindP_sz (h:Sz s)(a b:Int){k:Int}:Sz (kindP ops a b k s):=by
  have q1:=nextP_lt (ops:=ops) (s:=s) (k:=1048576) (by omega)
  have q2:=nextP_lt (ops:=ops) (s:=s) (k:=5) (by omega)
  unfold kindP
  split
  · exact h.knp ⟨Nat.le_of_ble_eq_true rfl,by simp,by simp⟩
  split
  · exact (h.next _).knp ⟨Nat.le_of_ble_eq_true rfl,by dsimp only;omega,by dsimp only;omega⟩
  split
  · exact (h.next _).knp ⟨Nat.le_of_ble_eq_true rfl,by dsimp only;omega,by dsimp only;omega⟩
  split
  · exact h.knp ⟨Nat.le_of_ble_eq_true rfl,by simp,by simp⟩
  split
  · exact (h.next _).put ⟨Nat.le_of_ble_eq_true rfl,by dsimp only;omega,by dsimp only;omega⟩
  split
  · exact h.any.put ⟨Nat.le_of_ble_eq_true rfl,by simp,by simp⟩
  split
  · exact h.state.put ⟨Nat.le_of_ble_eq_true rfl,by simp,by simp⟩
  split
  · exact h.state.put ⟨Nat.le_of_ble_eq_true rfl,by simp,by simp⟩
  · exact (h.next _).knp ⟨Nat.le_of_ble_eq_true rfl,by simp,by simp⟩
theorem rowsP_sz (k:Nat):∀ {s:Us},Sz s→Sz (rowsP ops k s):=by
  induction k with
  | zero=>intro s h;exact h
  | succ k ih =>
    intro s h
    rw [rowsP]
    split
    · exact ih (kindP_sz ((h.any.any).next 20) _ _)
    · exact h
theorem rowP_sz (h:Sz s):Sz (rowP ops s):=rowsP_sz _ (h.next 6)
theorem exitP_sz (h:Sz s):Sz (exitP ops s):=rowP_sz ((((rowP_sz (h.any.end (by simp) |>.bp (by simp))).state.end (by simp)).cut _).bp (by simp))
theorem diaP_sz (h:Sz s):Sz (diaP ops s):=by
  unfold diaP
  have h4:=rowP_sz (ops:=ops) ((h.any (ops:=ops)).end (e:=2) (c:=(anyP ops s).2) (next:=[(s.blks.length:Nat)+1,(s.blks.length:Nat)+2]) (st:=0) (by simp) |>.bp (l:=[(s.blks.length:Nat)]) (by simp))
  exact rowP_sz (((rowP_sz (((h4.cut _).end (by simp)).bp (by simp))).cut _ |>.end (by simp) |>.bp (by simp)).knp ⟨Nat.le_of_ble_eq_true rfl,by simp,by simp⟩)
theorem tailP_sz (h:Sz s){q:Nat}{x:Int}{k:Nat}{hh:Int}:Sz (tailP ops q x k hh s):=rowP_sz ((((h.sets (by simp)).cut _).end (by simp)).bp (by simp))
theorem loopP_sz (h:Sz s):Sz (loopP ops s):=by
  unfold loopP
  dsimp only
  refine tailP_sz ?_
  split
  · exact (((rowP_sz ((((((((((h.any.end (by simp)).bp (by simp)).put ⟨Nat.le_of_ble_eq_true rfl,by simp,by simp⟩).any.put ⟨Nat.le_of_ble_eq_true rfl,by simp,by simp⟩).kn _).state.put ⟨Nat.le_of_ble_eq_true rfl,by simp,by simp⟩).put ⟨Nat.le_of_ble_eq_true rfl,by simp,by simp⟩).knp ⟨Nat.le_of_ble_eq_true rfl,by simp,by simp⟩).end (by simp)).bp (by simp))).sets (by simp)).next _).sets (by simp)
  · exact ((rowP_sz ((((((((((h.any.end (by simp)).bp (by simp)).put ⟨Nat.le_of_ble_eq_true rfl,by simp,by simp⟩).any.put ⟨Nat.le_of_ble_eq_true rfl,by simp,by simp⟩).kn _).state.put ⟨Nat.le_of_ble_eq_true rfl,by simp,by simp⟩).put ⟨Nat.le_of_ble_eq_true rfl,by simp,by simp⟩).knp ⟨Nat.le_of_ble_eq_true rfl,by simp,by simp⟩).end (by simp)).bp (by simp))).sets (by simp)).next _
theorem shapesP_sz:∀ (l:List Int) (k:Nat) {s:Us},Sz s→Sz (shapesP ops l k s)
  | [],_,s,h=>by rw [shapesP];exact h
  | _::_,0,s,h=>by rw [shapesP];exact h
  | x::r,k+1,s,h=>by
    rw [shapesP]
    split
    · refine shapesP_sz r k ?_
      split
      · exact diaP_sz h
      split
      · exact loopP_sz h
      · exact exitP_sz h
    · exact h
theorem startP_sz (k:Nat)(hk:k≤100):Sz (startP k):=by
  induction k with
  | zero=>exact⟨by simp [startP,Us0],by simp [startP,Us0],by simp [startP,Us0],by simp [startP,Us0],by simp [startP,Us0]⟩
  | succ k ih=>exact (ih (by omega)).knp ⟨Nat.le_of_ble_eq_true rfl,by dsimp only;omega,by dsimp only;omega⟩
theorem unitP_sz (ops sh:List Int)(n:Int):Sz (unitP ops sh n):=((shapesP_sz sh 6 (rowP_sz ((startP_sz _ (by omega)).knp ⟨Nat.le_of_ble_eq_true rfl,by simp,by simp⟩))).state).end (by simp)
end Go.Proofs.YtlogdohlcdhepaaDoor.base
end
section
set_option maxRecDepth 100000
namespace Go.Proofs.YtlogdohlcdhepaaDoor.base
open Go.Sh gen
variable {S:Sums}{m:Mem}
def wO (os:List (Int × List Int)):List Int:=0::os.flatMap fun o=>headOf o.1 o.2.length::o.2
structure OkO (os:List (Int × List Int))(room:Int):Prop where
  r:1≤room∧room≤65536
  l:(wO os).length≤room
  n:os.length≤8
  o:∀ o∈os,5≤o.1∧o.1≤7∧o.2.length≤100∧Wd o.2
theorem wO_snoc (os:List (Int × List Int))(t:Int)(B:List Int):wO (os++[(t,B)])=wO os++headOf t B.length::B:=by
  simp [wO]
theorem wO_wd {os:List (Int × List Int)}{room:Int}(h:OkO os room):Wd (wO os):=by
  have h2:=h.o
  clear h
  refine wd_cons.2 ⟨by omega,?_⟩
  induction os with
  | nil=>intro w hw;simp at hw
  | cons o os ih =>
    have h1:=h2 o (by simp)
    rw [List.flatMap_cons]
    exact wd_app.2 ⟨wd_cons.2 ⟨head_wd (by omega) (by omega),h1.2.2.2⟩,ih (fun o ho=>h2 o (by simp [ho]))⟩
theorem take_ne {α:Type}{a b:List α}{i:Nat}(ha:i < a.length)(hb:i < b.length)(h:a[i]≠b[i]):a≠b:=fun e=>by subst e;exact h rfl
theorem samew_run (hS:S 19=[]){ao bo:Option Addr}{a b:List Int}{af bf ae be:Nat}(ha:Rs m ao a.length (words a) ae 1 af)(hb:Rs m bo b.length (words b) be 1 bf)(hal:a.length≤4611686018427387904)(hbl:b.length≤4611686018427387904) :
    ∃ q:Bool,callw Tryd.prog TT S 19 [.slice ao a.length a.length,.slice bo b.length b.length] m=some (.bool q,m)∧(q=true↔a=b):=by
  suffices h:∃ v m1,callw Tryd.prog TT S 19 [.slice ao a.length a.length,.slice bo b.length b.length] m=some (v,m1)∧∃ q:Bool,v=.bool q∧(q=true↔a=b)∧m1=m by
    obtain⟨_,_,h,q,rfl,hq,rfl⟩:=h
    exact⟨q,h,hq⟩
  refine fn_w 6 [10,14,25] k19 hS rfl ?_
  by_cases hll:a.length=b.length
  · simp [-Int.natCast_add,len_slice u42,hll]
    rw [hll] at ha
    refine wsem_loop 6 [10,14,25] (fun d E m2=>∃ i:Nat,b.length - i=d∧i≤b.length∧a.take i=b.take i∧m2=m∧E=[(0,.slice ao b.length b.length),(1,.slice bo b.length b.length),(5,.int .i64 i)]) _ ⟨_,⟨0,rfl,by omega,by simp,rfl,rfl⟩,⟨by rfl,by rfl,by rfl,trivial⟩⟩ ?_
    rintro d E m2 ih ⟨i,hd,hi,heq,rfl,rfl⟩
    by_cases hlt:i < b.length
    · have em:(i:Int)≤9223372036854775807:=by omega
      have hlt':(i:Int) < b.length:=by omega
      have wi:IntKind.i64.wrap ((i:Int)+1)=((i+1:Nat):Int):=by rw [wrap_i64 (by omega) (by omega)];omega
      have hla:i < a.length:=by omega
      obtain⟨ab,rfl,oa⟩:=ha.rdo (by omega)
      obtain⟨bb,rfl,ob⟩:=hb.rdo (by omega)
      have la:loadRow m2 ⟨ab,i,none⟩ 1=some [.int .u64 a[i]]:=oa.load1 (by simp [words,hla])
      have lb:loadRow m2 ⟨bb,i,none⟩ 1=some [.int .u64 b[i]]:=ob.load1 (by simp [words,hlt])
      have ta:a.take (i+1)=a.take i++[a[i]]:=List.take_succ_eq_append_getElem hla
      have tb:b.take (i+1)=b.take i++[b[i]]:=List.take_succ_eq_append_getElem hlt
      have hne:=take_ne hla hlt
      generalize a[i]=x at *
      generalize b[i]=y at *
      by_cases c:x=y
      · subst c
        simp [-Int.natCast_add,len_slice u42,index_slice u42 sz45,load_of ld45,hlt,hlt',em,la,lb,wi]
        exact ih _ _ _ _ ⟨i+1,rfl,by omega,by rw [ta,tb,heq],rfl,rfl⟩ (by omega) ⟨by rfl,by rfl,by rfl,trivial⟩
      · simp [-Int.natCast_add,len_slice u42,index_slice u42 sz45,load_of ld45,hlt,hlt',em,la,lb,c]
        exact hne c
    · have hlt':¬ (i:Int) < b.length:=by omega
      have e1:a=b:=by
        have h1:a.take i=a:=List.take_of_length_le (by omega)
        have h2:b.take i=b:=List.take_of_length_le (by omega)
        rw [← h1,heq,h2]
      simp [-Int.natCast_add,len_slice u42,hlt']
      exact e1
  · have hll':¬ (a.length:Int)=(b.length:Int):=by omega
    simp [-Int.natCast_add,len_slice u42,hll']
    exact fun e=>hll (by rw [e])
structure Hp (S:Sums):Prop where
  new:S 9=[]
  alloc:S 37=[]
  put:S 38=[]
  words:S 20=[]
  len:S 60=[]
  word:S 55=[]
  type:S 59=[]
  head:S 77=[]
  same:S 19=[]
theorem take_step {B:List Int}{k:Nat}(h:k < B.length):(B.take k++List.replicate (B.length - k) 0).set k B[k]=B.take (k+1)++List.replicate (B.length - (k+1)) 0:=by
  have e:(B.take k).length=k:=by simp;omega
  rw [List.set_append_right _ _ (by omega),e,Nat.sub_self]
  obtain⟨c,hc⟩:∃ c,B.length - k=c+1:=⟨B.length - k - 1,by omega⟩
  rw [hc,List.replicate_succ,List.set_cons_zero,show B.length - (k+1)=c by omega]
  rw [List.take_succ_eq_append_getElem h]
  simp only [List.append_assoc,List.cons_append,List.nil_append]
theorem wO_split {os:List (Int × List Int)}{j:Nat}(h:j < os.length):∃ R,wO os=wO (os.take j)++headOf os[j].1 os[j].2.length::(os[j].2++R):=by
  refine⟨(os.drop (j+1)).flatMap fun o=>headOf o.1 o.2.length::o.2,?_⟩
  have e:os=os.take j++os[j]::os.drop (j+1):=by rw [List.getElem_cons_drop,List.take_append_drop]
  generalize os[j]=o at *
  have e2:=congrArg wO e
  rw [e2]
  simp only [wO,List.flatMap_append,List.flatMap_cons,List.cons_append]
set_option maxHeartbeats 4000000 in
theorem heap_run (hS:S 15=[])(hH:Hp S){rb rf vb vf:Nat}{os:List (Int × List Int)}{room:Int}(hos:OkO os room)(hr:RefAt m rb rf vb vf (wO os) room) :
    ∃ v m1,callw Tryd.prog TT S 15 [.pointer (some ⟨rb,0,none⟩)] m=some (v,m1)∧(∃ hb hf wb wf,v=.tuple #[.pointer (some ⟨hb,0,none⟩),.bool true]∧HeapAt m1 hb hf wb wf (wO os) room∧m.next≤hf∧m.next≤wf)∧Keeps m m1 []:=by
  obtain⟨_,m1,c1,⟨hb,wf,rfl,h1,n1,n2,k1⟩⟩:=new_run (m:=m) hH.new room hos.r.1 hos.r.2
  have r0:=hr.h.load1 (off:=0) rfl
  have r1:=hr.h.load1 (off:=1) rfl
  have hwl:=hos.l
  have h8:=hos.n
  have hrr:=hos.r
  have hmx:(if 1 < room then room else 1)=room:=by split <;> omega
  refine fn_w 11 [25,32,67,70] k15 hS rfl ?_
  simp [-Int.natCast_add,fieldAddr_of fa59_0,load_of ld3,bin_ptr u22,r0,hmx,c1]
  refine wsem_loop 11 [25,32,67,70] (fun d E m2=>∃ (j wb:Nat),os.length - j=d∧j≤os.length∧HeapAt m2 hb hb wb wf (wO (os.take j)) room∧Keeps m m2 []∧E=[(0,.pointer (some ⟨rb,0,none⟩)),(4,.pointer (some ⟨hb,0,none⟩)),(6,.int .i64 (wO (os.take j)).length)]) _ ⟨_,⟨0,wf,rfl,by omega,h1,k1,rfl⟩,⟨by rfl,by rfl,by rfl,trivial⟩⟩ ?_
  rintro d E m2 ih ⟨j,wb,hd,hj,h2,k2,rfl⟩
  have r12:=(hr.h.keep k2 (by simp)).load1 (off:=1) rfl
  by_cases hlt:j < os.length
  · obtain⟨R,hR⟩:=wO_split hlt
    have ho:=hos.o _ (List.getElem_mem hlt)
    have ets:os.take (j+1)=os.take j++[(os[j].1,os[j].2)]:=List.take_succ_eq_append_getElem hlt
    generalize os[j]=o at *
    obtain⟨t,B⟩:=o
    simp only at hR ho ets
    obtain⟨A,hA⟩:∃ A,wO (os.take j)=A:=⟨_,rfl⟩
    have eA:wO (os.take (j+1))=A++headOf t B.length::B:=by rw [ets,wO_snoc,hA]
    rw [hA] at hR h2
    rw [hA]
    have hWl:(wO os).length=A.length+1+B.length+R.length:=by rw [hR];simp;omega
    have hvw:∀ (m':Mem),Keeps m m' []→loadRow m' ⟨vb,A.length,none⟩ 1=some [.int .u64 (headOf t B.length)]:=fun m' k'=>by
      have e:=obj_head A (headOf t B.length) (B++R)
      rw [← hR] at e
      rw [← e]
      exact (hr.w.keep k' (by simp)).load1 (words_at (by omega))
    have l2:=hvw m2 k2
    have hval:=head_val (t:=t) (n:=B.length) (by omega) (by omega)
    have hA1:A.length < (wO os).length:=by omega
    have hA2:(A.length:Int) < (wO os).length:=by omega
    have em:(A.length:Int)≤9223372036854775807:=by omega
    obtain⟨hd1,hhd⟩:∃ hd1,headOf t B.length=hd1:=⟨_,rfl⟩
    rw [hhd] at l2 hval
    have m1':IntKind.i64.wrap (hd1.tmod 4294967296)=(B.length:Int):=by rw [Int.tmod_eq_emod_of_nonneg (by omega),wrap_i64 (by omega) (by omega)];omega
    have e3:(2:Int) ^ min 32 IntKind.u64.bits=4294967296:=by decide
    have s1:IntKind.i64.wrap (hd1.fdiv (2 ^ min 32 IntKind.u64.bits))=t:=by rw [e3,shr_32 (by omega),wrap_i64 (by omega) (by omega)];omega
    obtain⟨BR,hBR⟩:∃ BR,B.length+R.length=BR:=⟨_,rfl⟩
    have w1:IntKind.i64.wrap (((wO os).length:Int) - A.length)=((BR+1:Nat):Int):=by rw [wrap_i64 (by omega) (by omega)];omega
    have w2:IntKind.i64.wrap (((BR+1:Nat):Int) - 1)=(BR:Int):=by rw [wrap_i64 (by omega) (by omega)];omega
    have nl:¬ BR < B.length:=by omega
    have nl':¬ (BR:Int) < B.length:=by omega
    obtain⟨_,m3,c3,rfl,⟨wb3,h3⟩,k3⟩:=alloc_yes (t:=t) (n:=B.length) hH.alloc h2 (by omega) (by omega) (by unfold noRoom;omega)
    rw [List.append_assoc,List.singleton_append] at h3
    simp [-Int.natCast_add,fieldAddr_of fa59_1,load_of ld42,len_slice u42,index_slice u42 sz45,load_of ld45,conv_i u45 u3,r12,hA1,hA2,em,l2,m1',s1,w1,w2,nl',c3]
    refine wsem_loop 11 [25,32,67,70] (fun d2 E m4=>∃ k:Nat,B.length - k=d2∧k≤B.length∧HeapAt m4 hb hb wb3 wf (A++headOf t B.length::(B.take k++List.replicate (B.length - k) 0)) room∧Keeps m m4 []∧E=[(0,.pointer (some ⟨rb,0,none⟩)),(4,.pointer (some ⟨hb,0,none⟩)),(6,.int .i64 A.length),(7,.int .i64 B.length),(10,.int .i64 ((k+1:Nat):Int))]) _ ⟨_,⟨0,rfl,by omega,by simpa using h3,k2.fresh k3 (by simp;omega),rfl⟩,⟨by rfl,by rfl,by rfl,by rfl,by rfl,trivial⟩⟩ ?_
    rintro d2 E m4 ih2 ⟨k,hd2,hk,h4,k4,rfl⟩
    by_cases hkn:k < B.length
    · have hk1:((k+1:Nat):Int)≤B.length:=by omega
      have hk2:k+1≤B.length:=by omega
      have r14:=(hr.h.keep k4 (by simp)).load1 (off:=1) rfl
      obtain⟨p,hp⟩:∃ p,A.length+1+k=p:=⟨_,rfl⟩
      have w3:IntKind.i64.wrap ((A.length:Int)+((k+1:Nat):Int))=(p:Int):=by rw [wrap_i64 (by omega) (by omega)];omega
      have up3:IntKind.u64.wrap (p:Int)=(p:Int):=wrap_u64 (by omega) (by omega)
      have w4:IntKind.i64.wrap (((k+1:Nat):Int)+1)=((k+1+1:Nat):Int):=by rw [wrap_i64 (by omega) (by omega)];omega
      have pl:p < (wO os).length:=by omega
      have ep:(p:Int)≤9223372036854775807:=by omega
      have lp:loadRow m4 ⟨vb,p,none⟩ 1=some [.int .u64 B[k]]:=by
        have e:=obj_word A (headOf t B.length) (B++R) k
        rw [← hR,hp] at e
        have e2:(B++R).getD k 0=B[k]:=by simp [List.getD_eq_getElem?_getD,List.getElem?_append_left hkn,hkn]
        rw [← e2,← e]
        exact (hr.w.keep k4 (by simp)).load1 (words_at pl)
      obtain⟨_,m5,c5,rfl,h5,k5⟩:=put_yes (i:=p) (v:=B[k]) hH.put h4 (by omega) (by simp;omega) (by simp;omega)
      rw [← hp,obj_set,take_step hkn] at h5
      simp [-Int.natCast_add,fieldAddr_of fa59_1,load_of ld42,index_slice u42 sz45,load_of ld45,conv_i u3 u45,hk1,r14,w3,up3,w4,pl,ep,lp,c5]
      exact ih2 _ _ _ _ ⟨k+1,rfl,by omega,h5,k4.fresh k5 (by simp;omega),rfl⟩ (by omega) ⟨by rfl,by rfl,by rfl,by rfl,by rfl,trivial⟩
    · have ek:k=B.length:=by omega
      subst ek
      have hk1:¬ ((B.length+1:Nat):Int)≤B.length:=by omega
      have w5:IntKind.i64.wrap ((A.length:Int)+B.length)=((A.length+B.length:Nat):Int):=by rw [wrap_i64 (by omega) (by omega)];omega
      have w6:IntKind.i64.wrap (((A.length+B.length:Nat):Int)+1)=((A.length+B.length+1:Nat):Int):=by rw [wrap_i64 (by omega) (by omega)];omega
      simp [-Int.natCast_add,hk1,w5,w6]
      refine ih _ _ _ _ ⟨j+1,wb3,rfl,by omega,by rw [eA];simpa using h4,k4,rfl⟩ (by omega) ⟨by rfl,by rfl,by rw [eA];simp [lget];omega,trivial⟩
  · have ej:os.take j=os:=List.take_of_length_le (by omega)
    rw [ej] at h2 ⊢
    obtain⟨_,m3,c3,nb,nf,rfl,o3,n3,k3⟩:=words_run hH.words h2 (by simp [wO]) (by omega)
    have s3:Rs m3 (some ⟨nb,0,none⟩) (wO os).length (words (wO os)) 45 1 nf:=(Sl.of o3 (by rw [words_len];simp)).rs
    have kk:=k2.trans k3
    have r13:=(hr.h.keep kk (by simp)).load1 (off:=1) rfl
    have sr:Rs m3 (some ⟨vb,0,none⟩) (wO os).length (words (wO os)) 45 1 vf:=(Sl.of (hr.w.keep kk (by simp)) (by rw [words_len];simp)).rs
    obtain⟨q,c4,hq⟩:=samew_run (m:=m3) hH.same s3 sr (by omega) (by omega)
    have hqt:=hq.2 rfl
    subst hqt
    simp [-Int.natCast_add,fieldAddr_of fa59_1,load_of ld42,len_slice u42,r12,c3,r13,c4]
    exact⟨⟨hb,wb,wf,h2.keep k3 (by simp) (by simp),n1,n2⟩,kk⟩
end Go.Proofs.YtlogdohlcdhepaaDoor.base
end
section
set_option maxRecDepth 100000
namespace Go.Proofs.YtlogdohlcdhepaaDoor.base
open Go.Sh gen
variable {S:Sums}{m:Mem}
def objP (x:Int):Int × List Int:=(5+x % 3,(List.range (x % 5).toNat).map fun k=>x / 2 ^ (9 * k))
def objsP (l:List Int):List (Int × List Int):=(l.take 8).map objP
theorem objP_wd {x:Int}(h:0≤x∧x≤18446744073709551615):Wd (objP x).2:=by
  intro w hw
  simp only [objP,List.mem_map] at hw
  obtain⟨k,_,rfl⟩:=hw
  have h2:(0:Int) < 2 ^ (9 * k):=Int.pow_pos (by omega)
  exact⟨Int.ediv_nonneg h.1 (by omega),Int.le_trans (Int.ediv_le_self _ h.1) h.2⟩
theorem objs_len (l:List Int)(h:l.length≤8)(hl:Wd l):(wO (l.map objP)).length≤1+5 * l.length:=by
  induction l with
  | nil=>simp [wO]
  | cons x r ih =>
    have:=ih (by simp at h;omega) (fun w hw=>hl w (by simp [hw]))
    have hx:=hl x (by simp)
    have h5:(objP x).2.length≤4:=by simp [objP];omega
    simp only [wO,List.map_cons,List.flatMap_cons,List.length_cons,List.length_append] at this ⊢
    omega
theorem objs_ok {l:List Int}(hl:Wd l):OkO (objsP l) 100:=by
  have h8:(l.take 8).length≤8:=by simp [List.length_take];omega
  have hw:Wd (l.take 8):=fun w h=>hl w (List.mem_of_mem_take h)
  refine⟨by omega,?_,by unfold objsP;rw [List.length_map];exact h8,fun o ho=>?_⟩
  · have:=objs_len _ h8 hw
    unfold objsP
    omega
  · simp only [objsP,List.mem_map] at ho
    obtain⟨x,hx,rfl⟩:=ho
    have:=hw x hx
    exact⟨by simp only [objP];omega,by simp only [objP];omega,by simp [objP];omega,objP_wd this⟩
structure Ho (S:Sums):Prop where
  new:S 21=[]
  alloc:S 23=[]
  set:S 36=[]
  put:S 42=[]
  len:S 40=[]
  word:S 41=[]
set_option maxHeartbeats 4000000 in
theorem objects_run (hS:S 14=[])(hH:Ho S){ao:Option Addr}{l:List Int}{c f e:Nat}(hr:Rs m ao l.length (words l) e 1 f)(hf:l.length≠0→f < m.next)(hl:Wd l) :
    ∃ v m1,callw Tryd.prog TT S 14 [.slice ao l.length c] m=some (v,m1)∧(∃ rb vb vf,v=.pointer (some ⟨rb,0,none⟩)∧RefAt m1 rb rb vb vf (wO (objsP l)) 100)∧Keeps m m1 []:=by
  obtain⟨_,mR,cR,⟨rb,vb,rfl,hR,nR1,nR2,kR⟩⟩:=newR_run (m:=m) hH.new 100
  refine fn_w 9 [17,44] k14 hS rfl ?_
  simp [-Int.natCast_add,cR]
  refine wsem_loop 9 [17,44] (fun d E m2=>∃ (i wb:Nat),8 - i=d∧i≤8∧i≤l.length∧RefAt m2 rb rb wb vb (wO ((l.take i).map objP)) 100∧Keeps m m2 []∧E=[(0,.slice ao l.length c),(3,.pointer (some ⟨rb,0,none⟩)),(4,.int .i64 (i:Nat))]) _ ⟨_,⟨0,vb,rfl,by omega,by omega,hR,kR,rfl⟩,⟨by rfl,by rfl,by rfl,trivial⟩⟩ ?_
  rintro d E m2 ih ⟨i,wb,rfl,hi8,hil,h2,k2,rfl⟩
  by_cases hc:i < l.length∧i < 8
  · obtain⟨q1,q2⟩:=hc
    have q1':(i:Int) < l.length:=by omega
    have q2':(i:Int) < 8:=by omega
    have q3:(i:Int)≤9223372036854775807:=by omega
    have wi:IntKind.i64.wrap ((i:Int)+1)=((i+1:Nat):Int):=by rw [wrap_i64 (by omega) (by omega)];omega
    obtain⟨ab,rfl,oa⟩:=(hr.keep0 k2 (by simp)).rdo (by omega)
    have la:∀ m',Keeps m m' []→loadRow m' ⟨ab,i,none⟩ 1=some [.int .u64 l[i]]:=fun m' k'=>by
      obtain⟨ab',e,oa'⟩:=(hr.keep0 k' (by simp)).rdo (by omega)
      simp at e
      subst e
      exact oa'.load1 (by simp [words,q1])
    have lx:=la m2 k2
    have hx:0≤l[i]∧l[i]≤18446744073709551615:=hl _ (by simp)
    have et:l.take (i+1)=l.take i++[l[i]]:=List.take_succ_eq_append_getElem q1
    generalize l[i]=x at *
    obtain⟨n,hn⟩:∃ n:Nat,(x % 5).toNat=n:=⟨_,rfl⟩
    have hn5:n≤4:=by omega
    have e5:IntKind.i64.wrap (x.tmod 5)=(n:Int):=by rw [Int.tmod_eq_emod_of_nonneg (by omega),wrap_i64 (by omega) (by omega)];omega
    have e3:IntKind.i64.wrap (x.tmod 3)=x % 3:=by rw [Int.tmod_eq_emod_of_nonneg (by omega),wrap_i64 (by omega) (by omega)]
    have e53:IntKind.i64.wrap (5+x % 3)=5+x % 3:=wrap_i64 (by omega) (by omega)
    obtain⟨B,hB⟩:∃ B,(objP x).2=B:=⟨_,rfl⟩
    have hBl:B.length=n:=by rw [← hB];simp [objP,hn]
    have hO:objP x=(5+x % 3,B):=by rw [← hB];rfl
    have hBk:∀ k (h:k < B.length),B[k]=x / 2 ^ (9 * k):=fun k h=>by subst hB;simp [objP]
    obtain⟨A,hA⟩:∃ A,wO ((l.take i).map objP)=A:=⟨_,rfl⟩
    rw [hA] at h2
    have hwl:Wd (l.take i):=fun w h=>hl w (List.mem_of_mem_take h)
    have hAl:A.length≤41:=by
      have:=objs_len (l.take i) (by simp [List.length_take];omega) hwl
      rw [hA,List.length_take] at this
      omega
    have eA:wO ((l.take (i+1)).map objP)=A++headOf (5+x % 3) B.length::B:=by rw [et,List.map_append,List.map_cons,List.map_nil,hO,wO_snoc,hA]
    obtain⟨_,m3,c3,rfl,⟨wb3,h3⟩,k3⟩:=allocR_yes (t:=5+x % 3) (n:=n) hH.alloc h2 (by omega) (by omega) (by unfold noRoom;omega)
    rw [List.append_assoc,List.singleton_append] at h3
    have hA0:A≠[]:=by rw [← hA];simp [wO]
    have hA1:1≤A.length:=by cases A with | nil=>exact absurd rfl hA0 | cons=>simp
    simp [-Int.natCast_add,len_slice u42,index_slice u42 sz45,load_of ld45,conv_i u45 u3,q1,q1',q2',q3,lx,e5,e3,e53,c3]
    refine wsem_loop 9 [17,44] (fun d2 E m4=>∃ k:Nat,n - k=d2∧k≤n∧RefAt m4 rb rb wb3 vb (A++headOf (5+x % 3) n::(B.take k++List.replicate (n - k) 0)) 100∧Keeps m m4 []∧E=[(0,.slice (some ⟨ab,0,none⟩) l.length c),(3,.pointer (some ⟨rb,0,none⟩)),(4,.int .i64 (i:Nat)),(5,.int .i64 (n:Nat)),(6,.int .u64 (A.length:Nat)),(7,.bool true),(8,.int .i64 (k:Nat))]) _ ⟨_,⟨0,rfl,by omega,by simpa using h3,k2.fresh k3 (by simp;omega),rfl⟩,⟨by rfl,by rfl,by rfl,by rfl,by rfl,by rfl,by rfl,trivial⟩⟩ ?_
    rintro d2 E m4 ih2 ⟨k,hd2,hk,h4,k4,rfl⟩
    have lx4:=la m4 k4
    by_cases hkn:k < n
    · have hkn':(k:Int) < n:=by omega
      have wk:IntKind.i64.wrap ((k:Int)+1)=((k+1:Nat):Int):=by rw [wrap_i64 (by omega) (by omega)];omega
      obtain⟨p,hp⟩:∃ p,9 * k=p:=⟨_,rfl⟩
      have w9:IntKind.i64.wrap ((k:Int) * 9)=(p:Int):=by rw [wrap_i64 (by omega) (by omega)];omega
      have up:IntKind.u64.wrap (p:Int)=(p:Int):=wrap_u64 (by omega) (by omega)
      have pn:¬ (p:Int) < 0:=by omega
      have mp:min p IntKind.u64.bits=p:=Nat.min_eq_left (by have:IntKind.u64.bits=64:=rfl;omega)
      have ef:x.fdiv (2 ^ p)=x / 2 ^ p:=Int.fdiv_eq_ediv_of_nonneg _ (Int.le_of_lt (Int.pow_pos (by omega)))
      have hv:=hBk k (by omega)
      rw [hp] at hv
      have z0:(A++headOf (5+x % 3) n::(B.take k++List.replicate (n - k) 0)).getD 0 0=0:=by
        rw [← hA];simp [wO]
      have hxx:=objP_wd hx
      rw [hB] at hxx
      have hAw:Wd A:=by rw [← hA];exact wO_wd (room:=100) (by have:=objs_ok hwl;rw [objsP,List.take_of_length_le (by simp [List.length_take];omega)] at this;exact this)
      have hW:Wd (A++headOf (5+x % 3) n::(B.take k++List.replicate (n - k) 0)):=by
        intro w hw
        simp only [List.mem_append,List.mem_cons,List.mem_replicate] at hw
        rcases hw with hw | rfl | hw | ⟨_,rfl⟩
        · exact hAw w hw
        · rw [head_val (by omega) (by omega)];omega
        · exact hxx w (List.mem_of_mem_take hw)
        · omega
      obtain⟨_,m5,c5,rfl,h5,k5⟩:=setR_run (r:=(A.length:Nat)) (i:=(k:Nat)) (v:=x / 2 ^ p) hH.set hH.put hH.len hH.word h4 (by omega) (by simp;omega) hW z0
      rw [atV_obj (by omega) (by omega) hkn (by omega),putF,if_neg (by simp;omega),Int.toNat_natCast,obj_set] at h5
      have ets:=take_step (B:=B) (k:=k) (by omega)
      rw [hv,hBl] at ets
      rw [ets] at h5
      simp [-Int.natCast_add,-w14_8,hkn']
      simp [-Int.natCast_add,index_slice u42 sz45,load_of ld45,conv_i u3 u90,lx4,q1,q3,w9,up,pn,mp,ef,c5,wk]
      exact ih2 _ _ _ _ ⟨k+1,rfl,by omega,h5,k4.fresh k5 (by simp;omega),rfl⟩ (by omega) ⟨by rfl,by rfl,by rfl,by rfl,by rfl,by rfl,by rfl,trivial⟩
    · have ek:k=n:=by omega
      subst ek
      have hkn':¬ (k:Int) < k:=by omega
      simp [-Int.natCast_add,wi]
      refine ih _ _ _ _ ⟨i+1,wb3,rfl,by omega,by omega,?_,k4,rfl⟩ (by omega) ⟨by rfl,by rfl,by rfl,trivial⟩
      rw [eA,hBl]
      have:B.take k=B:=List.take_of_length_le (by omega)
      simpa [this] using h4
  · have hfin:RefAt m2 rb rb wb vb (wO (objsP l)) 100:=by
      have:l.take i=l.take 8:=by
        by_cases q:i < 8
        · rw [List.take_of_length_le (by omega),List.take_of_length_le (by omega)]
        · rw [show i=8 by omega]
      unfold objsP
      rw [← this];exact h2
    by_cases q1:i < l.length
    · have q1':(i:Int) < l.length:=by omega
      have q2:¬ i < 8:=fun h=>hc ⟨q1,h⟩
      have q2':¬ (i:Int) < 8:=by omega
      simp [-Int.natCast_add,len_slice u42,q1',q2']
      exact⟨⟨wb,vb,hfin⟩,k2⟩
    · have q1':¬ (i:Int) < l.length:=by omega
      simp [-Int.natCast_add,len_slice u42,q1']
      exact⟨⟨wb,vb,hfin⟩,k2⟩
end Go.Proofs.YtlogdohlcdhepaaDoor.base
end
section
set_option maxRecDepth 100000
namespace Go.Proofs.YtlogdohlcdhepaaDoor.base
open Go.Sh gen
theorem mixed:Tryd.prog.follows .mixedOrders=true:=by kernel_rfl
def cfns:List FuncId:=[9,10,11,12,22,25,26,27,28,29,46,47,48,49,50,51,52,53,54,57,58,61,64,65,66,67,68,69,70,71,72,73,74,75,76,79,78,80,81,82,83,84,86,87,90,91,93,97]
theorem ctab:Sh.tabCheck Tryd.prog cfns=true:=by kernel_rfl
theorem nm1:Sh.isVal (.string ⟨[80,97,114,97,109].toArray⟩) (Sh.call Tryd.prog (Sh.tabOf Tryd.prog cfns) Sh.noSums 100000 66 [.int .i64 1] (Sh.memG Tryd.prog []))=true:=by kernel_rfl
theorem nm2:Sh.isVal (.string ⟨[67,111,110,115,116].toArray⟩) (Sh.call Tryd.prog (Sh.tabOf Tryd.prog cfns) Sh.noSums 100000 66 [.int .i64 2] (Sh.memG Tryd.prog []))=true:=by kernel_rfl
theorem nm3:Sh.isVal (.string ⟨[65,100,100].toArray⟩) (Sh.call Tryd.prog (Sh.tabOf Tryd.prog cfns) Sh.noSums 100000 66 [.int .i64 3] (Sh.memG Tryd.prog []))=true:=by kernel_rfl
theorem nm4:Sh.isVal (.string ⟨[83,117,98].toArray⟩) (Sh.call Tryd.prog (Sh.tabOf Tryd.prog cfns) Sh.noSums 100000 66 [.int .i64 4] (Sh.memG Tryd.prog []))=true:=by kernel_rfl
theorem nm5:Sh.isVal (.string ⟨[77,117,108].toArray⟩) (Sh.call Tryd.prog (Sh.tabOf Tryd.prog cfns) Sh.noSums 100000 66 [.int .i64 5] (Sh.memG Tryd.prog []))=true:=by kernel_rfl
theorem nm6:Sh.isVal (.string ⟨[68,105,118].toArray⟩) (Sh.call Tryd.prog (Sh.tabOf Tryd.prog cfns) Sh.noSums 100000 66 [.int .i64 6] (Sh.memG Tryd.prog []))=true:=by kernel_rfl
theorem nm7:Sh.isVal (.string ⟨[82,101,109].toArray⟩) (Sh.call Tryd.prog (Sh.tabOf Tryd.prog cfns) Sh.noSums 100000 66 [.int .i64 7] (Sh.memG Tryd.prog []))=true:=by kernel_rfl
theorem nm8:Sh.isVal (.string ⟨[78,101,103].toArray⟩) (Sh.call Tryd.prog (Sh.tabOf Tryd.prog cfns) Sh.noSums 100000 66 [.int .i64 8] (Sh.memG Tryd.prog []))=true:=by kernel_rfl
theorem nm9:Sh.isVal (.string ⟨[78,111,116].toArray⟩) (Sh.call Tryd.prog (Sh.tabOf Tryd.prog cfns) Sh.noSums 100000 66 [.int .i64 9] (Sh.memG Tryd.prog []))=true:=by kernel_rfl
theorem nm10:Sh.isVal (.string ⟨[69,113].toArray⟩) (Sh.call Tryd.prog (Sh.tabOf Tryd.prog cfns) Sh.noSums 100000 66 [.int .i64 10] (Sh.memG Tryd.prog []))=true:=by kernel_rfl
theorem nm11:Sh.isVal (.string ⟨[78,101].toArray⟩) (Sh.call Tryd.prog (Sh.tabOf Tryd.prog cfns) Sh.noSums 100000 66 [.int .i64 11] (Sh.memG Tryd.prog []))=true:=by kernel_rfl
theorem nm12:Sh.isVal (.string ⟨[76,116].toArray⟩) (Sh.call Tryd.prog (Sh.tabOf Tryd.prog cfns) Sh.noSums 100000 66 [.int .i64 12] (Sh.memG Tryd.prog []))=true:=by kernel_rfl
theorem nm13:Sh.isVal (.string ⟨[76,101].toArray⟩) (Sh.call Tryd.prog (Sh.tabOf Tryd.prog cfns) Sh.noSums 100000 66 [.int .i64 13] (Sh.memG Tryd.prog []))=true:=by kernel_rfl
theorem nm14:Sh.isVal (.string ⟨[66,101,108,111,119].toArray⟩) (Sh.call Tryd.prog (Sh.tabOf Tryd.prog cfns) Sh.noSums 100000 66 [.int .i64 14] (Sh.memG Tryd.prog []))=true:=by kernel_rfl
theorem nm15:Sh.isVal (.string ⟨[84,121,112,101,79,102].toArray⟩) (Sh.call Tryd.prog (Sh.tabOf Tryd.prog cfns) Sh.noSums 100000 66 [.int .i64 15] (Sh.memG Tryd.prog []))=true:=by kernel_rfl
theorem nm16:Sh.isVal (.string ⟨[76,101,110,79,102].toArray⟩) (Sh.call Tryd.prog (Sh.tabOf Tryd.prog cfns) Sh.noSums 100000 66 [.int .i64 16] (Sh.memG Tryd.prog []))=true:=by kernel_rfl
theorem nm17:Sh.isVal (.string ⟨[87,111,114,100].toArray⟩) (Sh.call Tryd.prog (Sh.tabOf Tryd.prog cfns) Sh.noSums 100000 66 [.int .i64 17] (Sh.memG Tryd.prog []))=true:=by kernel_rfl
theorem nm18:Sh.isVal (.string ⟨[87,111,114,100,65,116].toArray⟩) (Sh.call Tryd.prog (Sh.tabOf Tryd.prog cfns) Sh.noSums 100000 66 [.int .i64 18] (Sh.memG Tryd.prog []))=true:=by kernel_rfl
theorem nm19:Sh.isVal (.string ⟨[80,117,116].toArray⟩) (Sh.call Tryd.prog (Sh.tabOf Tryd.prog cfns) Sh.noSums 100000 66 [.int .i64 19] (Sh.memG Tryd.prog []))=true:=by kernel_rfl
theorem nm20:Sh.isVal (.string ⟨[80,117,116,65,116].toArray⟩) (Sh.call Tryd.prog (Sh.tabOf Tryd.prog cfns) Sh.noSums 100000 66 [.int .i64 20] (Sh.memG Tryd.prog []))=true:=by kernel_rfl
theorem nm21:Sh.isVal (.string ⟨[80,104,105].toArray⟩) (Sh.call Tryd.prog (Sh.tabOf Tryd.prog cfns) Sh.noSums 100000 66 [.int .i64 21] (Sh.memG Tryd.prog []))=true:=by kernel_rfl
theorem nm22:Sh.isVal (.string ⟨[71,117,97,114,100].toArray⟩) (Sh.call Tryd.prog (Sh.tabOf Tryd.prog cfns) Sh.noSums 100000 66 [.int .i64 22] (Sh.memG Tryd.prog []))=true:=by kernel_rfl
theorem nm23:Sh.isVal (.string ⟨[80,111,108,108].toArray⟩) (Sh.call Tryd.prog (Sh.tabOf Tryd.prog cfns) Sh.noSums 100000 66 [.int .i64 23] (Sh.memG Tryd.prog []))=true:=by kernel_rfl
def opsL:List (List UInt8):=[[],[80,97,114,97,109],[67,111,110,115,116],[65,100,100],[83,117,98],[77,117,108],[68,105,118],[82,101,109],[78,101,103],[78,111,116],[69,113],[78,101],[76,116],[76,101],[66,101,108,111,119],[84,121,112,101,79,102],[76,101,110,79,102],[87,111,114,100],[87,111,114,100,65,116],[80,117,116],[80,117,116,65,116],[80,104,105],[71,117,97,114,100],[80,111,108,108]]
def nmL:List (List Value × Value):=[([.int .i64 1],.string ⟨[80,97,114,97,109].toArray⟩),([.int .i64 2],.string ⟨[67,111,110,115,116].toArray⟩),([.int .i64 3],.string ⟨[65,100,100].toArray⟩),([.int .i64 4],.string ⟨[83,117,98].toArray⟩),([.int .i64 5],.string ⟨[77,117,108].toArray⟩),([.int .i64 6],.string ⟨[68,105,118].toArray⟩),([.int .i64 7],.string ⟨[82,101,109].toArray⟩),([.int .i64 8],.string ⟨[78,101,103].toArray⟩),([.int .i64 9],.string ⟨[78,111,116].toArray⟩),([.int .i64 10],.string ⟨[69,113].toArray⟩),([.int .i64 11],.string ⟨[78,101].toArray⟩),([.int .i64 12],.string ⟨[76,116].toArray⟩),([.int .i64 13],.string ⟨[76,101].toArray⟩),([.int .i64 14],.string ⟨[66,101,108,111,119].toArray⟩),([.int .i64 15],.string ⟨[84,121,112,101,79,102].toArray⟩),([.int .i64 16],.string ⟨[76,101,110,79,102].toArray⟩),([.int .i64 17],.string ⟨[87,111,114,100].toArray⟩),([.int .i64 18],.string ⟨[87,111,114,100,65,116].toArray⟩),([.int .i64 19],.string ⟨[80,117,116].toArray⟩),([.int .i64 20],.string ⟨[80,117,116,65,116].toArray⟩),([.int .i64 21],.string ⟨[80,104,105].toArray⟩),([.int .i64 22],.string ⟨[71,117,97,114,100].toArray⟩),([.int .i64 23],.string ⟨[80,111,108,108].toArray⟩)]
def sums0:Sums:=fun f=>if f=66 then nmL else []
theorem sumsOk0:SumsOk Tryd.prog sums0:=by
  intro f p hp
  unfold sums0 at hp
  split at hp
  · rename_i hf
    subst hf
    simp only [nmL,List.mem_cons,List.not_mem_nil,or_false] at hp
    have key:∀ (a:List Value) (v:Value),closedL a=true→closedV v=true→Sh.isVal v (Sh.call Tryd.prog (Sh.tabOf Tryd.prog cfns) Sh.noSums 100000 66 a (Sh.memG Tryd.prog []))=true→_:=fun a v h1 h2 h=>fun w=>Sh.closed_val mixed (Sh.tab_ok ctab) (Sh.noSums_ok _) 100000 66 Tryd.func66 (by kernel_rfl) (gs:=[]) h1 h2 h w (fun p hp=>by simp at hp)
    have fin:Tryd.prog.funcs[66]?=some Tryd.f66:=Tryd.func66
    rcases hp with rfl | rfl | rfl | rfl | rfl | rfl | rfl | rfl | rfl | rfl | rfl | rfl | rfl | rfl | rfl | rfl | rfl | rfl | rfl | rfl | rfl | rfl | rfl
    · exact⟨rfl,rfl,⟨Tryd.f66,Tryd.func66,by kernel_rfl,by kernel_rfl⟩,key _ _ rfl rfl nm1⟩
    · exact⟨rfl,rfl,⟨Tryd.f66,Tryd.func66,by kernel_rfl,by kernel_rfl⟩,key _ _ rfl rfl nm2⟩
    · exact⟨rfl,rfl,⟨Tryd.f66,Tryd.func66,by kernel_rfl,by kernel_rfl⟩,key _ _ rfl rfl nm3⟩
    · exact⟨rfl,rfl,⟨Tryd.f66,Tryd.func66,by kernel_rfl,by kernel_rfl⟩,key _ _ rfl rfl nm4⟩
    · exact⟨rfl,rfl,⟨Tryd.f66,Tryd.func66,by kernel_rfl,by kernel_rfl⟩,key _ _ rfl rfl nm5⟩
    · exact⟨rfl,rfl,⟨Tryd.f66,Tryd.func66,by kernel_rfl,by kernel_rfl⟩,key _ _ rfl rfl nm6⟩
    · exact⟨rfl,rfl,⟨Tryd.f66,Tryd.func66,by kernel_rfl,by kernel_rfl⟩,key _ _ rfl rfl nm7⟩
    · exact⟨rfl,rfl,⟨Tryd.f66,Tryd.func66,by kernel_rfl,by kernel_rfl⟩,key _ _ rfl rfl nm8⟩
    · exact⟨rfl,rfl,⟨Tryd.f66,Tryd.func66,by kernel_rfl,by kernel_rfl⟩,key _ _ rfl rfl nm9⟩
    · exact⟨rfl,rfl,⟨Tryd.f66,Tryd.func66,by kernel_rfl,by kernel_rfl⟩,key _ _ rfl rfl nm10⟩
    · exact⟨rfl,rfl,⟨Tryd.f66,Tryd.func66,by kernel_rfl,by kernel_rfl⟩,key _ _ rfl rfl nm11⟩
    · exact⟨rfl,rfl,⟨Tryd.f66,Tryd.func66,by kernel_rfl,by kernel_rfl⟩,key _ _ rfl rfl nm12⟩
    · exact⟨rfl,rfl,⟨Tryd.f66,Tryd.func66,by kernel_rfl,by kernel_rfl⟩,key _ _ rfl rfl nm13⟩
    · exact⟨rfl,rfl,⟨Tryd.f66,Tryd.func66,by kernel_rfl,by kernel_rfl⟩,key _ _ rfl rfl nm14⟩
    · exact⟨rfl,rfl,⟨Tryd.f66,Tryd.func66,by kernel_rfl,by kernel_rfl⟩,key _ _ rfl rfl nm15⟩
    · exact⟨rfl,rfl,⟨Tryd.f66,Tryd.func66,by kernel_rfl,by kernel_rfl⟩,key _ _ rfl rfl nm16⟩
    · exact⟨rfl,rfl,⟨Tryd.f66,Tryd.func66,by kernel_rfl,by kernel_rfl⟩,key _ _ rfl rfl nm17⟩
    · exact⟨rfl,rfl,⟨Tryd.f66,Tryd.func66,by kernel_rfl,by kernel_rfl⟩,key _ _ rfl rfl nm18⟩
    · exact⟨rfl,rfl,⟨Tryd.f66,Tryd.func66,by kernel_rfl,by kernel_rfl⟩,key _ _ rfl rfl nm19⟩
    · exact⟨rfl,rfl,⟨Tryd.f66,Tryd.func66,by kernel_rfl,by kernel_rfl⟩,key _ _ rfl rfl nm20⟩
    · exact⟨rfl,rfl,⟨Tryd.f66,Tryd.func66,by kernel_rfl,by kernel_rfl⟩,key _ _ rfl rfl nm21⟩
    · exact⟨rfl,rfl,⟨Tryd.f66,Tryd.func66,by kernel_rfl,by kernel_rfl⟩,key _ _ rfl rfl nm22⟩
    · exact⟨rfl,rfl,⟨Tryd.f66,Tryd.func66,by kernel_rfl,by kernel_rfl⟩,key _ _ rfl rfl nm23⟩
  · simp at hp
theorem known:Sh.isVal (.bool true) (Sh.call Tryd.prog (Sh.tabOf Tryd.prog cfns) sums0 100000 12 [] (Sh.memG Tryd.prog []))=true:=by kernel_rfl
def sums:Sums:=fun f=>if f=12 then [([],.bool true)] else sums0 f
theorem sumsOk:SumsOk Tryd.prog sums:=by
  intro f p hp
  unfold sums at hp
  split at hp
  · rename_i hf
    subst hf
    simp only [List.mem_cons,List.not_mem_nil,or_false] at hp
    subst hp
    exact⟨rfl,rfl,⟨Tryd.f12,Tryd.func12,by kernel_rfl,by kernel_rfl⟩,fun w=>Sh.closed_val mixed (Sh.tab_ok ctab) sumsOk0 100000 12 Tryd.func12 (by kernel_rfl) (gs:=[]) (by kernel_rfl) (by kernel_rfl) known w (fun p hp=>by simp at hp)⟩
  · exact sumsOk0 f p hp
end Go.Proofs.YtlogdohlcdhepaaDoor.base
end
