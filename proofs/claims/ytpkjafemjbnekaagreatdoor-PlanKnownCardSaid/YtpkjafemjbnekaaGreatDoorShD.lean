/-
  This text proves more of how the operations of the abstract run are looked at.
  No condition but what the theorems themselves say.
-/
import Derived.Test.YtpkjafemjbnekaaGreatDoorShC
import Derived.Orders
import Derived.SliceStrings

/- The abstract run over lists of known slots: a walk forward by rewriting. -/
namespace Go.Sh
open Go.RowKit
set_option linter.unusedVariables false
set_option linter.unusedSimpArgs false

section
variable {P : Program} {H : CallH}

theorem closedOp_congr {ρ ρ' : Operand → Value} (o : Oper) (hs : ∀ cs b, o.op ≠ .select cs b) (h : ∀ x ∈ o.op.operands, ρ x = ρ' x) : closedOp P ρ o = closedOp P ρ' o := by
  unfold closedOp
  rw [execOp_congr o hs h]
  have : o.op.operands.all (fun x => closedV (ρ x)) = o.op.operands.all (fun x => closedV (ρ' x)) := by
    rw [Bool.eq_iff_iff, Array.all_eq_true', Array.all_eq_true']
    constructor
    · intro hh x hx; rw [← h x hx]; exact hh x hx
    · intro hh x hx; rw [h x hx]; exact hh x hx
  rw [this]

theorem sop_congr {ρ ρ' : Operand → Value} (o : Oper) (h : ∀ x ∈ o.op.operands, ρ x = ρ' x) (m : Mem) : sop P H ρ o m = sop P H ρ' o m := by
  by_cases hs : ∀ cs b, o.op ≠ .select cs b
  · have hc := closedOp_congr (P := P) o hs h
    obtain ⟨dst, op, type, pos, after, guard⟩ := o
    have pairs : ∀ ps : Array (Nat × Operand), (∀ x ∈ ps.map (·.2), ρ x = ρ' x) →
        (ps.map fun (i, x) => (i, ρ x)) = (ps.map fun (i, x) => (i, ρ' x)) := fun ps hp =>
      Array.map_congr_left fun p hm => by
        obtain ⟨i, x⟩ := p
        simp only [hp x (Array.mem_map.2 ⟨(i, x), hm, rfl⟩)]
    cases op <;> simp only [Op.operands] at h
    case select cs b => exact absurd rfl (hs cs b)
    case build t ps => simp only [sop, s_build]; rw [pairs ps fun x hx => h x (by simpa using hx)]
    case buildSlice t n ps => simp only [sop, s_buildSlice]; rw [pairs ps fun x hx => h x (by simpa using hx)]
    case makeFunc fn first captured =>
      have e1 := Array.map_congr_left (xs := first) (f := ρ) (g := ρ') fun x hx => h x (by simp [hx])
      have e2 := Array.map_congr_left (xs := captured) (f := ρ) (g := ρ') fun x hx => h x (by simp [hx])
      cases fn <;> simp only [sop] <;> first
        | rw [e1, e2]
        | rw [hc]
    case slice t x lo hi mx =>
      cases lo <;> cases hi <;> cases mx <;> simp only [sop, s_slice] <;> first
        | (rw [hc]; simp_all; done)
        | (simp_all; done)
    case makeMap t r => cases r <;> simp_all [sop, s_makeMap]
    case call c =>
      obtain ⟨callee, args, argTypes⟩ := c
      have ha : args.toList.map ρ = args.toList.map ρ' := List.map_congr_left fun x hx => h x (by cases callee <;> simp_all [Call.operands])
      cases callee with
      | value f =>
        have hf : ρ f = ρ' f := h f (by simp [Call.operands])
        simp only [sop, sopCall, c_value, hf, ha]
      | invoke r n =>
        have hf : ρ r = ρ' r := h r (by simp [Call.operands])
        simp only [sop, sopCall, c_invoke, hf, ha]
      | builtin b =>
        have hm : ∀ x ∈ args.toList, ρ x = ρ' x := fun x hx => h x (by simp_all [Call.operands])
        have tail : (closedOp P ρ ⟨dst, .call ⟨.builtin b, args, argTypes⟩, type, pos, after, guard⟩).map (·, m) = (closedOp P ρ' ⟨dst, .call ⟨.builtin b, args, argTypes⟩, type, pos, after, guard⟩).map (·, m) := by rw [hc]
        cases b with
        | delete =>
          simp only [sop, sopCall, c_delete]
          rcases hl : args.toList with _ | ⟨x, _ | ⟨y, _ | ⟨z, r⟩⟩⟩ <;> rw [hl] at hm <;> rcases hl2 : argTypes.toList with _ | ⟨u, _ | ⟨v, _ | ⟨w, r2⟩⟩⟩ <;> simp_all
        | append =>
          simp only [sop, sopCall, c_append]
          rcases hl : args.toList with _ | ⟨x, _ | ⟨y, _ | ⟨z, r⟩⟩⟩ <;> rw [hl] at hm <;> rcases hl2 : argTypes.toList with _ | ⟨u, _ | ⟨v, _ | ⟨w, r2⟩⟩⟩ <;> simp_all
        | len =>
          simp only [sop, sopCall, c_len]
          rcases hl : args.toList with _ | ⟨x, _ | ⟨y, r⟩⟩ <;> rw [hl] at hm <;> rcases hl2 : argTypes.toList with _ | ⟨u, _ | ⟨v, r2⟩⟩ <;> simp_all
        | copy =>
          simp only [sop, sopCall, c_copy]
          rcases hl : args.toList with _ | ⟨x, _ | ⟨y, _ | ⟨z, r⟩⟩⟩ <;> rw [hl] at hm <;> rcases hl2 : argTypes.toList with _ | ⟨u, _ | ⟨v, _ | ⟨w, r2⟩⟩⟩ <;> simp_all
        | unsafeSliceData =>
          simp only [sop, sopCall, c_sliceData]
          rcases hl : args.toList with _ | ⟨x, _ | ⟨y, r⟩⟩ <;> rw [hl] at hm <;> simp_all
        | unsafeString =>
          simp only [sop, sopCall, c_unsafeString]
          rcases hl : args.toList with _ | ⟨x, _ | ⟨y, _ | ⟨z, r⟩⟩⟩ <;> rw [hl] at hm <;> rcases hl2 : argTypes.toList with _ | ⟨u, _ | ⟨v, _ | ⟨w, r2⟩⟩⟩ <;> simp_all
        | _ => exact tail
    all_goals first
      | exact congrArg (Option.map _) hc
      | (simp_all [sop, s_pick, s_nilCheck, s_alloc, s_box, s_load, s_store, s_fieldAddr, s_field, s_indexAddr, s_index, s_extract, s_makeSlice, s_binOp, s_binOp0, s_unOp, s_convert, s_makeInterface, s_typeAssert, s_lookup, s_mapUpdate, s_mapEntry, s_entryStore]; done)
      | (simp_all [sop]; done)
  · obtain ⟨dst, op, type, pos, after, guard⟩ := o
    cases op with
    | select cs b => rfl
    | _ => exact absurd (fun cs b => by simp) hs
end

section
variable {P : Program} {H : CallH}
/- known slots -/
abbrev LEnv := List (Nat × Value)

def lget : LEnv → Nat → Option Value
  | [], _ => none
  | (j, v) :: r, i => if i = j then some v else lget r i

/-- what the list knows is so -/
def Has (t : Tree Value) (E : LEnv) : Prop := ∀ i v, lget E i = some v → t.get i = some v

def lev (E : LEnv) : Operand → Value
  | .tmp i => (lget E i).getD undef
  | .const v => v
  | .global g => .pointer (some ⟨g, 0, none⟩)
  | .func f => .func (.func f) #[] #[]

def lhas (E : LEnv) : Operand → Bool
  | .tmp i => (lget E i).isSome
  | _ => true

theorem lev_ev {t : Tree Value} {E : LEnv} (h : Has t E) {x : Operand} (hx : lhas E x = true) : ev t x = lev E x := by
  cases x with
  | tmp i =>
    simp only [lhas] at hx
    obtain ⟨v, hv⟩ := Option.isSome_iff_exists.1 hx
    simp [ev, lev, hv, h i v hv]
  | _ => rfl

/-- one operation, over known slots; ds: the slots of the region's operations -/
def lop1 (P : Program) (H : CallH) (ds : List (Option Tmp)) (o : Oper) (E : LEnv) (m : Mem) : Option (Value × Mem) :=
  match o.guard with
  | none => sop P H (lev E) o m
  | some (j, w) => match ds[j]? with
    | some (some d) => match lget E d with
      | some v => (match v with
        | .bool b => if b = w then sop P H (lev E) o m else some (undef, m)
        | _ => some (undef, m))
      | none => none
    | _ => none

def lput (E : LEnv) (d : Option Tmp) (v : Value) : LEnv := match d with
  | some d => (d, v) :: E
  | none => E

def lops (P : Program) (H : CallH) (ds : List (Option Tmp)) : List Oper → LEnv → Mem → Option (LEnv × Mem)
  | [], E, m => some (E, m)
  | o :: rest, E, m => match lop1 P H ds o E m with
    | some (v, m') => lops P H ds rest (lput E o.dst v) m'
    | none => none

def tmpsOf (o : Oper) : List Nat := o.op.operands.toList.filterMap fun x => match x with
  | .tmp i => some i
  | _ => none

/-- the slots that a region reads and does not set itself before -/
def needs : List Oper → List Nat → List Nat
  | [], _ => []
  | o :: r, D => (tmpsOf o).filter (fun i => !D.contains i) ++ needs r (o.dst.toList ++ D)

def lall (E : LEnv) : List Nat → Bool
  | [] => true
  | i :: r => (lget E i).isSome && lall E r

theorem lall_iff {E : LEnv} : ∀ {l : List Nat}, lall E l = true ↔ ∀ i ∈ l, (lget E i).isSome = true
  | [] => by simp [lall]
  | i :: r => by simp [lall, lall_iff (l := r)]

theorem lput_some {E : LEnv} {d : Option Tmp} {v : Value} {i : Nat} (h : (lget E i).isSome = true ∨ d = some i) : (lget (lput E d v) i).isSome = true := by
  cases d with
  | none => rcases h with h | h
            · exact h
            · cases h
  | some d =>
    simp only [lput, lget]
    split
    · rfl
    · rename_i hne
      rcases h with h | h
      · exact h
      · exact absurd (Option.some.inj h).symm hne

theorem Has.put {t : Tree Value} {E : LEnv} (h : Has t E) (d : Option Tmp) (v : Value) : Has (put t d v) (lput E d v) := by
  cases d with
  | none => exact h
  | some d =>
    intro i w hi
    simp only [lput, lget] at hi
    simp only [Sh.put, Tree.get_set]
    split
    · rename_i e
      rw [if_pos e] at hi
      exact hi
    · rename_i e
      rw [if_neg e] at hi
      exact h i w hi

theorem lop1_sop1 {ds : List (Option Tmp)} {all : List Oper} (hd : all.map (·.dst) = ds) {o : Oper} {E : LEnv} {t : Tree Value} (h : Has t E) (hn : ∀ i ∈ tmpsOf o, (lget E i).isSome = true) {m : Mem} {r : Value × Mem} (he : lop1 P H ds o E m = some r) : sop1 P H all o t m = some r := by
  have run : sop P H (ev t) o m = sop P H (lev E) o m := by
    refine sop_congr o (fun x hx => lev_ev h ?_) m
    cases x with
    | tmp i => exact hn i (List.mem_filterMap.2 ⟨.tmp i, by simpa using hx, rfl⟩)
    | _ => rfl
  unfold lop1 at he
  unfold sop1 swanted
  split at he
  · rename_i hg
    rw [hg]
    simp only [if_true]
    rw [run]; exact he
  · rename_i j w hg
    rw [hg]
    split at he
    · rename_i d hj
      split at he
      · rename_i v hb
        split at he
        · rename_i b
          have hy : syield all t j = some b := by
            subst hd
            rw [List.getElem?_map] at hj
            obtain ⟨o', h1, h2⟩ := Option.map_eq_some_iff.1 hj
            simp only [syield, h1, Option.bind_some, h2, h d _ hb]
          simp only [hy]
          split at he
          · rename_i e
            subst e
            simp only [beq_self_eq_true, if_true]
            rw [run]; exact he
          · rename_i e
            rw [if_neg (by simpa using e)]
            exact he
        · rename_i hnb
          have hy : syield all t j = none := by
            subst hd
            rw [List.getElem?_map] at hj
            obtain ⟨o', h1, h2⟩ := Option.map_eq_some_iff.1 hj
            simp only [syield, h1, Option.bind_some, h2, h d _ hb]
            split
            · rename_i b e
              simp only [Option.some.injEq] at e
              exact absurd e (hnb b)
            · rfl
          simp only [hy]
          rw [if_neg (by simp)]
          exact he
      · cases he
    · cases he

theorem needs_step {o : Oper} {r : List Oper} {D : List Nat} {E : LEnv} {v : Value} (hn : ∀ i ∈ needs (o :: r) D, (lget E i).isSome = true) (hD : ∀ i ∈ D, (lget E i).isSome = true) :
    (∀ i ∈ tmpsOf o, (lget E i).isSome = true) ∧ (∀ i ∈ needs r (o.dst.toList ++ D), (lget (lput E o.dst v) i).isSome = true) ∧ (∀ i ∈ o.dst.toList ++ D, (lget (lput E o.dst v) i).isSome = true) := by
  refine ⟨fun i hi => ?_, fun i hi => lput_some (Or.inl (hn i ?_)), fun i hi => ?_⟩
  · by_cases h : i ∈ D
    · exact hD i h
    · exact hn i (by simp only [needs]; exact List.mem_append_left _ (List.mem_filter.2 ⟨hi, by simpa using h⟩))
  · simp only [needs]; exact List.mem_append_right _ hi
  · rcases List.mem_append.1 hi with h | h
    · exact lput_some (Or.inr (by simpa using h))
    · exact lput_some (Or.inl (hD i h))

theorem lops_sops {ds : List (Option Tmp)} {all : List Oper} (hd : all.map (·.dst) = ds) : ∀ (rest : List Oper) (D : List Nat) (E : LEnv) (t : Tree Value) (m : Mem) (E' : LEnv) (m' : Mem), Has t E → (∀ i ∈ needs rest D, (lget E i).isSome = true) → (∀ i ∈ D, (lget E i).isSome = true) → lops P H ds rest E m = some (E', m') → ∃ t', sops P H all rest t m = some (t', m') ∧ Has t' E'
  | [], D, E, t, m, E', m', h, _, _, he => by
    simp only [lops, Option.some.injEq, Prod.mk.injEq] at he
    obtain ⟨rfl, rfl⟩ := he
    exact ⟨t, rfl, h⟩
  | o :: rest, D, E, t, m, E', m', h, hn, hD, he => by
    simp only [lops] at he
    split at he
    · rename_i v m1 h1
      obtain ⟨n1, n2, n3⟩ := needs_step (v := v) hn hD
      obtain ⟨t', g1, g2⟩ := lops_sops hd rest _ _ (put t o.dst v) _ _ _ (h.put _ _) n2 n3 he
      refine ⟨t', ?_, g2⟩
      simp only [sops, lop1_sop1 hd h n1 h1]
      exact g1
    · cases he

/- regions that draw their order -/
def lstates (P : Program) (H : CallH) (ds : List (Option Tmp)) : List Oper → LEnv → Mem → Option (List (LEnv × Mem))
  | [], E, m => some [(E, m)]
  | o :: rest, E, m => match lop1 P H ds o E m with
    | some (v, m') => match lstates P H ds rest (lput E o.dst v) m' with
      | some l => some ((E, m) :: l)
      | none => none
    | none => none

def lsame (P : Program) (H : CallH) (ds : List (Option Tmp)) (o : Oper) (E : LEnv) (v : Value) (m : Mem) : Bool :=
  match lop1 P H ds o E m with
  | some (v', _) => eqV v v'
  | none => false

def lreads (P : Program) (H : CallH) (ds : List (Option Tmp)) (all : List Oper) (S : List (LEnv × Mem)) : List (Nat × List Nat) → Bool
  | [] => true
  | (j, is) :: r => (match all[j]?, S[j]? with
    | some o, some (E, m) => match lop1 P H ds o E m with
      | some (v, _) => is.all fun i => match S[i]? with
        | some (_, m') => lsame P H ds o E v m'
        | none => false
      | none => false
    | _, _ => false) && lreads P H ds all S r

/-- the states, known and whole -/
def lrel : List Oper → List (LEnv × Mem) → List (Tree Value × Mem) → Prop
  | [], [a], [b] => a.2 = b.2 ∧ Has b.1 a.1
  | o :: ro, a :: r, b :: s => a.2 = b.2 ∧ Has b.1 a.1 ∧ (∀ i ∈ tmpsOf o, (lget a.1 i).isSome = true) ∧ lrel ro r s
  | _, _, _ => False

theorem lstates_states {ds : List (Option Tmp)} {all : List Oper} (hd : all.map (·.dst) = ds) : ∀ (rest : List Oper) (D : List Nat) (E : LEnv) (t : Tree Value) (m : Mem) (S : List (LEnv × Mem)), Has t E → (∀ i ∈ needs rest D, (lget E i).isSome = true) → (∀ i ∈ D, (lget E i).isSome = true) → lstates P H ds rest E m = some S → ∃ T, states P H all rest t m = some T ∧ lrel rest S T
  | [], D, E, t, m, S, h, _, _, he => by
    simp only [lstates, Option.some.injEq] at he
    subst he
    exact ⟨[(t, m)], rfl, rfl, h⟩
  | o :: rest, D, E, t, m, S, h, hn, hD, he => by
    simp only [lstates] at he
    split at he
    · rename_i v m1 h1
      split at he
      · rename_i l hl
        simp only [Option.some.injEq] at he
        subst he
        obtain ⟨n1, n2, n3⟩ := needs_step (v := v) hn hD
        obtain ⟨T, g1, g2⟩ := lstates_states hd rest _ _ (put t o.dst v) _ _ (h.put _ _) n2 n3 hl
        refine ⟨(t, m) :: T, ?_, rfl, h, n1, g2⟩
        simp only [states, lop1_sop1 hd h n1 h1, g1]
      · cases he
    · cases he

theorem lrel_get : ∀ {ops : List Oper} {S : List (LEnv × Mem)} {T : List (Tree Value × Mem)} (h : lrel ops S T) (i : Nat) (a : LEnv × Mem), S[i]? = some a → ∃ b, T[i]? = some b ∧ a.2 = b.2 ∧ Has b.1 a.1 ∧ ∀ o, ops[i]? = some o → ∀ q ∈ tmpsOf o, (lget a.1 q).isSome = true
  | [], [a], [b], h, i, a', hi => by
    cases i with
    | zero => simp at hi; subst hi; exact ⟨b, rfl, h.1, h.2, by simp⟩
    | succ i => simp at hi
  | o :: ro, a :: r, b :: s, h, i, a', hi => by
    cases i with
    | zero => simp at hi; subst hi; exact ⟨b, rfl, h.1, h.2.1, by simp; exact h.2.2.1⟩
    | succ i =>
      simp only [List.getElem?_cons_succ] at hi ⊢
      exact lrel_get h.2.2.2 i a' hi
  | [], [], _, h, _, _, _ => h.elim
  | [], [_], [], h, _, _, _ => h.elim
  | [], [_], _ :: _ :: _, h, _, _, _ => h.elim
  | [], _ :: _ :: _, _, h, _, _, _ => h.elim
  | _ :: _, [], _, h, _, _, _ => h.elim
  | _ :: _, _ :: _, [], h, _, _, _ => h.elim

theorem lrel_last : ∀ {ops : List Oper} {S : List (LEnv × Mem)} {T : List (Tree Value × Mem)} (h : lrel ops S T) {a : LEnv × Mem}, S.getLast? = some a → ∃ t, T.getLast? = some (t, a.2) ∧ Has t a.1
  | [], [a], [b], h, a', hi => by
    simp at hi; subst hi
    obtain ⟨b1, b2⟩ := b
    obtain ⟨h1, h2⟩ := h
    simp only at h1 h2
    exact ⟨b1, by simp [h1], h2⟩
  | o :: ro, a :: r, b :: s, h, a', hi => by
    have hr := h.2.2.2
    have hne : r ≠ [] := by rintro rfl; cases ro <;> simp [lrel] at hr
    have hne2 : s ≠ [] := by rintro rfl; cases ro <;> cases r <;> simp [lrel] at hr
    obtain ⟨x, r', rfl⟩ := List.exists_cons_of_ne_nil hne
    obtain ⟨y, s', rfl⟩ := List.exists_cons_of_ne_nil hne2
    rw [List.getLast?_cons_cons] at hi ⊢
    exact lrel_last hr hi
  | [], [], _, h, _, _ => h.elim
  | [], [_], [], h, _, _ => h.elim
  | [], [_], _ :: _ :: _, h, _, _ => h.elim
  | [], _ :: _ :: _, _, h, _, _ => h.elim
  | _ :: _, [], _, h, _, _ => h.elim
  | _ :: _, _ :: _, [], h, _, _ => h.elim

theorem lreads_check {ds : List (Option Tmp)} {all : List Oper} (hd : all.map (·.dst) = ds) {S : List (LEnv × Mem)} {T : List (Tree Value × Mem)} (h : lrel all S T) : ∀ (pl : List (Nat × List Nat)), lreads P H ds all S pl = true →
    (pl.all fun (j, is) => match all[j]?, T[j]? with
      | some o, some (t, m) => match sop1 P H all o t m with
        | some (v, _) => is.all fun i => match T[i]? with
          | some (_, m') => readsSame P H all o t v m'
          | none => false
        | none => false
      | _, _ => false) = true
  | [], _ => rfl
  | (j, is) :: r, hr => by
    simp only [lreads, Bool.and_eq_true] at hr
    rw [List.all_cons, Bool.and_eq_true]
    refine ⟨?_, lreads_check hd h r hr.2⟩
    have h1 := hr.1
    split at h1
    · rename_i o E m ho hS
      obtain ⟨⟨t, m2⟩, g1, g2, g3, g4⟩ := lrel_get h j _ hS
      simp only at g2 g3 g4
      subst g2
      have n1 := g4 o ho
      split at h1
      · rename_i v m' h2
        simp only [ho, g1, lop1_sop1 hd g3 n1 h2]
        rw [List.all_eq_true] at h1 ⊢
        intro i hi
        have h3 := h1 i hi
        split at h3
        · rename_i E3 m3 hS3
          obtain ⟨⟨t3, m4⟩, k1, k2, _, _⟩ := lrel_get h i _ hS3
          simp only at k2
          subst k2
          simp only [k1]
          unfold lsame at h3
          unfold readsSame
          split at h3
          · rename_i v' m5 h5
            rw [lop1_sop1 hd g3 n1 h5]
            exact h3
          · cases h3
        · cases h3
      · cases h1
    · cases h1

/-- where a store goes -/
def lstAt (E : LEnv) (o : Oper) : Option Nat := match o.op with
  | .store _ x _ => match lev E x with
    | .pointer (some a) => some a.block
    | _ => none
  | _ => none
def lapart (r : List Oper) (x y : Oper) (S : List (LEnv × Mem)) : Bool := match S[r.length]? with
  | some (E, _) => match lstAt E x, lstAt E y with
    | some p, some q => p != q
    | _, _ => false
  | none => false
/-- one whose last two go in either order -/
def lpair (P : Program) (H : CallH) (r : List Oper) (x y : Oper) (E : LEnv) (m : Mem) : Option (LEnv × Mem) :=
  if lall E (needs (r ++ [x, edgeTo r.length y]) []) && lall E (needs (r ++ [y, edgeTo r.length x]) []) then
    match lstates P H ((r ++ [x, edgeTo r.length y]).map (·.dst)) (r ++ [x, edgeTo r.length y]) E m with
    | some S => match lstates P H ((r ++ [y, edgeTo r.length x]).map (·.dst)) (r ++ [y, edgeTo r.length x]) E m with
      | some S2 => if lapart r x y S && lreads P H ((r ++ [x, edgeTo r.length y]).map (·.dst)) (r ++ [x, edgeTo r.length y]) S (readPlaces P (r ++ [x, edgeTo r.length y])) && lreads P H ((r ++ [y, edgeTo r.length x]).map (·.dst)) (r ++ [y, edgeTo r.length x]) S2 (readPlaces P (r ++ [y, edgeTo r.length x])) then S.getLast? else none
      | none => none
    | none => none
  else none
def ldrawn (P : Program) (H : CallH) (cs : List Oper) (E : LEnv) (m : Mem) : Option (LEnv × Mem) :=
  if lall E (needs cs []) then (match lstates P H (cs.map (·.dst)) cs E m with
    | some S => if lreads P H (cs.map (·.dst)) cs S (readPlaces P cs) then S.getLast? else none
    | none => none) else none

/-- a region -/
def lregion (P : Program) (H : CallH) (ops : List Oper) (draw : Bool) (E : LEnv) (m : Mem) : Option (LEnv × Mem) :=
  if draw then
    if quiet P (canonOps ops) then (if lall E (needs (canonOps ops) []) then lops P H ((canonOps ops).map (·.dst)) (canonOps ops) E m else none)
    else match two (canonOps ops) with
      | some (r, x, y) => lpair P H r x y E m
      | none => ldrawn P H (canonOps ops) E m
  else if lall E (needs ops []) then lops P H (ops.map (·.dst)) ops E m else none

theorem lev_ptr {E : LEnv} {t : Tree Value} (h : Has t E) {x : Operand} {a : Addr} (he : lev E x = .pointer (some a)) : ev t x = .pointer (some a) := by
  cases x with
  | tmp i =>
    simp only [lev] at he
    cases hg : lget E i with
    | none => rw [hg] at he; cases he
    | some v =>
      rw [hg] at he
      simp only [Option.getD_some] at he
      subst he
      simp only [ev, h i _ hg, Option.getD_some]
  | const v => exact he
  | global g => exact he
  | func f => exact he
theorem lstAt_sound {E : LEnv} {t : Tree Value} (h : Has t E) {o : Oper} {p : Nat} (he : lstAt E o = some p) : stAt t o = some p := by
  unfold lstAt at he
  unfold stAt
  split at he
  · rename_i x _ ho
    rw [ho]
    split at he
    · rename_i a ha
      simp only [lev_ptr h ha]
      exact he
    · cases he
  · cases he

theorem lregion_sound {ops : List Oper} {draw : Bool} {E E' : LEnv} {t : Tree Value} {m m' : Mem} (h : Has t E) (he : lregion P H ops draw E m = some (E', m')) : ∃ t', sregion P H ops draw t m = some (t', m') ∧ Has t' E' := by
  unfold lregion at he
  unfold sregion
  cases draw with
  | true =>
    simp only [if_true] at he ⊢
    split at he
    · rename_i hq
      rw [if_pos hq]
      split at he
      · rename_i hn
        exact lops_sops rfl _ [] _ _ _ _ _ h (lall_iff.1 hn) (fun i hi => by simp at hi) he
      · cases he
    · rename_i hq
      rw [if_neg hq]
      split at he
      · rename_i r x y ht
        simp only [ht]
        unfold lpair at he
        unfold spair
        split at he
        · rename_i hn
          rw [Bool.and_eq_true] at hn
          split at he
          · rename_i S hS
            split at he
            · rename_i S2 hS2
              split at he
              · rename_i hc
                simp only [Bool.and_eq_true] at hc
                obtain ⟨T, g1, g2⟩ := lstates_states rfl _ [] _ _ _ _ h (lall_iff.1 hn.1) (fun i hi => by simp at hi) hS
                obtain ⟨T2, k1, k2⟩ := lstates_states rfl _ [] _ _ _ _ h (lall_iff.1 hn.2) (fun i hi => by simp at hi) hS2
                have c1 : checkReads P H (r ++ [x, edgeTo r.length y]) T = true := lreads_check rfl g2 _ hc.1.2
                have c2 : checkReads P H (r ++ [y, edgeTo r.length x]) T2 = true := lreads_check rfl k2 _ hc.2
                have c3 : apart r x y T = true := by
                  have h1 := hc.1.1
                  unfold lapart at h1
                  unfold apart
                  cases hs : S[r.length]? with
                  | none => rw [hs] at h1; cases h1
                  | some p =>
                    obtain ⟨E1, m1⟩ := p
                    obtain ⟨⟨t1, m2⟩, q1, q2, q3, _⟩ := lrel_get g2 r.length _ hs
                    rw [hs] at h1
                    rw [q1]
                    simp only at h1 q3 ⊢
                    cases hp : lstAt E1 x with
                    | none => rw [hp] at h1; cases h1
                    | some p =>
                      cases hq : lstAt E1 y with
                      | none => rw [hp, hq] at h1; cases h1
                      | some q =>
                        rw [hp, hq] at h1
                        rw [lstAt_sound q3 hp, lstAt_sound q3 hq]
                        exact h1
                obtain ⟨t', z1, z2⟩ := lrel_last g2 he
                refine ⟨t', ?_, z2⟩
                simp only [g1, k1, c1, c2, c3, Bool.and_self, if_true]
                exact z1
              · cases he
            · cases he
          · cases he
        · cases he
      · rename_i ht
        simp only [ht]
        unfold ldrawn at he
        unfold sdrawn
        split at he
        · rename_i hn
          split at he
          · rename_i S hS
            obtain ⟨T, g1, g2⟩ := lstates_states rfl _ [] _ _ _ _ h (lall_iff.1 hn) (fun i hi => by simp at hi) hS
            simp only [g1]
            split at he
            · rename_i hr
              have hc : checkReads P H (canonOps ops) T = true := lreads_check rfl g2 _ hr
              rw [if_pos hc]
              obtain ⟨t', k1, k2⟩ := lrel_last g2 he
              exact ⟨t', k1, k2⟩
            · cases he
          · cases he
        · cases he
  | false =>
    simp only [Bool.false_eq_true, if_false] at he ⊢
    split at he
    · rename_i hn
      exact lops_sops rfl _ [] _ _ _ _ _ h (lall_iff.1 hn) (fun i hi => by simp at hi) he
    · cases he

/-- the slots that last: those below nv, some of them set anew, and the conditions -/
def lkeep (nv : Nat) : LEnv → LEnv
  | [] => []
  | (j, w) :: r => if j < nv then (j, w) :: lkeep nv r else lkeep nv r
def lset : LEnv → Nat → Value → LEnv
  | [], i, v => [(i, v)]
  | (j, w) :: r, i, v => if i = j then (j, v) :: r else (j, w) :: lset r i v
def lsets (E' : LEnv) : List Nat → LEnv → LEnv
  | [], E => E
  | i :: r, E => match lget E' i with
    | some v => lsets E' r (lset E i v)
    | none => lsets E' r E
def lconds (E' : LEnv) : List Nat → LEnv → LEnv
  | [], E => E
  | i :: r, E => match lget E' i with
    | some v => (i, v) :: lconds E' r E
    | none => lconds E' r E

def dstsOf (ops : List Oper) : List Nat := ops.filterMap (·.dst)
def uniq : List Nat → List Nat
  | [] => []
  | i :: r => if r.contains i then uniq r else i :: uniq r
def upsOf (nv : Nat) (ops : List Oper) : List Nat := uniq ((dstsOf ops).filter (· < nv))
def condsOf (C : List Nat) (ops : List Oper) : List Nat := uniq ((dstsOf ops).filter (fun i => C.contains i))
def lnext (nv : Nat) (C : List Nat) (ops : List Oper) (E E' : LEnv) : LEnv := lconds E' (condsOf C ops) (lsets E' (upsOf nv ops) (lkeep nv E))

theorem mem_uniq {i : Nat} : ∀ {l : List Nat}, i ∈ uniq l ↔ i ∈ l
  | [] => Iff.rfl
  | j :: r => by
    simp only [uniq]
    split
    · rename_i h
      rw [mem_uniq, List.mem_cons]
      constructor
      · exact Or.inr
      · rintro (rfl | h2)
        · simpa using h
        · exact h2
    · rw [List.mem_cons, List.mem_cons, mem_uniq]

theorem lget_keep {nv : Nat} : ∀ {E : LEnv} {j : Nat} {v : Value}, lget (lkeep nv E) j = some v → lget E j = some v ∧ j < nv
  | [], j, v, h => by simp [lkeep, lget] at h
  | (i, w) :: r, j, v, h => by
    simp only [lkeep] at h
    split at h
    · rename_i hi
      simp only [lget] at h ⊢
      split at h
      · rename_i e; subst e; exact ⟨by simp [h], hi⟩
      · rename_i e; rw [if_neg e]; exact lget_keep h
    · rename_i hi
      have := lget_keep h
      simp only [lget]
      rw [if_neg (by omega)]
      exact this

theorem lget_set : ∀ (E : LEnv) (i : Nat) (v : Value) (j : Nat), lget (lset E i v) j = if j = i then some v else lget E j
  | [], i, v, j => by simp [lset, lget]
  | (k, w) :: r, i, v, j => by
    simp only [lset]
    split
    · rename_i e; subst e; simp only [lget]; split <;> rfl
    · rename_i e
      simp only [lget, lget_set r i v j]
      split
      · rename_i e2; subst e2; rw [if_neg (fun h => e h.symm)]
      · rfl

theorem lget_sets (E' : LEnv) : ∀ (l : List Nat) (E : LEnv) (j : Nat), lget (lsets E' l E) j = if j ∈ l ∧ (lget E' j).isSome = true then lget E' j else lget E j
  | [], E, j => by simp [lsets]
  | i :: r, E, j => by
    simp only [lsets]
    split
    · rename_i v hv
      rw [lget_sets E' r, lget_set]
      by_cases h : j = i
      · subst h; simp [hv]
      · simp [h]
    · rename_i hv
      rw [lget_sets E' r]
      by_cases h : j = i
      · subst h; simp [hv]
      · simp [h]

theorem lget_conds (E' : LEnv) : ∀ (l : List Nat) (E : LEnv) (j : Nat) (v : Value), lget (lconds E' l E) j = some v → lget E' j = some v ∨ lget E j = some v
  | [], E, j, v, h => Or.inr h
  | i :: r, E, j, v, h => by
    simp only [lconds] at h
    split at h
    · rename_i u hu
      simp only [lget] at h
      split at h
      · rename_i e; subst e; rw [← h]; exact Or.inl hu
      · exact lget_conds E' r E j v h
    · exact lget_conds E' r E j v h

/-- what a run of a region leaves of the slots -/
def Grown (ops : List Oper) (E E' : LEnv) : Prop := (∀ j, j ∉ dstsOf ops → lget E' j = lget E j) ∧ ∀ j, (lget E j).isSome = true ∨ j ∈ dstsOf ops → (lget E' j).isSome = true

theorem grown_cons {o : Oper} {r : List Oper} {E E' : LEnv} {v : Value} (h : Grown r (lput E o.dst v) E') : Grown (o :: r) E E' := by
  constructor
  · intro j hj
    have hj2 : j ∉ dstsOf r ∧ o.dst ≠ some j := by
      simp only [dstsOf, List.filterMap_cons] at hj ⊢
      cases hd : o.dst with
      | none => rw [hd] at hj; exact ⟨hj, by simp⟩
      | some d => rw [hd] at hj; simp only [List.mem_cons, not_or] at hj; exact ⟨hj.2, fun e => hj.1 (by simpa using e.symm)⟩
    rw [h.1 j hj2.1]
    cases hd : o.dst with
    | none => rfl
    | some d =>
      simp only [lput, lget]
      rw [if_neg]
      intro e; exact hj2.2 (by rw [hd, e])
  · intro j hj
    by_cases h1 : (lget E j).isSome = true ∨ o.dst = some j
    · exact h.2 j (Or.inl (lput_some h1))
    · simp only [not_or] at h1
      refine h.2 j (Or.inr ?_)
      rcases hj with h2 | h2
      · exact absurd h2 h1.1
      · simp only [dstsOf, List.filterMap_cons] at h2 ⊢
        cases hd : o.dst with
        | none => rw [hd] at h2; exact h2
        | some d =>
          rw [hd] at h2
          simp only [List.mem_cons] at h2
          rcases h2 with rfl | h2
          · exact absurd hd h1.2
          · exact h2

theorem lops_grown {ds : List (Option Tmp)} : ∀ (ops : List Oper) (E : LEnv) (m : Mem) (E' : LEnv) (m' : Mem), lops P H ds ops E m = some (E', m') → Grown ops E E'
  | [], E, m, E', m', he => by
    simp only [lops, Option.some.injEq, Prod.mk.injEq] at he
    obtain ⟨rfl, rfl⟩ := he
    exact ⟨fun _ _ => rfl, fun j h => by rcases h with h | h; exact h; simp [dstsOf] at h⟩
  | o :: r, E, m, E', m', he => by
    simp only [lops] at he
    split at he
    · exact grown_cons (lops_grown r _ _ _ _ he)
    · cases he

theorem lstates_grown {ds : List (Option Tmp)} : ∀ (ops : List Oper) (E : LEnv) (m : Mem) (S : List (LEnv × Mem)) (a : LEnv × Mem), lstates P H ds ops E m = some S → S.getLast? = some a → S ≠ [] ∧ Grown ops E a.1
  | [], E, m, S, a, he, hl => by
    simp only [lstates, Option.some.injEq] at he
    subst he
    simp at hl
    subst hl
    exact ⟨by simp, fun _ _ => rfl, fun j h => by rcases h with h | h; exact h; simp [dstsOf] at h⟩
  | o :: r, E, m, S, a, he, hl => by
    simp only [lstates] at he
    split at he
    · split at he
      · rename_i l hl2
        simp only [Option.some.injEq] at he
        subst he
        have hne : l ≠ [] := by
          rintro rfl
          cases r with
          | nil => simp [lstates] at hl2
          | cons o2 r2 =>
            simp only [lstates] at hl2
            split at hl2
            · split at hl2
              · simp at hl2
              · cases hl2
            · cases hl2
        obtain ⟨x, l', rfl⟩ := List.exists_cons_of_ne_nil hne
        rw [List.getLast?_cons_cons] at hl
        exact ⟨by simp, grown_cons (lstates_grown r _ _ _ _ hl2 hl).2⟩
      · cases he
    · cases he

/-- a region's operations, as they are carried out -/
def effOps (ops : List Oper) (draw : Bool) : List Oper := if draw then canonOps ops else ops

theorem lregion_grown {ops : List Oper} {draw : Bool} {E E' : LEnv} {m m' : Mem} (he : lregion P H ops draw E m = some (E', m')) : Grown (effOps ops draw) E E' := by
  unfold lregion at he
  cases draw with
  | true =>
    simp only [if_true, effOps] at he ⊢
    split at he
    · split at he
      · exact lops_grown _ _ _ _ _ he
      · cases he
    · split at he
      · rename_i r x y ht
        unfold lpair at he
        split at he
        · split at he
          · rename_i S hS
            split at he
            · split at he
              · have := (lstates_grown _ _ _ _ _ hS he).2
                rw [(two_spec ht).1]
                have e : dstsOf (r ++ [x, edgeTo r.length y]) = dstsOf (r ++ [x, y]) := by simp [dstsOf, List.filterMap_append, List.filterMap_cons, edgeTo]
                unfold Grown at this ⊢
                rw [e] at this
                exact this
              · cases he
            · cases he
          · cases he
        · cases he
      · unfold ldrawn at he
        split at he
        · split at he
          · rename_i S hS
            split at he
            · exact (lstates_grown _ _ _ _ _ hS he).2
            · cases he
          · cases he
        · cases he
  | false =>
    simp only [Bool.false_eq_true, if_false, effOps] at he ⊢
    split at he
    · exact lops_grown _ _ _ _ _ he
    · cases he

theorem lregion_next {nv : Nat} {C : List Nat} {ops : List Oper} {draw : Bool} {E E' : LEnv} {m m' : Mem} (he : lregion P H ops draw E m = some (E', m')) {j : Nat} {v : Value} (hj : lget (lnext nv C (effOps ops draw) E E') j = some v) : lget E' j = some v := by
  have hg := lregion_grown he
  unfold lnext at hj
  rcases lget_conds _ _ _ _ _ hj with h | h
  · exact h
  · rw [lget_sets] at h
    split at h
    · exact h
    · rename_i hn
      obtain ⟨h1, h2⟩ := lget_keep h
      by_cases hd : j ∈ dstsOf (effOps ops draw)
      · exfalso
        exact hn ⟨mem_uniq.2 (List.mem_filter.2 ⟨hd, by simpa using h2⟩), hg.2 j (Or.inr hd)⟩
      · rw [hg.1 j hd]; exact h1

/- the walk -/
inductive Fr where
  | seq (b : Code)
  | block (i : Nat)
  | loop (b : Code)

inductive Cf where
  | run (c : Code)
  | back (e : SExit)

section
variable (P : Program) (T : FuncId → Option Func) (S : Sums)

/-- the rest of a run -/
noncomputable def rk : List Fr → Option (SExit × Tree Value × Mem) → Option (SExit × Tree Value × Mem)
  | [], r => r
  | .seq b :: k, r => rk k (match r with
    | some (.normal, t, m) => execw P T S b t m
    | r => r)
  | .block i :: k, r => rk k (match r with
    | some (.exit j, t, m) => some (if j = i then .normal else .exit j, t, m)
    | r => r)
  | .loop b :: k, r => rk k (match r with
    | some (.normal, t, m) => execw P T S (.loop b) t m
    | r => r)

abbrev Post := SExit → LEnv → Mem → Prop

/-- every run from these slots comes to an end of that kind -/
def Wsem (c : Code) (k : List Fr) (E : LEnv) (m : Mem) (Q : Post) : Prop :=
  ∀ t, Has t E → ∃ e t' E' m', rk P T S k (execw P T S c t m) = some (e, t', m') ∧ Has t' E' ∧ Q e E' m'

def Br (v : Option Value) (A B : Prop) : Prop := match v with
  | some (.bool true) => A
  | some (.bool false) => B
  | _ => False

def Wn (nv : Nat) (C : List Nat) : Nat → Cf → List Fr → LEnv → Mem → Post → Prop
  | 0, _, _, _, _, _ => False
  | n + 1, .run c, k, E, m, Q => match c with
    | .skip | .label _ => Wn nv C n (.back .normal) k E m Q
    | .ret => Wn nv C n (.back .ret) k E m Q
    | .exit i => Wn nv C n (.back (.exit i)) k E m Q
    | .seq a b => Wn nv C n (.run a) (.seq b :: k) E m Q
    | .block i b => Wn nv C n (.run b) (.block i :: k) E m Q
    | .cond x a b => Br (if lhas E x then some (lev E x) else none) (Wn nv C n (.run a) k E m Q) (Wn nv C n (.run b) k E m Q)
    | .region _ ops d => match lregion P (callw P T S) ops.toList d E m with
      | some (E', m') => Wn nv C n (.back .normal) k (lnext nv C (effOps ops.toList d) E E') m' Q
      | none => False
    | .loop b => Wsem P T S (.loop b) k E m Q
    | _ => False
  | n + 1, .back e, k, E, m, Q => match k with
    | [] => Q e E m
    | .seq b :: k => (match e with
      | .normal => Wn nv C n (.run b) k E m Q
      | e => Wn nv C n (.back e) k E m Q)
    | .block i :: k => (match e with
      | .exit j => Wn nv C n (.back (if j = i then .normal else .exit j)) k E m Q
      | e => Wn nv C n (.back e) k E m Q)
    | .loop b :: k => (match e with
      | .normal => Wsem P T S (.loop b) k E m Q
      | e => Wn nv C n (.back e) k E m Q)

def W (nv : Nat) (C : List Nat) (c : Code) (k : List Fr) (E : LEnv) (m : Mem) (Q : Post) : Prop := ∃ n, Wn P T S nv C n (.run c) k E m Q
def R (nv : Nat) (C : List Nat) (e : SExit) (k : List Fr) (E : LEnv) (m : Mem) (Q : Post) : Prop := ∃ n, Wn P T S nv C n (.back e) k E m Q
/-- a choice; where it is not known which, rewriting stops here -/
def Cnd (nv : Nat) (C : List Nat) (v : Option Value) (a b : Code) (k : List Fr) (E : LEnv) (m : Mem) (Q : Post) : Prop := Br v (W P T S nv C a k E m Q) (W P T S nv C b k E m Q)
/-- behind a region -/
def Rg (nv : Nat) (C : List Nat) (ups cs : List Nat) (r : Option (LEnv × Mem)) (k : List Fr) (E : LEnv) (Q : Post) : Prop := match r with
  | some (E', m') => R P T S nv C .normal k (lconds E' cs (lsets E' ups (lkeep nv E))) m' Q
  | none => False

variable {P T S} {nv : Nat} {C : List Nat} {k : List Fr} {E : LEnv} {m : Mem} {Q : Post}

theorem ex_succ {p : Nat → Prop} (h0 : ¬ p 0) : (∃ n, p n) ↔ ∃ n, p (n + 1) :=
  ⟨fun ⟨n, h⟩ => by cases n with
    | zero => exact absurd h h0
    | succ n => exact ⟨n, h⟩, fun ⟨n, h⟩ => ⟨n + 1, h⟩⟩

theorem wn_zero {c : Cf} : ¬ Wn P T S nv C 0 c k E m Q := by cases c <;> exact id

theorem w_skip : W P T S nv C .skip k E m Q ↔ R P T S nv C .normal k E m Q := ex_succ wn_zero
theorem w_ret : W P T S nv C .ret k E m Q ↔ R P T S nv C .ret k E m Q := ex_succ wn_zero
theorem w_exit (i : Nat) : W P T S nv C (.exit i) k E m Q ↔ R P T S nv C (.exit i) k E m Q := ex_succ wn_zero
theorem w_seq (a b : Code) : W P T S nv C (.seq a b) k E m Q ↔ W P T S nv C a (.seq b :: k) E m Q := ex_succ wn_zero
theorem w_block (i : Nat) (b : Code) : W P T S nv C (.block i b) k E m Q ↔ W P T S nv C b (.block i :: k) E m Q := ex_succ wn_zero
theorem w_loop (b : Code) : W P T S nv C (.loop b) k E m Q ↔ Wsem P T S (.loop b) k E m Q :=
  (ex_succ wn_zero).trans ⟨fun ⟨_, h⟩ => h, fun h => ⟨0, h⟩⟩
theorem br_ex {v : Option Value} {p q : Nat → Prop} : (∃ n, Br v (p n) (q n)) ↔ Br v (∃ n, p n) (∃ n, q n) := by
  unfold Br
  split
  · exact Iff.rfl
  · exact Iff.rfl
  · exact ⟨fun ⟨_, h⟩ => h, fun h => h.elim⟩
theorem w_cond (x : Operand) (a b : Code) : W P T S nv C (.cond x a b) k E m Q ↔ Cnd P T S nv C (if lhas E x then some (lev E x) else none) a b k E m Q :=
  (ex_succ wn_zero).trans br_ex
theorem w_cond_tmp (i : Nat) (a b : Code) : W P T S nv C (.cond (.tmp i) a b) k E m Q ↔ Cnd P T S nv C (lget E i) a b k E m Q := by
  rw [w_cond]
  have : (if lhas E (.tmp i) = true then some (lev E (.tmp i)) else none) = lget E i := by
    by_cases hs : lhas E (.tmp i) = true
    · rw [if_pos hs]
      obtain ⟨v, hv⟩ := Option.isSome_iff_exists.1 (show (lget E i).isSome = true from hs)
      show some ((lget E i).getD undef) = lget E i
      rw [hv]; rfl
    · rw [if_neg hs]
      cases hv : lget E i with
      | none => rfl
      | some v => exact absurd (show (lget E i).isSome = true by rw [hv]; rfl) hs
  rw [this]
theorem cnd_t (a b : Code) : Cnd P T S nv C (some (.bool true)) a b k E m Q ↔ W P T S nv C a k E m Q := Iff.rfl
theorem cnd_f (a b : Code) : Cnd P T S nv C (some (.bool false)) a b k E m Q ↔ W P T S nv C b k E m Q := Iff.rfl
theorem cnd_split {c : Bool} {a b : Code} (h1 : c = true → W P T S nv C a k E m Q) (h2 : c = false → W P T S nv C b k E m Q) : Cnd P T S nv C (some (.bool c)) a b k E m Q := by
  cases c with
  | true => exact h1 rfl
  | false => exact h2 rfl
theorem cnd_dec {p : Prop} [Decidable p] {a b : Code} (h1 : p → W P T S nv C a k E m Q) (h2 : ¬ p → W P T S nv C b k E m Q) : Cnd P T S nv C (some (.bool (decide p))) a b k E m Q := by
  by_cases h : p
  · simp only [h, decide_true]; exact h1 h
  · simp only [h, decide_false]; exact h2 h

theorem w_region (i : Nat) (ops : Array Oper) (d : Bool) : W P T S nv C (.region i ops d) k E m Q ↔ Rg P T S nv C (upsOf nv (effOps ops.toList d)) (condsOf C (effOps ops.toList d)) (lregion P (callw P T S) ops.toList d E m) k E Q := by
  refine (ex_succ wn_zero).trans ?_
  simp only [Wn, Rg]
  cases lregion P (callw P T S) ops.toList d E m with
  | none => exact ⟨fun ⟨_, h⟩ => h, fun h => h.elim⟩
  | some r => exact Iff.rfl

theorem r_nil (e : SExit) : R P T S nv C e [] E m Q ↔ Q e E m := (ex_succ wn_zero).trans ⟨fun ⟨_, h⟩ => h, fun h => ⟨0, h⟩⟩
theorem r_seq (b : Code) : R P T S nv C .normal (.seq b :: k) E m Q ↔ W P T S nv C b k E m Q := ex_succ wn_zero
theorem r_seq_ret (b : Code) : R P T S nv C .ret (.seq b :: k) E m Q ↔ R P T S nv C .ret k E m Q := ex_succ wn_zero
theorem r_seq_exit (b : Code) (i : Nat) : R P T S nv C (.exit i) (.seq b :: k) E m Q ↔ R P T S nv C (.exit i) k E m Q := ex_succ wn_zero
theorem r_block (i : Nat) : R P T S nv C .normal (.block i :: k) E m Q ↔ R P T S nv C .normal k E m Q := ex_succ wn_zero
theorem r_block_ret (i : Nat) : R P T S nv C .ret (.block i :: k) E m Q ↔ R P T S nv C .ret k E m Q := ex_succ wn_zero
theorem r_block_exit (i j : Nat) : R P T S nv C (.exit j) (.block i :: k) E m Q ↔ R P T S nv C (if j = i then .normal else .exit j) k E m Q := ex_succ wn_zero
theorem r_loop (b : Code) : R P T S nv C .normal (.loop b :: k) E m Q ↔ Wsem P T S (.loop b) k E m Q := (ex_succ wn_zero).trans ⟨fun ⟨_, h⟩ => h, fun h => ⟨0, h⟩⟩
theorem r_loop_ret (b : Code) : R P T S nv C .ret (.loop b :: k) E m Q ↔ R P T S nv C .ret k E m Q := ex_succ wn_zero
theorem r_loop_exit (b : Code) (i : Nat) : R P T S nv C (.exit i) (.loop b :: k) E m Q ↔ R P T S nv C (.exit i) k E m Q := ex_succ wn_zero

/-- SOUND. -/
theorem wn_sound : ∀ (n : Nat) (c : Cf) (k : List Fr) (E : LEnv) (m : Mem), Wn P T S nv C n c k E m Q → ∀ t, Has t E → ∃ e t' E' m', rk P T S k (match c with | .run c => execw P T S c t m | .back e => some (e, t, m)) = some (e, t', m') ∧ Has t' E' ∧ Q e E' m' := by
  intro n
  induction n with
  | zero => intro c k E m h; exact absurd h wn_zero
  | succ n ih =>
    intro c k E m h t ht
    cases c with
    | run c =>
      simp only
      cases c with
      | skip => rw [x_skip]; exact ih (.back .normal) k E m h t ht
      | label s =>
        have : execw P T S (.label s) t m = some (.normal, t, m) := by rw [execw_step]; rfl
        rw [this]; exact ih (.back .normal) k E m h t ht
      | ret => rw [x_ret]; exact ih (.back .ret) k E m h t ht
      | exit i => rw [x_exit]; exact ih (.back (.exit i)) k E m h t ht
      | seq a b =>
        have := ih (.run a) (.seq b :: k) E m h t ht
        simp only [rk] at this
        rw [x_seq]
        exact this
      | block i b =>
        have := ih (.run b) (.block i :: k) E m h t ht
        simp only [rk] at this
        rw [x_block]
        exact this
      | cond x a b =>
        simp only [Wn, Br] at h
        rw [x_cond]
        split at h
        · rename_i hx
          split at hx
          · rename_i hl
            simp only [Option.some.injEq] at hx
            rw [lev_ev ht hl, hx]
            exact ih (.run a) k E m h t ht
          · cases hx
        · rename_i hx
          split at hx
          · rename_i hl
            simp only [Option.some.injEq] at hx
            rw [lev_ev ht hl, hx]
            exact ih (.run b) k E m h t ht
          · cases hx
        · exact h.elim
      | region i ops d =>
        simp only [Wn] at h
        split at h
        · rename_i E' m' hr
          obtain ⟨t', g1, g2⟩ := lregion_sound ht hr
          rw [x_region, g1]
          exact ih (.back .normal) k _ m' h t' (fun j v hj => g2 j v (lregion_next hr hj))
        · exact h.elim
      | loop b => exact h t ht
      | _ => exact h.elim
    | back e =>
      simp only
      cases k with
      | nil => exact ⟨e, t, E, m, rfl, ht, h⟩
      | cons f k =>
        cases f with
        | seq b =>
          cases e with
          | normal => simp only [rk]; exact ih (.run b) k E m h t ht
          | exit i => simp only [rk]; exact ih (.back (.exit i)) k E m h t ht
          | ret => simp only [rk]; exact ih (.back .ret) k E m h t ht
        | block i =>
          cases e with
          | normal => simp only [rk]; exact ih (.back .normal) k E m h t ht
          | exit j => simp only [rk]; exact ih (.back (if j = i then .normal else .exit j)) k E m h t ht
          | ret => simp only [rk]; exact ih (.back .ret) k E m h t ht
        | loop b =>
          cases e with
          | normal => simp only [rk]; exact h t ht
          | exit i => simp only [rk]; exact ih (.back (.exit i)) k E m h t ht
          | ret => simp only [rk]; exact ih (.back .ret) k E m h t ht

theorem w_sem {c : Code} (h : W P T S nv C c k E m Q) : Wsem P T S c k E m Q := by
  obtain ⟨n, hn⟩ := h
  exact wn_sound n (.run c) k E m hn

/-- a loop's round -/
theorem loop_go' {b : Code} (h : W P T S nv C b (.loop b :: k) E m Q) : Wsem P T S (.loop b) k E m Q := by
  intro t ht
  have := w_sem h t ht
  simp only [rk] at this
  rw [x_loop]
  exact this

/-- fewer slots are known -/
def subE : LEnv → LEnv → Prop
  | [], _ => True
  | (i, v) :: r, E => lget E i = some v ∧ subE r E

theorem subE_get : ∀ {A B : LEnv}, subE A B → ∀ i v, lget A i = some v → lget B i = some v
  | [], B, _, i, v, h => by simp [lget] at h
  | (j, w) :: r, B, hs, i, v, h => by
    simp only [lget] at h
    split at h
    · rename_i e; subst e; rw [← h]; exact hs.1
    · exact subE_get hs.2 i v h

theorem wsem_sub {c : Code} {E' : LEnv} (h : Wsem P T S c k E m Q) (hs : subE E E') : Wsem P T S c k E' m Q :=
  fun t ht => h t (fun i v hi => ht i v (subE_get hs i v hi))

theorem wsem_mono {c : Code} {Q' : Post} (h : Wsem P T S c k E m Q) (hq : ∀ e E' m', Q e E' m' → Q' e E' m') : Wsem P T S c k E m Q' := by
  intro t ht
  obtain ⟨e, t', E', m', h1, h2, h3⟩ := h t ht
  exact ⟨e, t', E', m', h1, h2, hq _ _ _ h3⟩

/- a call -/
def okx : SExit → Bool
  | .normal | .ret => true
  | _ => false

def lresult (P : Program) (E : LEnv) (m : Mem) : ResultVar → Option Value
  | .tmp i => lget E i
  | .cell a ty => match lget E a with
    | some (.pointer (some ad)) => match P.underlying ty with
      | none => none
      | some _ => if isAggT P ty then match sizeOfT P ty with
          | some z => (loadRow m ad z).map fun cs => .agg cs.toArray
          | none => none
        else match loadRow m ad 1 with
          | some [v] => some v
          | _ => none
    | _ => none

def lresultsL (P : Program) (E : LEnv) (m : Mem) : List ResultVar → Option (List Value)
  | [] => some []
  | r :: rest => match lresult P E m r with
    | some v => (lresultsL P E m rest).map (v :: ·)
    | none => none

def lresults (P : Program) (E : LEnv) (m : Mem) (rs : List ResultVar) : Option Value :=
  match lresultsL P E m rs with
  | some [v] => some v
  | some vs => some (.tuple vs.toArray)
  | none => none

/-- what is asked of a function's end -/
def QF (P : Program) (rs : List ResultVar) (A : Value → Mem → Prop) : Post := fun e E m => okx e = true ∧ match lresults P E m rs with
  | some v => A v m
  | none => False

theorem lresult_of {t : Tree Value} (h : Has t E) {r : ResultVar} {v : Value} (hv : lresult P E m r = some v) : sresult P t m r = some v := by
  cases r with
  | tmp i => simp only [lresult] at hv; simp [sresult, h i v hv]
  | cell a ty =>
    simp only [lresult] at hv
    split at hv
    · rename_i ad ha
      simp only [sresult, h a _ ha, Option.getD_some]
      exact hv
    · cases hv

theorem lresultsL_of {t : Tree Value} (h : Has t E) : ∀ {rs : List ResultVar} {vs : List Value}, lresultsL P E m rs = some vs → sresultsL P t m rs = some vs
  | [], vs, hv => hv
  | r :: rs, vs, hv => by
    simp only [lresultsL] at hv
    simp only [sresultsL]
    split at hv
    · rename_i v h1
      rw [lresult_of h h1]
      simp only
      obtain ⟨l, h2, h3⟩ := Option.map_eq_some_iff.1 hv
      rw [lresultsL_of h h2]
      simp [h3]
    · cases hv

theorem lresults_of {t : Tree Value} (h : Has t E) {rs : List ResultVar} {v : Value} (hv : lresults P E m rs = some v) : sresults P rs t m = some v := by
  unfold lresults at hv
  unfold sresults
  split at hv
  · rename_i u hu; rw [lresultsL_of h hu]; exact hv
  · rename_i vs hn hu
    rw [lresultsL_of h hu]
    simp only [Option.some.injEq] at hv
    subst hv
    split
    · rename_i u e; simp only [Option.some.injEq] at e; subst e; exact absurd rfl (hn u)
    · rename_i ws _ e; simp only [Option.some.injEq] at e; subst e; rfl
    · rename_i e; cases e
  · cases hv

def lfill : List Value → Nat → LEnv
  | [], _ => []
  | v :: r, i => (i, v) :: lfill r (i + 1)

theorem fill_lt : ∀ (l : List Value) (t : Tree Value) (i j : Nat), j < i → (fill t l i).get j = t.get j
  | [], t, i, j, h => rfl
  | v :: r, t, i, j, h => by
    simp only [fill]
    rw [fill_lt r _ (i + 1) j (by omega), Tree.get_set_ne _ _ (by omega)]

theorem has_fill : ∀ (l : List Value) (t : Tree Value) (i : Nat), Has (fill t l i) (lfill l i)
  | [], t, i => fun j v h => by simp [lfill, lget] at h
  | v :: r, t, i => fun j w h => by
    simp only [lfill, lget] at h
    simp only [fill]
    split at h
    · rename_i e
      subst e
      rw [fill_lt r _ (j + 1) j (by omega), Tree.get_set_self]
      exact h
    · exact has_fill r _ (i + 1) j w h

/-- A CALL by the walk. -/
theorem call_sem {f : FuncId} {fn : Func} {c : Code} {args : List Value} {A : Value → Mem → Prop} (hT : T f = some fn) (hb : fn.body = some c) (hS : S f = []) (hl : args.length ≤ fn.ntmps) (h : Wsem P T S c [] (lfill args 0) m (QF P fn.results.toList A)) :
    ∃ v m', callw P T S f args m = some (v, m') ∧ A v m' := by
  obtain ⟨e, t', E', m', h1, h2, h3, h4⟩ := h _ (has_fill args .leaf 0)
  simp only [rk] at h1
  rw [x_call hT hb hS args hl, h1]
  split at h4
  · rename_i v hv
    have := lresults_of h2 hv
    cases e with
    | normal => simp only [this]; exact ⟨v, m', rfl, h4⟩
    | ret => simp only [this]; exact ⟨v, m', rfl, h4⟩
    | exit i => cases h3
  · exact h4.elim

theorem call_w {f : FuncId} {fn : Func} {c : Code} {args : List Value} {A : Value → Mem → Prop} (nv : Nat) (C : List Nat) (hT : T f = some fn) (hb : fn.body = some c) (hS : S f = []) (hl : args.length ≤ fn.ntmps) (h : W P T S nv C c [] (lfill args 0) m (QF P fn.results.toList A)) :
    ∃ v m', callw P T S f args m = some (v, m') ∧ A v m' := call_sem hT hb hS hl (w_sem h)

/-- the same, where the answer is known -/
theorem call_eq {f : FuncId} {fn : Func} {c : Code} {args : List Value} {v : Value} {m' : Mem} (nv : Nat) (C : List Nat) (hT : T f = some fn) (hb : fn.body = some c) (hS : S f = []) (hl : args.length ≤ fn.ntmps) (h : W P T S nv C c [] (lfill args 0) m (QF P fn.results.toList fun u m1 => u = v ∧ m1 = m')) :
    callw P T S f args m = some (v, m') := by
  obtain ⟨u, m1, h1, rfl, rfl⟩ := call_w nv C hT hb hS hl h
  exact h1
end
end
end Go.Sh

/- More operations, as they are looked at by rewriting. -/
namespace Go.Sh
open Go.RowKit
set_option linter.unusedVariables false
set_option linter.unusedSimpArgs false
section
variable {P : Program} {H : CallH} {m : Mem} {ρ : Operand → Value} {o : Oper} {d : Option Tmp} {ty : TypeId} {pos : String} {af : Array Edge} {g : Option (Nat × Bool)}

theorem prunM {α β : Type} (f : α → β) (s : Sem α) : prun P (f <$> s) = (prun P s).map f := by
  have : f <$> s = s >>= fun a => pure (f a) := rfl
  rw [this, prunB]
  cases prun P s <;> rfl

theorem closed_of {v : Option Value} (hall : o.op.operands.all (fun x => closedV (ρ x)) = true) (hq : prun P (execOp ρ o) = v.map Next.value) (hcl : ∀ u, v = some u → closedV u = true) : closedOp P ρ o = v := by
  unfold closedOp
  rw [if_pos hall, hq]
  cases v with
  | none => rfl
  | some u => simp [hcl u rfl]

/- texts -/
def strOp (op : BinOp) (a b : ByteArray) : Option Value :=
  match op with
  | .add => if ((a.size + b.size : Nat) : Int) ≤ 9223372036854775807 then some (.string (a ++ b)) else none
  | .lss => some (.bool (Op.bytesLess a.toList b.toList))
  | .leq => some (.bool (Op.bytesLess a.toList b.toList || a.toList == b.toList))
  | .gtr => some (.bool !(Op.bytesLess a.toList b.toList || a.toList == b.toList))
  | .geq => some (.bool !(Op.bytesLess a.toList b.toList))
  | _ => none
theorem bin_str {t : TypeId} (ht : P.underlying t = some .string) (op : BinOp) (hop : op = .add ∨ op = .lss ∨ op = .leq ∨ op = .gtr ∨ op = .geq) (x y : Operand) {yt : TypeId} : s_binOp0 P ρ ⟨d, .binOp op t x y yt, ty, pos, af, g⟩ op t x y m = match ρ x, ρ y with
    | .string a, .string b => (strOp op a b).map (·, m)
    | _, _ => binF P ρ ⟨d, .binOp op t x y yt, ty, pos, af, g⟩ op t x y m := by
  cases hx : ρ x with
  | string a =>
    cases hy : ρ y with
    | string b =>
      have hc : closedOp P ρ ⟨d, .binOp op t x y yt, ty, pos, af, g⟩ = strOp op a b := by
        refine closed_of (by simp [Op.operands, hx, hy, closedV]) ?_ ?_
        have hq : prun P (execOp ρ ⟨d, .binOp op t x y yt, ty, pos, af, g⟩) = (strOp op a b).map Next.value := by
          have e : execOp ρ ⟨d, .binOp op t x y yt, ty, pos, af, g⟩ = (Next.value <$> (do eqGuard op t x y (ρ x) (ρ y); binOp op t (ρ x) (ρ y))) := by
            rcases hop with rfl | rfl | rfl | rfl | rfl <;> rfl
          rw [e, prunM, hx, hy]
          congr 1
          have hg : prun P (do eqGuard op t x y (.string a) (.string b); binOp op t (.string a) (.string b) : Sem Value) = prun P (Op.stringOp op a b) := by
            rcases hop with rfl | rfl | rfl | rfl | rfl <;> rfl
          rw [hg]
          rcases hop with rfl | rfl | rfl | rfl | rfl
          · unfold Op.stringOp strOp
            simp only
            by_cases hb : ((a.size + b.size : Nat) : Int) ≤ 9223372036854775807
            · rw [if_pos hb, if_neg (by have : IntKind.i64.max = 9223372036854775807 := by decide
                                        omega)]; rfl
            · rw [if_neg hb, if_pos (by have : IntKind.i64.max = 9223372036854775807 := by decide
                                        omega)]; rfl
          · rfl
          · rfl
          · rfl
          · rfl
        exact hq
        intro u hu
        rcases hop with rfl | rfl | rfl | rfl | rfl <;> simp only [strOp] at hu
        · split at hu
          · simp only [Option.some.injEq] at hu; subst hu; rfl
          · cases hu
        all_goals (simp only [Option.some.injEq] at hu; subst hu; rfl)
      simp [s_binOp0, ht, hx, hy, hc]
    | _ => rfl
  | _ => rfl

theorem sz_str (l : List UInt8) : ByteArray.size ⟨l.toArray⟩ = l.length := rfl
theorem cat_str (a b : List UInt8) : (⟨a.toArray⟩ : ByteArray) ++ (⟨b.toArray⟩ : ByteArray) = ⟨(a ++ b).toArray⟩ := by
  have : (⟨a.toArray⟩ ++ ⟨b.toArray⟩ : ByteArray).data = (a ++ b).toArray := by
    rw [ByteArray.data_append]; simp
  exact ByteArray.ext this
theorem list_str (l : List UInt8) : (⟨l.toArray⟩ : ByteArray).toList = l := by
  rw [ByteArray.toList_eq]

def slF := s_slice
theorem o_slice (t : TypeId) (x : Operand) (lo hi : Option Operand) : sop P H ρ ⟨d, .slice t x lo hi none, ty, pos, af, g⟩ m = s_slice P ρ ⟨d, .slice t x lo hi none, ty, pos, af, g⟩ t x lo hi m := rfl
def loOf (ρ : Operand → Value) : Option Operand → Option Nat
  | none => some 0
  | some l => natOf (ρ l)
def hiOf (ρ : Operand → Value) (n : Nat) : Option Operand → Option Nat
  | none => some n
  | some h => natOf (ρ h)
theorem loOf_none : loOf ρ none = some 0 := rfl
theorem loOf_some (x : Operand) : loOf ρ (some x) = natOf (ρ x) := rfl
theorem hiOf_none (n : Nat) : hiOf ρ n none = some n := rfl
theorem hiOf_some (n : Nat) (x : Operand) : hiOf ρ n (some x) = natOf (ρ x) := rfl
theorem natOf_int (k : IntKind) (n : Int) : natOf (.int k n) = if 0 ≤ n ∧ n ≤ 9223372036854775807 then some n.toNat else none := by
  simp only [natOf]
  by_cases h : 0 ≤ n ∧ n ≤ 9223372036854775807
  · rw [if_pos h, if_pos (by simpa using h)]
  · rw [if_neg h, if_neg (by simpa using h)]
def sliceS (s : ByteArray) (m : Mem) : Option Nat → Option Nat → Option (Value × Mem)
  | some l, some h => if l ≤ h ∧ h ≤ s.data.toList.length then some (.string ⟨((s.data.toList.drop l).take (h - l)).toArray⟩, m) else none
  | _, _ => none
theorem sliceS_some (s : ByteArray) (l h : Nat) : sliceS s m (some l) (some h) = if l ≤ h ∧ h ≤ s.data.toList.length then some (.string ⟨((s.data.toList.drop l).take (h - l)).toArray⟩, m) else none := rfl
/-- a part of a text -/
theorem slice_str {t : TypeId} (ht : P.underlying t = some .string) (x : Operand) (lo hi : Option Operand) : s_slice P ρ o t x lo hi m = match ρ x with
    | .string s => sliceS s m (loOf ρ lo) (hiOf ρ s.data.toList.length hi)
    | _ => slF P ρ o t x lo hi m := by
  cases hx : ρ x with
  | string s =>
    have hd : s_slice P ρ o t x lo hi m = match loOf ρ lo, hiOf ρ s.data.toList.length hi with
        | some l, some h => if l ≤ h && h ≤ s.data.toList.length then some (.string ⟨⟨(s.data.toList.drop l).take (h - l)⟩⟩, m) else none
        | _, _ => none := by
      simp only [s_slice, ht, hx]
      rfl
    rw [hd]
    show _ = sliceS s m (loOf ρ lo) (hiOf ρ s.data.toList.length hi)
    generalize loOf ρ lo = u
    generalize hiOf ρ s.data.toList.length hi = v
    cases u with
    | none => cases v <;> rfl
    | some l =>
      cases v with
      | none => rfl
      | some h =>
        simp only [sliceS]
        by_cases hh : l ≤ h ∧ h ≤ s.data.toList.length
        · rw [if_pos hh, if_pos (by simpa using hh)]
        · rw [if_neg hh, if_neg (by simpa using hh)]
  | _ => rfl

theorem o_index (t : TypeId) (x ix : Operand) : sop P H ρ ⟨d, .index t x ix, ty, pos, af, g⟩ m = s_index P ρ ⟨d, .index t x ix, ty, pos, af, g⟩ t x ix m := rfl
def idF := s_index
theorem index_str {t : TypeId} (ht : P.underlying t = some .string) (x ix : Operand) : s_index P ρ o t x ix m = match ρ x, ρ ix with
    | .string s, .int _ i => if 0 ≤ i ∧ i ≤ 9223372036854775807 then (match s.data[i.toNat]? with
      | some b => some (.int .u8 (b.toNat : Nat), m)
      | none => none) else idF P ρ o t x ix m
    | _, _ => idF P ρ o t x ix m := by
  cases hx : ρ x with
  | string s =>
    cases hi : ρ ix with
    | int k i =>
      by_cases h : 0 ≤ i ∧ i ≤ 9223372036854775807
      · simp only [if_pos h]
        have n1 : natOf (.int k i) = some i.toNat := by simp [natOf, h]
        simp only [s_index, hi, n1, ht, hx]
        cases s.data[i.toNat]? <;> rfl
      · simp only [if_neg h]; rfl
    | _ => rfl
  | _ => rfl
theorem index_arr {t e : TypeId} {n z : Nat} (ht : P.underlying t = some (.array n e)) (hz : sizeOfT P e = some z) (x ix : Operand) : s_index P ρ o t x ix m = match ρ x, ρ ix with
    | .agg cs, .int _ i => if 0 ≤ i ∧ i ≤ 9223372036854775807 then (if i.toNat < n then (partOf P e cs (i.toNat * z)).map (·, m) else none) else idF P ρ o t x ix m
    | _, _ => idF P ρ o t x ix m := by
  cases hx : ρ x with
  | agg cs =>
    cases hi : ρ ix with
    | int k i =>
      by_cases h : 0 ≤ i ∧ i ≤ 9223372036854775807
      · simp only [if_pos h]
        have n1 : natOf (.int k i) = some i.toNat := by simp [natOf, h]
        simp only [s_index, hi, n1, ht, hx, hz]
      · simp only [if_neg h]; rfl
    | _ => rfl
  | _ => rfl
theorem indexAddr_arr {t e : TypeId} {n z : Nat} (ht : P.underlying t = some (.array n e)) (hz : sizeOfT P e = some z) (x ix : Operand) : s_indexAddr P ρ o t x ix m = match ρ x, ρ ix with
    | .pointer (some a), .int k i => if 0 ≤ i ∧ i ≤ 9223372036854775807 ∧ i.toNat < n ∧ a.spot.isNone = true then some (.pointer (some { a with off := a.off + i.toNat * z }), m) else ixF P ρ o t x ix m
    | _, _ => ixF P ρ o t x ix m := by
  cases hx : ρ x with
  | pointer ao =>
    cases ao with
    | none => rfl
    | some a =>
      cases hi : ρ ix with
      | int k i =>
        by_cases h : 0 ≤ i ∧ i ≤ 9223372036854775807 ∧ i.toNat < n ∧ a.spot.isNone = true
        · simp only [if_pos h]
          have h' : natOf (.int k i) = some i.toNat := by simp [natOf, h.1, h.2.1]
          simp only [s_indexAddr, hx, hi, h', ht, hz]
          rw [if_pos (by simp [h.2.2.1, h.2.2.2])]
        · simp only [if_neg h]; rfl
      | _ => rfl
  | _ => rfl

/-- a part of one cell, and of more -/
theorem part_one {t : TypeId} (h : ldOk P t = true) (cs : Array Value) (off : Nat) : partOf P t cs off = cs[off]? := by
  unfold ldOk at h
  rw [Bool.and_eq_true, Bool.not_eq_true'] at h
  obtain ⟨u, hu⟩ := Option.isSome_iff_exists.1 h.1
  simp [partOf, hu, h.2]
/-- a type of more cells -/
def agOk (P : Program) (t : TypeId) (z : Nat) : Bool := (P.underlying t).isSome && isAggT P t && (sizeOfT P t == some z)
theorem part_agg {t : TypeId} {z : Nat} (h : agOk P t z = true) (cs : Array Value) (off : Nat) : partOf P t cs off = some (.agg (cs.extract off (off + z))) := by
  unfold agOk at h
  simp only [Bool.and_eq_true, beq_iff_eq] at h
  obtain ⟨u, hu⟩ := Option.isSome_iff_exists.1 h.1.1
  simp [partOf, hu, h.1.2, h.2]
theorem load_agg {t : TypeId} {z : Nat} (h : agOk P t z = true) (x : Operand) : s_load P ρ o t x m = match ρ x with
    | .pointer (some a) => match loadRow m a z with
      | some cs => some (.agg cs.toArray, m)
      | none => none
    | _ => none := by
  unfold agOk at h
  simp only [Bool.and_eq_true, beq_iff_eq] at h
  obtain ⟨u, hu⟩ := Option.isSome_iff_exists.1 h.1.1
  cases hx : ρ x with
  | pointer ao =>
    cases ao with
    | none => simp [s_load, hx]
    | some a =>
      simp only [s_load, hx, hu, h.1.2, h.2, if_true]
      cases loadRow m a z <;> rfl
  | _ => simp [s_load, hx]
theorem o_field (s : TypeId) (x : Operand) (f : Nat) : sop P H ρ ⟨d, .field s x f, ty, pos, af, g⟩ m = s_field P ρ ⟨d, .field s x f, ty, pos, af, g⟩ s x f m := rfl
/-- a field's type and place -/
def fldOk (P : Program) (s : TypeId) (f t off : Nat) : Bool := (fieldOf P s f).any (fun fl => fl.type == t && fl.offset == off)
theorem field_of {s : TypeId} {f t off : Nat} (h : fldOk P s f t off = true) (x : Operand) : s_field P ρ o s x f m = match ρ x with
    | .agg cs => (partOf P t cs off).map (·, m)
    | _ => none := by
  unfold fldOk at h
  cases hf : fieldOf P s f with
  | none => rw [hf] at h; simp at h
  | some fl =>
    rw [hf] at h
    simp only [Option.any_some, Bool.and_eq_true, beq_iff_eq] at h
    cases hx : ρ x with
    | agg cs => simp only [s_field, hf, hx, h.1, h.2]
    | _ => simp [s_field, hf, hx]

/- bytes and texts -/
/-- nil bytes are the empty text -/
theorem conv_nil {a b e : TypeId} (ha : P.underlying a = some (.slice e)) (he : P.underlying e = some (.int .u8)) (hb : P.underlying b = some .string) (x : Operand) (hx : ρ x = .slice none 0 0) : s_convert P ρ ⟨d, .convert a b x, ty, pos, af, g⟩ a b x m = some (.string ⟨#[]⟩, m) := by
  have hc : closedOp P ρ ⟨d, .convert a b x, ty, pos, af, g⟩ = some (.string ⟨#[]⟩) := by
    unfold closedOp
    rw [if_pos (by simp [Op.operands, hx, closedV])]
    have hq : prun P (execOp ρ ⟨d, .convert a b x, ty, pos, af, g⟩) = some (Next.value (.string ⟨#[]⟩)) := by
      show prun P (Next.value <$> convert a b (ρ x)) = _
      rw [prunM, hx]
      have hu : ∀ t u, P.underlying t = some u → prun P (underlying t) = some u := by
        intro t u h
        unfold underlying
        rw [prunB]
        show (some P).bind _ = _
        simp [h]
        rfl
      unfold convert
      rw [prunB, hu a _ ha]
      simp only [Option.bind_some]
      rw [prunB, hu b _ hb]
      simp only [Option.bind_some]
      rw [prunB, hu e _ he]
      rfl
    rw [hq]
    simp [closedV]
  simp [s_convert, ha, hb, hx, hc]

def bToS (m : Mem) (v : Value) : Option (Value × Mem) := match v with
  | .slice none 0 0 => some (.string ⟨#[]⟩, m)
  | .slice (some ad) n _ => if n = 0 then some (.string ⟨#[]⟩, m) else (match loadRow m ad n with
      | some cs => (match bytesOf cs with
        | some s => some (.string ⟨s.toArray⟩, m)
        | none => none)
      | none => none)
  | _ => none
def bToS' (P : Program) (ρ : Operand → Value) (o : Oper) (a b : TypeId) (x : Operand) (m : Mem) := s_convert P ρ o a b x m
theorem conv_bytes {a b e : TypeId} (ha : P.underlying a = some (.slice e)) (he : P.underlying e = some (.int .u8)) (hb : P.underlying b = some .string) (x : Operand) : s_convert P ρ ⟨d, .convert a b x, ty, pos, af, g⟩ a b x m = match ρ x with
    | .slice ao n c => (match bToS m (.slice ao n c) with
      | some r => some r
      | none => bToS' P ρ ⟨d, .convert a b x, ty, pos, af, g⟩ a b x m)
    | _ => bToS' P ρ ⟨d, .convert a b x, ty, pos, af, g⟩ a b x m := by
  cases hx : ρ x with
  | slice ao n c =>
    cases ao with
    | none =>
      cases n with
      | succ n => rfl
      | zero =>
        cases c with
        | succ c => rfl
        | zero => simp only [bToS]; exact conv_nil ha he hb x hx
    | some ad =>
      simp only [s_convert, ha, hb, hx, he, bToS, bToS']
      by_cases hn : n = 0
      · simp [hn]
      · simp only [if_neg hn]
        rw [if_neg (by simpa using hn)]
        cases loadRow m ad n with
        | none => rfl
        | some cs => simp only; cases bytesOf cs <;> rfl
  | _ => rfl
theorem conv_text {a b e : TypeId} (ha : P.underlying a = some .string) (hb : P.underlying b = some (.slice e)) (he : P.underlying e = some (.int .u8)) (hz : sizeOfT P e = some 1) (x : Operand) : s_convert P ρ o a b x m = match ρ x with
    | .string s => if s.size ≤ 9223372036854775807 then some (.slice (some ⟨m.next, 0, none⟩) s.size s.size, m.new (s.data.toList.map fun b => Value.int .u8 b.toNat) e) else none
    | _ => convF P ρ o a b x m := by
  cases hx : ρ x with
  | string s =>
    obtain ⟨i, hi, hz⟩ := Option.map_eq_some_iff.1 hz
    simp only [s_convert, ha, hb, hx, he, hi, hz]
    by_cases h : s.size ≤ 9223372036854775807
    · simp [h, ha]
    · simp [h, ha]
  | _ => rfl

/- allocations -/
def zeroOk (P : Program) (t : TypeId) (zero : List Value) : Bool := (P.info? t).any fun i => i.zero.any fun z => closedA z.cells && eqL z.cells.toList zero
theorem alloc_of {t : TypeId} {zero : List Value} (h : zeroOk P t zero = true) : s_alloc P ρ o t m = some (.pointer (some ⟨m.next, 0, none⟩), m.new zero t) := by
  unfold zeroOk at h
  cases hi : P.info? t with
  | none => rw [hi] at h; simp at h
  | some i =>
    rw [hi] at h
    simp only [Option.any_some] at h
    cases hz : i.zero with
    | none => rw [hz] at h; simp at h
    | some z =>
      rw [hz] at h
      simp only [Option.any_some, Bool.and_eq_true] at h
      have := eqL_eq _ _ h.2
      simp only [s_alloc, hi, hz, h.1, if_true, this]

/-- a slice's parts: an element's zero -/
def bsOk (P : Program) (e : TypeId) (zero : List Value) : Bool := (P.info? e).any fun i => (i.size == zero.length) && decide (0 < zero.length) && i.zero.any fun z => closedA z.cells && eqL z.cells.toList zero
def repl (zero : List Value) : Nat → List Value
  | 0 => []
  | n + 1 => zero ++ repl zero n
theorem repl_length (zero : List Value) : ∀ n, (repl zero n).length = n * zero.length
  | 0 => by simp [repl]
  | n + 1 => by simp [repl, repl_length zero n, Nat.add_mul, Nat.add_comm]
theorem repl_get (zero : List Value) (hz : 0 < zero.length) : ∀ (n i : Nat), i < n * zero.length → (repl zero n)[i]? = zero[i % zero.length]?
  | 0, i, h => by simp at h
  | n + 1, i, h => by
    simp only [repl]
    by_cases hi : i < zero.length
    · rw [List.getElem?_append_left hi, Nat.mod_eq_of_lt hi]
    · rw [List.getElem?_append_right (by omega), repl_get zero hz n (i - zero.length) (by rw [Nat.add_mul] at h; omega)]
      rw [Nat.mod_eq_sub_mod (by omega : i ≥ zero.length)]
theorem buildSlice_of {t e : TypeId} {zero : List Value} {z : Nat} (ht : P.underlying t = some (.slice e)) (h : bsOk P e zero = true) (hz : zero.length = z) (n : Nat) (ps : Array (Nat × Operand)) : s_buildSlice P ρ o t n ps m = if n * z ≤ 16777216 then
    (match Instr.fill (fun j => some (j * z, z)) (repl zero n).toArray (ps.map fun (i, x) => (i, ρ x)).toList with
      | some cells => some (.slice (some ⟨m.next, 0, none⟩) n n, m.new cells.toList e)
      | none => none) else none := by
  unfold bsOk at h
  cases hi : P.info? e with
  | none => rw [hi] at h; simp at h
  | some i =>
    rw [hi] at h
    simp only [Option.any_some, Bool.and_eq_true, beq_iff_eq, decide_eq_true_eq] at h
    obtain ⟨⟨h1, h2⟩, h3⟩ := h
    cases hzz : i.zero with
    | none => rw [hzz] at h3; simp at h3
    | some zv =>
      rw [hzz] at h3
      simp only [Option.any_some, Bool.and_eq_true] at h3
      have hl := eqL_eq _ _ h3.2
      have hsz : zv.cells.size = i.size := by rw [h1, ← hl]; simp
      rw [hz] at h1
      simp only [s_buildSlice, ht, hi, hzz, h3.1, hsz, h1]
      by_cases hn : n * z ≤ 16777216
      · rw [if_pos hn, if_pos (by simp [hn]; omega)]
        have hcs : (if n * z = 0 then #[] else (Array.range (n * z)).map (fun x => zv.cells[x % z]!)) = (repl zero n).toArray := by
          apply Array.ext'
          split
          · rename_i h0
            have : (repl zero n).length = 0 := by rw [repl_length, hz]; exact h0
            simp [List.length_eq_zero_iff.1 this]
          · rename_i h0
            apply List.ext_getElem?
            intro j
            simp only [Array.toList_map, Array.toList_range, List.getElem?_map]
            by_cases hj : j < n * z
            · rw [repl_get zero (by omega) n j (by rw [hz]; exact hj)]
              rw [List.getElem?_range hj, hz]
              have hlt : j % z < zero.length := by rw [hz]; exact Nat.mod_lt _ (by omega)
              have hlt' : j % z < zv.cells.size := by rw [← Array.length_toList, hl]; exact hlt
              simp only [Option.map_some]
              rw [getElem!_pos zv.cells (j % z) hlt', ← hl]
              rw [Array.getElem?_toList, Array.getElem?_eq_getElem hlt']
            · rw [List.getElem?_eq_none (by simpa using hj), List.getElem?_eq_none (by rw [repl_length, hz]; omega)]
              rfl
        rw [hcs]
        cases Instr.fill _ _ _ <;> rfl
      · rw [if_neg hn, if_neg (by simp [hn])]

def buF := s_build
/-- an array's parts -/
theorem build_arr {t e : TypeId} {n z : Nat} {zero : List Value} (ht : P.underlying t = some (.array n e)) (hz : sizeOfT P e = some z) (h : zeroOk P t zero = true) (ps : Array (Nat × Operand)) : s_build P ρ o t ps m =
    match Instr.fill (fun j => some (j * z, z)) zero.toArray (ps.map fun (i, x) => (i, ρ x)).toList with
      | some cells => some (.agg cells, m)
      | none => none := by
  unfold zeroOk at h
  cases hi : P.info? t with
  | none => rw [hi] at h; simp at h
  | some i =>
    rw [hi] at h
    simp only [Option.any_some] at h
    cases hzz : i.zero with
    | none => rw [hzz] at h; simp at h
    | some zv =>
      rw [hzz] at h
      simp only [Option.any_some, Bool.and_eq_true] at h
      have hl := eqL_eq _ _ h.2
      have hc : zv.cells = zero.toArray := by apply Array.ext'; simpa using hl
      have h1 := h.1
      rw [hc] at h1
      simp only [s_build, hi, hzz, if_true, ht, hz, hc, h1]
      cases Instr.fill _ _ _ <;> rfl
theorem append_str {ty tx : TypeId} (htx : P.underlying tx = some .string) (s x : Operand) : c_append P ρ #[s, x] #[ty, tx] m = match ρ x with
    | .string b => sappend P ty m (ρ s) (b.data.toList.map fun b => Value.int .u8 b.toNat) b.size
    | _ => apF P ρ #[s, x] #[ty, tx] m := by
  have hne : isIntT P tx = false := by unfold isIntT; rw [htx]
  cases hx : ρ x with
  | string b => simp [c_append, hne, newsOf, htx, hx]
  | _ => rfl
theorem bin_slice {t e : TypeId} (ht : P.underlying t = some (.slice e)) (op : BinOp) (x y : Operand) : s_binOp0 P ρ o op t x y m = match ρ x, ρ y with
    | .slice (some _) _ _, .slice none 0 0 => (boolEq op false).map (·, m)
    | .slice none 0 0, .slice (some _) _ _ => (boolEq op false).map (·, m)
    | _, _ => binF P ρ o op t x y m := by
  cases hx : ρ x with
  | slice a n c =>
    cases hy : ρ y with
    | slice b k d => 
      cases a with
      | none => 
        cases n <;> cases c <;> cases b <;> first
          | rfl
          | simp [s_binOp0, ht, hx, hy]
      | some a =>
        cases b <;> cases k <;> cases d <;> first
          | rfl
          | simp [s_binOp0, ht, hx, hy]
    | _ => cases a <;> cases n <;> cases c <;> rfl
  | _ => rfl
/-- a part of a slice -/
theorem slice_sl {t e : TypeId} {z : Nat} (ht : P.underlying t = some (.slice e)) (hz : sizeOfT P e = some z) (x : Operand) (lo hi : Option Operand) : s_slice P ρ o t x lo hi m = match ρ x with
    | .slice (some a) n c => (match loOf ρ lo, hiOf ρ n hi with
      | some l, some h => if l ≤ h && h ≤ n && a.spot.isNone then
          if c == n then (if l == 0 || elemIs m a.block e then some (.slice (some { a with off := a.off + l * z }) (h - l) (h - l), m) else none)
          else if c == n + 1 then some (.slice (some { a with off := a.off + l * z }) (h - l) (h - l + 1), m)
          else none
        else none
      | _, _ => none)
    | .slice none 0 0 => (match loOf ρ lo, hiOf ρ 0 hi with
      | some 0, some 0 => some (.slice none 0 0, m)
      | _, _ => none)
    | _ => slF P ρ o t x lo hi m := by
  cases hx : ρ x with
  | slice ao n c =>
    cases ao with
    | none =>
      cases n with
      | zero =>
        cases c with
        | zero =>
          cases lo <;> cases hi <;> simp only [s_slice, ht, hx, hz, loOf, hiOf]
          all_goals first
            | rfl
            | (rename_i u; cases natOf (ρ u) with
              | none => rfl
              | some k => cases k <;> rfl)
            | (rename_i u v; cases natOf (ρ u) with
              | none => rfl
              | some k => cases k with
                | zero => cases natOf (ρ v) with
                  | none => rfl
                  | some k => cases k <;> rfl
                | succ k => rfl)
        | succ c => rfl
      | succ n => rfl
    | some a =>
      cases lo with
      | none =>
        cases hi with
        | none => simp only [s_slice, ht, hx, hz, loOf, hiOf]
        | some v => simp only [s_slice, ht, hx, hz, loOf, hiOf]; cases natOf (ρ v) <;> rfl
      | some u =>
        cases hi with
        | none => simp only [s_slice, ht, hx, hz, loOf, hiOf]; cases natOf (ρ u) <;> rfl
        | some v => simp only [s_slice, ht, hx, hz, loOf, hiOf]; cases natOf (ρ u) <;> cases natOf (ρ v) <;> rfl
  | _ => rfl
/- calls of values -/
theorem o_callv {t : Nat} (args : Array Operand) (tys : Array TypeId) : sop P H ρ ⟨d, .call { callee := .value (.tmp t), args := args, argTypes := tys }, ty, pos, af, g⟩ m = match ρ (.tmp t) with
    | .func (.func fid) first captured => H fid (first.toList ++ args.toList.map ρ ++ captured.toList) m
    | _ => none := rfl
theorem o_call2 {E : LEnv} (f : FuncId) (args : Array Operand) (tys : Array TypeId) : sop P H (lev E) ⟨d, .call { callee := .value (.func f), args := args, argTypes := tys }, ty, pos, af, g⟩ m = H f (args.toList.map (lev E)) m := by
  simp [sop, sopCall, c_value, lev]
theorem o_makeFunc (f : FuncId) (first captured : Array Operand) : sop P H ρ ⟨d, .makeFunc (.func f) first captured, ty, pos, af, g⟩ m = some (.func (.func f) (first.map ρ) (captured.map ρ), m) := rfl

/- min, max -/
def mmF := sopCall
theorem o_min (x y : Operand) (tys : Array TypeId) : sop P H ρ ⟨d, .call { callee := .builtin .min, args := #[x, y], argTypes := tys }, ty, pos, af, g⟩ m = match ρ x, ρ y with
    | .int k a, .int _ b => some (.int k (if b < a then b else a), m)
    | _, _ => mmF P H ρ ⟨d, .call { callee := .builtin .min, args := #[x, y], argTypes := tys }, ty, pos, af, g⟩ { callee := .builtin .min, args := #[x, y], argTypes := tys } m := by
  cases hx : ρ x with
  | int k a =>
    cases hy : ρ y with
    | int j b =>
      have hc : closedOp P ρ ⟨d, .call { callee := .builtin .min, args := #[x, y], argTypes := tys }, ty, pos, af, g⟩ = some (.int k (if b < a then b else a)) := by
        unfold closedOp
        rw [if_pos (by simp [Op.operands, Call.operands, hx, hy, closedV])]
        have hq : prun P (execOp ρ ⟨d, .call { callee := .builtin .min, args := #[x, y], argTypes := tys }, ty, pos, af, g⟩) = some (Next.value (.int k (if b < a then b else a))) := by
          simp [execOp, resolve, hx, hy, List.size_toArray]
          rfl
        rw [hq]
        simp [closedV]
      show (closedOp P ρ _).map (·, m) = _
      rw [hc]; rfl
    | _ => rfl
  | _ => rfl
theorem o_max (x y : Operand) (tys : Array TypeId) : sop P H ρ ⟨d, .call { callee := .builtin .max, args := #[x, y], argTypes := tys }, ty, pos, af, g⟩ m = match ρ x, ρ y with
    | .int k a, .int _ b => some (.int k (if b > a then b else a), m)
    | _, _ => mmF P H ρ ⟨d, .call { callee := .builtin .max, args := #[x, y], argTypes := tys }, ty, pos, af, g⟩ { callee := .builtin .max, args := #[x, y], argTypes := tys } m := by
  cases hx : ρ x with
  | int k a =>
    cases hy : ρ y with
    | int j b =>
      have hc : closedOp P ρ ⟨d, .call { callee := .builtin .max, args := #[x, y], argTypes := tys }, ty, pos, af, g⟩ = some (.int k (if b > a then b else a)) := by
        unfold closedOp
        rw [if_pos (by simp [Op.operands, Call.operands, hx, hy, closedV])]
        have hq : prun P (execOp ρ ⟨d, .call { callee := .builtin .max, args := #[x, y], argTypes := tys }, ty, pos, af, g⟩) = some (Next.value (.int k (if b > a then b else a))) := by
          simp [execOp, resolve, hx, hy, List.size_toArray]
          rfl
        rw [hq]
        simp [closedV]
      show (closedOp P ρ _).map (·, m) = _
      rw [hc]; rfl
    | _ => rfl
  | _ => rfl
end
end Go.Sh

namespace Go.Sh
set_option linter.unusedVariables false
set_option linter.unusedSimpArgs false
/- regions, by name -/
def plainOk (P : Program) (nv : Nat) (C : List Nat) (c : Code) (ups cs nd : List Nat) (ds : List (Option Nat)) : Bool :=
  match c with
  | .region _ ops d => (!d || (!(ops.toList.any floatB) && quiet P ops.toList)) && (upsOf nv ops.toList == ups) && (condsOf C ops.toList == cs) && (uniq (needs ops.toList []) == nd) && (ops.toList.map (·.dst) == ds)
  | _ => false
def loudOk (P : Program) (nv : Nat) (C : List Nat) (c : Code) (ups cs nd : List Nat) (ds : List (Option Nat)) (places : List (Nat × List Nat)) : Bool :=
  match c with
  | .region _ ops d => d && !quiet P (canonOps ops.toList) && (two (canonOps ops.toList)).isNone && (upsOf nv (canonOps ops.toList) == ups) && (condsOf C (canonOps ops.toList) == cs) && (uniq (needs (canonOps ops.toList) []) == nd) && ((canonOps ops.toList).map (·.dst) == ds) && (readPlaces P (canonOps ops.toList) == places)
  | _ => false
/-- one whose last two go in either order -/
def pairOkW (P : Program) (nv : Nat) (C : List Nat) (c : Code) (ups cs nd : List Nat) (ds1 ds2 : List (Option Nat)) (n : Nat) (pl1 pl2 : List (Nat × List Nat)) : Bool :=
  match c with
  | .region _ ops d => d && !quiet P (canonOps ops.toList) && (match two (canonOps ops.toList) with
    | some (r, x, y) => (upsOf nv (canonOps ops.toList) == ups) && (condsOf C (canonOps ops.toList) == cs) && (uniq (needs (r ++ [x, edgeTo r.length y]) []) == nd) && (uniq (needs (r ++ [y, edgeTo r.length x]) []) == nd) && ((r ++ [x, edgeTo r.length y]).map (·.dst) == ds1) && ((r ++ [y, edgeTo r.length x]).map (·.dst) == ds2) && (r.length == n) && (readPlaces P (r ++ [x, edgeTo r.length y]) == pl1) && (readPlaces P (r ++ [y, edgeTo r.length x]) == pl2)
    | none => false)
  | _ => false
/-- the two listings -/
def twoL (cs : List Oper) : List Oper × List Oper := match two cs with
  | some (r, x, y) => (r ++ [x, edgeTo r.length y], r ++ [y, edgeTo r.length x])
  | none => ([], [])
def lap (l : List Oper) (n : Nat) (S : List (LEnv × Mem)) : Bool := match l[n]?, l[n + 1]?, S[n]? with
  | some x, some y, some (E, _) => (match lstAt E x, lstAt E y with
    | some p, some q => p != q
    | _, _ => false)
  | _, _, _ => false
def lpr (P : Program) (H : CallH) (ds1 ds2 : List (Option Nat)) (l1 l2 : List Oper) (n : Nat) (pl1 pl2 : List (Nat × List Nat)) : Option (List (LEnv × Mem)) → Option (List (LEnv × Mem)) → Option (LEnv × Mem)
  | some S, some S2 => if lap l1 n S && lreads P H ds1 l1 S pl1 && lreads P H ds2 l2 S2 pl2 then S.getLast? else none
  | _, _ => none
def lgo (E : LEnv) (nd : List Nat) (r : Option (LEnv × Mem)) : Option (LEnv × Mem) := match lall E nd with | true => r | false => none
def lloud (P : Program) (H : CallH) (ds : List (Option Nat)) (l : List Oper) (places : List (Nat × List Nat)) (r : Option (List (LEnv × Mem))) : Option (LEnv × Mem) := match r with
  | some S => if lreads P H ds l S places = true then S.getLast? else none
  | none => none
section
variable {P : Program} {T : FuncId → Option Func} {S : Sums} {nv : Nat} {C : List Nat} {k : List Fr} {E : LEnv} {m : Mem} {Q : Post} {H : CallH}
theorem lall_uniq (E : LEnv) (l : List Nat) : lall E (uniq l) = lall E l := by
  rw [Bool.eq_iff_iff, lall_iff, lall_iff]
  exact ⟨fun h i hi => h i (mem_uniq.2 hi), fun h i hi => h i (mem_uniq.1 hi)⟩
/-- an operation without its edges and place -/
def strip (o : Oper) : Oper := ⟨o.dst, o.op, o.type, "", #[], o.guard⟩
theorem sop_strip (ρ : Operand → Value) (o : Oper) (m : Mem) : sop P H ρ (strip o) m = sop P H ρ o m := by
  obtain ⟨d, op, t, p, a, g⟩ := o
  cases op <;> rfl
theorem lop1_strip (ds : List (Option Nat)) (o : Oper) : lop1 P H ds (strip o) E m = lop1 P H ds o E m := by
  unfold lop1
  simp only [sop_strip]
  rfl
theorem lops_strip (ds : List (Option Nat)) : ∀ (l : List Oper) (E : LEnv) (m : Mem), lops P H ds (l.map strip) E m = lops P H ds l E m
  | [], E, m => rfl
  | o :: r, E, m => by
    simp only [List.map_cons, lops, lop1_strip]
    cases lop1 P H ds o E m with
    | none => rfl
    | some p => exact lops_strip ds r _ _
theorem lstates_strip (ds : List (Option Nat)) : ∀ (l : List Oper) (E : LEnv) (m : Mem), lstates P H ds (l.map strip) E m = lstates P H ds l E m
  | [], E, m => rfl
  | o :: r, E, m => by
    simp only [List.map_cons, lstates, lop1_strip]
    cases lop1 P H ds o E m with
    | none => rfl
    | some p =>
      have := lstates_strip ds r (lput E o.dst p.1) p.2
      show (match lstates P H ds (r.map strip) (lput E o.dst p.1) p.2 with | some l => _ | none => _) = _
      rw [this]
      all_goals rfl
theorem lreads_strip (ds : List (Option Nat)) (l : List Oper) (S : List (LEnv × Mem)) : ∀ pl : List (Nat × List Nat), lreads P H ds (l.map strip) S pl = lreads P H ds l S pl
  | [] => rfl
  | (j, is) :: r => by
    simp only [lreads, lreads_strip ds l S r, List.getElem?_map]
    congr 1
    cases l[j]? with
    | none => rfl
    | some o =>
      cases S[j]? with
      | none => rfl
      | some p =>
        simp only [Option.map_some, lop1_strip]
        cases lop1 P H ds o p.1 p.2 with
        | none => rfl
        | some q =>
          simp only
          refine congrArg is.all (funext fun i => ?_)
          cases S[i]? with
          | none => rfl
          | some w =>
            show lsame P H ds (strip o) p.1 q.1 w.2 = lsame P H ds o p.1 q.1 w.2
            unfold lsame
            rw [lop1_strip]
theorem lloud_strip (ds : List (Option Nat)) (l : List Oper) (places : List (Nat × List Nat)) (r : Option (List (LEnv × Mem))) : lloud P H ds (l.map strip) places r = lloud P H ds l places r := by
  cases r with
  | none => rfl
  | some S => simp only [lloud, lreads_strip]
theorem w_plain {c : Code} {ups cs nd : List Nat} {ds : List (Option Nat)} {l : List Oper} (h : plainOk P nv C c ups cs nd ds = true) (hl : (opsOf c).map strip = l) :
    W P T S nv C c k E m Q ↔ Rg P T S nv C ups cs (lgo E nd (lops P (callw P T S) ds l E m)) k E Q := by
  cases c with
  | region i ops d =>
    simp only [plainOk, Bool.and_eq_true, beq_iff_eq, Bool.or_eq_true, Bool.not_eq_true'] at h
    obtain ⟨⟨⟨⟨h1, h2⟩, h3⟩, h4⟩, h5⟩ := h
    simp only [opsOf] at hl
    subst hl
    rw [lops_strip, w_region]
    have he : effOps ops.toList d = ops.toList := by
      unfold effOps
      cases d with
      | false => rfl
      | true =>
        simp only [Bool.true_eq_false, false_or] at h1
        simp only [if_true, canonOps]
        rw [if_neg (by simp [h1.1])]
    have hr : lregion P (callw P T S) ops.toList d E m = lgo E nd (lops P (callw P T S) ds ops.toList E m) := by
      unfold lregion lgo
      rw [← h4, lall_uniq]
      have hm : ∀ (b : Bool) (r : Option (LEnv × Mem)), (if b = true then r else none) = (match b with | true => r | false => none) := by intro b r; cases b <;> rfl
      cases d with
      | false => simp only [Bool.false_eq_true, if_false, h5, hm]
      | true =>
        simp only [effOps, if_true] at he
        simp only [Bool.true_eq_false, false_or] at h1
        simp only [if_true, he, h1.2, h5, hm]
    rw [he, hr, h2, h3]
  | _ => simp [plainOk] at h
theorem w_loud {c : Code} {ups cs nd : List Nat} {ds : List (Option Nat)} {l : List Oper} {places : List (Nat × List Nat)} (h : loudOk P nv C c ups cs nd ds places = true) (hl : (canonOps (opsOf c)).map strip = l) :
    W P T S nv C c k E m Q ↔ Rg P T S nv C ups cs (lgo E nd (lloud P (callw P T S) ds l places (lstates P (callw P T S) ds l E m))) k E Q := by
  cases c with
  | region i ops d =>
    simp only [loudOk, Bool.and_eq_true, beq_iff_eq, Bool.not_eq_true'] at h
    obtain ⟨⟨⟨⟨⟨⟨⟨h0, h1⟩, ht⟩, h2⟩, h3⟩, h4⟩, h5⟩, h6⟩ := h
    subst h0
    rw [Option.isNone_iff_eq_none] at ht
    simp only [opsOf] at hl
    subst hl
    rw [lloud_strip, lstates_strip, w_region]
    have hr : lregion P (callw P T S) ops.toList true E m = lgo E nd (lloud P (callw P T S) ds (canonOps ops.toList) places (lstates P (callw P T S) ds (canonOps ops.toList) E m)) := by
      unfold lregion lgo lloud
      simp only [ht]
      unfold ldrawn
      rw [← h4, lall_uniq]
      have hm : ∀ (b : Bool) (r : Option (LEnv × Mem)), (if b = true then r else none) = (match b with | true => r | false => none) := by intro b r; cases b <;> rfl
      simp only [if_true, h1, h5, h6, hm]
      rfl
    rw [hr]
    simp only [effOps, if_true, h2, h3]
  | _ => simp [loudOk] at h

theorem lstAt_strip (o : Oper) : lstAt E (strip o) = lstAt E o := rfl
theorem lap_strip (l : List Oper) (n : Nat) (St : List (LEnv × Mem)) : lap (l.map strip) n St = lap l n St := by
  unfold lap
  simp only [List.getElem?_map]
  cases l[n]? with
  | none => rfl
  | some x =>
    cases l[n + 1]? with
    | none => rfl
    | some y =>
      cases St[n]? with
      | none => rfl
      | some p => rfl
theorem w_pair {c : Code} {ups cs nd : List Nat} {ds1 ds2 : List (Option Nat)} {n : Nat} {pl1 pl2 : List (Nat × List Nat)} {l1 l2 : List Oper} (h : pairOkW P nv C c ups cs nd ds1 ds2 n pl1 pl2 = true) (h1 : (twoL (canonOps (opsOf c))).1.map strip = l1) (h2 : (twoL (canonOps (opsOf c))).2.map strip = l2) :
    W P T S nv C c k E m Q ↔ Rg P T S nv C ups cs (lgo E nd (lpr P (callw P T S) ds1 ds2 l1 l2 n pl1 pl2 (lstates P (callw P T S) ds1 l1 E m) (lstates P (callw P T S) ds2 l2 E m))) k E Q := by
  cases c with
  | region i ops d =>
    unfold pairOkW at h
    simp only [opsOf] at h1 h2
    unfold twoL at h1 h2
    cases ht : two (canonOps ops.toList) with
    | none => simp [ht] at h
    | some p =>
      obtain ⟨r, x, y⟩ := p
      simp only [ht, Bool.and_eq_true, beq_iff_eq, Bool.not_eq_true'] at h h1 h2
      obtain ⟨⟨h0, hq⟩, ⟨⟨⟨⟨⟨⟨⟨a1, a2⟩, a3⟩, a4⟩, a5⟩, a6⟩, a7⟩, a8⟩, a9⟩ := h
      subst h0 h1 h2
      rw [lstates_strip, lstates_strip, w_region]
      have hr : lregion P (callw P T S) ops.toList true E m = lgo E nd (lpr P (callw P T S) ds1 ds2 ((r ++ [x, edgeTo r.length y]).map strip) ((r ++ [y, edgeTo r.length x]).map strip) n pl1 pl2 (lstates P (callw P T S) ds1 (r ++ [x, edgeTo r.length y]) E m) (lstates P (callw P T S) ds2 (r ++ [y, edgeTo r.length x]) E m)) := by
        unfold lregion
        simp only [if_true, hq, ht, Bool.false_eq_true, if_false]
        unfold lpair lgo
        have e1 : lall E (needs (r ++ [x, edgeTo r.length y]) []) = lall E nd := by rw [← a3, lall_uniq]
        have e2 : lall E (needs (r ++ [y, edgeTo r.length x]) []) = lall E nd := by rw [← a4, lall_uniq]
        rw [e1, e2, a5, a6, a8, a9]
        cases lall E nd with
        | false => rfl
        | true =>
          simp only [Bool.and_self, if_true]
          cases hs1 : lstates P (callw P T S) ds1 (r ++ [x, edgeTo r.length y]) E m with
          | none => rfl
          | some S1 =>
            cases hs2 : lstates P (callw P T S) ds2 (r ++ [y, edgeTo r.length x]) E m with
            | none => rfl
            | some S2 =>
              simp only [lpr, lreads_strip, lap_strip]
              have e3 : lap (r ++ [x, edgeTo r.length y]) n S1 = lapart r x y S1 := by
                unfold lap lapart
                rw [← a7, List.getElem?_append_right (Nat.le_refl _), List.getElem?_append_right (by omega)]
                simp only [Nat.sub_self, List.getElem?_cons_zero, show r.length + 1 - r.length = 1 by omega, List.getElem?_cons_succ]
                cases S1[r.length]? with
                | none => rfl
                | some p => rfl
              rw [e3]
      rw [hr]
      simp only [effOps, if_true, a1, a2]
  | _ => simp [pairOkW] at h

theorem lgo_n (r : Option (LEnv × Mem)) : lgo E [] r = r := rfl
theorem lgo_c (i : Nat) (nd : List Nat) (r : Option (LEnv × Mem)) : lgo E (i :: nd) r = match lget E i with
    | some _ => lgo E nd r
    | none => none := by
  unfold lgo
  rw [lall]
  cases hb : lget E i with
  | none => rfl
  | some v => simp only [Option.isSome_some, Bool.true_and]
theorem lall_nil : lall E [] = true := rfl
theorem lall_cons (i : Nat) (r : List Nat) : lall E (i :: r) = ((lget E i).isSome && lall E r) := rfl
theorem lops_nil (ds : List (Option Nat)) : lops P H ds [] E m = some (E, m) := rfl
/-- the rest of a region; where an operation's answer isn't known, rewriting stops here -/
def lk (P : Program) (H : CallH) (ds : List (Option Nat)) (d : Option Tmp) (r : List Oper) (E : LEnv) : Option (Value × Mem) → Option (LEnv × Mem)
  | some (v, m') => lops P H ds r (lput E d v) m'
  | none => none
theorem lk_some (ds : List (Option Nat)) (d : Option Tmp) (r : List Oper) (v : Value) (m' : Mem) : lk P H ds d r E (some (v, m')) = lops P H ds r (lput E d v) m' := rfl
theorem lops_cons (ds : List (Option Nat)) (d : Option Tmp) (op : Op) (ty : TypeId) (pos : String) (af : Array Edge) (g : Option (Nat × Bool)) (r : List Oper) : lops P H ds (⟨d, op, ty, pos, af, g⟩ :: r) E m = lk P H ds d r E (lop1 P H ds ⟨d, op, ty, pos, af, g⟩ E m) := by
  show (match lop1 P H ds ⟨d, op, ty, pos, af, g⟩ E m with
    | some (v, m') => lops P H ds r (lput E d v) m'
    | none => none) = _
  cases lop1 P H ds ⟨d, op, ty, pos, af, g⟩ E m <;> rfl
theorem lst_nil (ds : List (Option Nat)) : lstates P H ds [] E m = some [(E, m)] := rfl
def lkc (E : LEnv) (m : Mem) : Option (List (LEnv × Mem)) → Option (List (LEnv × Mem))
  | some l => some ((E, m) :: l)
  | none => none
def lks (P : Program) (H : CallH) (ds : List (Option Nat)) (d : Option Tmp) (r : List Oper) (E : LEnv) (m : Mem) : Option (Value × Mem) → Option (List (LEnv × Mem))
  | some (v, m') => lkc E m (lstates P H ds r (lput E d v) m')
  | none => none
theorem lkc_some (l : List (LEnv × Mem)) : lkc E m (some l) = some ((E, m) :: l) := rfl
theorem lks_some (ds : List (Option Nat)) (d : Option Tmp) (r : List Oper) (v : Value) (m' : Mem) : lks P H ds d r E m (some (v, m')) = lkc E m (lstates P H ds r (lput E d v) m') := rfl
theorem lst_cons (ds : List (Option Nat)) (d : Option Tmp) (op : Op) (ty : TypeId) (pos : String) (af : Array Edge) (g : Option (Nat × Bool)) (r : List Oper) : lstates P H ds (⟨d, op, ty, pos, af, g⟩ :: r) E m = lks P H ds d r E m (lop1 P H ds ⟨d, op, ty, pos, af, g⟩ E m) := by
  show (match lop1 P H ds ⟨d, op, ty, pos, af, g⟩ E m with
    | some (v, m') => (match lstates P H ds r (lput E d v) m' with
      | some l => some ((E, m) :: l)
      | none => none)
    | none => none) = _
  cases lop1 P H ds ⟨d, op, ty, pos, af, g⟩ E m with
  | none => rfl
  | some p =>
    obtain ⟨v, m'⟩ := p
    show (match lstates P H ds r (lput E d v) m' with
      | some l => some ((E, m) :: l)
      | none => none) = lkc E m (lstates P H ds r (lput E d v) m')
    cases lstates P H ds r (lput E d v) m' <;> rfl
theorem lop1_plain (ds : List (Option Nat)) (d : Option Tmp) (op : Op) (ty : TypeId) (pos : String) (af : Array Edge) : lop1 P H ds ⟨d, op, ty, pos, af, none⟩ E m = sop P H (lev E) ⟨d, op, ty, pos, af, none⟩ m := rfl
def gd (b w : Bool) (r : Option (Value × Mem)) (m : Mem) : Option (Value × Mem) := if b = w then r else some (undef, m)
def gdv (v : Value) (w : Bool) (r : Option (Value × Mem)) (m : Mem) : Option (Value × Mem) := match v with
  | .bool b => gd b w r m
  | _ => some (undef, m)
theorem gdv_b (b w : Bool) (r : Option (Value × Mem)) : gdv (.bool b) w r m = gd b w r m := rfl
theorem gdv_u (w : Bool) (r : Option (Value × Mem)) : gdv undef w r m = some (undef, m) := rfl
theorem lop1_guard (ds : List (Option Nat)) (d : Option Tmp) (op : Op) (ty : TypeId) (pos : String) (af : Array Edge) (j : Nat) (w : Bool) : lop1 P H ds ⟨d, op, ty, pos, af, some (j, w)⟩ E m = match ds[j]? with
    | some (some d') => (match lget E d' with
      | some v => gdv v w (sop P H (lev E) ⟨d, op, ty, pos, af, some (j, w)⟩ m) m
      | none => none)
    | _ => none := rfl
theorem gd_tt (r : Option (Value × Mem)) : gd true true r m = r := rfl
theorem gd_ff (r : Option (Value × Mem)) : gd false false r m = r := rfl
theorem gd_tf (r : Option (Value × Mem)) : gd true false r m = some (undef, m) := rfl
theorem gd_ft (r : Option (Value × Mem)) : gd false true r m = some (undef, m) := rfl
theorem lput_s (d : Nat) (v : Value) : lput E (some d) v = (d, v) :: E := rfl
theorem lput_n (v : Value) : lput E none v = E := rfl
theorem lev_t (i : Nat) : lev E (.tmp i) = (lget E i).getD undef := rfl
theorem lev_c (v : Value) : lev E (.const v) = v := rfl
theorem lev_g (i : Nat) : lev E (.global i) = .pointer (some ⟨i, 0, none⟩) := rfl
theorem lev_f (i : Nat) : lev E (.func i) = .func (.func i) #[] #[] := rfl
theorem lget_n (i : Nat) : lget [] i = none := rfl
theorem lget_c (j : Nat) (v : Value) (r : LEnv) (i : Nat) : lget ((j, v) :: r) i = if i = j then some v else lget r i := rfl
theorem lset_n (i : Nat) (v : Value) : lset [] i v = [(i, v)] := rfl
theorem lset_c (j : Nat) (w : Value) (r : LEnv) (i : Nat) (v : Value) : lset ((j, w) :: r) i v = if i = j then (j, v) :: r else (j, w) :: lset r i v := rfl
theorem lkeep_n (nv : Nat) : lkeep nv [] = [] := rfl
theorem lkeep_c (nv : Nat) (j : Nat) (w : Value) (r : LEnv) : lkeep nv ((j, w) :: r) = if j < nv then (j, w) :: lkeep nv r else lkeep nv r := rfl
theorem lsets_n (E' : LEnv) : lsets E' [] E = E := rfl
theorem lsets_c (E' : LEnv) (i : Nat) (r : List Nat) : lsets E' (i :: r) E = match lget E' i with
    | some v => lsets E' r (lset E i v)
    | none => lsets E' r E := rfl
theorem lconds_n (E' : LEnv) : lconds E' [] E = E := rfl
theorem lconds_c (E' : LEnv) (i : Nat) (r : List Nat) : lconds E' (i :: r) E = match lget E' i with
    | some v => (i, v) :: lconds E' r E
    | none => lconds E' r E := rfl
theorem rg_some (ups cs : List Nat) (E' : LEnv) (m' : Mem) : Rg P T S nv C ups cs (some (E', m')) k E Q ↔ R P T S nv C .normal k (lconds E' cs (lsets E' ups (lkeep nv E))) m' Q := Iff.rfl
theorem lloud_some (ds : List (Option Nat)) (l : List Oper) (places : List (Nat × List Nat)) (S : List (LEnv × Mem)) : lloud P H ds l places (some S) = if lreads P H ds l S places = true then S.getLast? else none := rfl
theorem lreads_n (ds : List (Option Nat)) (all : List Oper) (S : List (LEnv × Mem)) : lreads P H ds all S [] = true := rfl
theorem lreads_c (ds : List (Option Nat)) (all : List Oper) (S : List (LEnv × Mem)) (j : Nat) (is : List Nat) (r : List (Nat × List Nat)) : lreads P H ds all S ((j, is) :: r) = ((match all[j]?, S[j]? with
    | some o, some (E, m) => (match lop1 P H ds o E m with
      | some (v, _) => is.all fun i => match S[i]? with
        | some (_, m') => lsame P H ds o E v m'
        | none => false
      | none => false)
    | _, _ => false) && lreads P H ds all S r) := rfl
theorem lsame_d (ds : List (Option Nat)) (o : Oper) (v : Value) : lsame P H ds o E v m = match lop1 P H ds o E m with
    | some (v', _) => eqV v v'
    | none => false := rfl
theorem qf_d {rs : List ResultVar} {A : Value → Mem → Prop} (e : SExit) : QF P rs A e E m ↔ (okx e = true ∧ match lresults P E m rs with
    | some v => A v m
    | none => False) := Iff.rfl

/-- a function: its code, its results' slots -/
def FnIs (T : FuncId → Option Func) (f : FuncId) (c : Code) (rs : List ResultVar) (n : Nat) : Prop := ∃ fn, T f = some fn ∧ fn.body = some c ∧ fn.results.toList = rs ∧ n ≤ fn.ntmps
theorem fn_w {f : FuncId} {c : Code} {rs : List ResultVar} {n : Nat} {args : List Value} {A : Value → Mem → Prop} (nv : Nat) (C : List Nat) (hf : FnIs T f c rs n) (hS : S f = []) (hl : args.length = n) (h : W P T S nv C c [] (lfill args 0) m (QF P rs A)) :
    ∃ v m', callw P T S f args m = some (v, m') ∧ A v m' := by
  obtain ⟨fn, h1, h2, h3, h4⟩ := hf
  subst h3
  exact call_w nv C h1 h2 hS (by omega) h
theorem fn_eq {f : FuncId} {c : Code} {rs : List ResultVar} {n : Nat} {args : List Value} {v : Value} {m' : Mem} (nv : Nat) (C : List Nat) (hf : FnIs T f c rs n) (hS : S f = []) (hl : args.length = n) (h : W P T S nv C c [] (lfill args 0) m (QF P rs fun u m1 => u = v ∧ m1 = m')) :
    callw P T S f args m = some (v, m') := by
  obtain ⟨u, m1, h1, rfl, rfl⟩ := fn_w nv C hf hS hl h
  exact h1
end
end Go.Sh

namespace Go.Sh
set_option linter.unusedVariables false
set_option linter.unusedSimpArgs false
section
variable {P : Program} {m : Mem}
/-- a slice that is nil, or owned and full: n elements of z cells -/
def Sl (m : Mem) (ao : Option Addr) (n : Nat) (cells : List Value) (e : TypeId) (z fam : Nat) : Prop :=
  n * z = cells.length ∧ ((ao = none ∧ n = 0) ∨ ∃ b, ao = some ⟨b, 0, none⟩ ∧ Own m b cells e fam)

theorem Sl.nil (m : Mem) (e z fam : Nat) : Sl m none 0 [] e z fam := ⟨by simp, Or.inl ⟨rfl, rfl⟩⟩
theorem Sl.of {b n : Nat} {cells : List Value} {e z fam : Nat} (h : Own m b cells e fam) (hn : n * z = cells.length) : Sl m (some ⟨b, 0, none⟩) n cells e z fam := ⟨hn, Or.inr ⟨b, rfl, h⟩⟩
theorem Sl.own {ao : Option Addr} {n : Nat} {cells : List Value} {e z fam : Nat} (h : Sl m ao n cells e z fam) (hn : n ≠ 0) : ∃ b, ao = some ⟨b, 0, none⟩ ∧ Own m b cells e fam := by
  rcases h.2 with ⟨_, h0⟩ | h
  · exact absurd h0 hn
  · exact h
theorem Sl.keep {m' : Mem} {ao : Option Addr} {n : Nat} {cells : List Value} {e z fam : Nat} {fs : List Nat} (h : Sl m ao n cells e z fam) (k : Keeps m m' fs) (hf : fam ∉ fs) : Sl m' ao n cells e z fam := by
  refine ⟨h.1, ?_⟩
  rcases h.2 with h | ⟨b, h1, h2⟩
  · exact Or.inl h
  · exact Or.inr ⟨b, h1, h2.keep k hf⟩
theorem Keeps.nil {m m' : Mem} {fs : List Nat} (h : Keeps m m' []) : Keeps m m' fs := h.mono (fun _ hx => by simp at hx)

theorem Keeps.fresh {m m1 m2 : Mem} {fs : List Nat} (h : Keeps m m1 []) (k : Keeps m1 m2 fs) (hb : ∀ f ∈ fs, m.next ≤ f) : Keeps m m2 [] := by
  refine ⟨Nat.le_trans h.1 k.1, fun l bl hl hg hq hf => ?_, fun f hl hf => ?_, fun f hl hf => ?_⟩
  · exact k.2.1 l bl (Nat.lt_of_lt_of_le hl h.1) (h.2.1 l bl hl hg hq hf) (Nat.lt_of_lt_of_le hq h.1) (fun hx => by have := hb _ hx; omega)
  · rw [k.2.2.1 f (Nat.lt_of_lt_of_le hl h.1) (fun hx => by have := hb _ hx; omega), h.2.2.1 f hl hf]
  · rw [k.2.2.2 f (Nat.lt_of_lt_of_le hl h.1) (fun hx => by have := hb _ hx; omega), h.2.2.2 f hl hf]
theorem Keeps.mono2 {m m1 m2 : Mem} {fs : List Nat} {b : Nat} (h : Keeps m m1 fs) (k : Keeps m1 m2 (b :: fs)) (hb : m.next ≤ b) : Keeps m m2 fs := by
  refine ⟨Nat.le_trans h.1 k.1, fun l bl hl hg hq hf => ?_, fun f hl hf => ?_, fun f hl hf => ?_⟩
  · exact k.2.1 l bl (Nat.lt_of_lt_of_le hl h.1) (h.2.1 l bl hl hg hq hf) (Nat.lt_of_lt_of_le hq h.1) (by simp only [List.mem_cons, not_or]; exact ⟨by omega, hf⟩)
  · rw [k.2.2.1 f (Nat.lt_of_lt_of_le hl h.1) (by simp only [List.mem_cons, not_or]; exact ⟨by omega, hf⟩), h.2.2.1 f hl hf]
  · rw [k.2.2.2 f (Nat.lt_of_lt_of_le hl h.1) (by simp only [List.mem_cons, not_or]; exact ⟨by omega, hf⟩), h.2.2.2 f hl hf]

/-- what append does to it -/
theorem app_sl {ty e : TypeId} {z bt n k fam : Nat} {ao : Option Addr} {cells news : List Value} {r : Option (Value × Mem)} (hr : sappend P ty m (.slice ao n n) news k = r) (ht : P.underlying ty = some (.slice e)) (ha : apOk P e z bt = true)
    (h : Sl m ao n cells e z fam) (hnews : news.length = k * z) (h1 : news.all one = true) (hb : (n + k) * bt ≤ 140737488355328) (h63 : n + k ≤ 9223372036854775807) :
    ∃ m1 ao' fam', r = some (.slice ao' (n + k) (n + k), m1) ∧ Sl m1 ao' (n + k) (cells ++ news) e z fam' ∧ Keeps m m1 [fam] ∧ (fam' = fam ∨ m.next ≤ fam') := by
  subst hr
  have hz : 0 < z := by
    unfold apOk at ha
    cases hi : P.info? e with
    | none => rw [hi] at ha; simp at ha
    | some i => rw [hi] at ha; simp only [Option.any_some, Bool.and_eq_true, beq_iff_eq, decide_eq_true_eq] at ha; exact ha.1.2
  have hlen : (n + k) * z = (cells ++ news).length := by rw [List.length_append, Nat.add_mul, h.1, hnews]
  rcases h.2 with ⟨rfl, rfl⟩ | ⟨b, rfl, ho⟩
  · have hc : cells = [] := List.length_eq_zero_iff.1 (by rw [← h.1]; simp)
    subst hc
    by_cases hk : k = 0
    · subst hk
      have hn : news = [] := List.length_eq_zero_iff.1 (by rw [hnews]; simp)
      subst hn
      refine ⟨m, none, fam, ?_, Sl.nil m e z fam, .refl _ _, Or.inl rfl⟩
      unfold apOk at ha
      cases hi : P.info? e with
      | none => rw [hi] at ha; simp at ha
      | some i =>
        rw [hi] at ha
        simp only [Option.any_some, Bool.and_eq_true, beq_iff_eq, decide_eq_true_eq] at ha
        unfold sappend
        simp only [ht, hi]
        rw [if_neg (by simp [ha.1.1.1, ha.1.2, ha.2])]
        simp
    · refine ⟨m.new news e, some ⟨m.next, 0, none⟩, m.next, ?_, ⟨hlen, Or.inr ⟨m.next, rfl, by simpa using Own.new m news e⟩⟩, keeps_new _ _ _ _, Or.inr (Nat.le_refl _)⟩
      have := sappend_nil (m := m) ht ha hk hnews h1 (by simpa using hb) (by omega)
      simpa using this
  · by_cases hk : k = 0
    · subst hk
      have hn : news = [] := List.length_eq_zero_iff.1 (by rw [hnews]; simp)
      subst hn
      refine ⟨m, some ⟨b, 0, none⟩, fam, sappend_none ht ha ho (by simpa using hb) (by omega), ⟨hlen, Or.inr ⟨b, rfl, by simpa using ho⟩⟩, .refl _ _, Or.inl rfl⟩
    · exact ⟨_, _, fam, sappend_full ht ha ho h.1 hk hnews h1 hb h63, ⟨hlen, Or.inr ⟨_, rfl, ho.grow _ true⟩⟩, ho.keeps_grow _ true (by simp), Or.inl rfl⟩

/-- the same behind a new block -/
theorem app_sl_new {ty e e0 : TypeId} {z bt n k fam : Nat} {ao : Option Addr} {cells news cs : List Value} {r : Option (Value × Mem)} (hr : sappend P ty (m.new cs e0) (.slice ao n n) news k = r) (ht : P.underlying ty = some (.slice e)) (ha : apOk P e z bt = true)
    (h : Sl m ao n cells e z fam) (hnews : news.length = k * z) (h1 : news.all one = true) (hb : (n + k) * bt ≤ 140737488355328) (h63 : n + k ≤ 9223372036854775807) :
    ∃ m1 ao' fam', r = some (.slice ao' (n + k) (n + k), m1) ∧ Sl m1 ao' (n + k) (cells ++ news) e z fam' ∧ Keeps m m1 [fam] ∧ (fam' = fam ∨ m.next ≤ fam') := by
  obtain ⟨m1, ao', fam', h1, h2, h3, h4⟩ := app_sl hr ht ha (h.keep (keeps_new m cs e0 []) (by simp)) hnews h1 hb h63
  exact ⟨m1, ao', fam', h1, h2, (keeps_new m cs e0 _).trans h3, h4.imp id (fun h => by simp [Mem.new] at h; omega)⟩
theorem app_own {ty e : TypeId} {z bt n k fam b : Nat} {cells news : List Value} {r : Option (Value × Mem)} (hr : sappend P ty m (.slice (some ⟨b, 0, none⟩) n n) news k = r) (ht : P.underlying ty = some (.slice e)) (ha : apOk P e z bt = true)
    (h : Own m b cells e fam) (hn : n * z = cells.length) (hnews : news.length = k * z) (h1 : news.all one = true) (hb : (n + k) * bt ≤ 140737488355328) (h63 : n + k ≤ 9223372036854775807) :
    ∃ m1 b', r = some (.slice (some ⟨b', 0, none⟩) (n + k) (n + k), m1) ∧ Own m1 b' (cells ++ news) e fam ∧ Keeps m m1 [fam] := by
  subst hr
  by_cases hk : k = 0
  · subst hk
    have hn : news = [] := List.length_eq_zero_iff.1 (by rw [hnews]; simp)
    subst hn
    exact ⟨m, b, sappend_none ht ha h (by simpa using hb) (by omega), by simpa using h, .refl _ _⟩
  · exact ⟨_, _, sappend_full ht ha h hn hk hnews h1 hb h63, h.grow _ true, h.keeps_grow _ true (by simp)⟩
theorem app_own_new {ty e e0 : TypeId} {z bt n k fam b : Nat} {cells news cs : List Value} {r : Option (Value × Mem)} (hr : sappend P ty (m.new cs e0) (.slice (some ⟨b, 0, none⟩) n n) news k = r) (ht : P.underlying ty = some (.slice e)) (ha : apOk P e z bt = true)
    (h : Own m b cells e fam) (hn : n * z = cells.length) (hnews : news.length = k * z) (h1 : news.all one = true) (hb : (n + k) * bt ≤ 140737488355328) (h63 : n + k ≤ 9223372036854775807) :
    ∃ m1 b', r = some (.slice (some ⟨b', 0, none⟩) (n + k) (n + k), m1) ∧ Own m1 b' (cells ++ news) e fam ∧ Keeps m m1 [fam] := by
  obtain ⟨m1, b', h1, h2, h3⟩ := app_own hr ht ha (h.keep (keeps_new m cs e0 []) (by simp)) hn hnews h1 hb h63
  exact ⟨m1, b', h1, h2, (keeps_new m cs e0 _).trans h3⟩

/-- what a store does -/
theorem store_own {l off fam : Nat} {cells vs : List Value} {e : TypeId} {r : Option Mem} (hr : storeRow m ⟨l, off, none⟩ vs = r) (h : Own m l cells e fam) (hk : off + vs.length ≤ cells.length) (h1 : vs.all one = true) :
    ∃ m1, r = some m1 ∧ Own m1 l (over cells off vs) e fam ∧ Keeps m m1 [fam] := by
  subst hr
  exact ⟨_, h.store hk h1, h.put _, h.keeps_put _ (by simp)⟩

theorem int_beq (a b : Int) : (a == b) = decide (a = b) := by by_cases h : a = b <;> simp [h]
theorem int_bne (a b : Int) : (a != b) = !decide (a = b) := by by_cases h : a = b <;> simp [h]
theorem txt_beq (a b : List UInt8) : (a == b) = decide (a = b) := by by_cases h : a = b <;> simp [h]
theorem bool_beq (a b : Bool) : (a == b) = decide (a = b) := by cases a <;> cases b <;> rfl
/-- a new block -/
theorem new_own {cs : List Value} {e : TypeId} {m1 : Mem} (hr : m.new cs e = m1) : Own m1 m.next cs e m.next ∧ Keeps m m1 [] ∧ m.next < m1.next := by
  subst hr
  exact ⟨Own.new _ _ _, keeps_new _ _ _ _, by simp [Mem.new]⟩
end
end Go.Sh

namespace Go.Sh
section
variable {P : Program} {T : FuncId → Option Func} {S : Sums} {k : List Fr} {E : LEnv} {m : Mem} {Q : Post}
/-- A LOOP: what holds ahead of each round, and a number that falls. -/
theorem wsem_loop {b : Code} (nv : Nat) (C : List Nat) (I : Nat → LEnv → Mem → Prop) (n : Nat) (hI : ∃ E0, I n E0 m ∧ subE E0 E)
    (step : ∀ n E m, (∀ n' E1 E' m', I n' E1 m' → n' < n → subE E1 E' → Wsem P T S (.loop b) k E' m' Q) → I n E m → W P T S nv C b (.loop b :: k) E m Q) : Wsem P T S (.loop b) k E m Q := by
  have all : ∀ n E m, I n E m → Wsem P T S (.loop b) k E m Q := by
    intro n
    induction n using Nat.strongRecOn with
    | _ n ih => exact fun E m hI => loop_go' (step n E m (fun n' E1 E' m' h1 hlt hs => wsem_sub (ih n' hlt E1 m' h1) hs) hI)
  obtain ⟨E0, h0, hs⟩ := hI
  exact wsem_sub (all n E0 m h0) hs
end
end Go.Sh

namespace Go.Sh
section
variable {P : Program} {m : Mem}
theorem bytesOf_map : ∀ l : List UInt8, bytesOf (l.map fun b => Value.int .u8 b.toNat) = some l
  | [] => rfl
  | b :: r => by
    have h1 := b.toNat_lt
    simp only [List.map_cons, bytesOf]
    rw [if_pos (by simp; omega), bytesOf_map r]
    simp
theorem bToS_sl {ao : Option Addr} {l : List UInt8} {e fam : Nat} (h : Sl m ao l.length (l.map fun b => Value.int .u8 b.toNat) e 1 fam) : bToS m (.slice ao l.length l.length) = some (.string ⟨l.toArray⟩, m) := by
  rcases h.2 with ⟨rfl, h0⟩ | ⟨b, rfl, ho⟩
  · have := List.length_eq_zero_iff.1 h0
    subst this
    rfl
  · by_cases h0 : l.length = 0
    · have := List.length_eq_zero_iff.1 h0
      subst this
      rfl
    · have hl := ho.load (off := 0) l.length (by simp)
      simp only [bToS]
      rw [if_neg h0, hl]
      simp only [window, List.drop_zero]
      rw [List.take_of_length_le (by simp), bytesOf_map]
end
end Go.Sh

namespace Go.Sh
section
variable {P : Program} {E : LEnv} {m : Mem}
theorem lres_tmp (i : Nat) : lresult P E m (.tmp i) = lget E i := rfl
theorem lres_one {t : TypeId} (h : ldOk P t = true) (a : Nat) : lresult P E m (.cell a t) = match lget E a with
    | some (.pointer (some ad)) => (match loadRow m ad 1 with
      | some [v] => some v
      | _ => none)
    | _ => none := by
  unfold ldOk at h
  rw [Bool.and_eq_true, Bool.not_eq_true'] at h
  obtain ⟨u, hu⟩ := Option.isSome_iff_exists.1 h.1
  simp only [lresult, hu, h.2]
  rfl
theorem lres_agg {t : TypeId} {z : Nat} (h : agOk P t z = true) (a : Nat) : lresult P E m (.cell a t) = match lget E a with
    | some (.pointer (some ad)) => (match loadRow m ad z with
      | some cs => some (.agg cs.toArray)
      | none => none)
    | _ => none := by
  unfold agOk at h
  simp only [Bool.and_eq_true, beq_iff_eq] at h
  obtain ⟨u, hu⟩ := Option.isSome_iff_exists.1 h.1.1
  simp only [lresult, hu, h.1.2, h.2, if_true]
  cases lget E a with
  | none => rfl
  | some v =>
    cases v with
    | pointer ao =>
      cases ao with
      | none => rfl
      | some ad => simp only; cases loadRow m ad z <;> rfl
    | _ => rfl
end
end Go.Sh

/- Arguments that are slices: their elements as rows of cells. -/
namespace Go.Sh
open Go.RowKit Go.WideShapes Go.ChangeShapes
set_option linter.unusedVariables false
set_option linter.unusedSimpArgs false

/-- no place within an element -/
def SpN (ao : Option Addr) : Prop := ∀ a, ao = some a → a.spot = none
theorem SpN.nil : SpN none := fun a e => by cases e
theorem SpN.blk (b : Nat) : SpN (some ⟨b, 0, none⟩) := fun a e => by cases e; rfl
/-- a slice to be read: n elements of z cells -/
def Rs (m : Mem) (ao : Option Addr) (n : Nat) (cells : List Value) (e : TypeId) (z fam : Nat) : Prop :=
  n * z = cells.length ∧ (n = 0 ∧ SpN ao ∨ ∃ b, ao = some ⟨b, 0, none⟩ ∧ Rdo m b cells e fam)

section
variable {P : Program} {J : Inj} {m m' : Mem} {w : World}
theorem Rs.keep {ao : Option Addr} {n : Nat} {cells : List Value} {e z fam : Nat} {fs : List Nat} (h : Rs m ao n cells e z fam) (k : Keeps m m' fs) (hf : fam ∉ fs) : Rs m' ao n cells e z fam := by
  refine ⟨h.1, ?_⟩
  rcases h.2 with h | ⟨b, h1, h2⟩
  · exact Or.inl h
  · exact Or.inr ⟨b, h1, h2.keep k hf⟩
theorem Rs.rdo {ao : Option Addr} {n : Nat} {cells : List Value} {e z fam : Nat} (h : Rs m ao n cells e z fam) (hn : n ≠ 0) : ∃ b, ao = some ⟨b, 0, none⟩ ∧ Rdo m b cells e fam := by
  rcases h.2 with h | h
  · exact absurd h.1 hn
  · exact h
theorem Rs.spot {ao : Option Addr} {n : Nat} {cells : List Value} {e z fam : Nat} (h : Rs m ao n cells e z fam) : SpN ao := by
  rcases h.2 with h | ⟨b, rfl, _⟩
  · exact h.2
  · exact .blk b
theorem Sl.rs {ao : Option Addr} {n : Nat} {cells : List Value} {e z fam : Nat} (h : Sl m ao n cells e z fam) : Rs m ao n cells e z fam := by
  refine ⟨h.1, ?_⟩
  rcases h.2 with ⟨e, h⟩ | ⟨b, h1, h2⟩
  · exact Or.inl ⟨h, e ▸ .nil⟩
  · exact Or.inr ⟨b, h1, h2.rdo⟩

/-- an argument that is such a slice; its elements as Lean things -/
def RowArg (P : Program) (w : World) {R : Type} (f : R → List Value) (wf : R → Prop) (e z : Nat) (v : Value) : Prop :=
  v = .slice none 0 0 ∨ ∃ (s : SArg) (rs : List R), s.Ok P w ∧ s.cells = rs.flatMap f ∧ s.n = rs.length ∧ s.e = e ∧ s.z = z ∧ v = .slice (some s.a) s.n s.cap ∧ ∀ r ∈ rs, wf r

theorem flatMap_len {R : Type} {f : R → List Value} {z : Nat} (hf : ∀ r, (f r).length = z) : ∀ rs : List R, (rs.flatMap f).length = rs.length * z
  | [] => by simp
  | r :: rs => by rw [List.flatMap_cons, List.length_append, hf, flatMap_len hf rs, List.length_cons, Nat.add_mul]; omega

/-- IT IS LAID IN. -/
theorem row_in (hM : MRel P J m (allF w) w w) {R : Type} {f : R → List Value} {wf : R → Prop} {e z : Nat} (he : sizeOfT P e = some z) (hz : 0 < z) (hf : ∀ r, (f r).length = z) {v : Value} (hv : RowArg P w f wf e z v) :
    ∃ (rs : List R) (J' : Inj) (m' : Mem) (ao : Option Addr) (fam : Nat), J.le J' ∧ MRel P J' m' (allF w) w w ∧ VRel J' (.slice ao rs.length rs.length) v ∧ Rs m' ao rs.length (rs.flatMap f) e z fam ∧ m.next ≤ fam ∧ fam < m'.next ∧ Keeps m m' [] ∧
      rs.length ≤ 9223372036854775807 ∧ ∀ r ∈ rs, wf r := by
  rcases hv with rfl | ⟨s, rs, hs, h1, h2, h3, h4, rfl, h5⟩
  · have hok : (⟨[], e, ⟨0, 0, none⟩, 0, 0, z⟩ : SArg).Ok P w := ⟨Option.map_eq_some_iff.1 he, rfl, Nat.le_refl _, by simp, fun h => absurd rfl h, fun h => absurd rfl h, fun i v hv => by simp at hv⟩
    exact ⟨[], _, _, none, m.next, J.le_snoc _ _ _ _, hM.addArg hok, .clo _ rfl, ⟨by simp, Or.inl ⟨rfl, .nil⟩⟩, Nat.le_refl _, by rw [addArg_next]; omega, keeps_addArg _ _, by simp, fun n hn => by simp at hn⟩
  · have hr := arg_rel hM hs
    unfold SArg.val at hr
    refine ⟨rs, _, _, some ⟨m.next, 0, none⟩, m.next, J.le_snoc _ _ _ _, hM.addArg hs, by rw [h2] at hr ⊢; exact hr, ⟨(flatMap_len hf rs).symm, ?_⟩, Nat.le_refl _, by rw [addArg_next]; omega, keeps_addArg _ _, by have := hs.le; have := hs.max; omega, h5⟩
    by_cases hn : rs.length = 0
    · exact Or.inl ⟨hn, .blk _⟩
    · right
      have hne : s.cells ≠ [] := by
        rw [h1]
        intro e0
        have := flatMap_len hf rs
        rw [e0] at this
        have : 0 < rs.length * z := Nat.mul_pos (by omega) hz
        simp at *
        omega
      obtain ⟨g1, g2⟩ := arg_rdo (m := m) (s := s) hne
      refine ⟨m.next, rfl, ?_, ⟨_, g2, Nat.le_refl _⟩, by rw [addArg_next]; omega, by rw [addArg_next]; omega⟩
      rw [g1, h1, h3]

section
variable {H : Type} {enc : TypeId × Value → H}
/-- a slice of texts -/
theorem strs_row {r : Reach} {b0 : Nat} {t e : TypeId} {v : Value} {d : DataW H} {ps : List MemPlace} (ht : P.underlying t = some (.slice e)) (he : P.underlying e = some .string) (hz : sizeOfT P e = some 1)
    (hval : Value.okWide P w r b0 t v) (hd : DataW.Trod enc P w 0 (fun _ => true) true t v d ps) :
    RowArg P w (fun l : List UInt8 => [Value.string ⟨l.toArray⟩]) (fun l => l.length ≤ 9223372036854775807) e 1 v := by
  obtain ⟨i, hi, hz⟩ := Option.map_eq_some_iff.1 hz
  obtain ⟨a0, l0, c0, rfl⟩ := okWide_slice ht hval
  obtain ⟨fuel, hf⟩ := hd
  have hc : P.cellsOf e = 1 := by unfold Program.cellsOf; rw [hi]; simpa using hz
  rcases open_strings ht he hc hf with ⟨h1, _⟩ | ⟨a, len, cap, zs, h1, h2, h3, h4, h5, h6, h7, h8⟩
  · simp [Value.cells] at h1
    obtain ⟨rfl, rfl, rfl⟩ := h1
    exact Or.inl rfl
  · right
    simp [Value.cells] at h1
    obtain ⟨rfl, rfl, rfl⟩ := h1
    simp only [if_true] at h5
    have hspot : c0 ≠ 0 → a.spot = none := by
      intro hc0
      have := h7 0 (by omega)
      simp only [Addr.add, if_true] at this
      unfold World.cell? at this
      split at this
      · cases hs : a.spot with
        | none => rfl
        | some q => rw [hs] at this; simp at this
      · cases this
    have hcell : ∀ j, j < zs.length → w.cell? ⟨a.block, a.off + j, none⟩ = some (.string (zs.getD j ByteArray.empty)) := by
      intro j hj
      have := h7 j hj
      have hadd : a.add j = ⟨a.block, a.off + j, none⟩ := by
        have hs := hspot (by omega)
        unfold Addr.add
        by_cases h0 : j = 0
        · subst h0
          cases a with
          | mk b o sp => simp only at hs; subst hs; simp
        · rw [if_neg h0]
      rw [← hadd]; exact this
    have fm : ((zs.take l0).map (·.data.toList)).flatMap (fun l : List UInt8 => [Value.string ⟨l.toArray⟩]) = (zs.take l0).map Value.string := by
      rw [List.flatMap_map]
      have hq : (fun a : ByteArray => [Value.string ⟨a.data.toList.toArray⟩]) = fun a => [Value.string a] := by funext a; simp
      show List.flatMap (fun a : ByteArray => [Value.string ⟨a.data.toList.toArray⟩]) _ = _
      rw [hq]
      exact List.map_eq_flatMap.symm
    refine ⟨⟨(zs.take l0).map Value.string, e, a, l0, c0, 1⟩, (zs.take l0).map (·.data.toList), ⟨⟨i, hi, hz⟩, ?_, h3, by simpa [maxLen] using h4, hspot, ?_, ?_⟩, fm.symm, by simp; omega, rfl, rfl, rfl, ?_⟩
    · rw [closedL_iff]
      intro v hv
      simp only [List.mem_map] at hv
      obtain ⟨x, _, rfl⟩ := hv
      rfl
    · intro hne
      have hz0 : 0 < zs.length := by
        cases zs with
        | nil => simp at hne
        | cons _ _ => simp
      have := World.block_lt_of_cell? w ⟨a.block, a.off + 0, none⟩ (hcell 0 hz0)
      exact this
    · intro j v hv
      simp only [List.getElem?_map, Option.map_eq_some_iff] at hv
      obtain ⟨x, hx, rfl⟩ := hv
      rw [List.getElem?_take] at hx
      split at hx
      · have hj := (List.getElem?_eq_some_iff.1 hx).1
        simp only
        rw [hcell j hj]
        simp [List.getD_eq_getElem?_getD, hx]
      · cases hx
    · intro l hl
      simp only [List.mem_map] at hl
      obtain ⟨x, hx, rfl⟩ := hl
      have := h8 x (List.mem_of_mem_take hx)
      simpa [maxLen] using this
/-- a slice of integers -/
theorem ints_row {r : Reach} {b0 : Nat} {t e : TypeId} {k : IntKind} {v : Value} {d : DataW H} {ps : List MemPlace} (ht : P.underlying t = some (.slice e)) (he : P.underlying e = some (.int k)) (hz : sizeOfT P e = some 1)
    (hval : Value.okWide P w r b0 t v) (hd : DataW.Trod enc P w 0 (fun _ => true) true t v d ps) :
    RowArg P w (fun n : Int => [Value.int k n]) (fun n => (Lit.int k n).wf = true) e 1 v := by
  obtain ⟨i, hi, hz⟩ := Option.map_eq_some_iff.1 hz
  rcases ints_arg ht he hi hz hval hd with h | ⟨s, zs, h1, h2, h3, h4, h5, h6, h7⟩
  · exact Or.inl h
  · exact Or.inr ⟨s, zs, h1, by rw [h2]; exact List.map_eq_flatMap, h3, h4, h5, h6, h7⟩
end
end
end Go.Sh

/- Structs of scalars compared; more of what a walk asks. -/
namespace Go.Sh
open Go.RowKit
set_option linter.unusedVariables false
set_option linter.unusedSimpArgs false
section
variable {P : Program} {H : CallH} {m : Mem} {ρ : Operand → Value} {o : Oper} {d : Option Tmp} {ty : TypeId} {pos : String} {af : Array Edge} {g : Option (Nat × Bool)}

def scalarEq (P : Program) (t : TypeId) (a b : Value) : Option Bool := match P.underlying t, a, b with
  | some .bool, .bool x, .bool y => some (x == y)
  | some (.int _), .int k x, .int j y => if k = j then some (x == y) else none
  | some .string, .string x, .string y => some (x == y)
  | _, _, _ => none

def flatEq (P : Program) : List (TypeId × Nat) → Array Value → Array Value → Option Bool
  | [], _, _ => some true
  | (t, off) :: r, xs, ys => match xs[off]?, ys[off]? with
    | some a, some b => match scalarEq P t a b with
      | some true => flatEq P r xs ys
      | some false => some false
      | none => none
    | _, _ => none

theorem prun_under {t : TypeId} {u : TypeDesc} (h : P.underlying t = some u) : prun P (underlying t) = some u := by
  unfold underlying
  rw [prunB]
  show (some P).bind _ = _
  simp [h]
  rfl

theorem prun_scalar {t : TypeId} {a b : Value} {r : Bool} (dd : Nat) (h : scalarEq P t a b = some r) : prun P (Op.equalIn (dd + 1) t a b) = some r := by
  unfold scalarEq at h
  unfold Op.equalIn
  rw [prunB]
  split at h
  · rename_i hu
    rw [prun_under hu]
    simp only [Option.some.injEq] at h
    subst h; rfl
  · rename_i hu
    rw [prun_under hu]
    split at h
    · rename_i e
      simp only [Option.some.injEq] at h
      subst h; subst e
      simp only [Option.bind_some, if_true]; rfl
    · cases h
  · rename_i hu
    rw [prun_under hu]
    simp only [Option.some.injEq] at h
    subst h; rfl
  · cases h

/-- a struct's fields, all scalars -/
def aggOk (P : Program) (t : TypeId) (fs : List (TypeId × Nat)) : Bool := match P.underlying t with
  | some (.struct fields) => (fields.toList.map (fun f => (f.type, f.offset)) == fs) && fields.toList.all (fun f => f.name != "_" && ldOk P f.type) && !P.stoodInHeld t && !P.eqGuardType P.depth t
  | _ => false

theorem prun_part {t : TypeId} (h : ldOk P t = true) {cs : Array Value} {off : Nat} {v : Value} (hv : cs[off]? = some v) : prun P (part t cs off) = some v := by
  unfold ldOk at h
  rw [Bool.and_eq_true, Bool.not_eq_true'] at h
  obtain ⟨u, hu⟩ := Option.isSome_iff_exists.1 h.1
  have hag : prun P (isAgg t) = some false := by
    have h2 := h.2
    unfold isAggT at h2
    rw [hu] at h2
    unfold isAgg
    rw [prunB, prun_under hu]
    simp only [Option.bind_some]
    cases u <;> simp_all <;> rfl
  unfold part
  rw [prunB, hag]
  simp only [Option.bind_some, Bool.false_eq_true, if_false, hv]
  rfl

theorem prun_eqAgg {t : TypeId} {fs : List (TypeId × Nat)} (h : aggOk P t fs = true) {xs ys : Array Value} {b : Bool} (he : flatEq P fs xs ys = some b) (dd : Nat) : prun P (Op.equalIn (dd + 2) t (.agg xs) (.agg ys)) = some b := by
  unfold aggOk at h
  split at h
  · rename_i fields hu
    simp only [Bool.and_eq_true, beq_iff_eq, Bool.not_eq_true'] at h
    obtain ⟨⟨⟨h1, h2⟩, h3⟩, h4⟩ := h
    unfold Op.equalIn
    rw [prunB, prun_under hu]
    simp only [Option.bind_some]
    rw [prunB]
    show (some P).bind _ = _
    simp only [Option.bind_some, h3, Bool.false_eq_true, if_false]
    rw [prunB, ← Array.forIn_toList]
    generalize fields.toList = l at h1 h2
    subst h1
    have key : ∀ (l : List Field), l.all (fun f => f.name != "_" && ldOk P f.type) = true → ∀ b, flatEq P (l.map fun f => (f.type, f.offset)) xs ys = some b →
        prun P (forIn l ((none, ()) : Option Bool × Unit) fun f __s => if f.name ≠ "_" then do
              let a ← part f.type xs f.offset
              let c ← part f.type ys f.offset
              let e ← Op.equalIn (dd + 1) f.type a c
              if (!e) = true then pure (ForInStep.done (some false, ())) else pure (ForInStep.yield (none, ()))
            else pure (ForInStep.yield (none, ()))) = some (if b then (none, ()) else (some false, ())) := by
      intro l
      induction l with
      | nil =>
        intro _ b hb
        simp only [List.map_nil, flatEq, Option.some.injEq] at hb
        subst hb
        rfl
      | cons f r ih =>
        intro hall b hb
        simp only [List.all_cons, Bool.and_eq_true, bne_iff_ne, ne_eq] at hall
        simp only [List.map_cons, flatEq] at hb
        split at hb
        · rename_i u v hu hv
          rw [List.forIn_cons, prunB]
          rw [if_pos hall.1.1, prunB, prun_part hall.1.2 hu]
          simp only [Option.bind_some]
          rw [prunB, prun_part hall.1.2 hv]
          simp only [Option.bind_some]
          split at hb
          · rename_i hs
            rw [prunB, prun_scalar dd hs]
            exact ih (by simpa using hall.2) b hb
          · rename_i hs
            rw [prunB, prun_scalar dd hs]
            simp only [Option.some.injEq] at hb
            subst hb
            rfl
          · cases hb
        · cases hb
    rw [key l h2 b he]
    cases b <;> rfl
  · cases h

/-- structs of scalars compared -/
theorem bin_agg {t : TypeId} {fs : List (TypeId × Nat)} (h : aggOk P t fs = true) (op : BinOp) (hop : op = .eql ∨ op = .neq) (x y : Operand) {yt : TypeId} : s_binOp0 P ρ ⟨d, .binOp op t x y yt, ty, pos, af, g⟩ op t x y m = match ρ x, ρ y with
    | .agg xs, .agg ys => (match (if closedA xs = true ∧ closedA ys = true then flatEq P fs xs ys else none) with
      | some b => (boolEq op b).map (·, m)
      | none => binF P ρ ⟨d, .binOp op t x y yt, ty, pos, af, g⟩ op t x y m)
    | _, _ => binF P ρ ⟨d, .binOp op t x y yt, ty, pos, af, g⟩ op t x y m := by
  cases hx : ρ x with
  | agg xs =>
    cases hy : ρ y with
    | agg ys =>
      simp only
      split
      · rename_i b hb
        split at hb
        · rename_i hcl
          have hg : P.eqGuardType P.depth t = false := by
            unfold aggOk at h
            split at h
            · simp only [Bool.and_eq_true, Bool.not_eq_true'] at h; exact h.2
            · cases h
          have he : prun P (Op.equal t (.agg xs) (.agg ys)) = some b := prun_eqAgg h hb 9998
          have hgd : prun P (eqGuard op t x y (.agg xs) (.agg ys)) = some () := by
            unfold eqGuard
            rcases hop with rfl | rfl
            · show prun P (do if !(← program).eqGuardType (← program).depth t then return else (do if ← Op.eqGuardIn Op.maxDepth t (.agg xs) (.agg ys) then unsupported (.noEntry "binop/eql: two nil values of an interface type with methods, in a part of a struct or an array"))) = _
              rw [prunB]
              show (some P).bind _ = _
              simp only [Option.bind_some]
              rw [prunB]
              show (some P).bind _ = _
              simp only [Option.bind_some, hg, Bool.not_false, if_true]
              rfl
            · show prun P (do if !(← program).eqGuardType (← program).depth t then return else (do if ← Op.eqGuardIn Op.maxDepth t (.agg xs) (.agg ys) then unsupported (.noEntry "binop/eql: two nil values of an interface type with methods, in a part of a struct or an array"))) = _
              rw [prunB]
              show (some P).bind _ = _
              simp only [Option.bind_some]
              rw [prunB]
              show (some P).bind _ = _
              simp only [Option.bind_some, hg, Bool.not_false, if_true]
              rfl
          have hc : closedOp P ρ ⟨d, .binOp op t x y yt, ty, pos, af, g⟩ = boolEq op b := by
            refine closed_of (by simp [Op.operands, hx, hy, closedV, hcl.1, hcl.2]) ?_ (by intro u hu; rcases hop with rfl | rfl <;> simp [boolEq] at hu <;> subst hu <;> rfl)
            have e : execOp ρ ⟨d, .binOp op t x y yt, ty, pos, af, g⟩ = (Next.value <$> (do eqGuard op t x y (ρ x) (ρ y); binOp op t (ρ x) (ρ y))) := by
              rcases hop with rfl | rfl <;> rfl
            rw [e, prunM, hx, hy, prunB, hgd]
            simp only [Option.bind_some]
            rcases hop with rfl | rfl
            · have : prun P (binOp .eql t (.agg xs) (.agg ys)) = some (.bool b) := by
                show prun P (Op.equal t (.agg xs) (.agg ys) >>= fun r => pure (Value.bool r)) = _
                rw [prunB, he]; rfl
              rw [this]; rfl
            · have : prun P (binOp .neq t (.agg xs) (.agg ys)) = some (.bool !b) := by
                show prun P (Op.equal t (.agg xs) (.agg ys) >>= fun r => pure (Value.bool !r)) = _
                rw [prunB, he]; rfl
              rw [this]; rfl
          have hund : ∃ fields, P.underlying t = some (.struct fields) := by
            unfold aggOk at h
            split at h
            · rename_i fields hu; exact ⟨fields, hu⟩
            · cases h
          obtain ⟨fields, hu⟩ := hund
          simp only [s_binOp0, hu, hx, hy, hc]
        · cases hb
      · rfl
    | _ => rfl
  | _ => rfl
theorem flatEq_n (xs ys : Array Value) : flatEq P [] xs ys = some true := rfl
theorem flatEq_c (t off : Nat) (r : List (TypeId × Nat)) (xs ys : Array Value) : flatEq P ((t, off) :: r) xs ys = match xs[off]?, ys[off]? with
  | some a, some b => (match scalarEq P t a b with
    | some true => flatEq P r xs ys
    | some false => some false
    | none => none)
  | _, _ => none := rfl
theorem scal_int {t : TypeId} {k : IntKind} (h : P.underlying t = some (.int k)) (i j : IntKind) (x y : Int) : scalarEq P t (.int i x) (.int j y) = if i = j then some (x == y) else none := by simp [scalarEq, h]
theorem scal_str {t : TypeId} (h : P.underlying t = some .string) (x y : ByteArray) : scalarEq P t (.string x) (.string y) = some (x == y) := by simp [scalarEq, h]
theorem scal_bool {t : TypeId} (h : P.underlying t = some .bool) (x y : Bool) : scalarEq P t (.bool x) (.bool y) = some (x == y) := by simp [scalarEq, h]
theorem ba_beq (a b : List UInt8) : ((⟨a.toArray⟩ : ByteArray) == ⟨b.toArray⟩) = decide (a = b) := by
  have e : ((⟨a.toArray⟩ : ByteArray) == ⟨b.toArray⟩) = (a.toArray == b.toArray) := rfl
  rw [e, Bool.eq_iff_iff]
  simp
theorem closedA_l (l : List Value) : closedA l.toArray = closedL l := rfl
theorem closedL_n : closedL [] = true := rfl
theorem closedL_c (v : Value) (r : List Value) : closedL (v :: r) = (closedV v && closedL r) := rfl
theorem closedV_int (k : IntKind) (n : Int) : closedV (.int k n) = true := rfl
theorem closedV_str (s : ByteArray) : closedV (.string s) = true := rfl
theorem closedV_bool (b : Bool) : closedV (.bool b) = true := rfl
end
end Go.Sh

namespace Go.Sh
section
variable {m : Mem} {l fam : Nat} {cells : List Value} {e : TypeId}
theorem loadRow_blk {m m' : Mem} (l off k : Nat) (h : m'.readable l = m.readable l) : loadRow m' ⟨l, off, none⟩ k = loadRow m ⟨l, off, none⟩ k := by
  simp only [loadRow, h]
/-- a load where a new block has come -/
theorem Own.ln (h : Own m l cells e fam) (cs : List Value) (e' : TypeId) (off k : Nat) : loadRow (m.new cs e') ⟨l, off, none⟩ k = loadRow m ⟨l, off, none⟩ k :=
  loadRow_blk _ _ _ (by rw [(h.keep (keeps_new m cs e' []) (by simp)).readable, h.readable])
theorem Rdo.ln (h : Rdo m l cells e fam) (cs : List Value) (e' : TypeId) (off k : Nat) : loadRow (m.new cs e') ⟨l, off, none⟩ k = loadRow m ⟨l, off, none⟩ k :=
  loadRow_blk _ _ _ (by rw [(h.keep (keeps_new m cs e' []) (by simp)).readable, h.readable])
end
end Go.Sh

namespace Go.Sh
theorem eqV_agg (a b : List Value) : eqV (.agg a.toArray) (.agg b.toArray) = eqL a b := by simp only [eqV, eqA]
theorem eqL_n : eqL [] [] = true := by simp only [eqL]
theorem eqL_c (a b : Value) (r s : List Value) : eqL (a :: r) (b :: s) = (eqV a b && eqL r s) := by simp only [eqL]
theorem eqV_str (s : ByteArray) : eqV (.string s) (.string s) = true := by simp [eqV]
theorem eqV_bool (b : Bool) : eqV (.bool b) (.bool b) = true := by simp [eqV]
end Go.Sh

namespace Go.Sh
/-- a family that is new need not be named -/
theorem Keeps.drop {m m1 : Mem} {a b : Nat} {fs : List Nat} (h : Keeps m m1 [a, b]) (ha : a ∈ fs) (hb : m.next ≤ b) : Keeps m m1 fs := by
  refine ⟨h.1, fun l bl hl hg hq hf => h.2.1 l bl hl hg hq ?_, fun f hl hf => h.2.2.1 f hl ?_, fun f hl hf => h.2.2.2 f hl ?_⟩
  · simp only [List.mem_cons, List.not_mem_nil, or_false, not_or]
    exact ⟨fun e => hf (by rw [e]; exact ha), by omega⟩
  · simp only [List.mem_cons, List.not_mem_nil, or_false, not_or]
    exact ⟨fun e => hf (by rw [e]; exact ha), by omega⟩
  · simp only [List.mem_cons, List.not_mem_nil, or_false, not_or]
    exact ⟨fun e => hf (by rw [e]; exact ha), by omega⟩
end Go.Sh

namespace Go.Sh
theorem Sl.keep2 {m m' : Mem} {ao : Option Addr} {n : Nat} {cells : List Value} {e z fam : Nat} {fs : List Nat} (h : Sl m ao n cells e z fam) (k : Keeps m m' fs) (hf : fam < m.next → fam ∉ fs) : Sl m' ao n cells e z fam := by
  refine ⟨h.1, ?_⟩
  rcases h.2 with h | ⟨b, h1, h2⟩
  · exact Or.inl h
  · exact Or.inr ⟨b, h1, h2.keep k (hf h2.flt)⟩
end Go.Sh

namespace Go.Sh
theorem eqV_undef : eqV undef undef = true := by simp [undef, eqV, eqA, eqL]
end Go.Sh
