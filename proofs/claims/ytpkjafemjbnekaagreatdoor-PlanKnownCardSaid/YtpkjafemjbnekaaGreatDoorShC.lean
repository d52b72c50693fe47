/-
  This text proves how the operations of the abstract run are looked at by rewriting.
  No condition but what the theorems themselves say.
-/
import Derived.Test.YtpkjafemjbnekaaGreatDoorShB
import Derived.ChangeSlices
import Derived.Carry

/- The abstract run without fuel: what it answers with some fuel. -/
namespace Go.Sh
open Go.RowKit
set_option linter.unusedVariables false
set_option linter.unusedSimpArgs false

variable {P : Program}

/-- more is answered -/
def HLe (H K : CallH) : Prop := ∀ f args m r, H f args m = some r → K f args m = some r

theorem HLe.refl (H : CallH) : HLe H H := fun _ _ _ _ h => h

/-- An operation asks the calls once, or never. -/
theorem sop_calls (ρ : Operand → Value) (o : Oper) (m : Mem) : (∀ H K, sop P H ρ o m = sop P K ρ o m) ∨ ∃ f args, ∀ H, sop P H ρ o m = H f args m := by
  obtain ⟨dst, op, type, pos, after, guard⟩ := o
  cases op with
  | call c =>
    obtain ⟨callee, args, argTypes⟩ := c
    cases callee with
    | value f =>
      simp only [sop, sopCall, c_value]
      cases ρ f with
      | func g a b =>
        cases g with
        | func fid => exact Or.inr ⟨_, _, fun H => rfl⟩
        | _ => exact Or.inl fun _ _ => rfl
      | _ => exact Or.inl fun _ _ => rfl
    | invoke r n =>
      simp only [sop, sopCall, c_invoke]
      cases ρ r with
      | iface t v =>
        simp only
        cases smethod P m t v n with
        | some p => exact Or.inr ⟨_, _, fun H => rfl⟩
        | none => exact Or.inl fun _ _ => rfl
      | _ => exact Or.inl fun _ _ => rfl
    | builtin b => exact Or.inl fun _ _ => by cases b <;> rfl
  | slice t x lo hi mx => cases mx <;> exact Or.inl fun _ _ => rfl
  | makeFunc f a b => cases f <;> exact Or.inl fun _ _ => rfl
  | _ => exact Or.inl fun _ _ => rfl

theorem sop_mono {H K : CallH} (h : HLe H K) {ρ : Operand → Value} {o : Oper} {m : Mem} {r : Value × Mem} (he : sop P H ρ o m = some r) : sop P K ρ o m = some r := by
  rcases sop_calls (P := P) ρ o m with g | ⟨f, args, g⟩
  · rw [g K H]; exact he
  · rw [g] at he ⊢; exact h _ _ _ _ he

theorem sop1_mono {H K : CallH} (h : HLe H K) {all : List Oper} {t : Tree Value} {o : Oper} {m : Mem} {r : Value × Mem} (he : sop1 P H all o t m = some r) : sop1 P K all o t m = some r := by
  unfold sop1 at he ⊢
  split
  · rename_i hw; rw [if_pos hw] at he; exact sop_mono h he
  · rename_i hw; rw [if_neg hw] at he; exact he

theorem sops_mono {H K : CallH} (h : HLe H K) {all : List Oper} : ∀ (rest : List Oper) (t : Tree Value) (m : Mem) r, sops P H all rest t m = some r → sops P K all rest t m = some r
  | [], t, m, r, he => he
  | o :: rest, t, m, r, he => by
    simp only [sops] at he ⊢
    split at he
    · rename_i v m' h1
      rw [sop1_mono h h1]
      exact sops_mono h rest _ _ _ he
    · cases he

theorem states_mono {H K : CallH} (h : HLe H K) {all : List Oper} : ∀ (rest : List Oper) (t : Tree Value) (m : Mem) r, states P H all rest t m = some r → states P K all rest t m = some r
  | [], t, m, r, he => he
  | o :: rest, t, m, r, he => by
    simp only [states] at he ⊢
    split at he
    · rename_i v m' h1
      rw [sop1_mono h h1]
      simp only
      split at he
      · rename_i l hl
        rw [states_mono h rest _ _ _ hl]
        exact he
      · cases he
    · cases he

theorem readsSame_mono {H K : CallH} (h : HLe H K) {all : List Oper} {o : Oper} {t : Tree Value} {v : Value} {m : Mem} (he : readsSame P H all o t v m = true) : readsSame P K all o t v m = true := by
  unfold readsSame at he ⊢
  split at he
  · rename_i v' m' h1
    rw [sop1_mono h h1]
    exact he
  · cases he

theorem checkReads_mono {H K : CallH} (h : HLe H K) {all : List Oper} {S : List (Tree Value × Mem)} (he : checkReads P H all S = true) : checkReads P K all S = true := by
  unfold checkReads at he ⊢
  rw [List.all_eq_true] at he ⊢
  intro p hp
  have := he p hp
  obtain ⟨j, is⟩ := p
  simp only at this ⊢
  split at this
  · rename_i o t m ho hS
    split at this
    · rename_i v m' h1
      rw [sop1_mono h h1]
      simp only
      rw [List.all_eq_true] at this ⊢
      intro i hi
      have := this i hi
      split at this
      · exact readsSame_mono h this
      · cases this
    · cases this
  · cases this

theorem sdrawn_mono {H K : CallH} (h : HLe H K) {cs : List Oper} {t : Tree Value} {m : Mem} {r : Tree Value × Mem} (he : sdrawn P H cs t m = some r) : sdrawn P K cs t m = some r := by
  unfold sdrawn at he ⊢
  split at he
  · rename_i S hS
    rw [states_mono h _ _ _ _ hS]
    simp only
    split at he
    · rename_i hc
      rw [if_pos (checkReads_mono h hc)]
      exact he
    · cases he
  · cases he

theorem spair_mono {H K : CallH} (h : HLe H K) {r0 : List Oper} {x y : Oper} {t : Tree Value} {m : Mem} {r : Tree Value × Mem} (he : spair P H r0 x y t m = some r) : spair P K r0 x y t m = some r := by
  unfold spair at he ⊢
  split at he
  · rename_i S hS
    rw [states_mono h _ _ _ _ hS]
    simp only
    split at he
    · rename_i S2 hS2
      rw [states_mono h _ _ _ _ hS2]
      simp only
      split at he
      · rename_i hc
        simp only [Bool.and_eq_true] at hc
        rw [hc.1.1, checkReads_mono h hc.1.2, checkReads_mono h hc.2]
        exact he
      · cases he
    · cases he
  · cases he

theorem sregion_mono {H K : CallH} (h : HLe H K) {ops : List Oper} {draw : Bool} {t : Tree Value} {m : Mem} {r : Tree Value × Mem} (he : sregion P H ops draw t m = some r) : sregion P K ops draw t m = some r := by
  unfold sregion at he ⊢
  cases draw with
  | true =>
    simp only [if_true] at he ⊢
    split at he
    · rename_i hq
      rw [if_pos hq]
      exact sops_mono h _ _ _ _ he
    · rename_i hq
      rw [if_neg hq]
      split at he
      · exact spair_mono h he
      · exact sdrawn_mono h he
  | false =>
    simp only [Bool.false_eq_true, if_false] at he ⊢
    exact sops_mono h _ _ _ _ he

def ExLe (x y : Ex) : Prop := ∀ c t m r, x c t m = some r → y c t m = some r

theorem callF_mono {T : FuncId → Option Func} {x y : Ex} (h : ExLe x y) : HLe (callF P T x) (callF P T y) := by
  intro f args m r he
  unfold callF at he ⊢
  split at he
  · cases he
  · rename_i fn hf
    split at he
    · exact he
    · rename_i c hb
      split at he
      · rename_i hl
        rw [if_pos hl]
        split at he
        · rename_i t m' hx
          rw [h _ _ _ _ hx]
          exact he
        · rename_i t m' hx
          rw [h _ _ _ _ hx]
          exact he
        · cases he
      · cases he

theorem withSums_mono {S : Sums} {H K : CallH} (h : HLe H K) : HLe (withSums S H) (withSums S K) := by
  intro f args m r he
  unfold withSums at he ⊢
  split at he
  · exact he
  · exact h _ _ _ _ he

theorem step_mono {H K : CallH} {x y : Ex} (hH : HLe H K) (hx : ExLe x y) : ExLe (step P H x) (step P K y) := by
  intro c t m r he
  cases c with
  | seq a b =>
    simp only [step] at he ⊢
    split at he
    · rename_i t' m' h1
      rw [hx _ _ _ _ h1]
      exact hx _ _ _ _ he
    · rename_i hne
      have := hx _ _ _ _ he
      rw [this]
      obtain ⟨e, t', m'⟩ := r
      cases e with
      | normal => exact absurd he (hne t' m')
      | _ => rfl
  | cond c a b =>
    simp only [step] at he ⊢
    split at he
    · exact hx _ _ _ _ he
    · exact hx _ _ _ _ he
    · cases he
  | block id b =>
    simp only [step] at he ⊢
    split at he
    · rename_i i t' m' h1
      rw [hx _ _ _ _ h1]
      exact he
    · rename_i hne
      have := hx _ _ _ _ he
      rw [this]
      obtain ⟨e, t', m'⟩ := r
      cases e with
      | exit i => exact absurd he (hne i t' m')
      | _ => rfl
  | loop b =>
    simp only [step] at he ⊢
    split at he
    · rename_i t' m' h1
      rw [hx _ _ _ _ h1]
      exact hx _ _ _ _ he
    · rename_i hne
      have := hx _ _ _ _ he
      rw [this]
      obtain ⟨e, t', m'⟩ := r
      cases e with
      | normal => exact absurd he (hne t' m')
      | _ => rfl
  | region id ops draw =>
    simp only [step] at he ⊢
    split at he
    · rename_i t' m' h1
      rw [sregion_mono hH h1]
      exact he
    · cases he
  | _ => exact he

variable {T : FuncId → Option Func} {S : Sums}

theorem exec_succ_le : ∀ n, ExLe (exec P T S n) (exec P T S (n + 1))
  | 0 => fun c t m r h => by simp [exec] at h
  | n + 1 => step_mono (withSums_mono (callF_mono (exec_succ_le n))) (exec_succ_le n)

theorem exec_le {n k : Nat} (h : n ≤ k) : ExLe (exec P T S n) (exec P T S k) := by
  induction h with
  | refl => exact fun _ _ _ _ h => h
  | step _ ih => exact fun c t m r h => exec_succ_le _ c t m r (ih c t m r h)

theorem call_le {n k : Nat} (h : n ≤ k) : HLe (call P T S n) (call P T S k) := withSums_mono (callF_mono (exec_le h))

/-- the run of code, with whatever fuel it wants -/
noncomputable def execw (P : Program) (T : FuncId → Option Func) (S : Sums) : Ex := fun c t m =>
  open Classical in if h : ∃ n r, exec P T S n c t m = some r then some h.choose_spec.choose else none

noncomputable def callw (P : Program) (T : FuncId → Option Func) (S : Sums) : CallH := withSums S (callF P T (execw P T S))

theorem execw_iff {c : Code} {t : Tree Value} {m : Mem} {r : SExit × Tree Value × Mem} : execw P T S c t m = some r ↔ ∃ n, exec P T S n c t m = some r := by
  unfold execw
  constructor
  · intro h
    split at h
    · rename_i hx
      simp only [Option.some.injEq] at h
      rw [← h]
      exact ⟨_, hx.choose_spec.choose_spec⟩
    · cases h
  · rintro ⟨n, hn⟩
    have hx : ∃ n r, exec P T S n c t m = some r := ⟨n, r, hn⟩
    rw [dif_pos hx]
    have h1 := hx.choose_spec.choose_spec
    have h2 := exec_le (Nat.le_max_left n hx.choose) _ _ _ _ hn
    have h3 := exec_le (Nat.le_max_right n hx.choose) _ _ _ _ h1
    rw [h2] at h3
    exact h3.symm

theorem exec_le_execw (n : Nat) : ExLe (exec P T S n) (execw P T S) := fun c t m r h => execw_iff.2 ⟨n, h⟩
theorem call_le_callw (n : Nat) : HLe (call P T S n) (callw P T S) := withSums_mono (callF_mono (exec_le_execw n))

theorem callF_iff {f : FuncId} {args : List Value} {m : Mem} {r : Value × Mem} (he : callF P T (execw P T S) f args m = some r) : ∃ n, callF P T (exec P T S n) f args m = some r := by
  unfold callF at he ⊢
  split at he
  · cases he
  · rename_i fn hf
    split at he
    · exact ⟨0, he⟩
    · rename_i c hb
      split at he
      · rename_i hl
        simp only [if_pos hl]
        split at he
        · rename_i t m' hx
          obtain ⟨n, hn⟩ := execw_iff.1 hx
          refine ⟨n, ?_⟩
          rw [hn]; exact he
        · rename_i t m' hx
          obtain ⟨n, hn⟩ := execw_iff.1 hx
          refine ⟨n, ?_⟩
          rw [hn]; exact he
        · cases he
      · cases he

theorem callw_iff {f : FuncId} {args : List Value} {m : Mem} {r : Value × Mem} : callw P T S f args m = some r ↔ ∃ n, call P T S n f args m = some r := by
  constructor
  · intro he
    unfold callw withSums at he
    unfold call withSums
    split at he
    · rename_i p hp
      exact ⟨0, he⟩
    · rename_i hp
      obtain ⟨n, hn⟩ := callF_iff he
      exact ⟨n, hn⟩
  · rintro ⟨n, hn⟩
    exact call_le_callw n _ _ _ _ hn

theorem sop_lim {ρ : Operand → Value} {o : Oper} {m : Mem} {r : Value × Mem} (he : sop P (callw P T S) ρ o m = some r) : ∃ n, sop P (call P T S n) ρ o m = some r := by
  rcases sop_calls (P := P) ρ o m with g | ⟨f, args, g⟩
  · exact ⟨0, by rw [g _ (callw P T S)]; exact he⟩
  · rw [g] at he
    obtain ⟨n, hn⟩ := callw_iff.1 he
    exact ⟨n, by rw [g]; exact hn⟩

theorem sop1_lim {all : List Oper} {t : Tree Value} {o : Oper} {m : Mem} {r : Value × Mem} (he : sop1 P (callw P T S) all o t m = some r) : ∃ n, sop1 P (call P T S n) all o t m = some r := by
  unfold sop1 at he ⊢
  split at he
  · rename_i hw
    obtain ⟨n, hn⟩ := sop_lim he
    exact ⟨n, by rw [if_pos hw]; exact hn⟩
  · rename_i hw
    exact ⟨0, by rw [if_neg hw]; exact he⟩

theorem sops_lim {all : List Oper} : ∀ (rest : List Oper) (t : Tree Value) (m : Mem) r, sops P (callw P T S) all rest t m = some r → ∃ n, sops P (call P T S n) all rest t m = some r
  | [], t, m, r, he => ⟨0, he⟩
  | o :: rest, t, m, r, he => by
    simp only [sops] at he ⊢
    split at he
    · rename_i v m' h1
      obtain ⟨n1, g1⟩ := sop1_lim h1
      obtain ⟨n2, g2⟩ := sops_lim rest _ _ _ he
      refine ⟨max n1 n2, ?_⟩
      rw [sop1_mono (call_le (Nat.le_max_left n1 n2)) g1]
      exact sops_mono (call_le (Nat.le_max_right n1 n2)) _ _ _ _ g2
    · cases he

theorem states_lim {all : List Oper} : ∀ (rest : List Oper) (t : Tree Value) (m : Mem) r, states P (callw P T S) all rest t m = some r → ∃ n, states P (call P T S n) all rest t m = some r
  | [], t, m, r, he => ⟨0, he⟩
  | o :: rest, t, m, r, he => by
    simp only [states] at he ⊢
    split at he
    · rename_i v m' h1
      split at he
      · rename_i l hl
        obtain ⟨n1, g1⟩ := sop1_lim h1
        obtain ⟨n2, g2⟩ := states_lim rest _ _ _ hl
        refine ⟨max n1 n2, ?_⟩
        rw [sop1_mono (call_le (Nat.le_max_left n1 n2)) g1]
        simp only
        rw [states_mono (call_le (Nat.le_max_right n1 n2)) _ _ _ _ g2]
        exact he
      · cases he
    · cases he

theorem all_lim {α : Type} (p : Nat → α → Bool) (hp : ∀ n k x, n ≤ k → p n x = true → p k x = true) (q : α → Bool) (hq : ∀ x, q x = true → ∃ n, p n x = true) : ∀ l : List α, l.all q = true → ∃ n, l.all (p n) = true
  | [], _ => ⟨0, rfl⟩
  | x :: r, h => by
    simp only [List.all_cons, Bool.and_eq_true] at h
    obtain ⟨n1, g1⟩ := hq x h.1
    obtain ⟨n2, g2⟩ := all_lim p hp q hq r h.2
    refine ⟨max n1 n2, ?_⟩
    simp only [List.all_cons, Bool.and_eq_true]
    refine ⟨hp _ _ _ (Nat.le_max_left n1 n2) g1, ?_⟩
    rw [List.all_eq_true] at g2 ⊢
    exact fun y hy => hp _ _ _ (Nat.le_max_right n1 n2) (g2 y hy)

theorem readsSame_lim {all : List Oper} {o : Oper} {t : Tree Value} {v : Value} {m : Mem} (he : readsSame P (callw P T S) all o t v m = true) : ∃ n, readsSame P (call P T S n) all o t v m = true := by
  unfold readsSame at he ⊢
  split at he
  · rename_i v' m' h1
    obtain ⟨n, hn⟩ := sop1_lim h1
    exact ⟨n, by rw [hn]; exact he⟩
  · cases he

theorem checkReads_lim {all : List Oper} {St : List (Tree Value × Mem)} (he : checkReads P (callw P T S) all St = true) : ∃ n, checkReads P (call P T S n) all St = true := by
  unfold checkReads at he ⊢
  refine all_lim _ (fun n k p hnk h => ?_) _ (fun p h => ?_) _ he
  · have : checkReads P (call P T S n) all St = true → checkReads P (call P T S k) all St = true := checkReads_mono (call_le hnk)
    obtain ⟨j, is⟩ := p
    simp only at h ⊢
    split at h
    · rename_i o t m ho hS
      split at h
      · rename_i v m' h1
        rw [sop1_mono (call_le hnk) h1]
        simp only
        rw [List.all_eq_true] at h ⊢
        intro i hi
        have := h i hi
        split at this
        · exact readsSame_mono (call_le hnk) this
        · cases this
      · cases h
    · cases h
  · obtain ⟨j, is⟩ := p
    simp only at h ⊢
    split at h
    · rename_i o t m ho hS
      split at h
      · rename_i v m' h1
        obtain ⟨n1, g1⟩ := sop1_lim h1
        obtain ⟨n2, g2⟩ := all_lim (fun n i => match St[i]? with
            | some (_, m') => readsSame P (call P T S n) all o t v m'
            | none => false) (fun n k i hnk h => by
              cases hSi : St[i]? with
              | none => rw [hSi] at h; cases h
              | some q => rw [hSi] at h; exact readsSame_mono (call_le hnk) h) _ (fun i h => by
              cases hSi : St[i]? with
              | none => rw [hSi] at h; cases h
              | some q => rw [hSi] at h; exact readsSame_lim h) is h
        refine ⟨max n1 n2, ?_⟩
        rw [sop1_mono (call_le (Nat.le_max_left n1 n2)) g1]
        simp only
        rw [List.all_eq_true] at g2 ⊢
        intro i hi
        have := g2 i hi
        cases hSi : St[i]? with
        | none => rw [hSi] at this; cases this
        | some q => rw [hSi] at this; exact readsSame_mono (call_le (Nat.le_max_right n1 n2)) this
      · cases h
    · cases h

theorem sregion_lim {ops : List Oper} {draw : Bool} {t : Tree Value} {m : Mem} {r : Tree Value × Mem} (he : sregion P (callw P T S) ops draw t m = some r) : ∃ n, sregion P (call P T S n) ops draw t m = some r := by
  unfold sregion at he ⊢
  cases draw with
  | true =>
    simp only [if_true] at he ⊢
    split at he
    · rename_i hq
      obtain ⟨n, hn⟩ := sops_lim _ _ _ _ he
      exact ⟨n, by rw [if_pos hq]; exact hn⟩
    · rename_i hq
      simp only [if_neg hq]
      split at he
      · unfold spair at he ⊢
        split at he
        · rename_i St hS
          split at he
          · rename_i St2 hS2
            split at he
            · rename_i hc
              simp only [Bool.and_eq_true] at hc
              obtain ⟨n1, g1⟩ := states_lim _ _ _ _ hS
              obtain ⟨n2, g2⟩ := states_lim _ _ _ _ hS2
              obtain ⟨n3, g3⟩ := checkReads_lim hc.1.2
              obtain ⟨n4, g4⟩ := checkReads_lim hc.2
              have h1 : n1 ≤ n1 + n2 + n3 + n4 := by omega
              have h2 : n2 ≤ n1 + n2 + n3 + n4 := by omega
              have h3 : n3 ≤ n1 + n2 + n3 + n4 := by omega
              have h4 : n4 ≤ n1 + n2 + n3 + n4 := by omega
              refine ⟨n1 + n2 + n3 + n4, ?_⟩
              rw [states_mono (call_le h1) _ _ _ _ g1]
              simp only
              rw [states_mono (call_le h2) _ _ _ _ g2]
              simp only
              rw [hc.1.1, checkReads_mono (call_le h3) g3, checkReads_mono (call_le h4) g4]
              exact he
            · cases he
          · cases he
        · cases he
      · unfold sdrawn at he ⊢
        split at he
        · rename_i St hS
          split at he
          · rename_i hc
            obtain ⟨n1, g1⟩ := states_lim _ _ _ _ hS
            obtain ⟨n2, g2⟩ := checkReads_lim hc
            refine ⟨max n1 n2, ?_⟩
            rw [states_mono (call_le (Nat.le_max_left n1 n2)) _ _ _ _ g1]
            simp only
            rw [if_pos (checkReads_mono (call_le (Nat.le_max_right n1 n2)) g2)]
            exact he
          · cases he
        · cases he
  | false =>
    simp only [Bool.false_eq_true, if_false] at he ⊢
    exact sops_lim _ _ _ _ he

/-- THE EQUATION of the run of code. -/
theorem execw_step (c : Code) (t : Tree Value) (m : Mem) : execw P T S c t m = step P (callw P T S) (execw P T S) c t m := by
  apply Option.ext
  intro r
  constructor
  · intro h
    obtain ⟨n, hn⟩ := execw_iff.1 h
    cases n with
    | zero => simp [exec] at hn
    | succ n => exact step_mono (call_le_callw n) (exec_le_execw n) _ _ _ _ hn
  · intro h
    have lim : ∃ n, step P (call P T S n) (exec P T S n) c t m = some r := by
      cases c with
      | seq a b =>
        simp only [step] at h ⊢
        split at h
        · rename_i t' m' h1
          obtain ⟨n1, g1⟩ := execw_iff.1 h1
          obtain ⟨n2, g2⟩ := execw_iff.1 h
          refine ⟨max n1 n2, ?_⟩
          rw [exec_le (Nat.le_max_left n1 n2) _ _ _ _ g1]
          exact exec_le (Nat.le_max_right n1 n2) _ _ _ _ g2
        · rename_i hne
          obtain ⟨n, hn⟩ := execw_iff.1 h
          refine ⟨n, ?_⟩
          rw [hn]
          obtain ⟨e, t', m'⟩ := r
          cases e with
          | normal => exact absurd h (hne t' m')
          | _ => rfl
      | cond c a b =>
        simp only [step] at h ⊢
        split at h
        · exact execw_iff.1 h
        · exact execw_iff.1 h
        · cases h
      | block id b =>
        simp only [step] at h ⊢
        split at h
        · rename_i i t' m' h1
          obtain ⟨n, hn⟩ := execw_iff.1 h1
          exact ⟨n, by rw [hn]; exact h⟩
        · rename_i hne
          obtain ⟨n, hn⟩ := execw_iff.1 h
          refine ⟨n, ?_⟩
          rw [hn]
          obtain ⟨e, t', m'⟩ := r
          cases e with
          | exit i => exact absurd h (hne i t' m')
          | _ => rfl
      | loop b =>
        simp only [step] at h ⊢
        split at h
        · rename_i t' m' h1
          obtain ⟨n1, g1⟩ := execw_iff.1 h1
          obtain ⟨n2, g2⟩ := execw_iff.1 h
          refine ⟨max n1 n2, ?_⟩
          rw [exec_le (Nat.le_max_left n1 n2) _ _ _ _ g1]
          exact exec_le (Nat.le_max_right n1 n2) _ _ _ _ g2
        · rename_i hne
          obtain ⟨n, hn⟩ := execw_iff.1 h
          refine ⟨n, ?_⟩
          rw [hn]
          obtain ⟨e, t', m'⟩ := r
          cases e with
          | normal => exact absurd h (hne t' m')
          | _ => rfl
      | region id ops draw =>
        simp only [step] at h ⊢
        split at h
        · rename_i t' m' h1
          obtain ⟨n, hn⟩ := sregion_lim h1
          exact ⟨n, by rw [hn]; exact h⟩
        · cases h
      | _ => exact ⟨0, h⟩
    obtain ⟨n, hn⟩ := lim
    refine execw_iff.2 ⟨n + 1, hn⟩
end Go.Sh

/- The abstract run of symbolic values, by rewriting. -/
namespace Go.Sh
open Go.RowKit
set_option linter.unusedVariables false
set_option linter.unusedSimpArgs false

variable {P : Program} {T : FuncId → Option Func} {S : Sums} {t : Tree Value} {m : Mem} {H : CallH}

theorem x_seq (a b : Code) : execw P T S (.seq a b) t m = match execw P T S a t m with
    | some (.normal, t', m') => execw P T S b t' m'
    | r => r := by rw [execw_step]; rfl
theorem x_skip : execw P T S .skip t m = some (.normal, t, m) := by rw [execw_step]; rfl
theorem x_ret : execw P T S .ret t m = some (.ret, t, m) := by rw [execw_step]; rfl
theorem x_exit (i : Nat) : execw P T S (.exit i) t m = some (.exit i, t, m) := by rw [execw_step]; rfl
theorem x_cond (x : Operand) (a b : Code) : execw P T S (.cond x a b) t m = match ev t x with
    | .bool true => execw P T S a t m
    | .bool false => execw P T S b t m
    | _ => none := by rw [execw_step]; rfl
theorem x_block (i : Nat) (b : Code) : execw P T S (.block i b) t m = match execw P T S b t m with
    | some (.exit k, t', m') => some (if k = i then .normal else .exit k, t', m')
    | r => r := by rw [execw_step]; rfl
theorem x_loop (b : Code) : execw P T S (.loop b) t m = match execw P T S b t m with
    | some (.normal, t', m') => execw P T S (.loop b) t' m'
    | r => r := by rw [execw_step]; rfl
theorem x_region (i : Nat) (ops : Array Oper) (d : Bool) : execw P T S (.region i ops d) t m = match sregion P (callw P T S) ops.toList d t m with
    | some (t', m') => some (.normal, t', m')
    | none => none := by rw [execw_step]; rfl

theorem x_call {f : FuncId} {fn : Func} {c : Code} (hT : T f = some fn) (hb : fn.body = some c) (hS : S f = []) (args : List Value) (hl : args.length ≤ fn.ntmps) :
    callw P T S f args m = match execw P T S c (fill .leaf args 0) m with
      | some (.normal, t, m') | some (.ret, t, m') => match sresults P fn.results.toList t m' with
        | some v => some (v, m')
        | none => none
      | _ => none := by
  unfold callw withSums callF
  rw [hS]
  simp only [List.find?_nil, hT, hb, if_pos hl]
  rfl

theorem sregion_false (ops : List Oper) : sregion P H ops false t m = sops P H ops ops t m := rfl
theorem sops_nil (all : List Oper) : sops P H all [] t m = some (t, m) := rfl
theorem sops_cons (all : List Oper) (o : Oper) (rest : List Oper) : sops P H all (o :: rest) t m = match sop1 P H all o t m with
    | some (v, m') => sops P H all rest (put t o.dst v) m'
    | none => none := rfl
theorem sop1_plain (all : List Oper) (d : Option Tmp) (op : Op) (ty : TypeId) (pos : String) (af : Array Edge) : sop1 P H all ⟨d, op, ty, pos, af, none⟩ t m = sop P H (ev t) ⟨d, op, ty, pos, af, none⟩ m := rfl
theorem put_some (d : Nat) (v : Value) : put t (some d) v = t.set d v := rfl
theorem put_none (v : Value) : put t none v = t := rfl
theorem ev_tmp (i : Nat) : ev t (.tmp i) = (t.get i).getD undef := rfl
theorem ev_const (v : Value) : ev t (.const v) = v := rfl
theorem fill_nil (i : Nat) : fill t [] i = t := rfl
theorem fill_cons (v : Value) (r : List Value) (i : Nat) : fill t (v :: r) i = fill (t.set i v) r (i + 1) := rfl

section
variable (ρ : Operand → Value) (d : Option Tmp) (ty : TypeId) (pos : String) (af : Array Edge) (g : Option (Nat × Bool))
theorem o_move (x : Operand) : sop P H ρ ⟨d, .move x, ty, pos, af, g⟩ m = some (ρ x, m) := rfl
theorem o_assign (x : Operand) : sop P H ρ ⟨d, .assign x, ty, pos, af, g⟩ m = some (ρ x, m) := rfl
theorem o_bin (op : BinOp) (a : TypeId) (x y : Operand) (b : TypeId) : sop P H ρ ⟨d, .binOp op a x y b, ty, pos, af, g⟩ m = s_binOp P ρ ⟨d, .binOp op a x y b, ty, pos, af, g⟩ op a x y m := rfl
end
end Go.Sh
namespace Go.Sh
set_option linter.unusedVariables false
set_option linter.unusedSimpArgs false
theorem wrap_i64 {x : Int} (h1 : -9223372036854775808 ≤ x) (h2 : x ≤ 9223372036854775807) : IntKind.i64.wrap x = x := by
  have e1 : (2 : Int) ^ IntKind.i64.bits = 18446744073709551616 := by decide
  have e2 : (2 : Int) ^ (IntKind.i64.bits - 1) = 9223372036854775808 := by decide
  have e3 : IntKind.i64.signed = true := rfl
  simp only [IntKind.wrap, e1, e2, e3, Bool.true_and, decide_eq_true_eq, ge_iff_le]
  split <;> omega

theorem wrap_u64 {x : Int} (h1 : 0 ≤ x) (h2 : x ≤ 18446744073709551615) : IntKind.u64.wrap x = x := by
  have e1 : (2 : Int) ^ IntKind.u64.bits = 18446744073709551616 := by decide
  have e3 : IntKind.u64.signed = false := rfl
  simp only [IntKind.wrap, e1, e3, Bool.false_and]
  simp
  omega

/-- what is owned: a block that may be written, of a family of its own -/
structure Own (m : Mem) (l : Nat) (cells : List Value) (e : TypeId) (fam : Nat) : Prop where
  blk : m.blks.get l = some ⟨cells, e, fam⟩
  fm : ∃ k, m.fams.get fam = some ⟨some l, k⟩ ∧ k ≤ l
  lt : l < m.next
  flt : fam < m.next

section
variable {m : Mem} {l l' off : Nat} {cells cells' vs : List Value} {e e' : TypeId} {fam fam' : Nat}

theorem Own.readable (h : Own m l cells e fam) : m.readable l = some ⟨cells, e, fam⟩ := by
  obtain ⟨k, h1, h2⟩ := h.fm
  exact Mem.readable_iff.2 ⟨h.blk, _, h1, h2⟩

theorem Own.writable (h : Own m l cells e fam) : m.writable l = some ⟨cells, e, fam⟩ := by
  obtain ⟨k, h1, h2⟩ := h.fm
  exact Mem.writable_iff.2 ⟨h.blk, _, h1, rfl, h2⟩

theorem Own.load (h : Own m l cells e fam) (k : Nat) (hk : off + k ≤ cells.length) : loadRow m ⟨l, off, none⟩ k = some (window cells off k) := by
  simp [loadRow, h.readable, hk]

theorem Own.load1 (h : Own m l cells e fam) {v : Value} (hv : cells[off]? = some v) : loadRow m ⟨l, off, none⟩ 1 = some [v] := by
  have hlt := (List.getElem?_eq_some_iff.1 hv).1
  rw [h.load 1 (by omega)]
  unfold window
  rw [List.getElem?_eq_getElem hlt] at hv
  simp only [Option.some.injEq] at hv
  rw [List.drop_eq_getElem_cons hlt, hv]
  rfl

theorem Own.store (h : Own m l cells e fam) (hk : off + vs.length ≤ cells.length) (h1 : vs.all one = true) :
    storeRow m ⟨l, off, none⟩ vs = some (m.put l ⟨cells, e, fam⟩ (over cells off vs)) := by
  simp [storeRow, h.writable, hk]
  simpa using h1

theorem Own.put (h : Own m l cells e fam) (cs : List Value) : Own (m.put l ⟨cells, e, fam⟩ cs) l cs e fam :=
  ⟨by simp [Mem.put, Tree.get_set_self], ⟨l, by simp [Mem.put, Tree.get_set_self], Nat.le_refl _⟩, h.lt, h.flt⟩

theorem Own.put_other (h : Own m l cells e fam) (h' : Own m l' cells' e' fam') (hf : fam' ≠ fam) (cs : List Value) : Own (m.put l ⟨cells, e, fam⟩ cs) l' cells' e' fam' := by
  obtain ⟨k, h1, h2⟩ := h'.fm
  refine ⟨?_, ⟨k, ?_, h2⟩, h'.lt, h'.flt⟩
  · simp only [Mem.put]
    rw [Tree.get_set_ne _ _ (fun e0 => ?_)]
    · exact h'.blk
    · subst e0
      have := h'.blk
      rw [h.blk] at this
      simp only [Option.some.injEq, Blk.mk.injEq] at this
      exact hf this.2.2.symm
  · simp only [Mem.put]
    rw [Tree.get_set_ne _ _ hf]
    exact h1

theorem Own.new (m : Mem) (cs : List Value) (e : TypeId) : Own (m.new cs e) m.next cs e m.next :=
  ⟨by simp [Mem.new, Tree.get_set_self], ⟨m.next, by simp [Mem.new, Tree.get_set_self], Nat.le_refl _⟩, by simp [Mem.new], by simp [Mem.new]⟩

theorem Own.new_other (h : Own m l cells e fam) (cs : List Value) (e2 : TypeId) : Own (m.new cs e2) l cells e fam := by
  obtain ⟨k, h1, h2⟩ := h.fm
  have := h.lt
  have := h.flt
  refine ⟨?_, ⟨k, ?_, h2⟩, by simp [Mem.new]; omega, by simp [Mem.new]; omega⟩
  · simp only [Mem.new]; rw [Tree.get_set_ne _ _ (by omega)]; exact h.blk
  · simp only [Mem.new]; rw [Tree.get_set_ne _ _ (by omega)]; exact h1

theorem Own.grow (h : Own m l cells e fam) (cs : List Value) (keep : Bool) : Own (m.grow ⟨cells, e, fam⟩ cs keep) m.next cs e fam := by
  obtain ⟨k, h1, h2⟩ := h.fm
  have := h.lt
  have := h.flt
  refine ⟨by simp [Mem.grow, Tree.get_set_self], ⟨if keep then k else m.next, by simp [Mem.grow, Tree.get_set_self, h1], by split <;> omega⟩, by simp [Mem.grow], by simp [Mem.grow]; omega⟩

theorem Own.grow_other (h : Own m l cells e fam) (h' : Own m l' cells' e' fam') (hf : fam' ≠ fam) (cs : List Value) (keep : Bool) : Own (m.grow ⟨cells, e, fam⟩ cs keep) l' cells' e' fam' := by
  obtain ⟨k, h1, h2⟩ := h'.fm
  have := h'.lt
  have := h'.flt
  refine ⟨?_, ⟨k, ?_, h2⟩, by simp [Mem.grow]; omega, by simp [Mem.grow]; omega⟩
  · simp only [Mem.grow]; rw [Tree.get_set_ne _ _ (by omega)]; exact h'.blk
  · simp only [Mem.grow]; rw [Tree.get_set_ne _ _ hf]; exact h1

/-- what is there to be read -/
structure Rdo (m : Mem) (l : Nat) (cells : List Value) (e : TypeId) (fam : Nat) : Prop where
  blk : m.blks.get l = some ⟨cells, e, fam⟩
  fm : ∃ f, m.fams.get fam = some f ∧ f.kill ≤ l
  lt : l < m.next
  flt : fam < m.next

theorem Own.rdo (h : Own m l cells e fam) : Rdo m l cells e fam := ⟨h.blk, by obtain ⟨k, h1, h2⟩ := h.fm; exact ⟨_, h1, h2⟩, h.lt, h.flt⟩
theorem Rdo.readable (h : Rdo m l cells e fam) : m.readable l = some ⟨cells, e, fam⟩ := Mem.readable_iff.2 ⟨h.blk, h.fm⟩
theorem Rdo.load (h : Rdo m l cells e fam) (k : Nat) (hk : off + k ≤ cells.length) : loadRow m ⟨l, off, none⟩ k = some (window cells off k) := by
  simp [loadRow, h.readable, hk]
theorem Rdo.load1 (h : Rdo m l cells e fam) {v : Value} (hv : cells[off]? = some v) : loadRow m ⟨l, off, none⟩ 1 = some [v] := by
  have hlt := (List.getElem?_eq_some_iff.1 hv).1
  rw [h.load 1 (by omega)]
  unfold window
  rw [List.getElem?_eq_getElem hlt] at hv
  simp only [Option.some.injEq] at hv
  rw [List.drop_eq_getElem_cons hlt, hv]
  rfl

/-- all blocks and families are as they were, but for some families; no number has gone -/
def Keeps (m m' : Mem) (fs : List Nat) : Prop :=
  m.next ≤ m'.next ∧ (∀ l b, l < m.next → m.blks.get l = some b → b.fam < m.next → b.fam ∉ fs → m'.blks.get l = some b) ∧ (∀ f, f < m.next → f ∉ fs → m'.fams.get f = m.fams.get f) ∧ (∀ l, l < m.next → l ∉ fs → m'.maps.get l = m.maps.get l)

theorem Own.keep {m m' : Mem} {fs : List Nat} (h : Own m l cells e fam) (k : Keeps m m' fs) (hf : fam ∉ fs) : Own m' l cells e fam := by
  obtain ⟨q, h1, h2⟩ := h.fm
  exact ⟨k.2.1 l _ h.lt h.blk h.flt hf, ⟨q, by rw [k.2.2.1 fam h.flt hf]; exact h1, h2⟩, Nat.lt_of_lt_of_le h.lt k.1, Nat.lt_of_lt_of_le h.flt k.1⟩
theorem Rdo.keep {m m' : Mem} {fs : List Nat} (h : Rdo m l cells e fam) (k : Keeps m m' fs) (hf : fam ∉ fs) : Rdo m' l cells e fam := by
  obtain ⟨q, h1, h2⟩ := h.fm
  exact ⟨k.2.1 l _ h.lt h.blk h.flt hf, ⟨q, by rw [k.2.2.1 fam h.flt hf]; exact h1, h2⟩, Nat.lt_of_lt_of_le h.lt k.1, Nat.lt_of_lt_of_le h.flt k.1⟩

theorem Keeps.refl (m : Mem) (fs : List Nat) : Keeps m m fs := ⟨Nat.le_refl _, fun _ _ _ h _ _ => h, fun _ _ _ => rfl, fun _ _ _ => rfl⟩
theorem Keeps.trans {m1 m2 m3 : Mem} {fs : List Nat} (h : Keeps m1 m2 fs) (k : Keeps m2 m3 fs) : Keeps m1 m3 fs :=
  ⟨Nat.le_trans h.1 k.1, fun l b hl hb hg hf => k.2.1 l b (Nat.lt_of_lt_of_le hl h.1) (h.2.1 l b hl hb hg hf) (Nat.lt_of_lt_of_le hg h.1) hf, fun f hl hf => (k.2.2.1 f (Nat.lt_of_lt_of_le hl h.1) hf).trans (h.2.2.1 f hl hf), fun f hl hf => (k.2.2.2 f (Nat.lt_of_lt_of_le hl h.1) hf).trans (h.2.2.2 f hl hf)⟩
theorem Keeps.mono {m1 m2 : Mem} {fs gs : List Nat} (h : Keeps m1 m2 fs) (hg : ∀ x ∈ fs, x ∈ gs) : Keeps m1 m2 gs :=
  ⟨h.1, fun l b hl hb hq hf => h.2.1 l b hl hb hq (fun hx => hf (hg _ hx)), fun f hl hf => h.2.2.1 f hl (fun hx => hf (hg _ hx)), fun f hl hf => h.2.2.2 f hl (fun hx => hf (hg _ hx))⟩
theorem keeps_new (m : Mem) (cs : List Value) (e : TypeId) (fs : List Nat) : Keeps m (m.new cs e) fs := by
  refine ⟨by simp [Mem.new], fun l b hl hb _ _ => ?_, fun f hl _ => ?_, fun _ _ _ => rfl⟩
  · simp only [Mem.new]; rw [Tree.get_set_ne _ _ (by omega)]; exact hb
  · simp only [Mem.new]; rw [Tree.get_set_ne _ _ (by omega)]
theorem Own.keeps_put (h : Own m l cells e fam) (cs : List Value) {fs : List Nat} (hf : fam ∈ fs) : Keeps m (m.put l ⟨cells, e, fam⟩ cs) fs := by
  refine ⟨Nat.le_refl _, fun l' b hl hb _ hn => ?_, fun f hl hn => ?_, fun _ _ _ => rfl⟩
  · simp only [Mem.put]
    rw [Tree.get_set_ne _ _ (fun e0 => ?_)]
    · exact hb
    · subst e0
      rw [h.blk] at hb
      simp only [Option.some.injEq] at hb
      subst hb
      exact hn hf
  · simp only [Mem.put]; rw [Tree.get_set_ne _ _ (fun e0 => hn (by rw [e0]; exact hf))]
theorem Own.keeps_grow (h : Own m l cells e fam) (cs : List Value) (k : Bool) {fs : List Nat} (hf : fam ∈ fs) : Keeps m (m.grow ⟨cells, e, fam⟩ cs k) fs := by
  refine ⟨by simp [Mem.grow], fun l' b hl hb _ hn => ?_, fun f hl hn => ?_, fun _ _ _ => rfl⟩
  · simp only [Mem.grow]; rw [Tree.get_set_ne _ _ (by omega)]; exact hb
  · simp only [Mem.grow]; rw [Tree.get_set_ne _ _ (fun e0 => hn (by rw [e0]; exact hf))]
end

/-- a field's place -/
def faOk (P : Program) (s : TypeId) (f off : Nat) : Bool := (fieldOf P s f).any (fun fl => (sizeOfT P fl.type).any (fun z => decide (0 < z)) && fl.offset == off)
/-- a type of one cell -/
def ldOk (P : Program) (t : TypeId) : Bool := (P.underlying t).isSome && !isAggT P t

/- operations, as they are looked at by rewriting -/
section
variable {P : Program} {H : CallH} {m : Mem} {ρ : Operand → Value} {d : Option Tmp} {ty : TypeId} {pos : String} {af : Array Edge} {g : Option (Nat × Bool)} {o : Oper}
theorem o_un (op : UnOp) (a : TypeId) (x : Operand) : sop P H ρ ⟨d, .unOp op a x, ty, pos, af, g⟩ m = s_unOp P ρ ⟨d, .unOp op a x, ty, pos, af, g⟩ op x m := rfl
theorem o_pick (c a b : Operand) : sop P H ρ ⟨d, .pick c a b, ty, pos, af, g⟩ m = match ρ c with
    | .bool t => some (if t then ρ a else ρ b, m)
    | _ => none := rfl
theorem o_nilCheck (x : Operand) : sop P H ρ ⟨d, .nilCheck x, ty, pos, af, g⟩ m = match ρ x with
    | .pointer (some a) => some (.pointer (some a), m)
    | .func (.func f) a b => some (.func (.func f) a b, m)
    | .iface t v => some (.iface t v, m)
    | _ => none := rfl
theorem o_extract (x : Operand) (i : Nat) : sop P H ρ ⟨d, .extract x i, ty, pos, af, g⟩ m = match ρ x with
    | .tuple vs => vs[i]?.map (·, m)
    | _ => none := rfl
theorem o_fieldAddr (s : TypeId) (x : Operand) (f : Nat) : sop P H ρ ⟨d, .fieldAddr s x f, ty, pos, af, g⟩ m = s_fieldAddr P ρ ⟨d, .fieldAddr s x f, ty, pos, af, g⟩ s x f m := rfl
theorem fieldAddr_of {s : TypeId} {f off : Nat} (h : faOk P s f off = true) (x : Operand) : s_fieldAddr P ρ o s x f m = match ρ x with
    | .pointer (some a) => if a.spot.isNone then some (.pointer (some { a with off := a.off + off }), m) else none
    | _ => none := by
  unfold faOk at h
  unfold s_fieldAddr
  cases hf : fieldOf P s f with
  | none => rw [hf] at h; simp at h
  | some fl =>
    rw [hf] at h
    simp only [Option.any_some, Bool.and_eq_true, beq_iff_eq] at h
    cases hz : sizeOfT P fl.type with
    | none => rw [hz] at h; simp at h
    | some z =>
      rw [hz] at h
      simp only [Option.any_some, decide_eq_true_eq] at h
      obtain ⟨n, rfl⟩ : ∃ n, z = n + 1 := ⟨z - 1, by omega⟩
      cases hx : ρ x with
      | pointer a => cases a with
        | none => rfl
        | some a => simp only [hz, h.2]
      | _ => rfl
theorem o_load (t : TypeId) (x : Operand) : sop P H ρ ⟨d, .load t x, ty, pos, af, g⟩ m = s_load P ρ ⟨d, .load t x, ty, pos, af, g⟩ t x m := rfl
theorem load_of {t : TypeId} (h : ldOk P t = true) (x : Operand) : s_load P ρ o t x m = match ρ x with
    | .pointer (some a) => match loadRow m a 1 with
      | some [v] => some (v, m)
      | _ => none
    | _ => none := by
  unfold ldOk at h
  unfold s_load
  rw [Bool.and_eq_true, Bool.not_eq_true'] at h
  obtain ⟨u, hu⟩ := Option.isSome_iff_exists.1 h.1
  simp only [hu, h.2]
  rfl
theorem o_store (t : TypeId) (x y : Operand) : sop P H ρ ⟨d, .store t x y, ty, pos, af, g⟩ m = s_store P ρ ⟨d, .store t x y, ty, pos, af, g⟩ t x y m := rfl
theorem store_of {t : TypeId} {z : Nat} (h : sizeOfT P t = some z) (x y : Operand) : s_store P ρ o t x y m = match ρ x with
    | .pointer (some a) => if (ρ y).cells.size = z then (storeRow m a (ρ y).cells.toList).map (undef, ·) else none
    | _ => none := by
  unfold s_store
  cases hx : ρ x with
  | pointer a => cases a with
    | none => rfl
    | some a =>
      simp only [h]
      by_cases e : (ρ y).cells.size = z
      · rw [if_pos e, if_pos (by rw [e]; simp)]
      · rw [if_neg e, if_neg (by simp; exact fun h => e h.symm)]
  | _ => rfl
theorem o_len (x : Operand) (t : TypeId) : sop P H ρ ⟨d, .call { callee := .builtin .len, args := #[x], argTypes := #[t] }, ty, pos, af, g⟩ m = c_len P ρ #[x] #[t] m := rfl
theorem len_slice {t e : TypeId} (h : P.underlying t = some (.slice e)) (x : Operand) : c_len P ρ #[x] #[t] m = match ρ x with
    | .slice _ n _ => some (.int .i64 n, m)
    | _ => none := by
  simp only [c_len, h]
  cases ρ x <;> rfl
theorem len_string {t : TypeId} (h : P.underlying t = some .string) (x : Operand) : c_len P ρ #[x] #[t] m = match ρ x with
    | .string s => some (.int .i64 s.size, m)
    | _ => none := by
  simp only [c_len, h]
  cases ρ x <;> rfl
theorem o_conv (a b : TypeId) (x : Operand) : sop P H ρ ⟨d, .convert a b x, ty, pos, af, g⟩ m = s_convert P ρ ⟨d, .convert a b x, ty, pos, af, g⟩ a b x m := rfl
theorem conv_int {a b : TypeId} {j k : IntKind} (ha : P.underlying a = some (.int j)) (hb : P.underlying b = some (.int k)) (x : Operand) (i : IntKind) (n : Int) (hx : ρ x = .int i n) : s_convert P ρ o a b x m = some (.int k (k.wrap n), m) := by
  simp only [s_convert, ha, hb, hx]
theorem o_append (s x : Operand) (a b : TypeId) : sop P H ρ ⟨d, .call { callee := .builtin .append, args := #[s, x], argTypes := #[a, b] }, ty, pos, af, g⟩ m = c_append P ρ #[s, x] #[a, b] m := rfl
theorem o_call {t : Tree Value} (f : FuncId) (args : Array Operand) (tys : Array TypeId) : sop P H (ev t) ⟨d, .call { callee := .value (.func f), args := args, argTypes := tys }, ty, pos, af, g⟩ m = H f (args.toList.map (ev t)) m := by
  simp [sop, sopCall, c_value, ev]
theorem o_buildSlice (t : TypeId) (n : Nat) (parts : Array (Nat × Operand)) : sop P H ρ ⟨d, .buildSlice t n parts, ty, pos, af, g⟩ m = s_buildSlice P ρ ⟨d, .buildSlice t n parts, ty, pos, af, g⟩ t n parts m := rfl
end

/-- a part of a code -/
def Code.sub : List Nat → Code → Code
  | [], c => c
  | 0 :: p, .seq a _ => Code.sub p a
  | _ :: p, .seq _ b => Code.sub p b
  | 0 :: p, .cond _ a _ => Code.sub p a
  | _ :: p, .cond _ _ b => Code.sub p b
  | _ :: p, .block _ b => Code.sub p b
  | _ :: p, .loop b => Code.sub p b
  | _, c => c

def bodyOf (f : Func) : Code := match f.body with | some c => c | none => .skip

section
variable {P : Program} {H : CallH} {m : Mem} {t : Tree Value}
theorem sregion_quiet {ops : List Oper} (h1 : ops.any floatB = false) (h2 : quiet P ops = true) : sregion P H ops true t m = sops P H ops ops t m := by
  have hc : canonOps ops = ops := by unfold canonOps; rw [if_neg (by simp [h1])]
  unfold sregion
  simp only [if_true, hc, h2]
theorem sop1_guard (all : List Oper) (d : Option Tmp) (op : Op) (ty : TypeId) (pos : String) (af : Array Edge) (j : Nat) (w : Bool) : sop1 P H all ⟨d, op, ty, pos, af, some (j, w)⟩ t m =
    if syield all t j = some w then sop P H (ev t) ⟨d, op, ty, pos, af, some (j, w)⟩ m else some (undef, m) := by
  unfold sop1 swanted
  by_cases h : syield all t j = some w <;> simp [h]
theorem loadRow_new (cs : List Value) (e : TypeId) (off k : Nat) (h : off + k ≤ cs.length) : loadRow (m.new cs e) ⟨m.next, off, none⟩ k = some (window cs off k) := (Own.new m cs e).load k h

/-- what append asks of an element's type: z cells, by bytes -/
def apOk (P : Program) (e : TypeId) (z bt : Nat) : Bool := (P.info? e).any fun i => i.size == z && i.bytes == bt && decide (0 < z) && i.zero.any (fun v => v.cells.size == z)

theorem sappend_full {ty e : TypeId} {z bt wb wf n k : Nat} {cells news : List Value} (ht : P.underlying ty = some (.slice e)) (ha : apOk P e z bt = true) (h : Own m wb cells e wf) (hn : n * z = cells.length) (hk : k ≠ 0) (hnews : news.length = k * z) (h1 : news.all one = true)
    (hb : (n + k) * bt ≤ 140737488355328) (h63 : n + k ≤ 9223372036854775807) :
    sappend P ty m (.slice (some ⟨wb, 0, none⟩) n n) news k = some (.slice (some ⟨m.next, 0, none⟩) (n + k) (n + k), m.grow ⟨cells, e, wf⟩ (cells ++ news) true) := by
  unfold apOk at ha
  cases hi : P.info? e with
  | none => rw [hi] at ha; simp at ha
  | some i =>
    rw [hi] at ha
    simp only [Option.any_some, Bool.and_eq_true, beq_iff_eq, decide_eq_true_eq] at ha
    obtain ⟨⟨⟨ha1, ha2⟩, ha3⟩, ha4⟩ := ha
    have hpos : 0 < k * z := Nat.mul_pos (by omega) ha3
    unfold sappend
    simp only [ht, hi, h.writable]
    rw [if_neg (by simp [ha1, ha3, ha4, hnews]; simpa using h1)]
    rw [if_pos (by simp [ha2, hb, h63])]
    rw [if_neg (by simp)]
    rw [if_neg (by simpa using hk)]
    rw [if_neg (by rw [ha1, hnews, Nat.zero_add, hn]; omega)]
    rw [if_pos (by simp [ha1, hn])]
    simp [ha1, hn]

theorem append_slice {ty tx e e2 : TypeId} {z : Nat} {s x : Operand} {ρ : Operand → Value} {a : Addr} {k c : Nat} {news : List Value} (htx : P.underlying tx = some (.slice e2)) (hz : sizeOfT P e2 = some z) (hx : ρ x = .slice (some a) k c) (hk : k ≠ 0) (hl : loadRow m a (k * z) = some news) :
    c_append P ρ #[s, x] #[ty, tx] m = sappend P ty m (ρ s) news k := by
  have hne : isIntT P tx = false := by unfold isIntT; rw [htx]
  have hk' : (k == 0) = false := by simpa using hk
  simp [c_append, hne, newsOf, htx, hz, hx, hk', hl]
theorem append_make {ty tx e : TypeId} {s x : Operand} {ρ : Operand → Value} {j i : IntKind} {n : Int} {z : List Value} (htx : P.underlying tx = some (.int j)) (ht : P.underlying ty = some (.slice e)) (hx : ρ x = .int i n) (h0 : 0 ≤ n) (h63 : n ≤ 9223372036854775807) (hz : zerosOf P e n.toNat = some z) :
    c_append P ρ #[s, x] #[ty, tx] m = sappend P ty m (ρ s) z n.toNat := by
  have hne : isIntT P tx = true := by unfold isIntT; rw [htx]
  simp [c_append, hne, ht, hx, natOf, h0, h63, hz]
end

/- the same operations again, where rewriting need look no further -/
def convF := s_convert
def bsF := s_buildSlice
def apF := c_append
section
variable {P : Program} {H : CallH} {m : Mem} {ρ : Operand → Value} {o : Oper}
theorem conv_i {a b : TypeId} {j k : IntKind} (ha : P.underlying a = some (.int j)) (hb : P.underlying b = some (.int k)) (x : Operand) : s_convert P ρ o a b x m = match ρ x with
    | .int _ n => some (.int k (k.wrap n), m)
    | _ => convF P ρ o a b x m := by
  cases hx : ρ x with
  | int i n => exact conv_int ha hb x i n hx
  | _ => rfl

/-- an element of one cell, its zero without an address -/
def elOk (P : Program) (e : TypeId) : Bool := (P.info? e).any fun i => i.size == 1 && i.zero.any (fun v => closedA v.cells && v.cells.size == 1)

theorem build_one {t e : TypeId} (ht : P.underlying t = some (.slice e)) (he : elOk P e = true) (x : Operand) : s_buildSlice P ρ o t 1 #[(0, x)] m = match (ρ x).cells.toList with
    | [v] => some (.slice (some ⟨m.next, 0, none⟩) 1 1, m.new [v] e)
    | _ => bsF P ρ o t 1 #[(0, x)] m := by
  split
  · rename_i v hv
    unfold elOk at he
    cases hi : P.info? e with
    | none => rw [hi] at he; simp at he
    | some i =>
      rw [hi] at he
      simp only [Option.any_some, Bool.and_eq_true, beq_iff_eq] at he
      cases hz : i.zero with
      | none => rw [hz] at he; simp at he
      | some z =>
        rw [hz] at he
        simp only [Option.any_some, Bool.and_eq_true, beq_iff_eq] at he
        obtain ⟨h1, h2, h3⟩ := he
        have hsz : (ρ x).cells = #[v] := by apply Array.ext'; simpa using hv
        simp [s_buildSlice, ht, hi, hz, h1, h2, h3, Instr.fill, hsz]
  · rfl

theorem append_s {ty tx e2 : TypeId} {z : Nat} (htx : P.underlying tx = some (.slice e2)) (hz : sizeOfT P e2 = some z) (s x : Operand) : c_append P ρ #[s, x] #[ty, tx] m = match ρ x with
    | .slice (some a) k c => if k = 0 then sappend P ty m (ρ s) [] 0 else match loadRow m a (k * z) with
      | some news => sappend P ty m (ρ s) news k
      | none => none
    | .slice none 0 0 => sappend P ty m (ρ s) [] 0
    | _ => apF P ρ #[s, x] #[ty, tx] m := by
  have hne : isIntT P tx = false := by unfold isIntT; rw [htx]
  cases hx : ρ x with
  | slice ao k c =>
    cases ao with
    | some a =>
      by_cases hk : k = 0
      · simp [c_append, hne, newsOf, htx, hz, hx, hk]
      · cases hl : loadRow m a (k * z) <;> simp [c_append, hne, newsOf, htx, hz, hx, hk, hl]
    | none =>
      cases k <;> cases c <;> first
        | rfl
        | simp [c_append, hne, newsOf, htx, hz, hx]
  | _ => rfl

theorem append_m {ty tx e : TypeId} {j : IntKind} (htx : P.underlying tx = some (.int j)) (ht : P.underlying ty = some (.slice e)) (s x : Operand) : c_append P ρ #[s, x] #[ty, tx] m = match ρ x with
    | .int _ n => if 0 ≤ n ∧ n ≤ 9223372036854775807 then (match zerosOf P e n.toNat with
      | some z => sappend P ty m (ρ s) z n.toNat
      | none => none) else apF P ρ #[s, x] #[ty, tx] m
    | _ => apF P ρ #[s, x] #[ty, tx] m := by
  have hne : isIntT P tx = true := by unfold isIntT; rw [htx]
  cases hx : ρ x with
  | int i n =>
    by_cases h : 0 ≤ n ∧ n ≤ 9223372036854775807
    · simp only [if_pos h]; simp [c_append, hne, ht, hx, natOf, h]; rfl
    · simp only [if_neg h]; rfl
  | _ => rfl
end

theorem one_int (k : IntKind) (n : Int) : one (.int k n) = true := rfl
theorem one_bool (b : Bool) : one (.bool b) = true := rfl
theorem one_str (s : ByteArray) : one (.string s) = true := rfl
theorem one_ptr (a : Option Addr) : one (.pointer a) = true := rfl
theorem one_slice (a : Option Addr) (n c : Nat) : one (.slice a n c) = true := rfl
theorem cells_int (k : IntKind) (n : Int) : (Value.int k n).cells = #[.int k n] := rfl
theorem cells_bool (b : Bool) : (Value.bool b).cells = #[.bool b] := rfl
theorem cells_str (s : ByteArray) : (Value.string s).cells = #[.string s] := rfl
theorem cells_ptr (a : Option Addr) : (Value.pointer a).cells = #[.pointer a] := rfl
theorem cells_slice (a : Option Addr) (n c : Nat) : (Value.slice a n c).cells = #[.slice a n c] := rfl
theorem cells_agg (cs : Array Value) : (Value.agg cs).cells = cs := rfl

/-- a type of one cell, its zero -/
def zOk (P : Program) (e : TypeId) (bt : Nat) (v : Value) : Bool := (P.info? e).any fun i => i.size == 1 && i.bytes == bt && i.zero.any (fun z => eqV z v)
theorem zeros_one {P : Program} {e : TypeId} {bt n : Nat} {v : Value} (h : zOk P e bt v = true) (hv : closedV v = true) (h1 : one v = true) (hn : n * bt ≤ 281474976710656) : zerosOf P e n = some (List.replicate n v) := by
  unfold zOk at h
  cases hi : P.info? e with
  | none => rw [hi] at h; simp at h
  | some i =>
    rw [hi] at h
    simp only [Option.any_some, Bool.and_eq_true, beq_iff_eq] at h
    cases hz : i.zero with
    | none => rw [hz] at h; simp at h
    | some z =>
      rw [hz] at h
      simp only [Option.any_some] at h
      obtain ⟨⟨g1, g2⟩, g3⟩ := h
      have := eqV_eq _ _ g3
      subst this
      have hc : z.cells = #[z] := by cases z <;> first | rfl | simp [one] at h1
      have hcl : closedA #[z] = true := by
        show closedL [z] = true
        simp [closedL, hv]
      have hfl : (List.replicate n #[z].toList).flatten = List.replicate n z := by
        clear hn
        induction n with
        | zero => rfl
        | succ n ih => rw [List.replicate_succ, List.flatten_cons, ih]; rfl
      simp only [zerosOf, hi, hz, hc, hcl]
      rw [if_pos (by simp [g1, g2, hn])]
      rw [hfl]
theorem sappend_none {P : Program} {m : Mem} {ty e : TypeId} {z bt wb wf n : Nat} {cells : List Value} (ht : P.underlying ty = some (.slice e)) (ha : apOk P e z bt = true) (h : Own m wb cells e wf) (hb : n * bt ≤ 140737488355328) (h63 : n ≤ 9223372036854775807) :
    sappend P ty m (.slice (some ⟨wb, 0, none⟩) n n) [] 0 = some (.slice (some ⟨wb, 0, none⟩) n n, m) := by
  unfold apOk at ha
  cases hi : P.info? e with
  | none => rw [hi] at ha; simp at ha
  | some i =>
    rw [hi] at ha
    simp only [Option.any_some, Bool.and_eq_true, beq_iff_eq, decide_eq_true_eq] at ha
    obtain ⟨⟨⟨ha1, ha2⟩, ha3⟩, ha4⟩ := ha
    unfold sappend
    simp only [ht, hi, h.writable]
    rw [if_neg (by simp [ha1, ha3, ha4])]
    rw [if_pos (by simp [ha2, hb, h63])]
    rw [if_neg (by simp)]
    rw [if_pos (by simp)]
end Go.Sh
namespace Go.Sh
set_option linter.unusedVariables false
set_option linter.unusedSimpArgs false
section
variable {P : Program} {T : FuncId → Option Func} {S : Sums} {t t' : Tree Value} {m m' : Mem}
theorem seq_ok {a b : Code} {r : Option (SExit × Tree Value × Mem)} (h : execw P T S a t m = some (.normal, t', m')) (k : execw P T S b t' m' = r) : execw P T S (.seq a b) t m = r := by
  rw [x_seq, h]
  exact k
theorem call_ok {f : FuncId} {fn : Func} {c : Code} {args : List Value} {v : Value} (hT : T f = some fn) (hb : fn.body = some c) (hS : S f = []) (hl : args.length ≤ fn.ntmps) {e : SExit} (he : e = .normal ∨ e = .ret) (h : execw P T S c (fill .leaf args 0) m = some (e, t', m')) (hr : sresults P fn.results.toList t' m' = some v) :
    callw P T S f args m = some (v, m') := by
  rw [x_call hT hb hS args hl, h]
  rcases he with rfl | rfl <;> simp [hr]
end
end Go.Sh

namespace Go.Sh
set_option linter.unusedVariables false
set_option linter.unusedSimpArgs false
def binF := s_binOp0
def ixF := s_indexAddr
section
variable {P : Program} {H : CallH} {m : Mem} {ρ : Operand → Value} {o : Oper} {d : Option Tmp} {ty : TypeId} {pos : String} {af : Array Edge} {g : Option (Nat × Bool)}
theorem o_box (e : TypeId) (x : Operand) : sop P H ρ ⟨d, .box e x, ty, pos, af, g⟩ m = s_box P ρ ⟨d, .box e x, ty, pos, af, g⟩ e x m := rfl
theorem box_of {e : TypeId} (h : (P.info? e).isSome = true) (x : Operand) : s_box P ρ o e x m = some (.pointer (some ⟨m.next, 0, none⟩), m.new (ρ x).cells.toList e) := by
  obtain ⟨i, hi⟩ := Option.isSome_iff_exists.1 h
  simp [s_box, hi]
theorem o_alloc (e : TypeId) : sop P H ρ ⟨d, .alloc e, ty, pos, af, g⟩ m = s_alloc P ρ ⟨d, .alloc e, ty, pos, af, g⟩ e m := rfl
theorem o_build (t : TypeId) (ps : Array (Nat × Operand)) : sop P H ρ ⟨d, .build t ps, ty, pos, af, g⟩ m = s_build P ρ ⟨d, .build t ps, ty, pos, af, g⟩ t ps m := rfl
/-- a struct's zero and its fields' places -/
def buildOk (P : Program) (t : TypeId) (zero : List Value) (places : List (Nat × Nat)) : Bool :=
  (P.info? t).any fun i => i.zero.any fun z => closedA z.cells && eqL z.cells.toList zero && match P.underlying t with
    | some (.struct fields) => prun P (placesOf fields) == some places.toArray
    | _ => false
theorem build_of {t : TypeId} {zero : List Value} {places : List (Nat × Nat)} (h : buildOk P t zero places = true) (ps : Array (Nat × Operand)) :
    s_build P ρ o t ps m = (Instr.fill (places.toArray[·]?) zero.toArray (ps.map fun (i, x) => (i, ρ x)).toList).map fun cs => (.agg cs, m) := by
  unfold buildOk at h
  cases hi : P.info? t with
  | none => rw [hi] at h; simp at h
  | some i =>
    rw [hi] at h
    simp only [Option.any_some] at h
    cases hz : i.zero with
    | none => rw [hz] at h; simp at h
    | some z =>
      rw [hz] at h
      simp only [Option.any_some, Bool.and_eq_true] at h
      obtain ⟨⟨h1, h2⟩, h3⟩ := h
      have hzc : z.cells = zero.toArray := by
        have := eqL_eq _ _ h2
        apply Array.ext'; simpa using this
      cases hu : P.underlying t with
      | none => rw [hu] at h3; simp at h3
      | some u =>
        rw [hu] at h3
        cases u with
        | struct fields =>
          simp only [beq_iff_eq] at h3
          unfold s_build
          rw [hzc] at h1
          simp only [hi, hz, h1, hu, h3, hzc, if_true]
        | _ => simp at h3
theorem o_indexAddr (t : TypeId) (x ix : Operand) : sop P H ρ ⟨d, .indexAddr t x ix, ty, pos, af, g⟩ m = s_indexAddr P ρ ⟨d, .indexAddr t x ix, ty, pos, af, g⟩ t x ix m := rfl
theorem index_slice {t e : TypeId} {z : Nat} (ht : P.underlying t = some (.slice e)) (hz : sizeOfT P e = some z) (x ix : Operand) : s_indexAddr P ρ o t x ix m = match ρ x, ρ ix with
    | .slice (some a) n c, .int k i => if 0 ≤ i ∧ i ≤ 9223372036854775807 ∧ i.toNat < n ∧ a.spot.isNone = true then some (.pointer (some { a with off := a.off + i.toNat * z }), m) else ixF P ρ o t x ix m
    | _, _ => ixF P ρ o t x ix m := by
  cases hx : ρ x with
  | slice ao n c =>
    cases ao with
    | none => rfl
    | some a =>
      cases hi : ρ ix with
      | int k i =>
        by_cases h : 0 ≤ i ∧ i ≤ 9223372036854775807 ∧ i.toNat < n ∧ a.spot.isNone = true
        · simp only [if_pos h]
          have h' : natOf (.int k i) = some i.toNat := by simp [natOf, h.1, h.2.1]
          simp only [s_indexAddr, hx, hi, h', ht, hz]
          rw [if_pos (by simp [h.2.2.1, h.2.2.2])]
        · simp only [if_neg h]; rfl
      | _ => rfl
  | _ => rfl
theorem bin_ptr {t e : TypeId} (ht : P.underlying t = some (.pointer e)) (op : BinOp) (x y : Operand) : s_binOp0 P ρ o op t x y m = match ρ x, ρ y with
    | .pointer (some _), .pointer none => (boolEq op false).map (·, m)
    | .pointer none, .pointer (some _) => (boolEq op false).map (·, m)
    | _, _ => binF P ρ o op t x y m := by
  cases hx : ρ x with
  | pointer a =>
    cases hy : ρ y with
    | pointer b =>
      cases a <;> cases b <;> first
        | rfl
        | simp [s_binOp0, ht, hx, hy]
    | _ => cases a <;> rfl
  | _ => rfl
theorem prunB {α β : Type} (x : Sem α) (f : α → Sem β) : prun P (x >>= f) = (prun P x).bind fun a => prun P (f a) := by
  induction x with
  | pure a => rfl
  | program k ih => exact ih P
  | mark _ k ih => exact ih
  | _ => rfl
theorem bin_bool {t yt : TypeId} (ht : P.underlying t = some .bool) (op : BinOp) (hop : op = .eql ∨ op = .neq) (x y : Operand) : s_binOp0 P ρ ⟨d, .binOp op t x y yt, ty, pos, af, g⟩ op t x y m = match ρ x, ρ y with
    | .bool a, .bool b => (boolEq op (a == b)).map (·, m)
    | _, _ => binF P ρ ⟨d, .binOp op t x y yt, ty, pos, af, g⟩ op t x y m := by
  cases hx : ρ x with
  | bool a =>
    cases hy : ρ y with
    | bool b =>
      have hc : closedOp P ρ ⟨d, .binOp op t x y yt, ty, pos, af, g⟩ = boolEq op (a == b) := by
        unfold closedOp
        rw [if_pos (by simp [Op.operands, hx, hy, closedV])]
        have he : prun P (Op.equal t (.bool a) (.bool b)) = some (a == b) := by
          show prun P (Op.equalIn (9999 + 1) t (.bool a) (.bool b)) = some (a == b)
          unfold Op.equalIn
          rw [prunB]
          have hu : prun P (underlying t) = some .bool := by
            unfold underlying
            rw [prunB]
            show (some P).bind _ = _
            simp [ht]
            rfl
          rw [hu]
          rfl
        have hq : prun P (execOp ρ ⟨d, .binOp op t x y yt, ty, pos, af, g⟩) = (boolEq op (a == b)).map Next.value := by
          have hmap : ∀ {α β : Type} (f : α → β) (s : Sem α), prun P (f <$> s) = (prun P s).map f := by
            intro α β f s
            have : f <$> s = s >>= fun a => pure (f a) := rfl
            rw [this, prunB]
            cases prun P s <;> rfl
          rcases hop with rfl | rfl
          · show prun P (Next.value <$> (do eqGuard .eql t x y (ρ x) (ρ y); binOp .eql t (ρ x) (ρ y))) = _
            rw [hmap, hx, hy]
            have : prun P (do eqGuard .eql t x y (.bool a) (.bool b); binOp .eql t (.bool a) (.bool b) : Sem Value) = some (.bool (a == b)) := by
              show prun P (Op.equal t (.bool a) (.bool b) >>= fun r => pure (Value.bool r)) = _
              rw [prunB, he]
              rfl
            rw [this]; rfl
          · show prun P (Next.value <$> (do eqGuard .neq t x y (ρ x) (ρ y); binOp .neq t (ρ x) (ρ y))) = _
            rw [hmap, hx, hy]
            have : prun P (do eqGuard .neq t x y (.bool a) (.bool b); binOp .neq t (.bool a) (.bool b) : Sem Value) = some (.bool (!(a == b))) := by
              show prun P (Op.equal t (.bool a) (.bool b) >>= fun r => pure (Value.bool !r)) = _
              rw [prunB, he]
              rfl
            rw [this]; rfl
        rw [hq]
        rcases hop with rfl | rfl <;> simp [boolEq, closedV]
      simp [s_binOp0, ht, hx, hy, hc]
    | _ => rfl
  | _ => rfl
end
end Go.Sh
namespace Go.Sh
set_option linter.unusedVariables false
set_option linter.unusedSimpArgs false
section
variable {P : Program} {T : FuncId → Option Func} {S : Sums} {t t' : Tree Value} {m m' : Mem}
theorem block_ok {b : Code} {i : Nat} (h : execw P T S b t m = some (.normal, t', m')) : execw P T S (.block i b) t m = some (.normal, t', m') := by
  rw [x_block, h]
theorem block_exit {b : Code} {i : Nat} (h : execw P T S b t m = some (.exit i, t', m')) : execw P T S (.block i b) t m = some (.normal, t', m') := by
  rw [x_block, h]; simp
theorem loop_go {b : Code} (h : execw P T S b t m = some (.normal, t', m')) : execw P T S (.loop b) t m = execw P T S (.loop b) t' m' := by
  rw [x_loop, h]
theorem loop_exit {b : Code} {i : Nat} (h : execw P T S b t m = some (.exit i, t', m')) : execw P T S (.loop b) t m = some (.exit i, t', m') := by
  rw [x_loop, h]
theorem seq_exit {a b : Code} {i : Nat} (h : execw P T S a t m = some (.exit i, t', m')) : execw P T S (.seq a b) t m = some (.exit i, t', m') := by
  rw [x_seq, h]
theorem sum_ok {f : FuncId} {v : Value} (h : S f = [([], v)]) : callw P T S f [] m = some (v, m) := by
  unfold callw withSums
  rw [h]
  simp [eqL]
end
end Go.Sh

namespace Go.Sh
set_option linter.unusedVariables false
set_option linter.unusedSimpArgs false
section
variable {P : Program} {T : FuncId → Option Func} {S : Sums} {t t' : Tree Value} {m m' : Mem} {H : CallH}
/-- a region's operations -/
def opsOf : Code → List Oper
  | .region _ ops _ => ops.toList
  | _ => []
theorem states_nil (all : List Oper) : states P H all [] t m = some [(t, m)] := rfl
theorem states_cons (all : List Oper) (o : Oper) (rest : List Oper) : states P H all (o :: rest) t m = match sop1 P H all o t m with
    | some (v, m') => match states P H all rest (put t o.dst v) m' with
      | some l => some ((t, m) :: l)
      | none => none
    | none => none := rfl
theorem eqV_int (k : IntKind) (n : Int) : eqV (.int k n) (.int k n) = true := by simp [eqV]
theorem eqV_slice (a : Option Addr) (n c : Nat) : eqV (.slice a n c) (.slice a n c) = true := by simp [eqV]
theorem eqV_ptr (a : Option Addr) : eqV (.pointer a) (.pointer a) = true := by simp [eqV]
end
end Go.Sh

namespace Go.Sh
section
variable {P : Program} {T : FuncId → Option Func} {S : Sums} {t t' : Tree Value} {m m' : Mem}
theorem cond_t {n : Nat} {a b : Code} {r : Option (SExit × Tree Value × Mem)} (h : t.get n = some (.bool true)) (k : execw P T S a t m = r) : execw P T S (.cond (.tmp n) a b) t m = r := by
  rw [x_cond, ev_tmp, h]
  exact k
theorem cond_f {n : Nat} {a b : Code} {r : Option (SExit × Tree Value × Mem)} (h : t.get n = some (.bool false)) (k : execw P T S b t m = r) : execw P T S (.cond (.tmp n) a b) t m = r := by
  rw [x_cond, ev_tmp, h]
  exact k
end
end Go.Sh

namespace Go.Sh
set_option linter.unusedVariables false
set_option linter.unusedSimpArgs false
def mkF := s_makeSlice
section
variable {P : Program} {H : CallH} {m : Mem} {ρ : Operand → Value} {o : Oper} {d : Option Tmp} {ty : TypeId} {pos : String} {af : Array Edge} {g : Option (Nat × Bool)}
theorem sappend_nil {ty e : TypeId} {z bt k : Nat} {news : List Value} (ht : P.underlying ty = some (.slice e)) (ha : apOk P e z bt = true) (hk : k ≠ 0) (hnews : news.length = k * z) (h1 : news.all one = true) (hb : k * bt ≤ 140737488355328) (h63 : k ≤ 9223372036854775807) :
    sappend P ty m (.slice none 0 0) news k = some (.slice (some ⟨m.next, 0, none⟩) k k, m.new news e) := by
  unfold apOk at ha
  cases hi : P.info? e with
  | none => rw [hi] at ha; simp at ha
  | some i =>
    rw [hi] at ha
    simp only [Option.any_some, Bool.and_eq_true, beq_iff_eq, decide_eq_true_eq] at ha
    obtain ⟨⟨⟨ha1, ha2⟩, ha3⟩, ha4⟩ := ha
    unfold sappend
    simp only [ht, hi]
    rw [if_neg (by simp [ha1, ha3, ha4, hnews]; simpa using h1)]
    rw [if_neg (by simpa using hk)]
    rw [if_pos (by rw [ha2]; simp [hb, h63])]

/-- a slice that is nil, or owned and full -/
def Full (m : Mem) (sv : Value) (cells : List Value) (e : TypeId) (fam : Nat) : Prop :=
  (cells = [] ∧ sv = .slice none 0 0) ∨ (cells ≠ [] ∧ ∃ b, sv = .slice (some ⟨b, 0, none⟩) cells.length cells.length ∧ Own m b cells e fam)

theorem Full.keep {m m' : Mem} {sv : Value} {cells : List Value} {e : TypeId} {fam : Nat} {fs : List Nat} (h : Full m sv cells e fam) (k : Keeps m m' fs) (hf : cells ≠ [] → fam ∉ fs) : Full m' sv cells e fam := by
  rcases h with h | ⟨h1, b, h2, h3⟩
  · exact Or.inl h
  · exact Or.inr ⟨h1, b, h2, h3.keep k (hf h1)⟩
theorem Full.flt {sv : Value} {cells : List Value} {e : TypeId} {fam : Nat} (h : Full m sv cells e fam) (hne : cells ≠ []) : fam < m.next := by
  rcases h with ⟨h, _⟩ | ⟨_, b, _, h3⟩
  · exact absurd h hne
  · exact h3.flt

/-- one more element of one cell -/
theorem append_one {ty e : TypeId} {bt fam : Nat} {sv v : Value} {cells : List Value} {fs : List Nat} (hfs : cells ≠ [] → fam ∈ fs) (ht : P.underlying ty = some (.slice e)) (ha : apOk P e 1 bt = true) (h : Full m sv cells e fam) (hv : one v = true) (hb : (cells.length + 1) * bt ≤ 140737488355328) (h63 : cells.length + 1 ≤ 9223372036854775807) :
    ∃ m' b' fam', sappend P ty (m.new [v] e) sv [v] 1 = some (.slice (some ⟨b', 0, none⟩) (cells.length + 1) (cells.length + 1), m') ∧ Own m' b' (cells ++ [v]) e fam' ∧ Keeps m m' fs ∧ ((cells ≠ [] ∧ fam' = fam) ∨ m.next ≤ fam') ∧ m.next < m'.next := by
  rcases h with ⟨rfl, rfl⟩ | ⟨h1, b, rfl, h3⟩
  · refine ⟨(m.new [v] e).new [v] e, (m.new [v] e).next, (m.new [v] e).next, ?_, Own.new _ _ _, (keeps_new _ _ _ _).trans (keeps_new _ _ _ _), Or.inr (by simp [Mem.new]), by simp [Mem.new]; omega⟩
    have := sappend_nil (m := m.new [v] e) (k := 1) (news := [v]) ht ha (by omega) rfl (by simp [hv]) (by simpa using hb) (by omega)
    simpa using this
  · have ho := h3.new_other [v] e
    refine ⟨_, (m.new [v] e).next, fam, sappend_full ht ha ho (by simp) (by omega) rfl (by simp [hv]) hb h63, ho.grow _ true, (keeps_new _ _ _ _).trans (ho.keeps_grow _ true (hfs h1)), Or.inl ⟨h1, rfl⟩, by simp [Mem.grow, Mem.new]; omega⟩

theorem o_makeSlice (t : TypeId) (a b : Operand) : sop P H ρ ⟨d, .makeSlice t a b, ty, pos, af, g⟩ m = s_makeSlice P ρ ⟨d, .makeSlice t a b, ty, pos, af, g⟩ t a b m := rfl
theorem make_of {t e : TypeId} {z bt : Nat} (ht : P.underlying t = some (.slice e)) (ha : apOk P e z bt = true) (a b : Operand) : s_makeSlice P ρ o t a b m = match ρ a, ρ b with
    | .int _ x, .int _ y => if 0 ≤ x ∧ x ≤ y ∧ y ≤ 9223372036854775807 ∧ y.toNat * bt ≤ 281474976710656 then (match zerosOf P e x.toNat with
      | some zs => some (.slice (some ⟨m.next, 0, none⟩) x.toNat x.toNat, m.new zs e)
      | none => none) else mkF P ρ o t a b m
    | _, _ => mkF P ρ o t a b m := by
  unfold apOk at ha
  cases hi : P.info? e with
  | none => rw [hi] at ha; simp at ha
  | some i =>
    rw [hi] at ha
    simp only [Option.any_some, Bool.and_eq_true, beq_iff_eq, decide_eq_true_eq] at ha
    obtain ⟨⟨⟨ha1, ha2⟩, ha3⟩, ha4⟩ := ha
    cases hx : ρ a with
    | int k x =>
      cases hy : ρ b with
      | int j y =>
        by_cases h : 0 ≤ x ∧ x ≤ y ∧ y ≤ 9223372036854775807 ∧ y.toNat * bt ≤ 281474976710656
        · simp only [if_pos h]
          have n1 : natOf (.int k x) = some x.toNat := by simp [natOf]; omega
          have n2 : natOf (.int j y) = some y.toNat := by simp [natOf]; omega
          simp only [s_makeSlice, ht, hi, hx, hy, n1, n2]
          cases zerosOf P e x.toNat with
          | none => rfl
          | some zs =>
            simp only
            rw [if_pos (by simp [ha1, ha2, ha3, h.2.2.2]; omega)]
        · simp only [if_neg h]; rfl
      | _ => rfl
    | _ => rfl
end
end Go.Sh

/- A call whose arguments are slices that are only read: their cells lie in the abstract memory from the start. -/
namespace Go.Sh
open Go.RowKit Go.WideShapes Go.ChangeShapes
set_option linter.unusedVariables false
set_option linter.unusedSimpArgs false

variable {P : Program} {J : Inj} {m : Mem} {w : World}

/-- a slice that was handed in: its cells (up to its length), its element's type and size, where it lies -/
structure SArg where
  cells : List Value
  e : TypeId
  a : Addr
  n : Nat
  cap : Nat
  z : Nat

/-- the frame of a call: all that is there -/
def allF (w : World) : Frame := ⟨(· < w.heap.size), fun _ => False, fun _ h => h.elim⟩

structure SArg.Ok (P : Program) (w : World) (s : SArg) : Prop where
  info : ∃ i, P.info? s.e = some i ∧ i.size = s.z
  clo : closedL s.cells = true
  le : s.n ≤ s.cap
  max : s.cap ≤ 9223372036854775807
  spot : s.cap ≠ 0 → s.a.spot = none
  lt : s.cells ≠ [] → s.a.block < w.heap.size
  cell : ∀ i v, s.cells[i]? = some v → w.cell? ⟨s.a.block, s.a.off + i, none⟩ = some v

def addArg (m : Mem) (s : SArg) : Mem :=
  match s.cells with
  | [] => { next := m.next + 1, blks := m.blks, fams := m.fams, maps := m.maps }
  | _ :: _ => { next := m.next + 1, blks := m.blks.set m.next ⟨s.cells, s.e, m.next⟩, fams := m.fams.set m.next ⟨none, m.next⟩, maps := m.maps }

def SArg.val (s : SArg) (l : Nat) : Value := .slice (some ⟨l, 0, none⟩) s.n s.n

theorem addArg_next (m : Mem) (s : SArg) : (addArg m s).next = m.next + 1 := by unfold addArg; split <;> rfl
theorem addArg_maps (m : Mem) (s : SArg) : (addArg m s).maps = m.maps := by unfold addArg; split <;> rfl

theorem addArg_read {m : Mem} {s : SArg} (hdom : ∀ l b, m.blks.get l = some b → l < m.next) (l : Nat) (b : Blk) (h : (addArg m s).readable l = some b) :
    (l = m.next ∧ s.cells ≠ [] ∧ b = ⟨s.cells, s.e, m.next⟩) ∨ (l < m.next ∧ m.readable l = some b) := by
  unfold addArg at h
  split at h
  · exact Or.inr ⟨hdom l b (Mem.readable_iff.1 h).1, h⟩
  · rename_i v r hc
    obtain ⟨g1, f, g2, g3⟩ := Mem.readable_iff.1 h
    simp only at g1 g2
    by_cases e : l = m.next
    · subst e
      rw [Tree.get_set_self] at g1
      simp only [Option.some.injEq] at g1
      exact Or.inl ⟨rfl, by rw [hc]; simp, g1.symm⟩
    · rw [Tree.get_set_ne _ _ e] at g1
      have hl := hdom l b g1
      refine Or.inr ⟨hl, ?_⟩
      by_cases ef : b.fam = m.next
      · rw [ef, Tree.get_set_self] at g2
        simp only [Option.some.injEq] at g2
        subst g2
        simp only at g3
        omega
      · rw [Tree.get_set_ne _ _ ef] at g2
        exact Mem.readable_iff.2 ⟨g1, f, g2, g3⟩

theorem addArg_write {m : Mem} {s : SArg} (hdom : ∀ l b, m.blks.get l = some b → l < m.next) (l : Nat) (b : Blk) (h : (addArg m s).writable l = some b) : l < m.next ∧ m.writable l = some b := by
  unfold addArg at h
  split at h
  · exact ⟨hdom l b (Mem.writable_iff.1 h).1, h⟩
  · obtain ⟨g1, f, g2, g3, g4⟩ := Mem.writable_iff.1 h
    simp only at g1 g2
    by_cases ef : b.fam = m.next
    · rw [ef, Tree.get_set_self] at g2
      simp only [Option.some.injEq] at g2
      subst g2
      cases g3
    · rw [Tree.get_set_ne _ _ ef] at g2
      by_cases e : l = m.next
      · subst e
        rw [Tree.get_set_self] at g1
        simp only [Option.some.injEq] at g1
        subst g1
        exact absurd rfl ef
      · rw [Tree.get_set_ne _ _ e] at g1
        exact ⟨hdom l b g1, Mem.writable_iff.2 ⟨g1, f, g2, g3, g4⟩⟩

theorem MRel.addArg (h : MRel P J m (allF w) w w) {s : SArg} (hs : s.Ok P w) : MRel P (J.snoc s.a.block s.a.off (s.cap * s.z) s.z) (Sh.addArg m s) (allF w) w w := by
  have hJ := h.n
  have hlt := fun l (hl : l < m.next) => (hJ ▸ hl : l < J.n)
  have hself : (J.snoc s.a.block s.a.off (s.cap * s.z) s.z).blk m.next = s.a.block := by simp [Inj.snoc, hJ]
  have hbase : (J.snoc s.a.block s.a.off (s.cap * s.z) s.z).base m.next = s.a.off := by simp [Inj.snoc, hJ]
  have hblk : ∀ l, l < m.next → (J.snoc s.a.block s.a.off (s.cap * s.z) s.z).blk l = J.blk l := fun l hl => J.snoc_blk_lt (hlt l hl) _ _ _ _
  have hbas : ∀ l, l < m.next → (J.snoc s.a.block s.a.off (s.cap * s.z) s.z).base l = J.base l := fun l hl => J.snoc_base_lt (hlt l hl) _ _ _ _
  have rd := fun l b => addArg_read (s := s) h.dom l b
  have wr := fun l b => addArg_write (s := s) h.dom l b
  constructor
  · rw [addArg_next]; simp [Inj.snoc, hJ]
  · intro l b hl
    rw [addArg_next]
    unfold Sh.addArg at hl
    split at hl
    · have := h.dom l b hl; omega
    · simp only [Tree.get_set] at hl
      split at hl
      · omega
      · have := h.dom l b hl; omega
  · intro l b hl
    unfold Sh.addArg at hl
    split at hl
    · rw [J.snoc_esz_lt (hlt _ (h.dom l b hl))]; exact h.esz l b hl
    · simp only [Tree.get_set] at hl
      split at hl
      · rename_i e
        subst e
        simp only [Option.some.injEq] at hl
        subst hl
        obtain ⟨i, h1, h2⟩ := hs.info
        exact ⟨i, h1, by simp [Inj.snoc, hJ, h2]⟩
      · rw [J.snoc_esz_lt (hlt _ (h.dom l b hl))]; exact h.esz l b hl
  · intro l b hl
    rcases rd l b hl with ⟨rfl, hne, _⟩ | ⟨g1, g2⟩
    · rw [hself]; exact hs.lt hne
    · rw [hblk l g1]; exact h.blk l b g2
  · intro l b hl i v hv
    rcases rd l b hl with ⟨rfl, hne, rfl⟩ | ⟨g1, g2⟩
    · rw [hself, hbase]
      exact ⟨v, hs.cell i v hv, .clo _ ((closedL_iff _).1 hs.clo v (List.mem_of_getElem? hv))⟩
    · obtain ⟨v', k1, k2⟩ := h.rd l b g2 i v hv
      exact ⟨v', by rw [hblk l g1, hbas l g1]; exact k1, k2.snoc _ _ _ _⟩
  · intro l b hl
    obtain ⟨g1, g2⟩ := wr l b hl
    obtain ⟨v1, v2, v3, v4⟩ := h.wr l b g2
    rw [hblk l g1, hbas l g1, J.snoc_ext_lt (hlt l g1)]
    exact ⟨v1, v2, v3, v4⟩
  · intro l1 b1 l2 b2 h1 h2 e
    obtain ⟨g1, g2⟩ := wr l1 b1 h1
    rcases rd l2 b2 h2 with ⟨rfl, hne, rfl⟩ | ⟨k1, k2⟩
    · rw [hself, hblk l1 g1] at e
      exact absurd (show (allF w).F (J.blk l1) by rw [← e]; exact hs.lt hne) (h.wr l1 b1 g2).1
    · rw [hblk l1 g1, hblk l2 k1] at e
      rw [hbas l2 k1, hbas l1 g1]
      exact h.sep l1 b1 l2 b2 g2 k2 e
  · exact h.below
  · exact h.size
  · intro g hg
    obtain ⟨g1, g2, g3⟩ := h.glob g hg
    exact ⟨Nat.lt_of_lt_of_le g1 (J.le_snoc _ _ _ _).n, by rw [J.snoc_blk_lt g1]; exact g2, by rw [J.snoc_base_lt g1]; exact g3⟩
  · intro l s1 h1
    rw [addArg_maps] at h1
    obtain ⟨q1, q2, es', q3, q4⟩ := h.mp l s1 h1
    exact ⟨by rw [addArg_next]; omega, by rw [hblk l q1]; exact q2, es', by rw [hblk l q1]; exact q3, q4.mono (J.le_snoc _ _ _ _)⟩
  · intro l1 l2 s1 s2 h1 h2 e
    rw [addArg_maps] at h1 h2
    rw [hblk _ (h.mp l1 s1 h1).1, hblk _ (h.mp l2 s2 h2).1] at e
    exact h.mi l1 l2 s1 s2 h1 h2 e
  · intro l1 s1 l2 b2 h1 h2
    rw [addArg_maps] at h1
    obtain ⟨q1, q2, _⟩ := h.mp l1 s1 h1
    rw [hblk l1 q1]
    rcases rd l2 b2 h2 with ⟨rfl, hne, _⟩ | ⟨k1, k2⟩
    · rw [hself]
      exact fun e => q2 (show (allF w).F (J.blk l1) by rw [← e]; exact hs.lt hne)
    · rw [hblk l2 k1]; exact h.ms l1 s1 l2 b2 h1 k2
  · exact fun _ _ _ h => h
  · intro l b hl
    obtain ⟨g1, g2⟩ := wr l b hl
    rw [hblk l g1]
    exact h.sh l b g2

/-- the slice's value in the abstract run and in the model -/
theorem arg_rel (h : MRel P J m (allF w) w w) {s : SArg} (hs : s.Ok P w) : VRel (J.snoc s.a.block s.a.off (s.cap * s.z) s.z) (s.val m.next) (.slice (some s.a) s.n s.cap) := by
  have := VRel.slice (J := J.snoc s.a.block s.a.off (s.cap * s.z) s.z) m.next 0 s.n s.a s.cap (by simp [Inj.snoc, h.n]) hs.le hs.max (by simp [Inj.snoc, h.n]) (by
    by_cases hc : s.cap = 0
    · exact Or.inl hc
    · right
      have := hs.spot hc
      obtain ⟨⟨b, o, sp⟩, _⟩ : ∃ a : Addr, a = s.a := ⟨s.a, rfl⟩
      cases ha : s.a with
      | mk b o sp =>
        rw [ha] at this
        simp only at this
        subst this
        simp [Inj.snoc, h.n])
  exact this

/-- what can be read of it -/
theorem arg_rdo {s : SArg} (hne : s.cells ≠ []) : (Sh.addArg m s).blks.get m.next = some ⟨s.cells, s.e, m.next⟩ ∧ (Sh.addArg m s).fams.get m.next = some ⟨none, m.next⟩ := by
  unfold Sh.addArg
  split
  · rename_i hc; exact absurd hc hne
  · exact ⟨by simp [Tree.get_set_self], by simp [Tree.get_set_self]⟩

/-- THE CALL. -/
theorem calls_of (hm : P.follows .mixedOrders = true) {T : FuncId → Option Func} (hT : TabOk P T) {S : Sums} (hSm : SumsOk P S) {f : FuncId} {fn : Func} (hf : P.funcs[f]? = some fn) (hb : fn.body.isSome = true) {args args' : List Value} {m' : Mem} {v : Value}
    (h : callw P T S f args m = some (v, m')) (hv : closedV v = true) (hM : MRel P J m (allF w) w w) (hl : LRel J args args') :
    Calls P f args'.toArray w fun e w' => e = .returned v ∧ Below w.heap.size w w' := by
  obtain ⟨n, hc⟩ := callw_iff.1 h
  rcases call_sound (B := allF w) (W := w) hm hT hSm n f args m _ _ hc with ⟨_, hcall⟩ | ⟨_, hx⟩
  · refine (hcall J args' w hl hM).mono ?_
    rintro e w' ⟨J', v', _, rfl, hv', hM'⟩
    rw [hv'.closed_eq hv]
    exact ⟨rfl, hM'.below.below⟩
  · obtain ⟨_, _, hx⟩ := hx J args' hl
    have h1 := hx w
    exfalso
    simp only [callFunc, Sem.run_bind, run_program, Result.andThen_ok, hf] at h1
    cases hbd : fn.body with
    | none => simp [hbd] at hb
    | some c =>
      by_cases hn : fn.name = "runtime.NumGoroutine" <;> simp [hn, hbd] at h1

/-- the start: the variables' numbers alone -/
theorem start_rel (P : Program) (w : World) : MRel P (inj0 P) (mem0 P) (allF w) w w := memG_rel P w [] (fun p hp => by simp at hp)

section
variable {H : Type} {enc : TypeId × Value → H}
/-- a slice of integers that was handed in -/
theorem ints_arg {r : Reach} {b0 : Nat} {t e : TypeId} {k : IntKind} {v : Value} {d : DataW H} {ps : List MemPlace} {i : TypeInfo} (ht : P.underlying t = some (.slice e)) (he : P.underlying e = some (.int k)) (hi : P.info? e = some i) (hz : i.size = 1)
    (hval : Value.okWide P w r b0 t v) (hd : DataW.Trod enc P w 0 (fun _ => true) true t v d ps) :
    v = .slice none 0 0 ∨ ∃ (s : SArg) (zs : List Int), s.Ok P w ∧ s.cells = zs.map (Value.int k) ∧ s.n = zs.length ∧ s.e = e ∧ s.z = 1 ∧ v = .slice (some s.a) s.n s.cap ∧ ∀ n ∈ zs, (Lit.int k n).wf = true := by
  obtain ⟨a0, l0, c0, rfl⟩ := okWide_slice ht hval
  obtain ⟨fuel, hf⟩ := hd
  have hc : P.cellsOf e = 1 := by unfold Program.cellsOf; rw [hi]; simpa using hz
  rcases open_ints ht he hc hf with ⟨h1, _⟩ | ⟨a, len, cap, zs, h1, h2, h3, h4, h5, h6, h7, h8⟩
  · simp [Value.cells] at h1
    obtain ⟨rfl, rfl, rfl⟩ := h1
    exact Or.inl rfl
  · right
    simp [Value.cells] at h1
    obtain ⟨rfl, rfl, rfl⟩ := h1
    simp only [if_true] at h5
    have hspot : c0 ≠ 0 → a.spot = none := by
      intro hc0
      have := h7 0 (by omega)
      simp only [Addr.add, if_true] at this
      unfold World.cell? at this
      split at this
      · cases hs : a.spot with
        | none => rfl
        | some q => rw [hs] at this; simp at this
      · cases this
    have hcell : ∀ j, j < zs.length → w.cell? ⟨a.block, a.off + j, none⟩ = some (.int k (zs.getD j 0)) := by
      intro j hj
      have := h7 j hj
      have hadd : a.add j = ⟨a.block, a.off + j, none⟩ := by
        have hs := hspot (by omega)
        unfold Addr.add
        by_cases h0 : j = 0
        · subst h0
          cases a with
          | mk b o sp => simp only at hs; subst hs; simp
        · rw [if_neg h0]
      rw [← hadd]; exact this
    refine ⟨⟨(zs.take l0).map (Value.int k), e, a, l0, c0, 1⟩, zs.take l0, ⟨⟨i, hi, hz⟩, ?_, h3, by simpa [maxLen] using h4, hspot, ?_, ?_⟩, rfl, by simp; omega, rfl, rfl, rfl, fun n hn => h8 n (List.mem_of_mem_take hn)⟩
    · rw [closedL_iff]
      intro v hv
      simp only [List.mem_map] at hv
      obtain ⟨x, _, rfl⟩ := hv
      rfl
    · intro hne
      have hz0 : 0 < zs.length := by
        cases zs with
        | nil => simp at hne
        | cons _ _ => simp
      have := World.block_lt_of_cell? w ⟨a.block, a.off + 0, none⟩ (hcell 0 hz0)
      exact this
    · intro j v hv
      simp only [List.getElem?_map, Option.map_eq_some_iff] at hv
      obtain ⟨x, hx, rfl⟩ := hv
      rw [List.getElem?_take] at hx
      split at hx
      · have hj := (List.getElem?_eq_some_iff.1 hx).1
        simp only
        rw [hcell j hj]
        simp [List.getD_eq_getElem?_getD, hx]
      · cases hx
end

theorem keeps_addArg (m : Mem) (s : SArg) : Keeps m (Sh.addArg m s) [] := by
  unfold Sh.addArg
  split
  · exact ⟨by simp, fun _ _ _ h _ _ => h, fun _ _ _ => rfl, fun _ _ _ => rfl⟩
  · refine ⟨by simp, fun l b hl hb _ _ => ?_, fun f hf _ => ?_, fun _ _ _ => rfl⟩
    · simp only; rw [Tree.get_set_ne _ _ (by omega)]; exact hb
    · simp only; rw [Tree.get_set_ne _ _ (by omega)]

/-- a slice of integers, of whatever kind of reading -/
def IntsArg (P : Program) (w : World) (k : IntKind) (e : TypeId) (v : Value) : Prop :=
  v = .slice none 0 0 ∨ ∃ (s : SArg) (zs : List Int), s.Ok P w ∧ s.cells = zs.map (Value.int k) ∧ s.n = zs.length ∧ s.e = e ∧ s.z = 1 ∧ v = .slice (some s.a) s.n s.cap ∧ ∀ n ∈ zs, (Lit.int k n).wf = true

/-- IT IS LAID IN. -/
theorem ints_in (hM : MRel P J m (allF w) w w) {e : TypeId} {k : IntKind} (he : sizeOfT P e = some 1) {v : Value} (hv : IntsArg P w k e v) :
    ∃ (zs : List Int) (J' : Inj) (m' : Mem) (ao : Option Addr) (c la lf : Nat), J.le J' ∧ MRel P J' m' (allF w) w w ∧ VRel J' (.slice ao zs.length c) v ∧ (zs ≠ [] → ao = some ⟨la, 0, none⟩) ∧ (zs ≠ [] → Rdo m' la (zs.map (Value.int k)) e lf) ∧ lf < m'.next ∧ Keeps m m' [] ∧
      zs.length ≤ 9223372036854775807 ∧ ∀ n ∈ zs, (Lit.int k n).wf = true := by
  rcases hv with rfl | ⟨s, zs, hs, h1, h2, h3, h4, rfl, h5⟩
  · have hok : (⟨[], e, ⟨0, 0, none⟩, 0, 0, 1⟩ : SArg).Ok P w := ⟨Option.map_eq_some_iff.1 he, rfl, Nat.le_refl _, by simp, fun h => absurd rfl h, fun h => absurd rfl h, fun i v hv => by simp at hv⟩
    exact ⟨[], _, _, none, 0, 0, m.next, J.le_snoc _ _ _ _, hM.addArg hok, .clo _ rfl, fun h => absurd rfl h, fun h => absurd rfl h, by rw [addArg_next]; omega, keeps_addArg _ _, by simp, fun n hn => by simp at hn⟩
  · have hr := arg_rel hM hs
    unfold SArg.val at hr
    refine ⟨zs, _, _, some ⟨m.next, 0, none⟩, zs.length, m.next, m.next, J.le_snoc _ _ _ _, hM.addArg hs, by rw [h2] at hr ⊢; exact hr, fun _ => rfl, fun hz => ?_, by rw [addArg_next]; omega, keeps_addArg _ _, by have := hs.le; have := hs.max; omega, h5⟩
    obtain ⟨g1, g2⟩ := arg_rdo (m := m) (s := s) (by rw [h1]; simpa using hz)
    refine ⟨?_, ⟨_, g2, Nat.le_refl _⟩, by rw [addArg_next]; omega, by rw [addArg_next]; omega⟩
    rw [g1, h1, h3]
end Go.Sh
