/-
  This text proves what 'All' of package token does over the abstract run: 'allR'.
  Condition: nothing is known of their calls ahead ('S f = []').
-/
import Derived.Test.YtgomgdbapgibjaaDoorTokF
set_option maxRecDepth 100000
set_option linter.unusedSimpArgs false
set_option linter.unusedVariables false
namespace Go.Proofs.YtgomgdbapgibjaaDoor.base
open Go.Sh gen
variable {S : Sums} {m : Mem} {b f fo : Nat} {ao : Option Addr} {σ : St}
def goF : Nat → St → St
  | 0, σ => σ
  | n + 1, σ => if σ.at_ < σ.s.length ∧ σ.bad = 0 then goF n σ.step else σ
def St.fin1 (σ : St) : St := if σ.bad = 0 ∧ endsB σ.out = true then σ.put 1 [59] 0 else σ
def St.fin2 (σ : St) : St := if σ.bad = 0 then σ.put 0 [] 0 else σ
def zTok : Tok := ⟨0, [], 0, 0, 0⟩
def st0 (s : List UInt8) : St := ⟨s, 0, 1, 1, [], 0, zTok⟩
def St.res (σ : St) : List Tok × Tok × Int := if σ.bad = 0 then (σ.out, zTok, 0) else ([], σ.w, σ.bad)
def allR (s : List UInt8) : List Tok × Tok × Int := if 16384 < s.length then ([], ⟨0, [], 0, 1, 1⟩, 6) else (goF (s.length + 1) (st0 s)).fin1.fin2.res
theorem Bd.skip (h : Bd σ) {n : Nat} (hn : n ≤ (σ.s.drop σ.at_).length) : Bd (σ.skip n) := by
  have := h.a
  have := h.l
  have := h.c
  simp at hn
  exact ⟨h.s, by simp [St.skip]; omega, by simp [St.skip]; omega, by simp [St.skip]; omega, h.o⟩
theorem readR_len {r : List UInt8} {k v : Int} {t : List UInt8} {n : Nat} (h : readR r = .tok k t v n) : 1 ≤ n ∧ n ≤ r.length := by
  cases r with
  | nil => simp [readR] at h
  | cons c q =>
    simp only [readR] at h
    split at h
    · rename_i hl
      simp only [Rd.tok.injEq] at h
      rw [← h.2.2.2]
      refine ⟨?_, tw_le _ _⟩
      have : lod c.toNat = true := by simp [lod, hl]
      simp [wd, List.takeWhile_cons, this]
    · split at h
      · rename_i hd
        split at h
        · simp only [Rd.tok.injEq] at h
          rw [← h.2.2.2]
          refine ⟨?_, tw_le _ _⟩
          simp [nd, List.takeWhile_cons, hd]
        · cases h
      · split at h
        · split at h
          · rename_i x t' hx
            have := textGo_le _ q [] x t' (Nat.le_refl _) hx
            simp only [Rd.tok.injEq] at h
            rw [← h.2.2.2]
            simp only [List.length_cons]
            omega
          · cases h
        · split at h
          · rename_i k' x hx
            simp only [Rd.tok.injEq] at h
            rw [← h.2.2.2]
            unfold signR at hx
            split at hx
            · rename_i h2
              simp only [Option.some.injEq, Prod.mk.injEq] at hx
              rw [← hx.2]
              have := h2.1
              simp at this ⊢
              omega
            · simp only at hx
              split at hx
              · simp only [Option.some.injEq, Prod.mk.injEq] at hx; rw [← hx.2]; simp
              · split at hx
                · simp only [Option.some.injEq, Prod.mk.injEq] at hx; rw [← hx.2]; simp
                · cases hx
          · cases h
theorem readR_err {r : List UInt8} {e : Int} (hr : r ≠ []) (h : readR r = .err e) : e ≠ 0 := by
  cases r with
  | nil => exact absurd rfl hr
  | cons c q =>
    simp only [readR] at h
    split at h
    · cases h
    · split at h
      · split at h
        · cases h
        · simp only [Rd.err.injEq] at h; omega
      · split at h
        · split at h
          · cases h
          · simp only [Rd.err.injEq] at h; omega
        · split at h
          · cases h
          · simp only [Rd.err.injEq] at h; omega
theorem step_ok (hb : Bd σ) (hlt : σ.at_ < σ.s.length) (h0 : σ.bad = 0) : Bd σ.step ∧ (σ.step.bad = 0 → σ.at_ < σ.step.at_) ∧ σ.step.s = σ.s := by
  obtain ⟨c, q, hcq⟩ : ∃ c q, σ.s.drop σ.at_ = c :: q := ⟨_, _, List.drop_eq_getElem_cons hlt⟩
  have hlen : (σ.s.drop σ.at_).length = q.length + 1 := by rw [hcq]; rfl
  unfold St.step
  rw [hcq]
  simp only
  split
  · have key : ∀ τ : St, Bd τ → τ.at_ = σ.at_ → τ.s = σ.s → Bd τ.nl ∧ (τ.nl.bad = 0 → σ.at_ < τ.nl.at_) ∧ τ.nl.s = σ.s := by
      intro τ h1 h2 h3
      have := h1.l
      have := h1.a
      exact ⟨⟨h1.s, by simp [St.nl, h2, h3]; omega, by simp [St.nl]; omega, by simp [St.nl], h1.o⟩, fun _ => by simp [St.nl, h2], h3⟩
    split
    · exact key _ (hb.put _ _ _) (put_same σ _ _ _).2.1 (put_same σ _ _ _).1
    · exact key _ hb rfl rfl
  · split
    · exact ⟨hb.skip (by omega), fun _ => by simp [St.skip], rfl⟩
    · split
      · rename_i hcm
        have hle : cmt (c :: q) ≤ (c :: q).length := tw_le _ _
        have hge : 1 ≤ cmt (c :: q) := by
          cases q with
          | nil => simp [isCmt] at hcm
          | cons e q2 =>
            simp only [isCmt, Bool.and_eq_true, decide_eq_true_eq] at hcm
            have : decide (c.toNat ≠ 10) = true := by simp; omega
            simp [cmt, List.takeWhile_cons, this, hcm.1]
        exact ⟨hb.skip (by rw [hcq]; exact hle), fun _ => by simp [St.skip]; omega, rfl⟩
      · unfold St.read
        rw [hcq]
        split
        · rename_i k t v n hr
          obtain ⟨n1, n2⟩ := readR_len hr
          obtain ⟨p1, p2, p3, p4⟩ := put_same σ k t v
          refine ⟨(hb.put k t v).skip (by rw [p1, p2, hcq]; exact n2), fun _ => ?_, by simp [St.skip, p1]⟩
          simp [St.skip, p2]; omega
        · rename_i e hr
          have he := readR_err (by simp) hr
          obtain ⟨p1, p2, p3, p4, p5⟩ := fault_same σ e
          refine ⟨(hb.fault e).skip (by simp), fun h => ?_, by simp [St.skip, p1]⟩
          simp [St.skip, St.fault, h0] at h
          exact absurd h he
end Go.Proofs.YtgomgdbapgibjaaDoor.base

