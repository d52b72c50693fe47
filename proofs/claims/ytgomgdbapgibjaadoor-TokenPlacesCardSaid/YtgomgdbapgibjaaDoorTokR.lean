/-
  This text proves where the tokens of a text stand (plain law, no program in sight).
  No condition.
-/
import Derived.Test.YtgomgdbapgibjaaDoorTokH
set_option maxRecDepth 100000
set_option linter.unusedSimpArgs false
set_option linter.unusedVariables false
namespace Go.Proofs.YtgomgdbapgibjaaDoor.base
open Go.Sh gen

/-- line and column behind some bytes -/
def posF (l : List UInt8) : Nat × Nat := l.foldl (fun p c => if c.toNat = 10 then (p.1 + 1, 1) else (p.1, p.2 + 1)) (1, 1)
def posOf (s : List UInt8) (i : Nat) : Nat × Nat := posF (s.take i)
theorem posF_cat (l m : List UInt8) (h : ∀ c ∈ m, c.toNat ≠ 10) : posF (l ++ m) = ((posF l).1, (posF l).2 + m.length) := by
  induction m generalizing l with
  | nil => simp
  | cons c m ih =>
    have e : l ++ c :: m = (l ++ [c]) ++ m := by simp
    have h1 : posF (l ++ [c]) = ((posF l).1, (posF l).2 + 1) := by
      simp only [posF, List.foldl_append, List.foldl_cons, List.foldl_nil]
      rw [if_neg (h c (by simp))]
    rw [e, ih _ (fun x hx => h x (by simp [hx])), h1]
    simp
    omega
theorem posF_nl (l : List UInt8) {c : UInt8} (h : c.toNat = 10) : posF (l ++ [c]) = ((posF l).1 + 1, 1) := by
  simp only [posF, List.foldl_append, List.foldl_cons, List.foldl_nil]
  rw [if_pos h]
theorem posOf_skip {s : List UInt8} {i n : Nat} (h : ∀ c ∈ (s.drop i).take n, c.toNat ≠ 10) (hn : i + n ≤ s.length) : posOf s (i + n) = ((posOf s i).1, (posOf s i).2 + n) := by
  unfold posOf
  rw [List.take_add, posF_cat _ _ h]
  simp
  omega
theorem posOf_nl {s : List UInt8} {i : Nat} (hi : i < s.length) (h : (s[i]).toNat = 10) : posOf s (i + 1) = ((posOf s i).1 + 1, 1) := by
  unfold posOf
  rw [List.take_add, List.drop_eq_getElem_cons hi]
  exact posF_nl _ h
theorem posOf_col {s : List UInt8} {i : Nat} (hi : i < s.length) (h : ¬ (s[i]).toNat = 10) : posOf s (i + 1) = ((posOf s i).1, (posOf s i).2 + 1) := by
  refine posOf_skip (n := 1) ?_ (by omega)
  intro c hc
  rw [List.drop_eq_getElem_cons hi] at hc
  simp only [List.take_succ_cons, List.take_zero, List.mem_singleton] at hc
  rw [hc]
  exact h
/-- each place has its own line and column -/
theorem posOf_lt (s : List UInt8) : ∀ (n i : Nat), i + n + 1 ≤ s.length → (posOf s i).1 < (posOf s (i + n + 1)).1 ∨ ((posOf s i).1 = (posOf s (i + n + 1)).1 ∧ (posOf s i).2 < (posOf s (i + n + 1)).2)
  | 0, i, h => by
    by_cases e : (s[i]).toNat = 10
    · rw [Nat.add_zero, posOf_nl (by omega) e]; simp
    · rw [Nat.add_zero, posOf_col (by omega) e]; simp
  | n + 1, i, h => by
    have ih := posOf_lt s n i (by omega)
    have e0 : i + (n + 1) + 1 = (i + n + 1) + 1 := by omega
    rw [e0]
    by_cases e : (s[i + n + 1]).toNat = 10
    · rw [posOf_nl (by omega) e]; simp; omega
    · rw [posOf_col (by omega) e]; simp; omega
theorem posOf_inj {s : List UInt8} {i j : Nat} (hi : i ≤ s.length) (hj : j ≤ s.length) (h : posOf s i = posOf s j) : i = j := by
  rcases Nat.lt_trichotomy i j with hl | hl | hl
  · have := posOf_lt s (j - i - 1) i (by omega)
    have e : i + (j - i - 1) + 1 = j := by omega
    rw [e, h] at this
    omega
  · exact hl
  · have := posOf_lt s (i - j - 1) j (by omega)
    have e : j + (i - j - 1) + 1 = i := by omega
    rw [e, h] at this
    omega

/-- a token stands whole at the front of a text -/
def Wh (r : List UInt8) (k : Int) (t : List UInt8) : Prop :=
  (k = 1 ∧ (r = [] ∨ ∃ c q, r = c :: q ∧ (c.toNat = 10 ∨ c.toNat = 59))) ∨ (k = 5 ∧ ∃ c q, r = c :: q ∧ c.toNat = 34) ∨ ((k = 2 ∨ k = 3 ∨ k = 4 ∨ k = 6) ∧ t.length ≤ r.length ∧ r.take t.length = t)
theorem escB_nl {n : Nat} {k : UInt8} (h : escB n = some k) : n ≠ 10 := by
  intro e
  subst e
  simp [escB, esc] at h
theorem text_nl : ∀ (n : Nat) (s acc a t : List UInt8), s.length ≤ n → textGo s acc = some (a, t) → ∀ c ∈ s.take (s.length - t.length), c.toNat ≠ 10
  | 0, s, acc, a, t, h, he => by
    have : s = [] := List.length_eq_zero_iff.1 (by omega)
    subst this
    simp [textGo] at he
  | n + 1, [], acc, a, t, h, he => by simp [textGo] at he
  | n + 1, c :: r, acc, a, t, h, he => by
    have hle := textGo_le _ _ _ _ _ (Nat.le_refl _) he
    rw [textGo_cons] at he
    simp only [List.length_cons] at h hle
    split at he
    · rename_i hc
      split at he
      · simp only [Option.some.injEq, Prod.mk.injEq] at he
        rw [← he.2]
        have e : (c :: r).length - r.length = 1 := by simp
        rw [e]
        simp
        omega
      · cases he
    · split at he
      · rename_i hc
        cases r with
        | nil => simp at he
        | cons e q =>
          simp only at he
          split at he
          · rename_i k hk
            have ih := text_nl n q _ a t (by simp at h; omega) he
            have hq := textGo_le _ _ _ _ _ (Nat.le_refl _) he
            have e1 : (c :: e :: q).length - t.length = (q.length - t.length) + 1 + 1 := by simp; omega
            rw [e1]
            simp only [List.take_succ_cons, List.mem_cons]
            rintro x (rfl | rfl | hx)
            · omega
            · exact escB_nl hk
            · exact ih x hx
          · cases he
      · split at he
        · cases he
        · rename_i h1 h2
          have ih := text_nl n r _ a t (by omega) he
          have hq := textGo_le _ _ _ _ _ (Nat.le_refl _) he
          have e1 : (c :: r).length - t.length = (r.length - t.length) + 1 := by simp; omega
          rw [e1]
          simp only [List.take_succ_cons, List.mem_cons]
          rintro x (rfl | hx)
          · omega
          · exact ih x hx
theorem readR_whole {r : List UInt8} {k v : Int} {t : List UInt8} {n : Nat} (h : readR r = .tok k t v n) : (∀ c ∈ r.take n, c.toNat ≠ 10) ∧ Wh r k t := by
  have htw : ∀ (p : UInt8 → Bool) (c : UInt8), c ∈ r.takeWhile p → p c = true := fun p c hc => by
    have := List.all_takeWhile (l := r) (p := p)
    rw [List.all_eq_true] at this
    exact this c hc
  cases r with
  | nil => simp [readR] at h
  | cons c q =>
    simp only [readR] at h
    split at h
    · simp only [Rd.tok.injEq] at h
      obtain ⟨h1, h2, h3, h4⟩ := h
      subst h2 h4
      refine ⟨fun x hx => ?_, Or.inr (Or.inr ⟨?_, tw_le _ _, tw_take _ _⟩)⟩
      · rw [wd, tw_take] at hx
        have := htw _ _ hx
        simp [lod, ltr, dgt] at this
        omega
      · split at h1 <;> omega
    · split at h
      · split at h
        · simp only [Rd.tok.injEq] at h
          obtain ⟨h1, h2, h3, h4⟩ := h
          subst h2 h4
          refine ⟨fun x hx => ?_, Or.inr (Or.inr ⟨by omega, tw_le _ _, tw_take _ _⟩)⟩
          rw [nd, tw_take] at hx
          have := htw _ _ hx
          simp [dgt] at this
          omega
        · cases h
      · split at h
        · rename_i hc
          split at h
          · rename_i x t' hx
            simp only [Rd.tok.injEq] at h
            obtain ⟨h1, h2, h3, h4⟩ := h
            have ht := text_nl _ _ _ _ _ (Nat.le_refl _) hx
            have hle := textGo_le _ _ _ _ _ (Nat.le_refl _) hx
            refine ⟨fun y hy => ?_, Or.inr (Or.inl ⟨h1.symm, c, q, rfl, hc⟩)⟩
            have e1 : n = (q.length - t'.length) + 1 := by simp at h4; omega
            rw [e1] at hy
            simp only [List.take_succ_cons, List.mem_cons] at hy
            rcases hy with rfl | hy
            · omega
            · exact ht y hy
          · cases h
        · split at h
          · rename_i k' x hx
            simp only [Rd.tok.injEq] at h
            obtain ⟨h1, h2, h3, h4⟩ := h
            subst h1 h2 h4
            unfold signR at hx
            split at hx
            · rename_i hl
              simp only [Option.some.injEq, Prod.mk.injEq] at hx
              obtain ⟨rfl, rfl⟩ := hx
              have hlen : (List.take 2 (c :: q)).length = 2 := by
                have := hl.1
                simp at this ⊢
                omega
              rw [hlen]
              refine ⟨fun y hy => ?_, Or.inr (Or.inr ⟨by omega, by omega, by rw [hlen]⟩)⟩
              have hm := hl.2
              generalize List.take 2 (c :: q) = z at hm hy
              have : ∀ z ∈ twoL, ∀ y ∈ z, y.toNat ≠ 10 := by decide
              exact this z hm y hy
            · simp only at hx
              split at hx
              · rename_i hc
                simp only [Option.some.injEq, Prod.mk.injEq] at hx
                obtain ⟨rfl, rfl⟩ := hx
                refine ⟨fun y hy => ?_, Or.inl ⟨rfl, Or.inr ⟨c, q, rfl, Or.inr hc⟩⟩⟩
                simp at hy
                subst hy
                omega
              · split at hx
                · rename_i hc
                  simp only [Option.some.injEq, Prod.mk.injEq] at hx
                  obtain ⟨rfl, rfl⟩ := hx
                  refine ⟨fun y hy => ?_, Or.inr (Or.inr ⟨by omega, by simp, by simp⟩)⟩
                  simp at hy
                  subst hy
                  intro e
                  rw [e] at hc
                  exact absurd hc (by decide)
                · cases hx
          · cases h

/-- a token stands at a place -/
structure Pl (s : List UInt8) (q : Tok × Nat) : Prop where
  l : q.1.l = (posOf s q.2).1
  c : q.1.c = (posOf s q.2).2
  w : q.1.k = 0 ∨ Wh (s.drop q.2) q.1.k q.1.t
  i : q.2 ≤ s.length
structure Good (s : List UInt8) (σ : St) (qs : List (Tok × Nat)) : Prop where
  hs : σ.s = s
  out : σ.out = qs.map (·.1)
  pl : ∀ q ∈ qs, Pl s q ∧ q.2 ≤ σ.at_
  srt : qs.Pairwise (fun a b => a.2 ≤ b.2)
  pos : posOf s σ.at_ = (σ.line, σ.col)
  at_ : σ.at_ ≤ s.length
theorem Good.put {s : List UInt8} {σ : St} {qs : List (Tok × Nat)} (h : Good s σ qs) (k : Int) (t : List UInt8) (v : Int) (hb : (σ.put k t v).bad = 0) (hw : k = 0 ∨ Wh (s.drop σ.at_) k t) : Good s (σ.put k t v) (qs ++ [(⟨k, t, v, σ.line, σ.col⟩, σ.at_)]) := by
  unfold St.put at hb ⊢
  split at hb
  · simp at hb
  · rename_i hn
    rw [if_neg hn]
    refine ⟨h.hs, by simp [h.out], ?_, ?_, h.pos, h.at_⟩
    · intro q hq
      rcases List.mem_append.1 hq with hq | hq
      · exact h.pl q hq
      · simp at hq
        subst hq
        exact ⟨⟨by rw [h.pos], by rw [h.pos], hw, h.at_⟩, Nat.le_refl _⟩
    · rw [List.pairwise_append]
      refine ⟨h.srt, by simp, fun a ha b hb => ?_⟩
      simp at hb
      subst hb
      exact (h.pl a ha).2
theorem Good.skip {s : List UInt8} {σ : St} {qs : List (Tok × Nat)} (h : Good s σ qs) {n : Nat} (hn : σ.at_ + n ≤ s.length) (hc : ∀ c ∈ (s.drop σ.at_).take n, c.toNat ≠ 10) : Good s (σ.skip n) qs := by
  refine ⟨h.hs, h.out, fun q hq => ⟨(h.pl q hq).1, Nat.le_trans (h.pl q hq).2 (by simp [St.skip])⟩, h.srt, ?_, hn⟩
  have := posOf_skip hc hn
  rw [h.pos] at this
  exact this
theorem Good.nl {s : List UInt8} {σ : St} {qs : List (Tok × Nat)} (h : Good s σ qs) (hi : σ.at_ < s.length) (hc : (s[σ.at_]).toNat = 10) : Good s σ.nl qs := by
  refine ⟨h.hs, h.out, fun q hq => ⟨(h.pl q hq).1, Nat.le_trans (h.pl q hq).2 (by simp [St.nl])⟩, h.srt, ?_, hi⟩
  have := posOf_nl hi hc
  rw [h.pos] at this
  exact this
theorem Good.step {s : List UInt8} {σ : St} {qs : List (Tok × Nat)} (h : Good s σ qs) (hi : σ.at_ < s.length) (h0 : σ.bad = 0) (hb : σ.step.bad = 0) : ∃ qs, Good s σ.step qs := by
  have hs := h.hs
  have hd : σ.s.drop σ.at_ = s[σ.at_] :: s.drop (σ.at_ + 1) := by rw [hs]; exact List.drop_eq_getElem_cons hi
  have hd2 : s.drop σ.at_ = s[σ.at_] :: s.drop (σ.at_ + 1) := List.drop_eq_getElem_cons hi
  generalize hc : s[σ.at_] = c at hd hd2
  generalize s.drop (σ.at_ + 1) = q at hd hd2
  have hlen : (c :: q).length = s.length - σ.at_ := by rw [← hd2]; simp
  unfold St.step at hb ⊢
  rw [hd] at hb ⊢
  simp only at hb ⊢
  split
  · rename_i hnl
    rw [if_pos hnl] at hb
    split
    · rename_i he
      rw [if_pos he] at hb
      have hb1 : (σ.put 1 [59] 0).bad = 0 := hb
      have g := h.put 1 [59] 0 hb1 (Or.inr (Or.inl ⟨rfl, Or.inr ⟨c, q, hd2, Or.inl hnl⟩⟩))
      obtain ⟨_, e2, _, _⟩ := put_same σ 1 [59] 0
      exact ⟨_, g.nl (by rw [e2]; exact hi) (by simp only [e2]; rw [hc]; exact hnl)⟩
    · exact ⟨_, h.nl hi (by rw [hc]; exact hnl)⟩
  · rename_i hnl
    rw [if_neg hnl] at hb
    split
    · exact ⟨_, h.skip (n := 1) hi (by rw [hd2]; simpa using hnl)⟩
    · rename_i hbl
      rw [if_neg hbl] at hb
      split
      · have hle : cmt (c :: q) ≤ (c :: q).length := tw_le _ _
        refine ⟨_, h.skip (by omega) ?_⟩
        rw [hd2, cmt, tw_take]
        intro x hx
        have := List.all_takeWhile (l := c :: q) (p := fun c => decide (c.toNat ≠ 10))
        rw [List.all_eq_true] at this
        simpa using this x hx
      · rename_i hcm
        rw [if_neg hcm] at hb
        unfold St.read at hb ⊢
        rw [hd] at hb ⊢
        cases hr : readR (c :: q) with
        | tok k t v n =>
          rw [hr] at hb
          simp only at hb ⊢
          obtain ⟨r1, r2⟩ := readR_whole hr
          obtain ⟨n1, n2⟩ := readR_len hr
          have g := h.put k t v hb (Or.inr (by rw [hd2]; exact r2))
          obtain ⟨_, e2, _, _⟩ := put_same σ k t v
          exact ⟨_, g.skip (by rw [e2]; omega) (by rw [e2, hd2]; exact r1)⟩
        | err e =>
          rw [hr] at hb
          simp only [St.skip, St.fault, h0, if_true] at hb
          exact absurd hb (readR_err (by simp) hr)
theorem good_go {s : List UInt8} : ∀ (n : Nat) (σ : St) (qs : List (Tok × Nat)), Bd σ → (σ.bad = 0 → Good s σ qs) → (σ.bad = 0 → s.length - σ.at_ < n) → σ.s = s → (goF n σ).bad = 0 → (goF n σ).at_ = s.length ∧ ∃ qs, Good s (goF n σ) qs
  | 0, σ, qs, hb, hg, hn, hs, h0 => by
    have h0 : σ.bad = 0 := h0
    have := hn h0
    omega
  | n + 1, σ, qs, hb, hg, hn, hs, h0 => by
    unfold goF at h0 ⊢
    split
    · rename_i hc
      rw [if_pos hc] at h0
      obtain ⟨b1, p1, s1⟩ := step_ok hb hc.1 hc.2
      have hlt : σ.at_ < s.length := by rw [← hs]; exact hc.1
      by_cases hz : σ.step.bad = 0
      · obtain ⟨qs2, g2⟩ := (hg hc.2).step hlt hc.2 hz
        have := p1 hz
        have := hn hc.2
        have := b1.a
        rw [s1, hs] at this
        exact good_go n _ qs2 b1 (fun _ => g2) (fun _ => by omega) (s1.trans hs) h0
      · exfalso
        have : goF n σ.step = σ.step := by
          cases n with
          | zero => rfl
          | succ n => unfold goF; rw [if_neg (fun h => hz h.2)]
        rw [this] at h0
        exact hz h0
    · rename_i hc
      rw [if_neg hc] at h0
      have : ¬ σ.at_ < σ.s.length := fun h => hc ⟨h, h0⟩
      have := hb.a
      rw [hs] at *
      exact ⟨by omega, qs, hg h0⟩
theorem goF_bd : ∀ (n : Nat) (σ : St), Bd σ → Bd (goF n σ)
  | 0, σ, h => h
  | n + 1, σ, h => by
    unfold goF
    split
    · rename_i hc
      exact goF_bd n _ (step_ok h hc.1 hc.2).1
    · exact h
theorem allR_places (s : List UInt8) (h : (allR s).2.2 = 0) : s.length ≤ 16384 ∧ ∃ (qs : List (Tok × Nat)) (z : Tok × Nat), (allR s).1 = (qs ++ [z]).map (·.1) ∧ (∀ q ∈ qs ++ [z], Pl s q) ∧ (qs ++ [z]).Pairwise (fun a b => a.2 ≤ b.2) ∧ z.1.k = 0 ∧ (qs ++ [z]).length ≤ 4000 := by
  unfold allR at h ⊢
  split at h
  · simp at h
  · rename_i hl
    rw [if_neg hl]
    refine ⟨by omega, ?_⟩
    have key : ∀ σ : St, σ.res.2.2 = 0 → σ.bad = 0 ∧ σ.res.1 = σ.out := by
      intro σ h
      unfold St.res at h ⊢
      split at h
      · rename_i hb; rw [if_pos hb]; exact ⟨hb, rfl⟩
      · exact absurd h (by assumption)
    obtain ⟨k1, k2⟩ := key _ h
    rw [k2]
    have hgo : (goF (s.length + 1) (st0 s)).bad = 0 := by
      apply Classical.byContradiction
      intro hb
      have e1 : (goF (s.length + 1) (st0 s)).fin1 = goF (s.length + 1) (st0 s) := by
        unfold St.fin1; rw [if_neg (fun h => hb h.1)]
      rw [e1] at k1
      unfold St.fin2 at k1
      rw [if_neg hb] at k1
      exact hb k1
    have bd0 : Bd (st0 s) := ⟨by simp [st0]; omega, by simp [st0], by simp [st0], by simp [st0], by simp [st0]⟩
    have bdg := goF_bd (s.length + 1) _ bd0
    obtain ⟨hat, qs, g⟩ := good_go (s := s) (s.length + 1) (st0 s) [] bd0 (fun _ => ⟨rfl, rfl, by simp, by simp, rfl, Nat.zero_le _⟩) (fun _ => by simp [st0]) rfl hgo
    generalize goF (s.length + 1) (st0 s) = σ at *
    have f1 : σ.fin1.bad = 0 := by
      apply Classical.byContradiction
      intro hb
      unfold St.fin2 at k1
      rw [if_neg hb] at k1
      exact hb k1
    obtain ⟨qs1, g1, a1⟩ : ∃ qs1, Good s σ.fin1 qs1 ∧ σ.fin1.at_ = s.length := by
      unfold St.fin1 at f1 ⊢
      split
      · rename_i he
        rw [if_pos he] at f1
        exact ⟨_, g.put 1 [59] 0 f1 (Or.inr (Or.inl ⟨rfl, Or.inl (by rw [hat]; simp)⟩)), by rw [(put_same σ _ _ _).2.1]; exact hat⟩
      · exact ⟨_, g, hat⟩
    have bd1 : Bd σ.fin1 := by
      unfold St.fin1
      split
      · exact bdg.put _ _ _
      · exact bdg
    generalize σ.fin1 = τ at *
    have hf2 : τ.fin2 = τ.put 0 [] 0 := by unfold St.fin2; rw [if_pos f1]
    rw [hf2] at k1 ⊢
    have g2 := g1.put 0 [] 0 k1 (Or.inl rfl)
    refine ⟨qs1, _, g2.out, fun q hq => (g2.pl q hq).1, g2.srt, rfl, ?_⟩
    have hlen := congrArg List.length g2.out
    simp only [List.length_map] at hlen
    rw [← hlen]
    unfold St.put at k1 ⊢
    split at k1
    · simp at k1
    · rename_i hn
      rw [if_neg hn]
      have := bd1.o
      simp
      omega
theorem atq_cells {l : List Tok} {i : Nat} (h : i < l.length) : window (outCells l) (i * 5) 5 = (l[i]).cells := by
  have e : (outCells (l.take i)).length = i * 5 := by rw [← outCells_len]; simp; omega
  have hs : outCells l = outCells (l.take i) ++ ((l[i]).cells ++ outCells (l.drop (i + 1))) := by
    have h1 := List.take_append_drop i l
    rw [List.drop_eq_getElem_cons h] at h1
    have h2 : outCells (l.take i ++ l[i] :: l.drop (i + 1)) = outCells (l.take i) ++ ((l[i]).cells ++ outCells (l.drop (i + 1))) := by simp only [outCells, List.flatMap_append, List.flatMap_cons]
    rw [h1] at h2
    exact h2
  rw [hs, ← e]
  simp only [window, List.drop_left]
  rw [List.take_append_of_le_length (by simp [Tok.cells])]
  exact List.take_of_length_le (by simp [Tok.cells])
theorem atq_field {l : List Tok} {i : Nat} (h : i < l.length) (f : Nat) (hf : f < 5) : window (outCells l) (i * 5 + f) 1 = ((l[i]).cells.drop f).take 1 := by
  have h1 := atq_cells h
  rw [← h1]
  simp only [window]
  rw [List.drop_take, List.drop_drop, List.take_take, Nat.min_eq_left (by omega)]
end Go.Proofs.YtgomgdbapgibjaaDoor.base

