/-
  This text proves how the tokens of two texts of words come out when a line stands between them (plain law, no program in sight).
  No condition.
-/
import Derived.Test.YtgomgdbapgibjaaDoorTokP
import Derived.Test.YtgomgdbapgibjaaDoorTokW
set_option maxRecDepth 100000
set_option linter.unusedSimpArgs false
set_option linter.unusedVariables false
namespace Go.Proofs.YtgomgdbapgibjaaDoor.base
open Go.Sh gen

def tokW (w : List UInt8) : Int × List UInt8 × Int := match readR (w ++ [32]) with
  | .tok k t v _ => (k, t, v)
  | .err _ => (0, [], 0)
theorem word_read : ∀ w ∈ handW, w = [10] ∨ (1 ≤ w.length ∧ (∀ r, readR (w ++ 32 :: r) = .tok (tokW w).1 (tokW w).2.1 (tokW w).2.2 w.length) ∧ ∃ c q, w = c :: q ∧ c.toNat ≠ 10 ∧ ¬ (c.toNat = 32 ∨ c.toNat = 9 ∨ c.toNat = 13) ∧ c.toNat ≠ 47) := by
  intro w hw
  simp only [handW, List.mem_cons, List.not_mem_nil, or_false] at hw
  rcases hw with rfl | rfl | rfl | rfl | rfl | rfl | rfl | rfl | rfl | rfl | rfl | rfl | rfl | rfl | rfl | rfl | rfl | rfl | rfl | rfl | rfl | rfl | rfl | rfl | rfl | rfl | rfl | rfl | rfl | rfl | rfl | rfl | rfl | rfl | rfl | rfl | rfl | rfl | rfl | rfl | rfl | rfl | rfl | rfl
  all_goals first
    | exact Or.inl rfl
    | (refine Or.inr ⟨by simp, fun r => ?_, _, _, rfl, by decide, by decide, by decide⟩
       first
         | rfl
         | (simp [tokW, readR, wd, lod, ltr, dgt, wordL, List.takeWhile]; done)
         | (simp [tokW, readR, nd, numGo, ltr, dgt, List.takeWhile]; done)
         | (simp [tokW, readR, signR, ltr, dgt, twoL, oneL]; done))
theorem handAt_mem (x : Int) : handAt x ∈ handW := by
  have hx := Int.emod_nonneg x (by omega : (44 : Int) ≠ 0)
  have hx2 := Int.emod_lt_of_pos x (by omega : (0 : Int) < 44)
  have hw : handW.length = 44 := by rfl
  have hk : (x % 44).toNat < handW.length := by omega
  unfold handAt
  rw [List.getD_eq_getElem?_getD, List.getElem?_eq_getElem hk]
  exact List.getElem_mem hk

/-- the state behind a word and a blank -/
def wst (σ : St) (w : List UInt8) : St := if w = [10] then σ.semi.nl.skip 1 else ((σ.put (tokW w).1 (tokW w).2.1 (tokW w).2.2).skip w.length).skip 1
theorem put_ok {σ : St} (h : σ.out.length < 4000) (k : Int) (t : List UInt8) (v : Int) : σ.put k t v = { σ with out := σ.out ++ [⟨k, t, v, σ.line, σ.col⟩] } := by
  unfold St.put
  rw [if_neg (by omega)]
theorem go_wst {σ : St} {w r : List UInt8} (hw : w ∈ handW) (h : σ.s.drop σ.at_ = w ++ 32 :: r) (hb : σ.bad = 0) (hn : σ.out.length < 4000) :
    Goes σ (wst σ w) ∧ (wst σ w).s.drop (wst σ w).at_ = r ∧ (wst σ w).bad = 0 ∧ (wst σ w).out.length ≤ σ.out.length + 1 := by
  have hsb : ∀ k t v, (σ.put k t v).bad = 0 ∧ (σ.put k t v).out.length = σ.out.length + 1 := by
    intro k t v
    rw [put_ok hn]
    exact ⟨hb, by simp⟩
  rcases word_read w hw with rfl | ⟨h1, h2, c, q, rfl, h3, h4, h5⟩
  · have hs : σ.semi.bad = 0 ∧ σ.semi.out.length ≤ σ.out.length + 1 := by
      unfold St.semi
      split
      · exact ⟨(hsb _ _ _).1, Nat.le_of_eq (hsb _ _ _).2⟩
      · exact ⟨hb, by omega⟩
    have g := go_nlb (g := [32]) (r := r) h (by simp [blank]) hb hs.1
    have e : wst σ [10] = σ.semi.nl.skip 1 := by simp [wst]
    rw [e]
    exact ⟨g.1, g.2, hs.1, hs.2⟩
  · have e : wst σ (c :: q) = ((σ.put (tokW (c :: q)).1 (tokW (c :: q)).2.1 (tokW (c :: q)).2.2).skip (c :: q).length).skip 1 := by
      unfold wst
      rw [if_neg]
      intro he
      simp only [List.cons.injEq] at he
      exact h3 (by rw [he.1]; rfl)
    rw [e]
    generalize tokW (c :: q) = k at h2
    obtain ⟨hp1, hp2⟩ := hsb k.1 k.2.1 k.2.2
    have hl : σ.at_ < σ.s.length := by
      have := congrArg List.length h
      simp at this
      omega
    have hst : σ.step = (σ.put k.1 k.2.1 k.2.2).skip (c :: q).length := by
      have e2 : σ.step = σ.read := by
        simp only [St.step, h, List.cons_append, h3, h4, if_false]
        rw [if_neg]
        cases q <;> simp [isCmt, h5]
      rw [e2]
      simp only [St.read, h, h2]
    obtain ⟨e1, e2, _, _⟩ := put_same σ k.1 k.2.1 k.2.2
    have g1 : Goes σ σ.step := by
      refine Goes.one hl hb ?_ ?_ <;> rw [hst] <;> simp [St.skip, e1, e2]
    rw [hst] at g1
    have d1 : ((σ.put k.1 k.2.1 k.2.2).skip (c :: q).length).s.drop ((σ.put k.1 k.2.1 k.2.2).skip (c :: q).length).at_ = 32 :: r := by
      simp only [St.skip, e1, e2]
      exact drop_more h
    have g2 := go_blanks [32] (r := r) d1 (by simp [blank]) hp1
    exact ⟨g1.trans g2, drop_more (a := [32]) d1, hp1, by simp [St.skip, hp2]⟩

/-- the state behind some words -/
def wsst (l : List Int) (σ : St) : St := l.foldl (fun σ x => wst σ (handAt x)) σ
theorem go_words : ∀ (l : List Int) {σ : St} {r : List UInt8}, σ.s.drop σ.at_ = wordsT l ++ r → σ.bad = 0 → σ.out.length + l.length < 4000 →
    Goes σ (wsst l σ) ∧ (wsst l σ).s.drop (wsst l σ).at_ = r ∧ (wsst l σ).bad = 0 ∧ (wsst l σ).out.length ≤ σ.out.length + l.length
  | [], σ, r, h, hb, hn => ⟨.refl σ, h, hb, Nat.le_refl _⟩
  | x :: l, σ, r, h, hb, hn => by
    simp only [List.length_cons] at hn
    have h' : σ.s.drop σ.at_ = handAt x ++ 32 :: (wordsT l ++ r) := by
      rw [h]
      simp [wordsT]
    obtain ⟨g1, g2, g3, g4⟩ := go_wst (handAt_mem x) h' hb (by omega)
    obtain ⟨f1, f2, f3, f4⟩ := go_words l g2 g3 (by omega)
    refine ⟨g1.trans f1, f2, f3, ?_⟩
    have : (wsst (x :: l) σ).out.length = (wsst l (wst σ (handAt x))).out.length := rfl
    simp only [List.length_cons]
    omega

/-- a token further down -/
def dn (d : Nat) (x : Tok) : Tok := { x with l := x.l + d }
structure Dn (pre : List Tok) (d : Nat) (σ τ : St) : Prop where
  line : σ.line = τ.line + d
  col : σ.col = τ.col
  out : σ.out = pre ++ τ.out.map (dn d)
theorem ends_dn {pre : List Tok} {d : Nat} (hp : endsB pre = false) (l : List Tok) : endsB (pre ++ l.map (dn d)) = endsB l := by
  rcases List.eq_nil_or_concat l with rfl | ⟨a, x, rfl⟩
  · simp [hp]; rfl
  · simp only [List.map_append, List.map_cons, List.map_nil, List.concat_eq_append, ← List.append_assoc, endsB, List.getLast?_concat]
    rfl
theorem Dn.put {pre : List Tok} {d : Nat} {σ τ : St} (h : Dn pre d σ τ) (h1 : σ.out.length < 4000) (h2 : τ.out.length < 4000) (k : Int) (t : List UInt8) (v : Int) : Dn pre d (σ.put k t v) (τ.put k t v) := by
  rw [put_ok h1, put_ok h2]
  refine ⟨h.line, h.col, ?_⟩
  simp [h.out, dn, h.line, h.col]
theorem Dn.semi {pre : List Tok} {d : Nat} {σ τ : St} (h : Dn pre d σ τ) (h1 : σ.out.length < 4000) (h2 : τ.out.length < 4000) (hp : endsB pre = false) : Dn pre d σ.semi τ.semi := by
  unfold St.semi
  rw [h.out, ends_dn hp]
  split
  · exact h.put h1 h2 _ _ _
  · exact h
theorem Dn.skip {pre : List Tok} {d : Nat} {σ τ : St} (h : Dn pre d σ τ) (n : Nat) : Dn pre d (σ.skip n) (τ.skip n) := ⟨h.line, by simp [St.skip, h.col], h.out⟩
theorem Dn.nl {pre : List Tok} {d : Nat} {σ τ : St} (h : Dn pre d σ τ) : Dn pre d σ.nl τ.nl := ⟨by simp [St.nl, h.line]; omega, rfl, h.out⟩
theorem Dn.wst {pre : List Tok} {d : Nat} {σ τ : St} (h : Dn pre d σ τ) (h1 : σ.out.length < 4000) (h2 : τ.out.length < 4000) (hp : endsB pre = false) (w : List UInt8) : Dn pre d (wst σ w) (wst τ w) := by
  unfold base.wst
  split
  · exact ((h.semi h1 h2 hp).nl).skip _
  · exact ((h.put h1 h2 _ _ _).skip _).skip _
theorem wst_len (σ : St) (hn : σ.out.length < 4000) (w : List UInt8) : (wst σ w).out.length ≤ σ.out.length + 1 := by
  unfold wst St.semi
  split
  · split
    · rw [put_ok hn]; simp [St.nl, St.skip]
    · simp [St.nl, St.skip]
  · rw [put_ok hn]; simp [St.skip]
theorem Dn.wsst {pre : List Tok} {d : Nat} (hp : endsB pre = false) : ∀ (l : List Int) {σ τ : St}, Dn pre d σ τ → σ.out.length + l.length < 4000 → τ.out.length + l.length < 4000 → Dn pre d (wsst l σ) (wsst l τ)
  | [], σ, τ, h, _, _ => h
  | x :: l, σ, τ, h, h1, h2 => by
    simp only [List.length_cons] at h1 h2
    have g1 := wst_len σ (by omega) (handAt x)
    have g2 := wst_len τ (by omega) (handAt x)
    have h3 := Dn.wsst hp l (σ := base.wst σ (handAt x)) (τ := base.wst τ (handAt x)) (h.wst (by omega) (by omega) hp (handAt x)) (by omega) (by omega)
    exact h3

/-- another text in the state -/
def St.tx (σ : St) (u : List UInt8) : St := { σ with s := u }
theorem wst_tx (σ : St) (u : List UInt8) (w : List UInt8) : wst (σ.tx u) w = (wst σ w).tx u := by
  by_cases hw : w = [10] <;> by_cases he : endsB σ.out = true <;> by_cases hl : σ.out.length = 4000 <;> simp [wst, St.semi, St.put, St.tx, St.nl, St.skip, hw, he, hl]
theorem wsst_tx (u : List UInt8) : ∀ (l : List Int) (σ : St), wsst l (σ.tx u) = (wsst l σ).tx u
  | [], σ => rfl
  | x :: l, σ => by
    have := wsst_tx u l (wst σ (handAt x))
    rw [← wst_tx] at this
    exact this
theorem ends_semi {σ : St} (hn : σ.out.length < 4000) : endsB σ.semi.out = false := by
  unfold St.semi
  cases h : endsB σ.out with
  | true =>
    rw [if_pos rfl, put_ok hn]
    simp [endsB, endsT]
  | false =>
    rw [if_neg (by simp)]
    exact h
theorem lines_up : ∀ (l : List Int) (σ : St), σ.out.length + l.length < 4000 → (∀ x ∈ σ.out, x.l ≤ σ.line) → (∀ x ∈ σ.out, 0 ≤ x.l) → (wsst l σ).line ≤ σ.line + l.length ∧ (∀ x ∈ (wsst l σ).out, x.l ≤ (wsst l σ).line) ∧ (∀ x ∈ (wsst l σ).out, 0 ≤ x.l)
  | [], σ, _, h, h0 => ⟨Nat.le_refl _, h, h0⟩
  | x :: l, σ, hn, h, h0 => by
    simp only [List.length_cons] at hn
    have hlen := wst_len σ (by omega) (handAt x)
    have h2 : (wst σ (handAt x)).line ≤ σ.line + 1 ∧ (∀ y ∈ (wst σ (handAt x)).out, y.l ≤ (wst σ (handAt x)).line) ∧ (∀ y ∈ (wst σ (handAt x)).out, 0 ≤ y.l) := by
      unfold wst St.semi
      have hput : ∀ k t v, (∀ y ∈ (σ.put k t v).out, y.l ≤ σ.line) ∧ (∀ y ∈ (σ.put k t v).out, 0 ≤ y.l) := by
        intro k t v
        rw [put_ok (by omega)]
        refine ⟨fun y hy => ?_, fun y hy => ?_⟩
        · simp only [List.mem_append, List.mem_singleton] at hy
          rcases hy with hy | rfl
          · exact h y hy
          · exact Int.le_refl _
        · simp only [List.mem_append, List.mem_singleton] at hy
          rcases hy with hy | rfl
          · exact h0 y hy
          · simp
      split
      · split
        · refine ⟨by rw [put_ok (by omega)]; simp [St.nl, St.skip], fun y hy => ?_, fun y hy => (hput _ _ _).2 y hy⟩
          have := (hput _ _ _).1 y hy
          simp only [St.nl, St.skip, (put_same σ 1 [59] 0).2.2.1]
          omega
        · refine ⟨by simp [St.nl, St.skip], fun y hy => ?_, fun y hy => h0 y hy⟩
          have := h y hy
          simp only [St.nl, St.skip]
          omega
      · refine ⟨by rw [put_ok (by omega)]; simp [St.skip], fun y hy => ?_, fun y hy => (hput _ _ _).2 y hy⟩
        have := (hput _ _ _).1 y hy
        simp only [St.skip, (put_same σ _ _ _).2.2.1]
        omega
    obtain ⟨g1, g2, g3⟩ := h2
    obtain ⟨f1, f2, f3⟩ := lines_up l (wst σ (handAt x)) (by omega) g2 g3
    refine ⟨?_, f2, f3⟩
    have : (wsst (x :: l) σ).line = (wsst l (wst σ (handAt x))).line := rfl
    simp only [List.length_cons]
    omega

theorem allR_lines (a b : List Int) (ha : a.length ≤ 60) (hb : b.length ≤ 60) :
    ∃ (pre y : List Tok) (e : Tok) (d : Nat), allR (wordsT a ++ [10]) = (pre ++ [e], zTok, 0) ∧ e.l = d + 1 ∧ allR (wordsT b) = (y, zTok, 0) ∧ allR (wordsT a ++ [10] ++ wordsT b) = (pre ++ y.map (dn d), zTok, 0)
      ∧ pre.length ≤ 100 ∧ y.length ≤ 100 ∧ d ≤ 100 ∧ ∀ x ∈ y, 0 ≤ x.l ∧ x.l ≤ 100 := by
  have la := wordsT_len a
  have lb := wordsT_len b
  -- the first text
  obtain ⟨u, hu⟩ : ∃ u, u = wordsT a ++ [10] := ⟨_, rfl⟩
  obtain ⟨z, hz⟩ : ∃ z, z = wordsT a ++ [10] ++ wordsT b := ⟨_, rfl⟩
  obtain ⟨g1, g2, g3, g4⟩ := go_words a (σ := st0 u) (r := [10]) (by simp [st0, hu]) rfl (by simp [st0]; omega)
  obtain ⟨k1, k2, k3, k4⟩ := go_words a (σ := st0 z) (r := 10 :: wordsT b) (by simp [st0, hz]) rfl (by simp [st0]; omega)
  obtain ⟨l1, l2, l3⟩ := lines_up a (st0 u) (by simp [st0]; omega) (by simp [st0]) (by simp [st0])
  have ek : wsst a (st0 z) = (wsst a (st0 u)).tx z := wsst_tx z a (st0 u)
  have k5 : (wsst a (st0 z)).s = z := k1.1
  rw [ek] at k1 k2 k3 k4
  simp only [St.tx] at k4
  have g5 : (wsst a (st0 u)).s = u := g1.1
  generalize wsst a (st0 u) = σ at *
  simp only [st0, List.length_nil, Nat.zero_add] at g4 l1
  have hs : σ.semi.bad = 0 ∧ σ.semi.out.length ≤ σ.out.length + 1 ∧ σ.semi.line = σ.line := by
    unfold St.semi
    split
    · rw [put_ok (by omega)]
      exact ⟨g3, by simp, rfl⟩
    · exact ⟨g3, by omega, rfl⟩
  have hne := ends_semi (σ := σ) (by omega)
  have g6 := go_nlb (g := []) (r := []) g2 (by simp) g3 hs.1
  have tx2 : (σ.tx z).semi = σ.semi.tx z := by
    by_cases he : endsB σ.out = true <;> by_cases hl : σ.out.length = 4000 <;> simp [St.semi, St.put, St.tx, he, hl]
  have k6 := go_nlb (g := []) (r := wordsT b) k2 (by simp) k3 (by rw [tx2]; exact hs.1)
  rw [tx2] at k6
  have e0 : ∀ τ : St, τ.skip ([] : List UInt8).length = τ := fun τ => by simp [St.skip]
  rw [e0] at g6 k6
  -- the second one, alone
  obtain ⟨t1, t2, t3, t4⟩ := go_words b (σ := st0 (wordsT b)) (r := []) (by simp [st0]) rfl (by simp [st0]; omega)
  obtain ⟨t5, t6, t7⟩ := lines_up b (st0 (wordsT b)) (by simp [st0]; omega) (by simp [st0]) (by simp [st0])
  have hz0 : (st0 (wordsT b)).out.length = 0 := rfl
  have hz1 : (st0 (wordsT b)).line = 1 := rfl
  rw [hz0] at t4
  rw [hz1] at t5
  -- the second one, behind
  have d0 : Dn σ.semi.out σ.line (σ.semi.tx z).nl (st0 (wordsT b)) := ⟨by simp [St.tx, St.nl, st0, hs.2.2]; omega, rfl, by simp [St.tx, St.nl, st0]⟩
  have d1 := d0.wsst hne b (by simp [St.tx, St.nl]; omega) (by simp [st0]; omega)
  obtain ⟨m1, m2, m3, m4⟩ := go_words b (σ := (σ.semi.tx z).nl) (r := []) (by rw [k6.2]; simp) hs.1 (by simp [St.tx, St.nl]; omega)
  have hz2 : (σ.semi.tx z).nl.out.length = σ.semi.out.length := rfl
  rw [hz2] at m4
  have q1 := g1.trans g6.1
  have q2 := (k1.trans k6.1).trans m1
  obtain ⟨n1, _, e1⟩ := q1.2 (u.length + 1) (by simp [st0])
  obtain ⟨n2, _, e2⟩ := t1.2 ((wordsT b).length + 1) (by simp [st0])
  obtain ⟨n3, _, e3⟩ := q2.2 (z.length + 1) (by simp [st0])
  rw [goF_end g6.2] at e1
  rw [goF_end t2] at e2
  rw [goF_end m2] at e3
  generalize wsst b (st0 (wordsT b)) = τ at *
  generalize wsst b (σ.semi.tx z).nl = υ at *
  -- the ends
  have f1 : ∀ {ρ : St}, ρ.bad = 0 → ρ.out.length < 3000 → ρ.fin1.fin2.res = (ρ.semi.out ++ [⟨0, [], 0, ρ.line, ρ.col⟩], zTok, 0) := by
    intro ρ hb hn
    have r1 : ρ.fin1 = ρ.semi := by
      unfold St.fin1 St.semi
      simp only [hb, true_and]
    have r2 : ρ.semi.bad = 0 ∧ ρ.semi.out.length ≤ ρ.out.length + 1 ∧ ρ.semi.line = ρ.line ∧ ρ.semi.col = ρ.col := by
      unfold St.semi
      split
      · rw [put_ok (by omega)]
        exact ⟨hb, by simp, rfl, rfl⟩
      · exact ⟨hb, by omega, rfl, rfl⟩
    rw [r1]
    unfold St.fin2
    rw [if_pos r2.1, put_ok (by omega)]
    unfold St.res
    simp only [r2]
    rfl
  have z1 : allR u = (σ.semi.out ++ [⟨0, [], 0, (σ.line + 1 : Nat), 1⟩], zTok, 0) := by
    unfold allR
    rw [if_neg (by rw [hu]; simp; omega), e1, f1 (ρ := σ.semi.nl) hs.1 (by simp [St.nl]; omega)]
    have : σ.semi.nl.semi = σ.semi.nl := by
      unfold St.semi
      rw [if_neg (by rw [show (if endsB σ.out = true then σ.put 1 [59] 0 else σ).nl = σ.semi.nl from rfl]; simp [St.nl, hne])]
    rw [this]
    simp [St.nl, hs.2.2]
  have z2 : allR (wordsT b) = (τ.semi.out ++ [⟨0, [], 0, τ.line, τ.col⟩], zTok, 0) := by
    unfold allR
    rw [if_neg (by omega), e2, f1 t3 (by omega)]
  have z3 : allR z = (υ.semi.out ++ [⟨0, [], 0, υ.line, υ.col⟩], zTok, 0) := by
    unfold allR
    rw [if_neg (by rw [hz]; simp; omega), e3, f1 m3 (by omega)]
  have d2 := d1.semi (by omega) (by omega) hne
  have lt : ∀ x ∈ τ.semi.out, 0 ≤ x.l ∧ x.l ≤ τ.line := by
    intro x hx
    unfold St.semi at hx
    split at hx
    · rw [put_ok (by omega)] at hx
      simp only [List.mem_append, List.mem_singleton] at hx
      rcases hx with hx | rfl
      · exact ⟨t7 x hx, t6 x hx⟩
      · simp
    · exact ⟨t7 x hx, t6 x hx⟩
  have ls : τ.semi.out.length ≤ τ.out.length + 1 := by
    unfold St.semi
    split
    · rw [put_ok (by omega)]; simp
    · omega
  refine ⟨σ.semi.out, τ.semi.out ++ [⟨0, [], 0, τ.line, τ.col⟩], ⟨0, [], 0, (σ.line + 1 : Nat), 1⟩, σ.line, by rw [← hu]; exact z1, by simp, z2, ?_, by omega, by simp; omega, by omega, ?_⟩
  · rw [← hz, z3, d2.out, d1.line, d1.col]
    simp [dn]
  · intro x hx
    simp only [List.mem_append, List.mem_singleton] at hx
    rcases hx with hx | rfl
    · have := lt x hx
      omega
    · simp
      omega
theorem atq_cells {l : List Tok} {i : Nat} (h : i < l.length) : window (outCells l) (i * 5) 5 = (l[i]).cells := by
  have e : (outCells (l.take i)).length = i * 5 := by rw [← outCells_len]; simp; omega
  have hs : outCells l = outCells (l.take i) ++ ((l[i]).cells ++ outCells (l.drop (i + 1))) := by
    have h1 := List.take_append_drop i l
    rw [List.drop_eq_getElem_cons h] at h1
    have h2 : outCells (l.take i ++ l[i] :: l.drop (i + 1)) = outCells (l.take i) ++ ((l[i]).cells ++ outCells (l.drop (i + 1))) := by simp only [outCells, List.flatMap_append, List.flatMap_cons]
    rw [h1] at h2
    exact h2
  rw [hs, ← e]
  simp only [window, List.drop_left]
  rw [List.take_append_of_le_length (by simp [Tok.cells])]
  exact List.take_of_length_le (by simp [Tok.cells])
theorem atq_field {l : List Tok} {i : Nat} (h : i < l.length) (f : Nat) (hf : f < 5) : window (outCells l) (i * 5 + f) 1 = ((l[i]).cells.drop f).take 1 := by
  have h1 := atq_cells h
  rw [← h1]
  simp only [window]
  rw [List.drop_take, List.drop_drop, List.take_take, Nat.min_eq_left (by omega)]
end Go.Proofs.YtgomgdbapgibjaaDoor.base

