/-
  This text proves how the tokens of a text of chosen pieces come out, whatever blanks stand between (plain law, no program in sight).
  No condition.
-/
import Derived.Test.YtgomgdbapgibjaaDoorTokH
set_option maxRecDepth 100000
set_option linter.unusedSimpArgs false
set_option linter.unusedVariables false
namespace Go.Proofs.YtgomgdbapgibjaaDoor.base
open Go.Sh gen

def parts : List (List UInt8) := [[97], [102, 111, 114], [55], [34, 120, 34], [40], [41], [58, 61], [123], [125], [110, 105, 108], [44]]
theorem piece_read : ∀ p ∈ parts, ∃ k t v, ∀ r, readR (p ++ 32 :: r) = .tok k t v p.length := by
  intro p hp
  simp only [parts, List.mem_cons, List.not_mem_nil, or_false] at hp
  rcases hp with rfl | rfl | rfl | rfl | rfl | rfl | rfl | rfl | rfl | rfl | rfl
  · exact ⟨2, [97], 0, fun r => by simp [readR, wd, lod, ltr, dgt, wordL, List.takeWhile]⟩
  · exact ⟨3, [102, 111, 114], 0, fun r => by simp [readR, wd, lod, ltr, dgt, wordL, List.takeWhile]⟩
  · exact ⟨4, [55], 7, fun r => by simp [readR, nd, numGo, ltr, dgt, List.takeWhile]⟩
  · exact ⟨5, [120], 0, fun r => by simp [readR, ltr, dgt, textGo]⟩
  · exact ⟨_, _, _, fun r => by rfl⟩
  · exact ⟨_, _, _, fun r => by rfl⟩
  · exact ⟨6, [58, 61], 0, fun r => by simp [readR, signR, ltr, dgt, twoL]⟩
  · exact ⟨_, _, _, fun r => by rfl⟩
  · exact ⟨_, _, _, fun r => by rfl⟩
  · exact ⟨3, [110, 105, 108], 0, fun r => by simp [readR, wd, lod, ltr, dgt, wordL, List.takeWhile]⟩
  · exact ⟨_, _, _, fun r => by rfl⟩

/-- σ comes to τ -/
def Goes (σ τ : St) : Prop := τ.s = σ.s ∧ ∀ n, σ.s.length + 1 ≤ n + σ.at_ → ∃ n', τ.s.length + 1 ≤ n' + τ.at_ ∧ goF n σ = goF n' τ
theorem Goes.refl (σ : St) : Goes σ σ := ⟨rfl, fun n h => ⟨n, h, rfl⟩⟩
theorem Goes.trans {σ τ υ : St} (h : Goes σ τ) (g : Goes τ υ) : Goes σ υ := by
  refine ⟨g.1.trans h.1, fun n hn => ?_⟩
  obtain ⟨n1, h1, e1⟩ := h.2 n hn
  obtain ⟨n2, h2, e2⟩ := g.2 n1 h1
  exact ⟨n2, h2, e1.trans e2⟩
theorem Goes.one {σ : St} (h : σ.at_ < σ.s.length) (hb : σ.bad = 0) (hs : σ.step.s = σ.s) (ha : σ.at_ + 1 ≤ σ.step.at_) : Goes σ σ.step := by
  refine ⟨hs, fun n hn => ?_⟩
  cases n with
  | zero => omega
  | succ n => exact ⟨n, by rw [hs]; omega, by simp only [goF]; rw [if_pos ⟨h, hb⟩]⟩

theorem go_blank {σ : St} {c : UInt8} {r : List UInt8} (h : σ.s.drop σ.at_ = c :: r) (hc : c = 32 ∨ c = 9 ∨ c = 13) (hb : σ.bad = 0) : Goes σ (σ.skip 1) := by
  have hl : σ.at_ < σ.s.length := by
    have := congrArg List.length h
    simp at this
    omega
  have e : σ.step = σ.skip 1 := by
    simp only [St.step, h]
    rcases hc with rfl | rfl | rfl <;> rfl
  rw [← e]
  exact Goes.one hl hb (by rw [e]; rfl) (by rw [e]; simp [St.skip])
theorem go_nl {σ : St} {r : List UInt8} (h : σ.s.drop σ.at_ = 10 :: r) (hb : σ.bad = 0) : Goes σ (if endsB σ.out = true then σ.put 1 [59] 0 else σ).nl := by
  have hl : σ.at_ < σ.s.length := by
    have := congrArg List.length h
    simp at this
    omega
  have e : σ.step = (if endsB σ.out = true then σ.put 1 [59] 0 else σ).nl := by
    simp only [St.step, h]
    rfl
  obtain ⟨h1, h2, h3, h4⟩ := put_same σ 1 [59] 0
  rw [← e]
  refine Goes.one hl hb ?_ ?_ <;> rw [e] <;> simp only [St.nl] <;> split <;> simp [h1, h2]
theorem go_piece {σ : St} {p r : List UInt8} (hp : p ∈ parts) (h : σ.s.drop σ.at_ = p ++ 32 :: r) (hb : σ.bad = 0) : ∃ k t v, (∀ r, readR (p ++ 32 :: r) = .tok k t v p.length) ∧ Goes σ ((σ.put k t v).skip p.length) := by
  obtain ⟨k, t, v, hr⟩ := piece_read p hp
  refine ⟨k, t, v, hr, ?_⟩
  have hl : σ.at_ < σ.s.length := by
    have := congrArg List.length h
    simp at this
    omega
  have e : σ.step = (σ.put k t v).skip p.length := by
    have e2 : σ.step = σ.read := by
      simp only [parts, List.mem_cons, List.not_mem_nil, or_false] at hp
      simp only [St.step, h]
      rcases hp with rfl | rfl | rfl | rfl | rfl | rfl | rfl | rfl | rfl | rfl | rfl <;> rfl
    rw [e2]
    simp only [St.read, h, hr]
  have hp1 : 1 ≤ p.length := by
    simp only [parts, List.mem_cons, List.not_mem_nil, or_false] at hp
    rcases hp with rfl | rfl | rfl | rfl | rfl | rfl | rfl | rfl | rfl | rfl | rfl <;> simp
  obtain ⟨h1, h2, h3, h4⟩ := put_same σ k t v
  rw [← e]
  refine Goes.one hl hb ?_ ?_ <;> rw [e] <;> simp [St.skip, h1, h2]
  omega

theorem drop_more {l a b : List UInt8} {n : Nat} (h : l.drop n = a ++ b) : l.drop (n + a.length) = b := by
  rw [← List.drop_drop, h, List.drop_left]
def blank (c : UInt8) : Prop := c = 32 ∨ c = 9 ∨ c = 13
theorem go_blanks : ∀ (g : List UInt8) {σ : St} {r : List UInt8}, σ.s.drop σ.at_ = g ++ r → (∀ c ∈ g, blank c) → σ.bad = 0 → Goes σ (σ.skip g.length)
  | [], σ, r, h, _, hb => by
    have e : σ.skip ([] : List UInt8).length = σ := by simp [St.skip]
    rw [e]
    exact Goes.refl σ
  | c :: g, σ, r, h, hg, hb => by
    have h1 := go_blank (r := g ++ r) h (hg c (by simp)) hb
    have h2 : (σ.skip 1).s.drop (σ.skip 1).at_ = g ++ r := drop_more (a := [c]) h
    have h3 := go_blanks g h2 (fun x hx => hg x (by simp [hx])) hb
    have e : (σ.skip 1).skip g.length = σ.skip (c :: g).length := by simp [St.skip]; omega
    rw [e] at h3
    exact h1.trans h3

/-- all of a token but its column -/
def sp (x : Tok) : Int × List UInt8 × Int × Int := (x.k, x.t, x.n, x.l)
structure Eq2 (σ τ : St) (n : Nat) : Prop where
  bs : σ.bad = 0
  bt : τ.bad = 0
  line : σ.line = τ.line
  out : σ.out.map sp = τ.out.map sp
  len : σ.out.length ≤ n
theorem Eq2.len2 {σ τ : St} {n : Nat} (h : Eq2 σ τ n) : τ.out.length = σ.out.length := by
  have := congrArg List.length h.out
  simpa using this.symm
theorem Eq2.mono {σ τ : St} {n k : Nat} (h : Eq2 σ τ n) (hk : n ≤ k) : Eq2 σ τ k := ⟨h.bs, h.bt, h.line, h.out, Nat.le_trans h.len hk⟩
theorem ends_sp {a b : List Tok} (h : a.map sp = b.map sp) : endsB a = endsB b := by
  have hl := congrArg List.getLast? h
  simp only [List.getLast?_map] at hl
  unfold endsB
  cases ha : a.getLast? <;> cases hb : b.getLast? <;> rw [ha, hb] at hl <;> simp at hl
  all_goals first
    | rfl
    | (rename_i x y
       simp only [sp, Prod.mk.injEq] at hl
       obtain ⟨h1, h2, h3, h4⟩ := hl
       simp only [endsT, h1, h2])
theorem Eq2.put {σ τ : St} {n : Nat} (h : Eq2 σ τ n) (hn : n < 4000) (k : Int) (t : List UInt8) (v : Int) : Eq2 (σ.put k t v) (τ.put k t v) (n + 1) := by
  have h1 := h.len
  have h2 := h.len2
  have e1 : ¬ σ.out.length = 4000 := by omega
  have e2 : ¬ τ.out.length = 4000 := by omega
  refine ⟨?_, ?_, ?_, ?_, ?_⟩ <;> simp only [St.put, if_neg e1, if_neg e2]
  · exact h.bs
  · exact h.bt
  · exact h.line
  · simp [h.out, sp, h.line]
  · simp; omega
theorem Eq2.skip {σ τ : St} {n : Nat} (h : Eq2 σ τ n) (a b : Nat) : Eq2 (σ.skip a) (τ.skip b) n := ⟨h.bs, h.bt, h.line, h.out, h.len⟩
theorem Eq2.nl {σ τ : St} {n : Nat} (h : Eq2 σ τ n) : Eq2 σ.nl τ.nl n := ⟨h.bs, h.bt, by simp [St.nl, h.line], h.out, h.len⟩
def St.semi (σ : St) : St := if endsB σ.out = true then σ.put 1 [59] 0 else σ
theorem Eq2.semi {σ τ : St} {n : Nat} (h : Eq2 σ τ n) (hn : n < 4000) : Eq2 σ.semi τ.semi (n + 1) := by
  unfold St.semi
  rw [← ends_sp h.out]
  split
  · exact h.put hn _ _ _
  · exact h.mono (by omega)
theorem semi_same (σ : St) : σ.semi.s = σ.s ∧ σ.semi.at_ = σ.at_ := by
  unfold St.semi
  split
  · exact ⟨(put_same σ _ _ _).1, (put_same σ _ _ _).2.1⟩
  · exact ⟨rfl, rfl⟩

inductive Pc where
  | tok (p g : List UInt8)
  | nl (g : List UInt8)
  | cm
def Pc.wf : Pc → Prop
  | .tok p g => p ∈ parts ∧ ∀ c ∈ g, blank c
  | .nl g => ∀ c ∈ g, blank c
  | .cm => True
def Pc.sOf : Pc → List UInt8
  | .tok p _ => p ++ [32]
  | .nl _ => [10, 32]
  | .cm => [10, 32]
def Pc.tOf : Pc → List UInt8
  | .tok p g => p ++ 32 :: g
  | .nl g => 10 :: 32 :: g
  | .cm => [32, 47, 47, 32, 102, 111, 114, 32, 34, 10]
theorem go_cmt {σ : St} {r : List UInt8} (h : σ.s.drop σ.at_ = [47, 47, 32, 102, 111, 114, 32, 34] ++ 10 :: r) (hb : σ.bad = 0) : Goes σ (σ.skip 8) := by
  have hl : σ.at_ < σ.s.length := by
    have := congrArg List.length h
    simp at this
    omega
  have e : σ.step = σ.skip 8 := by
    simp only [St.step, h]
    simp [isCmt, cmt, List.takeWhile]
  rw [← e]
  exact Goes.one hl hb (by rw [e]; rfl) (by rw [e]; simp [St.skip])
theorem go_nlb {σ : St} {g r : List UInt8} (h : σ.s.drop σ.at_ = 10 :: (g ++ r)) (hg : ∀ c ∈ g, blank c) (hb : σ.bad = 0) (hb2 : σ.semi.bad = 0) : Goes σ (σ.semi.nl.skip g.length) ∧ (σ.semi.nl.skip g.length).s.drop (σ.semi.nl.skip g.length).at_ = r := by
  have h1 := go_nl h hb
  obtain ⟨e1, e2⟩ := semi_same σ
  have h2 : σ.semi.nl.s.drop σ.semi.nl.at_ = g ++ r := by
    simp only [St.nl, e1, e2]
    exact drop_more (a := [10]) h
  exact ⟨h1.trans (go_blanks g h2 hg hb2), drop_more h2⟩
theorem go_tok {σ : St} {p g r : List UInt8} (hp : p ∈ parts) (h : σ.s.drop σ.at_ = p ++ 32 :: (g ++ r)) (hg : ∀ c ∈ g, blank c) (hb : σ.bad = 0) : ∃ k t v, (∀ r, readR (p ++ 32 :: r) = .tok k t v p.length) ∧ ((σ.put k t v).bad = 0 → Goes σ (((σ.put k t v).skip p.length).skip (g.length + 1)) ∧ (((σ.put k t v).skip p.length).skip (g.length + 1)).s.drop (((σ.put k t v).skip p.length).skip (g.length + 1)).at_ = r) := by
  obtain ⟨k, t, v, hr, h1⟩ := go_piece hp h hb
  refine ⟨k, t, v, hr, fun hb2 => ?_⟩
  obtain ⟨e1, e2, _, _⟩ := put_same σ k t v
  have h2 : ((σ.put k t v).skip p.length).s.drop ((σ.put k t v).skip p.length).at_ = (32 :: g) ++ r := by
    simp only [St.skip, e1, e2]
    exact drop_more h
  exact ⟨h1.trans (go_blanks (32 :: g) h2 (by intro c hc; rcases List.mem_cons.1 hc with rfl | hc; exact Or.inl rfl; exact hg c hc) hb2), drop_more (a := 32 :: g) h2⟩

theorem go_all : ∀ (l : List Pc), (∀ x ∈ l, x.wf) → ∀ (σ τ : St) (n : Nat), σ.s.drop σ.at_ = l.flatMap Pc.sOf → τ.s.drop τ.at_ = l.flatMap Pc.tOf → Eq2 σ τ n → n + l.length ≤ 4000 →
    ∃ σ' τ', Goes σ σ' ∧ Goes τ τ' ∧ σ'.s.drop σ'.at_ = [] ∧ τ'.s.drop τ'.at_ = [] ∧ Eq2 σ' τ' (n + l.length)
  | [], _, σ, τ, n, h1, h2, h, _ => ⟨σ, τ, .refl σ, .refl τ, h1, h2, h⟩
  | x :: l, hw, σ, τ, n, h1, h2, h, hn => by
    simp only [List.length_cons] at hn ⊢
    have hwl : ∀ y ∈ l, y.wf := fun y hy => hw y (by simp [hy])
    have hwx := hw x (by simp)
    have : ∃ σ1 τ1, Goes σ σ1 ∧ Goes τ τ1 ∧ σ1.s.drop σ1.at_ = l.flatMap Pc.sOf ∧ τ1.s.drop τ1.at_ = l.flatMap Pc.tOf ∧ Eq2 σ1 τ1 (n + 1) := by
      cases x with
      | tok p g =>
        simp only [List.flatMap_cons, Pc.sOf, Pc.tOf, List.append_assoc, List.cons_append, List.nil_append] at h1 h2
        obtain ⟨k, t, v, hr, g1⟩ := go_tok (g := []) hwx.1 h1 (by simp) h.bs
        obtain ⟨k', t', v', hr', g2⟩ := go_tok hwx.1 h2 hwx.2 h.bt
        have e := (hr []).symm.trans (hr' [])
        simp only [Rd.tok.injEq] at e
        obtain ⟨rfl, rfl, rfl, _⟩ := e
        have hp := h.put (by omega) k t v
        exact ⟨_, _, (g1 hp.bs).1, (g2 hp.bt).1, (g1 hp.bs).2, (g2 hp.bt).2, (hp.skip _ _).skip _ _⟩
      | nl g =>
        simp only [List.flatMap_cons, Pc.sOf, Pc.tOf, List.append_assoc, List.cons_append, List.nil_append] at h1 h2
        have hp := h.semi (by omega)
        have g1 := go_nlb (g := [32]) h1 (by simp [blank]) h.bs hp.bs
        have g2 := go_nlb (g := 32 :: g) h2 (by intro c hc; rcases List.mem_cons.1 hc with rfl | hc; exact Or.inl rfl; exact hwx c hc) h.bt hp.bt
        exact ⟨_, _, g1.1, g2.1, g1.2, g2.2, hp.nl.skip _ _⟩
      | cm =>
        simp only [List.flatMap_cons, Pc.sOf, Pc.tOf, List.append_assoc, List.cons_append, List.nil_append] at h1 h2
        have hp := h.semi (by omega)
        have g1 := go_nlb (g := [32]) h1 (by simp [blank]) h.bs hp.bs
        have b1 := go_blanks [32] h2 (by simp [blank]) h.bt
        have d1 := drop_more (a := [32]) h2
        have b2 := go_cmt (σ := τ.skip 1) d1 h.bt
        have d2 := drop_more (a := [47, 47, 32, 102, 111, 114, 32, 34]) d1
        have hq := (h.skip 0 1).skip 0 8
        have hq2 := hq.semi (by omega)
        have b3 := go_nlb (g := []) (σ := (τ.skip 1).skip 8) d2 (by simp) h.bt hq2.bt
        have e0 : (σ.skip 0).skip 0 = σ := by simp [St.skip]
        rw [e0] at hq2
        exact ⟨_, _, g1.1, (b1.trans b2).trans b3.1, g1.2, b3.2, hq2.nl.skip _ _⟩
    obtain ⟨σ1, τ1, a1, a2, a3, a4, a5⟩ := this
    obtain ⟨σ2, τ2, c1, c2, c3, c4, c5⟩ := go_all l hwl σ1 τ1 (n + 1) a3 a4 a5 (by omega)
    exact ⟨σ2, τ2, a1.trans c1, a2.trans c2, c3, c4, c5.mono (by omega)⟩

theorem goF_end {σ : St} (h : σ.s.drop σ.at_ = []) (n : Nat) : goF n σ = σ := by
  have hl := congrArg List.length h
  simp at hl
  cases n with
  | zero => rfl
  | succ n =>
    simp only [goF]
    rw [if_neg (by omega)]
theorem allR_two (l : List Pc) (hw : ∀ x ∈ l, x.wf) (hn : l.length ≤ 3900) (hs : (l.flatMap Pc.sOf).length ≤ 16384) (ht : (l.flatMap Pc.tOf).length ≤ 16384) :
    (allR (l.flatMap Pc.sOf)).2.2 = 0 ∧ (allR (l.flatMap Pc.tOf)).2.2 = 0 ∧ (allR (l.flatMap Pc.sOf)).1.map sp = (allR (l.flatMap Pc.tOf)).1.map sp := by
  have h0 : Eq2 (st0 (l.flatMap Pc.sOf)) (st0 (l.flatMap Pc.tOf)) 0 := ⟨rfl, rfl, rfl, rfl, Nat.le_refl _⟩
  obtain ⟨σ, τ, g1, g2, d1, d2, h⟩ := go_all l hw _ _ 0 rfl rfl h0 (by omega)
  obtain ⟨n1, _, e1⟩ := g1.2 ((l.flatMap Pc.sOf).length + 1) (by simp [st0])
  obtain ⟨n2, _, e2⟩ := g2.2 ((l.flatMap Pc.tOf).length + 1) (by simp [st0])
  rw [goF_end d1] at e1
  rw [goF_end d2] at e2
  unfold allR
  rw [if_neg (by omega), if_neg (by omega), e1, e2]
  have f1 : ∀ {σ τ : St} {n : Nat}, Eq2 σ τ n → n < 4000 → Eq2 σ.fin1 τ.fin1 (n + 1) := by
    intro σ τ n h hn
    have := h.semi hn
    unfold St.semi at this
    unfold St.fin1
    simp only [h.bs, h.bt, true_and]
    exact this
  have f2 : ∀ {σ τ : St} {n : Nat}, Eq2 σ τ n → n < 4000 → Eq2 σ.fin2 τ.fin2 (n + 1) := by
    intro σ τ n h hn
    unfold St.fin2
    rw [if_pos h.bs, if_pos h.bt]
    exact h.put hn _ _ _
  have h3 := f2 (f1 h (by omega)) (by omega)
  unfold St.res
  rw [if_pos h3.bs, if_pos h3.bt]
  exact ⟨rfl, rfl, h3.out⟩
end Go.Proofs.YtgomgdbapgibjaaDoor.base

