/-
  This text proves what the scanner's step ('one') of package token does over the abstract run.
  Condition: nothing is known of their calls ahead ('S f = []').
-/
import Derived.Test.YtgomgdbapgibjaaDoorTokE
set_option maxRecDepth 100000
set_option linter.unusedSimpArgs false
set_option linter.unusedVariables false
namespace Go.Proofs.YtgomgdbapgibjaaDoor.base
open Go.Sh gen
variable {S : Sums} {m : Mem} {b f fo : Nat} {ao : Option Addr} {σ : St}
inductive Rd where
  | tok (k : Int) (t : List UInt8) (v : Int) (n : Nat)
  | err (e : Int)
def readR (r : List UInt8) : Rd := match r with
  | [] => .err 0
  | c :: q =>
    if ltr c.toNat = true then .tok (if wd r ∈ wordL then 3 else 2) (wd r) 0 (wd r).length
    else if dgt c.toNat = true then (match numGo (nd r) 0 with
      | some x => .tok 4 (nd r) x (nd r).length
      | none => .err 12)
    else if c.toNat = 34 then (match textGo q [] with
      | some (x, t) => .tok 5 x 0 (r.length - t.length)
      | none => .err 11)
    else match signR r with
      | some (k, x) => .tok k x 0 x.length
      | none => .err 10
def St.read (σ : St) : St := match readR (σ.s.drop σ.at_) with
  | .tok k t v n => (σ.put k t v).skip n
  | .err e => (σ.fault e).skip 0
def isCmt : List UInt8 → Bool
  | c :: e :: _ => decide (c.toNat = 47) && decide (e.toNat = 47)
  | _ => false
def St.nl (σ : St) : St := { σ with at_ := σ.at_ + 1, line := σ.line + 1, col := 1 }
def St.step (σ : St) : St := match σ.s.drop σ.at_ with
  | [] => σ
  | c :: q =>
    if c.toNat = 10 then (if endsB σ.out = true then σ.put 1 [59] 0 else σ).nl
    else if c.toNat = 32 ∨ c.toNat = 9 ∨ c.toNat = 13 then σ.skip 1
    else if isCmt (c :: q) = true then σ.skip (cmt (c :: q))
    else σ.read
theorem put_same (σ : St) (k : Int) (t : List UInt8) (n : Int) : (σ.put k t n).s = σ.s ∧ (σ.put k t n).at_ = σ.at_ ∧ (σ.put k t n).line = σ.line ∧ (σ.put k t n).col = σ.col := by
  unfold St.put; split <;> simp
theorem Bd.put (h : Bd σ) (k : Int) (t : List UInt8) (n : Int) : Bd (σ.put k t n) := by
  obtain ⟨h1, h2, h3, h4⟩ := put_same σ k t n
  refine ⟨by rw [h1]; exact h.s, by rw [h1, h2]; exact h.a, by rw [h2, h3]; exact h.l, by rw [h2, h4]; exact h.c, ?_⟩
  have := h.o
  unfold St.put
  split <;> simp <;> omega
theorem fault_same (σ : St) (e : Int) : (σ.fault e).s = σ.s ∧ (σ.fault e).at_ = σ.at_ ∧ (σ.fault e).line = σ.line ∧ (σ.fault e).col = σ.col ∧ (σ.fault e).out = σ.out := by
  unfold St.fault; split <;> simp
theorem Bd.fault (h : Bd σ) (e : Int) : Bd (σ.fault e) := by
  obtain ⟨h1, h2, h3, h4, h5⟩ := fault_same σ e
  exact ⟨by rw [h1]; exact h.s, by rw [h1, h2]; exact h.a, by rw [h2, h3]; exact h.l, by rw [h2, h4]; exact h.c, by rw [h5]; exact h.o⟩
structure Nu (S : Sums) : Prop where
  one : S 23 = []
  next : S 37 = []
  rest : S 39 = []
  skip : S 38 = []
  fault : S 48 = []
  put : S 25 = []
  ends : S 24 = []
  comment : S 40 = []
  word : S 41 = []
  number : S 42 = []
  text : S 43 = []
  sign : S 36 = []
  letter : S 26 = []
  digit : S 27 = []
  escape : S 49 = []
  isWord : S 14 = []
theorem one_run (hS : Nu S) (h : Sc m b f ao fo σ) (hb : Bd σ) (hlt : σ.at_ < σ.s.length) :
    ∃ v m1, callw Tryd.prog TT S 23 [.pointer (some ⟨b, 0, none⟩)] m = some (v, m1) ∧ ∃ ao1 fo1, Sc m1 b f ao1 fo1 σ.step ∧ Keeps m m1 [f, fo] ∧ (fo1 = fo ∨ m.next ≤ fo1) := by
  have hn := next_run (m := m) hS.next h hb
  have hr := rest_run (m := m) hS.rest h hb
  obtain ⟨c, q, hcq, hc⟩ : ∃ c q, σ.s.drop σ.at_ = c :: q ∧ σ.s[σ.at_]? = some c := ⟨_, _, List.drop_eq_getElem_cons hlt, List.getElem?_eq_getElem hlt⟩
  have hrl : (σ.s.drop σ.at_).length ≤ 16384 := by have := hb.s; simp; omega
  have hL := fun n => letter_run (m := m) hS.letter n
  have hD := fun n => digit_run (m := m) hS.digit n
  have hflt := h.h.flt
  have hs := hb.s
  have hbl := hb.l
  have hbc := hb.c
  rw [hc] at hn
  rw [hcq] at hr hrl
  have hrl1 : q.length + 1 ≤ 16384 := by simpa using hrl
  simp only [Option.map_some, Option.getD_some] at hn
  refine fn_w 4 [8, 12, 33, 46, 63, 68, 73] k23 hS.one rfl ?_
  by_cases c10 : c.toNat = 10
  · have hstep : σ.step = (if endsB σ.out = true then σ.put 1 [59] 0 else σ).nl := by simp only [St.step, hcq, c10, if_true]
    rw [hstep]
    have c10' : (c.toNat : Int) = 10 := by omega
    obtain ⟨v, m1, he, rfl, k1⟩ := ends_run hS.ends h hb
    have h1 := h.keep k1 (by simp) (by simp)
    -- what the stores do
    have w1 : IntKind.i64.wrap ((σ.at_ : Int) + 1) = ((σ.at_ + 1 : Nat) : Int) := by rw [wrap_i64 (by omega) (by omega)]; omega
    have w2 : IntKind.i64.wrap ((σ.line : Int) + 1) = ((σ.line + 1 : Nat) : Int) := by rw [wrap_i64 (by omega) (by omega)]; omega
    cases hE : endsB σ.out with
    | true =>
      rw [hE] at he
      obtain ⟨v, m2, hp, rfl, ao2, fo2, h2, k2, hfo2⟩ := put_run hS.put h1 hb 1 [59] 0
      obtain ⟨p1, p2, p3, p4⟩ := put_same σ 1 [59] 0
      have l1 := h2.l1
      have l2 := h2.l2
      rw [p2] at l1
      rw [p3] at l2
      simp [-Int.natCast_add, -BitVec.toNat_or, -BitVec.toNat_ofInt, -BitVec.toNat_and, fieldAddr_of fa52_1, load_of ld3, store_of sz3, fieldAddr_of fa52_2, fieldAddr_of fa52_3, len_string u9, index_str u9, hn, c10', he, hp, l1, w1]
      generalize hr1 : storeRow _ _ _ = r1
      obtain ⟨m3, rfl, o3, k3⟩ := store_own hr1 h2.h (by simp [St.cells, Tok.cells]) (by simp [one_int])
      have l2' : loadRow m3 ⟨b, 2, none⟩ 1 = some [.int .i64 (σ.put 1 [59] 0).line] := o3.load1 (off := 2) rfl
      rw [p3] at l2'
      simp [-Int.natCast_add, -BitVec.toNat_or, -BitVec.toNat_ofInt, -BitVec.toNat_and, fieldAddr_of fa52_1, load_of ld3, store_of sz3, fieldAddr_of fa52_2, fieldAddr_of fa52_3, len_string u9, index_str u9, l2', w2]
      generalize hr2 : storeRow _ _ _ = r2
      obtain ⟨m4, rfl, o4, k4⟩ := store_own hr2 o3 (by simp [St.cells, Tok.cells, over]) (by simp [one_int])
      simp [-Int.natCast_add, -BitVec.toNat_or, -BitVec.toNat_ofInt, -BitVec.toNat_and, fieldAddr_of fa52_1, load_of ld3, store_of sz3, fieldAddr_of fa52_2, fieldAddr_of fa52_3, len_string u9, index_str u9]
      generalize hr3 : storeRow _ _ _ = r3
      obtain ⟨m5, rfl, o5, k5⟩ := store_own hr3 o4 (by simp [St.cells, Tok.cells, over]) (by simp [one_int])
      simp [-Int.natCast_add, -BitVec.toNat_or, -BitVec.toNat_ofInt, -BitVec.toNat_and, fieldAddr_of fa52_1, load_of ld3, store_of sz3, fieldAddr_of fa52_2, fieldAddr_of fa52_3, len_string u9, index_str u9]
      have kk := (k3.trans k4).trans k5
      refine ⟨_, fo2, ⟨?_, h2.o.keep kk (by simpa using h2.ne.symm), h2.ne⟩, (k1.nil.trans k2).trans (kk.mono (by simp)), by rcases hfo2 with e | e; exact Or.inl e; exact Or.inr (Nat.le_trans k1.1 e)⟩
      simpa [-Int.natCast_add, St.cells, St.nl, Tok.cells, over, p1, p2, p3] using o5
    | false =>
      rw [hE] at he
      have l1 := h1.l1
      simp [-Int.natCast_add, -BitVec.toNat_or, -BitVec.toNat_ofInt, -BitVec.toNat_and, fieldAddr_of fa52_1, load_of ld3, store_of sz3, fieldAddr_of fa52_2, fieldAddr_of fa52_3, len_string u9, index_str u9, hn, c10', he, l1, w1]
      generalize hr1 : storeRow _ _ _ = r1
      obtain ⟨m3, rfl, o3, k3⟩ := store_own hr1 h1.h (by simp [St.cells, Tok.cells]) (by simp [one_int])
      have l2' : loadRow m3 ⟨b, 2, none⟩ 1 = some [.int .i64 (σ).line] := o3.load1 (off := 2) rfl
      skip
      simp [-Int.natCast_add, -BitVec.toNat_or, -BitVec.toNat_ofInt, -BitVec.toNat_and, fieldAddr_of fa52_1, load_of ld3, store_of sz3, fieldAddr_of fa52_2, fieldAddr_of fa52_3, len_string u9, index_str u9, l2', w2]
      generalize hr2 : storeRow _ _ _ = r2
      obtain ⟨m4, rfl, o4, k4⟩ := store_own hr2 o3 (by simp [St.cells, Tok.cells, over]) (by simp [one_int])
      simp [-Int.natCast_add, -BitVec.toNat_or, -BitVec.toNat_ofInt, -BitVec.toNat_and, fieldAddr_of fa52_1, load_of ld3, store_of sz3, fieldAddr_of fa52_2, fieldAddr_of fa52_3, len_string u9, index_str u9]
      generalize hr3 : storeRow _ _ _ = r3
      obtain ⟨m5, rfl, o5, k5⟩ := store_own hr3 o4 (by simp [St.cells, Tok.cells, over]) (by simp [one_int])
      simp [-Int.natCast_add, -BitVec.toNat_or, -BitVec.toNat_ofInt, -BitVec.toNat_and, fieldAddr_of fa52_1, load_of ld3, store_of sz3, fieldAddr_of fa52_2, fieldAddr_of fa52_3, len_string u9, index_str u9]
      have kk := (k3.trans k4).trans k5
      refine ⟨_, fo, ⟨?_, h1.o.keep kk (by simpa using h1.ne.symm), h1.ne⟩, (k1.nil.trans (kk.mono (by simp))), Or.inl rfl⟩
      simpa [-Int.natCast_add, St.cells, St.nl, Tok.cells, over] using o5
  · have c10' : ¬ (c.toNat : Int) = 10 := by omega
    have hqi : ((q.length : Int) + 1 > 1) ↔ q ≠ [] := by cases q <;> simp; omega
    by_cases cb : c.toNat = 32 ∨ c.toNat = 9 ∨ c.toNat = 13
    · have hstep : σ.step = σ.skip 1 := by simp only [St.step, hcq, c10, cb, if_true, if_false]
      rw [hstep]
      obtain ⟨v, m1, hk, rfl, h1, k1⟩ := skip_run hS.skip h hb 1 (by omega)
      rw [show ((1 : Nat) : Int) = 1 from rfl] at hk
      by_cases b1 : c.toNat = 32
      · have b1' : (c.toNat : Int) = 32 := by omega
        simp [-BitVec.toNat_or, -BitVec.toNat_ofInt, -BitVec.toNat_and, fieldAddr_of fa52_1, load_of ld3, store_of sz3, fieldAddr_of fa52_2, fieldAddr_of fa52_3, len_string u9, index_str u9, hn, c10', b1', hk]
        exact ⟨ao, fo, h1, k1.mono (by simp), Or.inl rfl⟩
      · have b1' : ¬ (c.toNat : Int) = 32 := by omega
        by_cases b2 : c.toNat = 9
        · have b2' : (c.toNat : Int) = 9 := by omega
          simp [-BitVec.toNat_or, -BitVec.toNat_ofInt, -BitVec.toNat_and, fieldAddr_of fa52_1, load_of ld3, store_of sz3, fieldAddr_of fa52_2, fieldAddr_of fa52_3, len_string u9, index_str u9, hn, c10', b1', b2', hk]
          exact ⟨ao, fo, h1, k1.mono (by simp), Or.inl rfl⟩
        · have b3' : (c.toNat : Int) = 13 := by omega
          simp [-BitVec.toNat_or, -BitVec.toNat_ofInt, -BitVec.toNat_and, fieldAddr_of fa52_1, load_of ld3, store_of sz3, fieldAddr_of fa52_2, fieldAddr_of fa52_3, len_string u9, index_str u9, hn, c10', b1', b3', hk]
          exact ⟨ao, fo, h1, k1.mono (by simp), Or.inl rfl⟩
    · have b1' : ¬ (c.toNat : Int) = 32 := by omega
      have b2' : ¬ (c.toNat : Int) = 9 := by omega
      have b3' : ¬ (c.toNat : Int) = 13 := by omega
      by_cases hcm : isCmt (c :: q) = true
      · have hstep : σ.step = σ.skip (cmt (c :: q)) := by simp only [St.step, hcq, c10, cb, hcm, if_true, if_false]
        rw [hstep]
        cases q with
        | nil => simp [isCmt] at hcm
        | cons e q2 =>
          simp only [isCmt, Bool.and_eq_true, decide_eq_true_eq] at hcm
          have c47 : (c.toNat : Int) = 47 := by omega
          have e47 : (e.toNat : Int) = 47 := by omega
          have hcr := comment_run (m := m) hS.comment hS.rest h hb
          rw [hcq] at hcr
          have hle : cmt (c :: e :: q2) ≤ (c :: e :: q2).length := tw_le _ _
          obtain ⟨v, m1, hk, rfl, h1, k1⟩ := skip_run hS.skip h hb (cmt (c :: e :: q2)) (by omega)
          have hq1 : (1 : Int) < (q2.length : Int) + 1 + 1 := by omega
          simp [-BitVec.toNat_or, -BitVec.toNat_ofInt, -BitVec.toNat_and, fieldAddr_of fa52_1, load_of ld3, store_of sz3, fieldAddr_of fa52_2, fieldAddr_of fa52_3, len_string u9, index_str u9, hn, hr, c10', b1', b2', b3', c47, e47, hq1, hcr, hk]
          exact ⟨ao, fo, h1, k1.mono (by simp), Or.inl rfl⟩
      · have hstep : σ.step = σ.read := by simp only [St.step, hcq, c10, cb, hcm, if_false]; rfl
        rw [hstep]
        have hread : ∀ x, readR (c :: q) = x → σ.read = (match x with
          | .tok k t v n => (σ.put k t v).skip n
          | .err e => (σ.fault e).skip 0) := by intro x hx; simp only [St.read, hcq, hx]
        have sgn : ltr c.toNat = false → dgt c.toNat = false → c.toNat ≠ 34 → readR (c :: q) = (match signR (c :: q) with
            | some (k, x) => .tok k x 0 x.length
            | none => .err 10) := by
          intro g1 g2 g3
          simp only [readR, g1, g2, g3, Bool.false_eq_true, if_false]
        have sgl : ∀ k x, signR (c :: q) = some (k, x) → x.length ≤ 2 := by
          intro k x hx
          unfold signR at hx
          split at hx
          · simp only [Option.some.injEq, Prod.mk.injEq] at hx; rw [← hx.2]; simp; omega
          · simp only at hx
            split at hx
            · simp only [Option.some.injEq, Prod.mk.injEq] at hx; rw [← hx.2]; simp
            · split at hx
              · simp only [Option.some.injEq, Prod.mk.injEq] at hx; rw [← hx.2]; simp
              · cases hx
        obtain ⟨v3, m1s, hsr, aos, fos, h1s, k1s, hfs⟩ := sign_run hS.sign hS.rest hS.fault hS.put h hb hlt
        rw [hcq] at h1s
        by_cases c47 : c.toNat = 47
        · have c47' : (c.toNat : Int) = 47 := by omega
          have g1 : ltr c.toNat = false := by rw [c47]; rfl
          have g2 : dgt c.toNat = false := by rw [c47]; rfl
          have g1' : ltr 47 = false := rfl
          have g2' : dgt 47 = false := rfl
          have hL47 : callw Tryd.prog TT S 26 [.int .u8 47] m = some (.bool false, m) := hL 47
          have hD47 : callw Tryd.prog TT S 27 [.int .u8 47] m = some (.bool false, m) := hD 47
          rw [hread _ (sgn g1 g2 (by omega))]
          cases q with
          | nil =>
            cases hT : signR [c] with
            | none =>
              rw [hT] at h1s
              obtain ⟨rfl, h1⟩ := h1s
              obtain ⟨v, m2, hk, rfl, h2, k2⟩ := skip_run hS.skip h1 ((hb.fault 10)) (0) (by first | omega | (have := tw_le (fun c => lod c.toNat) (c :: q); have := tw_le (fun c => dgt c.toNat) (c :: q); simp only [wd, nd] at *; omega))
              rw [show ((0 : Nat) : Int) = 0 from rfl] at hk
              simp [-BitVec.toNat_or, -BitVec.toNat_ofInt, -BitVec.toNat_and, fieldAddr_of fa52_1, load_of ld3, store_of sz3, fieldAddr_of fa52_2, fieldAddr_of fa52_3, len_string u9, index_str u9, hn, hr, c10', b1', b2', b3', hL, hD, c47', hL47, hD47, hsr, hk]
              exact ⟨aos, fos, h2, k1s.trans (k2.mono (by simp)), hfs⟩
            | some p =>
              obtain ⟨k, x⟩ := p
              rw [hT] at h1s
              obtain ⟨rfl, h1⟩ := h1s
              have hxl := sgl k x hT
              obtain ⟨v, m2, hk, rfl, h2, k2⟩ := skip_run hS.skip h1 ((hb.put k x 0)) (x.length) (by first | omega | (have := tw_le (fun c => lod c.toNat) (c :: q); have := tw_le (fun c => dgt c.toNat) (c :: q); simp only [wd, nd] at *; omega))
              skip
              simp [-BitVec.toNat_or, -BitVec.toNat_ofInt, -BitVec.toNat_and, fieldAddr_of fa52_1, load_of ld3, store_of sz3, fieldAddr_of fa52_2, fieldAddr_of fa52_3, len_string u9, index_str u9, hn, hr, c10', b1', b2', b3', hL, hD, c47', hL47, hD47, hsr, hk]
              exact ⟨aos, fos, h2, k1s.trans (k2.mono (by simp)), hfs⟩
          | cons e q2 =>
            have e47 : ¬ (e.toNat : Int) = 47 := by
              intro e0
              apply hcm
              simp only [isCmt, Bool.and_eq_true, decide_eq_true_eq]
              omega
            have hq1 : (1 : Int) < (q2.length : Int) + 1 + 1 := by omega
            cases hT : signR (c :: e :: q2) with
            | none =>
              rw [hT] at h1s
              obtain ⟨rfl, h1⟩ := h1s
              obtain ⟨v, m2, hk, rfl, h2, k2⟩ := skip_run hS.skip h1 ((hb.fault 10)) (0) (by first | omega | (have := tw_le (fun c => lod c.toNat) (c :: q); have := tw_le (fun c => dgt c.toNat) (c :: q); simp only [wd, nd] at *; omega))
              rw [show ((0 : Nat) : Int) = 0 from rfl] at hk
              simp [-BitVec.toNat_or, -BitVec.toNat_ofInt, -BitVec.toNat_and, fieldAddr_of fa52_1, load_of ld3, store_of sz3, fieldAddr_of fa52_2, fieldAddr_of fa52_3, len_string u9, index_str u9, hn, hr, c10', b1', b2', b3', hL, hD, c47', hL47, hD47, hsr, e47, hq1, hk]
              exact ⟨aos, fos, h2, k1s.trans (k2.mono (by simp)), hfs⟩
            | some p =>
              obtain ⟨k, x⟩ := p
              rw [hT] at h1s
              obtain ⟨rfl, h1⟩ := h1s
              have hxl := sgl k x hT
              obtain ⟨v, m2, hk, rfl, h2, k2⟩ := skip_run hS.skip h1 ((hb.put k x 0)) (x.length) (by first | omega | (have := tw_le (fun c => lod c.toNat) (c :: q); have := tw_le (fun c => dgt c.toNat) (c :: q); simp only [wd, nd] at *; omega))
              skip
              simp [-BitVec.toNat_or, -BitVec.toNat_ofInt, -BitVec.toNat_and, fieldAddr_of fa52_1, load_of ld3, store_of sz3, fieldAddr_of fa52_2, fieldAddr_of fa52_3, len_string u9, index_str u9, hn, hr, c10', b1', b2', b3', hL, hD, c47', hL47, hD47, hsr, e47, hq1, hk]
              exact ⟨aos, fos, h2, k1s.trans (k2.mono (by simp)), hfs⟩
        · have c47' : ¬ (c.toNat : Int) = 47 := by omega
          cases hl : ltr c.toNat with
          | true =>
            rw [hread (.tok (if wd (c :: q) ∈ wordL then 3 else 2) (wd (c :: q)) 0 (wd (c :: q)).length) (by simp only [readR, hl, if_true])]
            obtain ⟨v, m1, hw, rfl, ao1, fo1, h1, k1, hf1⟩ := word_run hS.word hS.rest hS.letter hS.digit hS.isWord hS.put h hb
            rw [hcq] at hw h1
            obtain ⟨v, m2, hk, rfl, h2, k2⟩ := skip_run hS.skip h1 ((hb.put _ _ _)) ((wd (c :: q)).length) (by first | omega | (have := tw_le (fun c => lod c.toNat) (c :: q); have := tw_le (fun c => dgt c.toNat) (c :: q); simp only [wd, nd] at *; omega))
            skip
            simp [-BitVec.toNat_or, -BitVec.toNat_ofInt, -BitVec.toNat_and, fieldAddr_of fa52_1, load_of ld3, store_of sz3, fieldAddr_of fa52_2, fieldAddr_of fa52_3, len_string u9, index_str u9, hn, hr, c10', b1', b2', b3', hL, hD, c47', hl, hw, hk]
            exact ⟨ao1, fo1, h2, k1.trans (k2.mono (by simp)), hf1⟩
          | false =>
            cases hd : dgt c.toNat with
            | true =>
              obtain ⟨v, m1, hw, ao1, fo1, h1, k1, hf1⟩ := number_run hS.number hS.rest hS.digit hS.fault hS.put h hb
              rw [hcq] at h1
              cases hx : numGo (nd (c :: q)) 0 with
              | none =>
                rw [hread (.err 12) (by simp only [readR, hl, hd, hx, Bool.false_eq_true, if_false, if_true])]
                rw [hx] at h1
                obtain ⟨rfl, h1⟩ := h1
                obtain ⟨v, m2, hk, rfl, h2, k2⟩ := skip_run hS.skip h1 ((hb.fault 12)) (0) (by first | omega | (have := tw_le (fun c => lod c.toNat) (c :: q); have := tw_le (fun c => dgt c.toNat) (c :: q); simp only [wd, nd] at *; omega))
                rw [show ((0 : Nat) : Int) = 0 from rfl] at hk
                simp [-BitVec.toNat_or, -BitVec.toNat_ofInt, -BitVec.toNat_and, fieldAddr_of fa52_1, load_of ld3, store_of sz3, fieldAddr_of fa52_2, fieldAddr_of fa52_3, len_string u9, index_str u9, hn, hr, c10', b1', b2', b3', hL, hD, c47', hl, hd, hw, hk]
                exact ⟨ao1, fo1, h2, k1.trans (k2.mono (by simp)), hf1⟩
              | some x =>
                rw [hread (.tok 4 (nd (c :: q)) x (nd (c :: q)).length) (by simp only [readR, hl, hd, hx, Bool.false_eq_true, if_false, if_true])]
                rw [hx] at h1
                obtain ⟨rfl, h1⟩ := h1
                obtain ⟨v, m2, hk, rfl, h2, k2⟩ := skip_run hS.skip h1 ((hb.put _ _ _)) ((nd (c :: q)).length) (by first | omega | (have := tw_le (fun c => lod c.toNat) (c :: q); have := tw_le (fun c => dgt c.toNat) (c :: q); simp only [wd, nd] at *; omega))
                skip
                simp [-BitVec.toNat_or, -BitVec.toNat_ofInt, -BitVec.toNat_and, fieldAddr_of fa52_1, load_of ld3, store_of sz3, fieldAddr_of fa52_2, fieldAddr_of fa52_3, len_string u9, index_str u9, hn, hr, c10', b1', b2', b3', hL, hD, c47', hl, hd, hw, hk]
                exact ⟨ao1, fo1, h2, k1.trans (k2.mono (by simp)), hf1⟩
            | false =>
              by_cases c34 : c.toNat = 34
              · have c34' : (c.toNat : Int) = 34 := by omega
                have hl34 : callw Tryd.prog TT S 26 [.int .u8 34] m = some (.bool false, m) := hL 34
                have hd34 : callw Tryd.prog TT S 27 [.int .u8 34] m = some (.bool false, m) := hD 34
                obtain ⟨v, m1, hw, ao1, fo1, h1, k1, hf1⟩ := text_run hS.text hS.rest hS.escape hS.fault hS.put h hb hlt
                rw [hcq] at h1
                simp only [List.drop_succ_cons, List.drop_zero] at h1
                cases hx : textGo q [] with
                | none =>
                  rw [hread (.err 11) (by simp only [readR, hl, hd, hx, Bool.false_eq_true, if_false]; rw [if_pos c34])]
                  rw [hx] at h1
                  obtain ⟨rfl, h1⟩ := h1
                  obtain ⟨v, m2, hk, rfl, h2, k2⟩ := skip_run hS.skip h1 ((hb.fault 11)) (0) (by first | omega | (have := tw_le (fun c => lod c.toNat) (c :: q); have := tw_le (fun c => dgt c.toNat) (c :: q); simp only [wd, nd] at *; omega))
                  rw [show ((0 : Nat) : Int) = 0 from rfl] at hk
                  simp [-BitVec.toNat_or, -BitVec.toNat_ofInt, -BitVec.toNat_and, fieldAddr_of fa52_1, load_of ld3, store_of sz3, fieldAddr_of fa52_2, fieldAddr_of fa52_3, len_string u9, index_str u9, hn, hr, c10', b1', b2', b3', hL, hD, c47', c34', hl34, hd34, hw, hk]
                  exact ⟨ao1, fo1, h2, k1.trans (k2.mono (by simp)), hf1⟩
                | some p =>
                  obtain ⟨x, t⟩ := p
                  rw [hread (.tok 5 x 0 ((c :: q).length - t.length)) (by simp only [readR, hl, hd, hx, Bool.false_eq_true, if_false]; rw [if_pos c34])]
                  rw [hx] at h1
                  obtain ⟨rfl, h1⟩ := h1
                  simp only [List.length_cons] at hw h1
                  obtain ⟨v, m2, hk, rfl, h2, k2⟩ := skip_run hS.skip h1 ((hb.put _ _ _)) ((q.length + 1 - t.length)) (by first | omega | (have := tw_le (fun c => lod c.toNat) (c :: q); have := tw_le (fun c => dgt c.toNat) (c :: q); simp only [wd, nd] at *; omega))
                  skip
                  simp [-BitVec.toNat_or, -BitVec.toNat_ofInt, -BitVec.toNat_and, fieldAddr_of fa52_1, load_of ld3, store_of sz3, fieldAddr_of fa52_2, fieldAddr_of fa52_3, len_string u9, index_str u9, hn, hr, c10', b1', b2', b3', hL, hD, c47', c34', hl34, hd34, hw, hk]
                  exact ⟨ao1, fo1, h2, k1.trans (k2.mono (by simp)), hf1⟩
              · have c34' : ¬ (c.toNat : Int) = 34 := by omega
                rw [hread _ (sgn hl hd c34)]
                cases hT : signR (c :: q) with
                | none =>
                  rw [hT] at h1s
                  obtain ⟨rfl, h1⟩ := h1s
                  obtain ⟨v, m2, hk, rfl, h2, k2⟩ := skip_run hS.skip h1 ((hb.fault 10)) (0) (by first | omega | (have := tw_le (fun c => lod c.toNat) (c :: q); have := tw_le (fun c => dgt c.toNat) (c :: q); simp only [wd, nd] at *; omega))
                  rw [show ((0 : Nat) : Int) = 0 from rfl] at hk
                  simp [-BitVec.toNat_or, -BitVec.toNat_ofInt, -BitVec.toNat_and, fieldAddr_of fa52_1, load_of ld3, store_of sz3, fieldAddr_of fa52_2, fieldAddr_of fa52_3, len_string u9, index_str u9, hn, hr, c10', b1', b2', b3', hL, hD, c47', c34', hl, hd, hsr, hk]
                  exact ⟨aos, fos, h2, k1s.trans (k2.mono (by simp)), hfs⟩
                | some p =>
                  obtain ⟨k, x⟩ := p
                  rw [hT] at h1s
                  obtain ⟨rfl, h1⟩ := h1s
                  have hxl := sgl k x hT
                  obtain ⟨v, m2, hk, rfl, h2, k2⟩ := skip_run hS.skip h1 ((hb.put k x 0)) (x.length) (by first | omega | (have := tw_le (fun c => lod c.toNat) (c :: q); have := tw_le (fun c => dgt c.toNat) (c :: q); simp only [wd, nd] at *; omega))
                  skip
                  simp [-BitVec.toNat_or, -BitVec.toNat_ofInt, -BitVec.toNat_and, fieldAddr_of fa52_1, load_of ld3, store_of sz3, fieldAddr_of fa52_2, fieldAddr_of fa52_3, len_string u9, index_str u9, hn, hr, c10', b1', b2', b3', hL, hD, c47', c34', hl, hd, hsr, hk]
                  exact ⟨aos, fos, h2, k1s.trans (k2.mono (by simp)), hfs⟩
end Go.Proofs.YtgomgdbapgibjaaDoor.base

