/-
  This text proves what the maker's stmts does over the abstract run, given what its stmt does.
  Condition: nothing is known of its calls ahead ('S f = []').
-/
import Derived.Test.YtgomgdbapgibjaaDoorMakC
set_option maxRecDepth 100000
set_option linter.unusedSimpArgs false
set_option linter.unusedVariables false
namespace Go.Proofs.YtgomgdbapgibjaaDoor.base
open Go.Sh gen
variable {S : Sums} {m : Mem}
def Gt : Nat → Nat
  | 0 => 100000
  | d + 1 => 8 * Gt d + 100000
structure Hy (σ : Ms) (n d g : Nat) : Prop where
  loops : σ.loops + d ≤ 9
  n : n + d ≤ 50
  res : σ.res < 7
  out : σ.out.length + g ≤ 900000000000
def HSs (S : Sums) (d : Nat) : Prop := ∀ {m : Mem} {b n : Nat} {σ : Ms}, Mk m b σ → Hy σ n d (4 * Gt d) →
  ∃ v m1 υ, callw Tryd.prog TT S 34 [.pointer (some ⟨b, 0, none⟩), .int .i64 n, .int .i64 d] m = some (v, m1) ∧ Cu m b σ (4 * Gt d) m1 υ
def HSt (S : Sums) (d : Nat) : Prop := ∀ {m : Mem} {b n : Nat} {σ : Ms}, Mk m b σ → Hy σ n d (Gt d) →
  ∃ v m1 υ, callw Tryd.prog TT S 45 [.pointer (some ⟨b, 0, none⟩), .int .i64 n, .int .i64 d] m = some (v, m1) ∧ Cu m b σ (Gt d) m1 υ
theorem Mk.back {m0 m1 m2 m3 : Mem} {b g wb wf : Nat} {σ τ : Ms} (h : Mk m0 b σ) (k1 : Keeps m0 m1 []) (hw : Own m1 wb σ.vs 48 wf) (hn : m0.next ≤ wf) (q : Cu m1 b σ g m2 τ)
    (k : Keeps m2 m3 [b]) (o : Own m3 b (Ms.cells { τ with vb := wb, vf := wf, vs := σ.vs }) 45 b) : Cu m0 b σ g m3 { τ with vb := wb, vf := wf, vs := σ.vs } := by
  have hb := h.own.flt
  have hv := h.vo.flt
  have hwl := hw.flt
  have kk : Keeps m0 m3 [b, σ.vf] := (k1.nil.trans q.k).trans (k.mono (by simp))
  have k13 : Keeps m1 m3 [b, σ.vf] := q.k.trans (k.mono (by simp))
  refine ⟨⟨o, hw.keep k13 (by simp; omega), h.len, fun v hv => ?_, by show wf ≠ b; omega, q.m_.raw.keep k (by simpa using q.m_.rne.1), q.m_.rl, ⟨q.m_.rne.1, ?_⟩, q.m_.at_, q.m_.names, q.m_.loops, Nat.lt_of_lt_of_le q.m_.rlt k.1⟩, q.loops, q.res, q.out, kk, Or.inr hn, q.names, q.rf⟩
  · obtain ⟨ao, ss, fam, g1, g2, g3, g4, g5, g6⟩ := h.vars v hv
    refine ⟨ao, ss, fam, g1, g2.keep0 kk (fun h0 => ?_), g3, ?_, fun h0 => ⟨(g5 h0).1, ?_⟩, g6⟩
    · simp; exact g5 h0
    · have := q.names
      show ss.length ≤ τ.names + 4
      omega
    · obtain ⟨_, _, r⟩ := g2.rdo h0
      have := r.flt
      show fam ≠ wf
      omega
  · have := h.rlt
    have e := q.rf
    show τ.rf ≠ wf
    omega
theorem mstmts_run (hN : Nm S) (d : Nat) (st : HSt S d) : HSs S d := by
  intro m b n σ h hy
  suffices hh : ∃ v m1, callw Tryd.prog TT S 34 [.pointer (some ⟨b, 0, none⟩), .int .i64 n, .int .i64 d] m = some (v, m1) ∧ ∃ υ, Cu m b σ (4 * Gt d) m1 υ by
    obtain ⟨v, m1, h1, υ, h2⟩ := hh
    exact ⟨v, m1, υ, h1, h2⟩
  refine fn_w 8 [18] k34 hN.stmts rfl ?_
  have lv := h.l.2.2.1
  have hl := h.len
  have l7 : loadRow m ⟨σ.vb, 0, none⟩ 7 = some σ.vs := by
    rw [h.vo.load (off := 0) 7 (by omega)]
    simp [window, List.take_of_length_le, hl]
  simp (disch := first | omega | (simp only [List.length_append, List.length_cons, List.length_nil]; omega) | rfl) [-Int.natCast_add, -strOp, add_short, fold_k, fold_0, -BitVec.toNat_or, -BitVec.toNat_ofInt, -BitVec.toNat_and, buildSlice_of u43 bs48 rfl, fieldAddr_of fa45_2, load_of ld43, append_s u43 sz48, store_of sz43, lv, h.own.ln, h.vo.ln, l7]
  have hlt := h.own.flt
  have hlt2 := h.vo.flt
  generalize hrr : sappend _ _ _ _ _ _ = rr
  obtain ⟨m1, wb, rfl, o1, k1'⟩ := app_own hrr u43 ap48 (Own.new m [] 48) rfl (by simp [hl]) (by simp; intro v hv; obtain ⟨ao, ss, fam, rfl, _⟩ := h.vars v hv; rfl) (by simp) (by simp)
  have k1 : Keeps m m1 [] := (keeps_new m [] 48 []).fresh k1' (by simp)
  simp only [List.nil_append] at o1
  have h1 := h.keep k1
  obtain ⟨y, m2, τ, c2, hy4, q2, _⟩ := (Cu.refl h1).next hN 4 4 rfl (by omega) (by omega)
  have w1 : IntKind.i64.wrap (1 + (y : Int)) = ((y + 1 : Nat) : Int) := by rw [wrap_i64 (by omega) (by omega)]; omega
  clear hrr k1'
  have fin : ∀ {m3 m4 : Mem} {g : Nat} {τ : Ms}, Cu m1 b σ g m3 τ → Keeps m3 m4 [b] → Own m4 b (Ms.cells { τ with vb := wb, vf := m.next, vs := σ.vs }) 45 b → Cu m b σ g m4 { τ with vb := wb, vf := m.next, vs := σ.vs } := fun q k o => h.back k1 o1 (Nat.le_refl _) q k o
  simp (disch := first | omega | (simp only [List.length_append, List.length_cons, List.length_nil]; omega) | rfl) [-Int.natCast_add, -strOp, add_short, fold_k, fold_0, -BitVec.toNat_or, -BitVec.toNat_ofInt, -BitVec.toNat_and, buildSlice_of u43 bs48 rfl, fieldAddr_of fa45_2, load_of ld43, append_s u43 sz48, store_of sz43, c2, w1]
  refine wsem_loop 8 [18] (fun j E m3 => ∃ τ g, E = [(0, .pointer (some ⟨b, 0, none⟩)), (1, .int .i64 n), (2, .int .i64 d), (6, .slice (some ⟨wb, 0, none⟩) 7 7), (7, .int .i64 j)] ∧ Cu m1 b σ g m3 τ ∧ g + j * Gt d ≤ 4 * Gt d ∧ j ≤ 4) _ ⟨_, ⟨τ, 0, rfl, q2, ?_, ?_⟩, ⟨by rfl, by rfl, by rfl, by rfl, by rfl, trivial⟩⟩ ?_
  · have := Nat.mul_le_mul_right (Gt d) (by omega : y + 1 ≤ 4)
    omega
  · omega
  rintro j E m3 ih ⟨τ, g, rfl, q, hg, hj⟩
  by_cases j0 : j = 0
  · subst j0
    simp (disch := first | omega | (simp only [List.length_append, List.length_cons, List.length_nil]; omega) | rfl) [-Int.natCast_add, -strOp, add_short, fold_k, fold_0, -BitVec.toNat_or, -BitVec.toNat_ofInt, -BitVec.toNat_and, buildSlice_of u43 bs48 rfl, fieldAddr_of fa45_2, load_of ld43, append_s u43 sz48, store_of sz43]
    generalize hrr : storeRow _ _ _ = rr
    obtain ⟨m4, rfl, o4, k4⟩ := store_own hrr q.m_.own (by simp [Ms.cells]) (by simp [one_slice])
    have f4 := fin q k4 (by simpa [Ms.cells, over] using o4)
    simp (disch := first | omega | (simp only [List.length_append, List.length_cons, List.length_nil]; omega) | rfl) [-Int.natCast_add, -strOp, add_short, fold_k, fold_0, -BitVec.toNat_or, -BitVec.toNat_ofInt, -BitVec.toNat_and, buildSlice_of u43 bs48 rfl, fieldAddr_of fa45_2, load_of ld43, append_s u43 sz48, store_of sz43]
    exact ⟨_, f4.mono (by omega)⟩
  · have e1 : (0 : Int) < j := by omega
    have e2 : 0 < j := by omega
    have w1 : IntKind.i64.wrap ((j : Int) - 1) = ((j - 1 : Nat) : Int) := by rw [wrap_i64 (by omega) (by omega)]; omega
    have hj1 : j * Gt d = (j - 1) * Gt d + Gt d := by
      obtain ⟨i, rfl⟩ : ∃ i, j = i + 1 := ⟨j - 1, by omega⟩
      rw [Nat.add_mul]
      simp
    have hyo := hy.out
    have hqo := q.out
    obtain ⟨v4, m4, υ, c4, q4⟩ := st (n := n) q.m_ ⟨by rw [q.loops]; exact hy.loops, hy.n, by rw [q.res]; exact hy.res, by omega⟩
    simp (disch := first | omega | (simp only [List.length_append, List.length_cons, List.length_nil]; omega) | rfl) [-Int.natCast_add, -strOp, add_short, fold_k, fold_0, -BitVec.toNat_or, -BitVec.toNat_ofInt, -BitVec.toNat_and, buildSlice_of u43 bs48 rfl, fieldAddr_of fa45_2, load_of ld43, append_s u43 sz48, store_of sz43, e1, e2, w1, c4]
    exact ih (j - 1) _ _ _ ⟨υ, g + Gt d, rfl, q.trans q4, by omega, by omega⟩ (by omega) ⟨by rfl, by rfl, by rfl, by rfl, by rfl, trivial⟩
end Go.Proofs.YtgomgdbapgibjaaDoor.base

