/-
  This text proves that both tokenizers answer the same of any text: the laws' 'same' and 'all' over the abstract run.
  Condition: nothing is known of their calls ahead ('S f = []').
-/
import Derived.Test.YtgomgdbapgibjaaDoorTokN
set_option maxRecDepth 100000
set_option linter.unusedSimpArgs false
set_option linter.unusedVariables false
namespace Go.Proofs.YtgomgdbapgibjaaDoor.base
open Go.Sh gen
variable {S : Sums} {m : Mem} {b f fo : Nat} {ao : Option Addr} {σ : St}
theorem at_cells {l : List Tok} {i : Nat} (h : i < l.length) : window (outCells l) (i * 5) 5 = (l[i]).cells := by
  have e : (outCells (l.take i)).length = i * 5 := by rw [← outCells_len]; simp; omega
  have hs : outCells l = outCells (l.take i) ++ ((l[i]).cells ++ outCells (l.drop (i + 1))) := by
    have h1 := List.take_append_drop i l
    rw [List.drop_eq_getElem_cons h] at h1
    have h2 : outCells (l.take i ++ l[i] :: l.drop (i + 1)) = outCells (l.take i) ++ ((l[i]).cells ++ outCells (l.drop (i + 1))) := by simp only [outCells, List.flatMap_append, List.flatMap_cons]
    rw [h1] at h2
    exact h2
  rw [hs, ← e]
  simp only [window, List.drop_left]
  rw [List.take_append_of_le_length (by simp [Tok.cells])]
  exact List.take_of_length_le (by simp [Tok.cells])
theorem same_run (hS : S 19 = []) {l : List Tok} {a1 a2 : Option Addr} {f1 f2 : Nat} (h1 : Sl m a1 l.length (outCells l) 31 5 f1) (h2 : Sl m a2 l.length (outCells l) 31 5 f2) (hl : l.length ≤ 4000) :
    ∃ v m1, callw Tryd.prog TT S 19 [.slice a1 l.length l.length, .slice a2 l.length l.length] m = some (v, m1) ∧ v = .bool true ∧ m1 = m := by
  refine fn_w 6 [10, 14, 25] k19 hS rfl ?_
  simp [len_slice u29, index_slice u29 sz31, load_agg ld31, bin_agg ag31 .neq (Or.inr rfl), scal_int u3, scal_str u9, scal_int u2]
  refine wsem_loop 6 [10, 14, 25] (fun d E m2 => ∃ i : Nat, l.length - i = d ∧ i ≤ l.length ∧ E = [(0, .slice a1 l.length l.length), (1, .slice a2 l.length l.length), (5, .int .i64 i)] ∧ m2 = m) _ ⟨_, ⟨0, rfl, by omega, rfl, rfl⟩, ⟨rfl, rfl, rfl, trivial⟩⟩ ?_
  rintro d E m2 ih ⟨i, hd, hi, rfl, rfl⟩
  by_cases hlt : i < l.length
  · obtain ⟨b1, rfl, o1⟩ := h1.own (by omega)
    obtain ⟨b2, rfl, o2⟩ := h2.own (by omega)
    have e1 : (i : Int) < l.length := by omega
    have em : (i : Int) ≤ 9223372036854775807 := by omega
    have w1 : IntKind.i64.wrap ((i : Int) + 1) = ((i + 1 : Nat) : Int) := by rw [wrap_i64 (by omega) (by omega)]; omega
    have l1 : loadRow m2 ⟨b1, i * 5, none⟩ 5 = some (l[i]).cells := by
      rw [o1.load 5 (by rw [← outCells_len]; omega), at_cells hlt]
    have l2 : loadRow m2 ⟨b2, i * 5, none⟩ 5 = some (l[i]).cells := by
      rw [o2.load 5 (by rw [← outCells_len]; omega), at_cells hlt]
    simp only [Tok.cells] at l1 l2
    simp [len_slice u29, index_slice u29 sz31, load_agg ld31, bin_agg ag31 .neq (Or.inr rfl), scal_int u3, scal_str u9, scal_int u2, e1, em, hlt, l1, l2, w1]
    exact ih _ _ _ _ ⟨i + 1, rfl, by omega, rfl, rfl⟩ (by omega) ⟨rfl, rfl, by simp [lget], trivial⟩
  · have e1 : ¬ (i : Int) < l.length := by omega
    simp [len_slice u29, index_slice u29 sz31, load_agg ld31, bin_agg ag31 .neq (Or.inr rfl), scal_int u3, scal_str u9, scal_int u2, e1, hlt]
theorem goF_len (n : Nat) : ∀ σ : St, σ.out.length ≤ 4000 → σ.s.length ≤ 16384 → Bd σ → (goF n σ).out.length ≤ 4000 := by
  induction n with
  | zero => intro σ h _ _; exact h
  | succ n ih =>
    intro σ h hs hb
    simp only [goF]
    split
    · rename_i hg
      obtain ⟨b3, _, s3⟩ := step_ok hb hg.1 hg.2
      exact ih _ b3.o (by rw [s3]; exact hs) b3
    · exact h
theorem put_len (σ : St) (h : σ.out.length ≤ 4000) (k : Int) (t : List UInt8) (n : Int) : (σ.put k t n).out.length ≤ 4000 := by
  unfold St.put
  split <;> simp <;> omega
theorem allR_len (s : List UInt8) : (allR s).1.length ≤ 4000 := by
  unfold allR
  split
  · simp
  · rename_i h
    have h0 : Bd (st0 s) := ⟨by simp [st0]; omega, by simp [st0], by simp [st0], by simp [st0], by simp [st0]⟩
    have h1 := goF_len (s.length + 1) (st0 s) (by simp [st0]) (by simp [st0]; omega) h0
    generalize goF (s.length + 1) (st0 s) = σ at h1
    have h2 : σ.fin1.out.length ≤ 4000 := by unfold St.fin1; split; exact put_len σ h1 _ _ _; exact h1
    generalize σ.fin1 = τ at h2
    have h3 : τ.fin2.out.length ≤ 4000 := by unfold St.fin2; split; exact put_len τ h2 _ _ _; exact h2
    unfold St.res
    split
    · exact h3
    · simp
structure Na (S : Sums) : Prop where
  u : Nu S
  r : Nr S
  p : S 13 = []
  d : S 18 = []
  same : S 19 = []
  all : S 11 = []
theorem all_run (hS : Na S) (s : List UInt8) (hsz : s.length ≤ 9223372036854775807) : ∃ v m1, callw Tryd.prog TT S 11 [.string ⟨s.toArray⟩] m = some (v, m1) ∧ v = .bool true ∧ Keeps m m1 [] := by
  obtain ⟨v1, m1, h1, a1, f1, rfl, s1, hf1, k1⟩ := allP_run (m := m) hS.u hS.p s hsz
  have hlen := allR_len s
  generalize hRR : allR s = R at h1 s1 hlen
  obtain ⟨l, w, e⟩ := R
  simp only at h1 s1 hlen
  refine fn_w 9 [] k11 hS.all rfl ?_
  simp [alloc_of zo31, store_of sz31, load_agg ld31, bin_agg ag31 .eql (Or.inl rfl), scal_int u3, scal_str u9, scal_int u2, h1, Tok.cells]
  obtain ⟨oz, kz, nz⟩ := new_own (m := m1) (cs := [Value.int .i64 0, .string ⟨#[]⟩, .int .i64 0, .int .i64 0, .int .i64 0]) (e := 31) rfl
  generalize hr2 : storeRow _ _ _ = r2
  obtain ⟨m2, rfl, o2, k2⟩ := store_own hr2 oz (by simp) (by simp [one_int, one_str])
  have kk2 : Keeps m1 m2 [] := kz.mono2 k2 (Nat.le_refl _)
  have s2 := s1.keep kk2 (by simp)
  obtain ⟨v3, m3, h3, a3, f3, rfl, s3, hf3, k3⟩ := allD_run (m := m2) hS.r hS.d s hsz
  rw [hRR] at h3 s3
  simp only at h3 s3
  have o3 := o2.keep k3 (by simp)
  have s23 := s2.keep k3 (by simp)
  simp [alloc_of zo31, store_of sz31, load_agg ld31, bin_agg ag31 .eql (Or.inl rfl), scal_int u3, scal_str u9, scal_int u2, h3, Tok.cells]
  obtain ⟨oz4, kz4, nz4⟩ := new_own (m := m3) (cs := [Value.int .i64 0, .string ⟨#[]⟩, .int .i64 0, .int .i64 0, .int .i64 0]) (e := 31) rfl
  generalize hr5 : storeRow _ _ _ = r5
  obtain ⟨m5, rfl, o5, k5⟩ := store_own hr5 oz4 (by simp) (by simp [one_int, one_str])
  have kk5 : Keeps m3 m5 [] := kz4.mono2 k5 (Nat.le_refl _)
  have o35 := o3.keep kk5 (by simp)
  obtain ⟨v6, m6, h6, rfl, rfl⟩ := same_run hS.same (s23.keep kk5 (by simp)) (s3.keep kk5 (by simp)) hlen
  have l1 := o35.load (off := 0) 5 (by simp [over])
  have l2 := o5.load (off := 0) 5 (by simp [over])
  simp [over, window] at l1 l2
  simp [alloc_of zo31, store_of sz31, load_agg ld31, bin_agg ag31 .eql (Or.inl rfl), scal_int u3, scal_str u9, scal_int u2, h6, l1, l2]
  exact ((k1.trans kk2).trans k3).trans kk5
end Go.Proofs.YtgomgdbapgibjaaDoor.base

