/-
  This text proves what ssa's 'below' and 'there' answer, over the abstract run.
  Condition: nothing is known of the calls ahead ('S f = []').
-/
import Derived.Test.YtlogdohlcdhepaaDoorEvS
set_option maxRecDepth 100000
set_option linter.unusedSimpArgs false
set_option linter.unusedVariables false
namespace Go.Proofs.YtlogdohlcdhepaaDoor.base
open Go.Sh gen
variable {S : Sums} {m : Mem}
def belowF (k n : Int) : Bool := decide (0 ≤ k) && decide (k < n)
theorem below_run (hS : S 65 = []) (k n : Int) : callw Tryd.prog TT S 65 [.int .i64 k, .int .i64 n] m = some (.bool (belowF k n), m) := by
  refine fn_eq 5 [] k65 hS rfl ?_
  unfold belowF
  by_cases h : 0 ≤ k
  · simp [h]
  · simp [h]
def noW (op : Int) : Bool := decide (op = 19) || decide (op = 20) || decide (op = 22) || decide (op = 23)
def thereF (u : UnT.D) (l : List Int) : Bool := l.all fun k => belowF k (nv u) && !noW (valD u k).1
set_option maxHeartbeats 4000000 in
theorem there_run (hS : S 64 = []) (hB : S 65 = []) {Q Q2 : Nat → Prop} {u : UnT.D} {vo bo so : Option Addr} (hU : UAt Q m u vo bo so) (hnu : nv u ≤ 1000000) {cb : Nat} (h2 : loadRow m ⟨cb, 2, none⟩ 1 = some [.slice vo (nv u) (nv u)])
    {l : List Int} (hl : l.length ≤ 20000000000000) {ao : Option Addr} (hi : IntsAt Q2 m ao l) :
    callw Tryd.prog TT S 64 [.pointer (some ⟨cb, 0, none⟩), .slice ao l.length l.length] m = some (.bool (thereF u l), m) := by
  have br := fun k n => below_run (m := m) hB k n
  refine fn_eq 31 [31, 31, 31, 31] k64 hS rfl ?_
  simp [-Int.natCast_add, len_slice u36]
  refine wsem_loop 31 [31, 31, 31, 31] (fun d E mF => ∃ (i : Nat), l.length - i = d ∧ i ≤ l.length ∧ mF = m ∧ thereF u (l.drop i) = thereF u l ∧
    E = [(0, .pointer (some ⟨cb, 0, none⟩)), (7, .slice ao l.length l.length), (8, .int .i64 l.length), (9, .int .i64 (i : Int))]) _ ⟨_, ⟨0, rfl, by omega, rfl, by rw [List.drop_zero], rfl⟩, ⟨by rfl, by rfl, by rfl, by rfl, trivial⟩⟩ ?_
  rintro d E mF ih ⟨i, hd, hi', rfl, ht, rfl⟩
  have im : (i : Int) ≤ 9223372036854775807 := by omega
  by_cases hlt : i < l.length
  · have i1 : (i : Int) < l.length := by omega
    have wi : IntKind.i64.wrap ((i : Int) + 1) = ((i + 1 : Nat) : Int) := by rw [wrap_i64 (by omega) (by omega)]; omega
    obtain ⟨lb, hlb, li⟩ := hi.get hlt
    rw [hlb] at ih ⊢
    obtain ⟨k, hk⟩ : ∃ k, l.getD i 0 = k := ⟨_, rfl⟩
    rw [hk] at li
    have hdrop : l.drop i = k :: l.drop (i + 1) := by
      rw [List.drop_eq_getElem_cons hlt, ← hk, List.getD_eq_getElem?_getD, List.getElem?_eq_getElem hlt]; rfl
    rw [hdrop] at ht
    have ht' : (belowF k (nv u) && !noW (valD u k).1 && thereF u (l.drop (i + 1))) = thereF u l := ht
    by_cases hb : belowF k (nv u) = true
    · have hb2 := hb
      unfold belowF at hb2
      simp only [Bool.and_eq_true, decide_eq_true_eq] at hb2
      obtain ⟨n, rfl⟩ : ∃ n : Nat, k = (n : Int) := ⟨k.toNat, by omega⟩
      have hn : n < nv u := by omega
      have hn1 : (n : Int) < nv u := by omega
      have hn2 : (n : Int) ≤ 9223372036854775807 := by omega
      obtain ⟨xb, ao', fa, hxv, ldx, _, _⟩ := val_at hU hn
      rw [hxv] at h2
      have lop := load_sub (k := 0) ldx rfl
      rw [Nat.add_zero] at lop
      rw [valD_eq hn, hb] at ht'
      obtain ⟨o, ho⟩ : ∃ o : Int, (u.2.2.1[n]).1 = o := ⟨_, rfl⟩
      rw [ho] at lop
      rw [show (u.2.2.1[n]).1 = o from ho] at ht'
      by_cases c19 : o = 19
      · have : thereF u l = false := by rw [← ht']; simp [noW, c19]
        simp [-Int.natCast_add, -List.getD_eq_getElem?_getD, index_slice u36 sz3, load_of ld3, fieldAddr_of fa99_0, fieldAddr_of fa34_2, load_of ld30, len_slice u30, index_slice u30 sz38, fieldAddr_of fa38_0, i1, im, hlt, li, h2, br, hb, hn, hn2, lop, c19, this]
      by_cases c20 : o = 20
      · have : thereF u l = false := by rw [← ht']; simp [noW, c20]
        simp [-Int.natCast_add, -List.getD_eq_getElem?_getD, index_slice u36 sz3, load_of ld3, fieldAddr_of fa99_0, fieldAddr_of fa34_2, load_of ld30, len_slice u30, index_slice u30 sz38, fieldAddr_of fa38_0, i1, im, hlt, li, h2, br, hb, hn, hn2, lop, c20, this]
      by_cases c22 : o = 22
      · have : thereF u l = false := by rw [← ht']; simp [noW, c22]
        simp [-Int.natCast_add, -List.getD_eq_getElem?_getD, index_slice u36 sz3, load_of ld3, fieldAddr_of fa99_0, fieldAddr_of fa34_2, load_of ld30, len_slice u30, index_slice u30 sz38, fieldAddr_of fa38_0, i1, im, hlt, li, h2, br, hb, hn, hn2, lop, c22, this]
      by_cases c23 : o = 23
      · have : thereF u l = false := by rw [← ht']; simp [noW, c23]
        simp [-Int.natCast_add, -List.getD_eq_getElem?_getD, index_slice u36 sz3, load_of ld3, fieldAddr_of fa99_0, fieldAddr_of fa34_2, load_of ld30, len_slice u30, index_slice u30 sz38, fieldAddr_of fa38_0, i1, im, hlt, li, h2, br, hb, hn, hn2, lop, c23, this]
      have hno : noW o = false := by simp [noW, c19, c20, c22, c23]
      simp [-Int.natCast_add, -List.getD_eq_getElem?_getD, index_slice u36 sz3, load_of ld3, fieldAddr_of fa99_0, fieldAddr_of fa34_2, load_of ld30, len_slice u30, index_slice u30 sz38, fieldAddr_of fa38_0, i1, im, hlt, li, h2, br, hb, hn, hn2, lop, c19, c20, c22, c23, wi]
      exact ih _ _ _ _ ⟨i + 1, rfl, by omega, rfl, by rw [← ht', hno]; rfl, rfl⟩ (by omega) ⟨by rfl, by rfl, by rfl, by rfl, trivial⟩
    · have hb' : belowF k (nv u) = false := by simpa using hb
      have : thereF u l = false := by rw [← ht', hb']; rfl
      simp [-Int.natCast_add, -List.getD_eq_getElem?_getD, index_slice u36 sz3, load_of ld3, fieldAddr_of fa99_0, fieldAddr_of fa34_2, load_of ld30, len_slice u30, i1, im, hlt, li, h2, br, hb', this]
  have i1 : ¬ (i : Int) < l.length := by omega
  rw [List.drop_of_length_le (by omega)] at ht
  have : thereF u l = true := by rw [← ht]; rfl
  simp [-Int.natCast_add, i1, this]
end Go.Proofs.YtlogdohlcdhepaaDoor.base

