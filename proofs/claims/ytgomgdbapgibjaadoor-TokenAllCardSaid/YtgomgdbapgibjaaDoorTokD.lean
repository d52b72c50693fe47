/-
  This text proves what the scanner's number and text of package token do over the abstract run.
  Condition: nothing is known of their calls ahead ('S f = []').
-/
import Derived.Test.YtgomgdbapgibjaaDoorTokC
set_option maxRecDepth 100000
set_option linter.unusedSimpArgs false
set_option linter.unusedVariables false
namespace Go.Proofs.YtgomgdbapgibjaaDoor.base
open Go.Sh gen
variable {S : Sums} {m : Mem} {b f fo : Nat} {ao : Option Addr} {σ : St}
def numGo : List UInt8 → Nat → Option Nat
  | [], v => some v
  | c :: r, v => if (9223372036854775807 - (c.toNat - 48)) / 10 < v then none else numGo r (10 * v + (c.toNat - 48))
def nd (r : List UInt8) : List UInt8 := r.takeWhile fun c => dgt c.toNat
theorem wrap_u8 {x : Int} (h1 : 0 ≤ x) (h2 : x ≤ 255) : IntKind.u8.wrap x = x := by
  have e1 : (2 : Int) ^ IntKind.u8.bits = 256 := by decide
  have e3 : IntKind.u8.signed = false := rfl
  simp only [IntKind.wrap, e1, e3, Bool.false_and]
  simp
  omega
theorem number_run (hS : S 42 = []) (hS2 : S 39 = []) (hS4 : S 27 = []) (hS5 : S 48 = []) (hS6 : S 25 = []) (h : Sc m b f ao fo σ) (hb : Bd σ) :
    ∃ v m1, callw Tryd.prog TT S 42 [.pointer (some ⟨b, 0, none⟩)] m = some (v, m1) ∧ ∃ ao1 fo1, (match numGo (nd (σ.s.drop σ.at_)) 0 with
      | some x => v = .int .i64 (nd (σ.s.drop σ.at_)).length ∧ Sc m1 b f ao1 fo1 (σ.put 4 (nd (σ.s.drop σ.at_)) x)
      | none => v = .int .i64 0 ∧ Sc m1 b f ao1 fo1 (σ.fault 12)) ∧ Keeps m m1 [f, fo] ∧ (fo1 = fo ∨ m.next ≤ fo1) := by
  have hr := rest_run (m := m) hS2 h hb
  have hrl : (σ.s.drop σ.at_).length ≤ 16384 := by have := hb.s; simp; omega
  generalize σ.s.drop σ.at_ = r at hr hrl
  have hD := fun n => digit_run (m := m) hS4 n
  refine fn_w 7 [18, 28] k42 hS rfl ?_
  simp [-BitVec.toNat_or, -BitVec.toNat_ofInt, -BitVec.toNat_and, len_string u9, index_str u9, conv_i u5 u75, slice_str u9, conv_i u75 u2, hr]
  refine wsem_loop 7 [18, 28] (fun d E m2 => ∃ i x : Nat, (nd r).length - i = d ∧ i ≤ (nd r).length ∧ x ≤ 9223372036854775807 ∧ numGo ((nd r).drop i) x = numGo (nd r) 0 ∧ E = [(0, .pointer (some ⟨b, 0, none⟩)), (3, .string ⟨r.toArray⟩), (4, .int .i64 i), (5, .int .u64 x)] ∧ m2 = m) _ ⟨_, ⟨0, 0, rfl, by omega, by omega, rfl, rfl, rfl⟩, ⟨rfl, rfl, rfl, rfl, trivial⟩⟩ ?_
  rintro d E m2 ih ⟨i, x, hd, hi, hx, hg, rfl, rfl⟩
  have hcl : (nd r).length ≤ r.length := tw_le _ _
  by_cases hlt : i < (nd r).length
  · obtain ⟨hi1, hp⟩ := tw_lt (p := fun c => dgt c.toNat) (s := r) hlt
    have hdr : (nd r).drop i = r[i] :: (nd r).drop (i + 1) := by
      rw [List.drop_eq_getElem_cons hlt]
      congr 1
      exact (List.takeWhile_prefix _).getElem hlt
    rw [hdr] at hg
    have e1 : (i : Int) < r.length := by omega
    have em : (i : Int) ≤ 9223372036854775807 := by omega
    have w1 : IntKind.i64.wrap ((i : Int) + 1) = ((i + 1 : Nat) : Int) := by rw [wrap_i64 (by omega) (by omega)]; omega
    have hp' : dgt (r[i]).toNat = true := hp
    have hp2 := hp'
    simp only [dgt, Bool.and_eq_true, decide_eq_true_eq] at hp2
    simp only [numGo] at hg
    obtain ⟨dd, hdd⟩ : ∃ dd, dd = (r[i]).toNat - 48 := ⟨_, rfl⟩
    rw [← hdd] at hg
    have hd9 : dd ≤ 9 := by omega
    have w8 : IntKind.u8.wrap (((r[i]).toNat : Int) - 48) = (dd : Int) := by rw [wrap_u8 (by omega) (by omega)]; omega
    have wu : IntKind.u64.wrap (dd : Int) = (dd : Int) := wrap_u64 (by omega) (by omega)
    have wsub : IntKind.u64.wrap (9223372036854775807 - (dd : Int)) = ((9223372036854775807 - dd : Nat) : Int) := by rw [wrap_u64 (by omega) (by omega)]; omega
    have wq : IntKind.u64.wrap ((((9223372036854775807 - dd : Nat) : Int)).tdiv 10) = (((9223372036854775807 - dd) / 10 : Nat) : Int) := by
      rw [Int.tdiv_eq_ediv_of_nonneg (by omega), wrap_u64 (by omega) (by omega)]; omega
    have wq2 : IntKind.u64.wrap ((((9223372036854775807 - dd : Nat) : Int)) / 10) = (((9223372036854775807 - dd) / 10 : Nat) : Int) := by
      rw [wrap_u64 (by omega) (by omega)]; omega
    by_cases ho : (9223372036854775807 - dd) / 10 < x
    · rw [if_pos ho] at hg
      obtain ⟨v, m3, hf, rfl, hsc, hk⟩ := fault_run hS5 h 12
      have ho' : (((9223372036854775807 - dd) / 10 : Nat) : Int) < x := by omega
      rw [← hg]
      simp [-Int.natCast_ediv, -BitVec.toNat_or, -BitVec.toNat_ofInt, -BitVec.toNat_and, len_string u9, index_str u9, conv_i u5 u75, slice_str u9, conv_i u75 u2, e1, hi1, em, hD, hp', w8, wu, wsub, wq, wq2, ho', hf]
      exact ⟨ao, fo, hsc, hk.mono (by simp), Or.inl rfl⟩
    · rw [if_neg ho] at hg
      have ho' : ¬ (((9223372036854775807 - dd) / 10 : Nat) : Int) < x := by omega
      have wm : IntKind.u64.wrap (10 * (x : Int)) = ((10 * x : Nat) : Int) := by rw [wrap_u64 (by omega) (by omega)]; omega
      have wa : IntKind.u64.wrap (((10 * x : Nat) : Int) + dd) = ((10 * x + dd : Nat) : Int) := by rw [wrap_u64 (by omega) (by omega)]; omega
      simp [-Int.natCast_ediv, -Int.natCast_mul, -BitVec.toNat_or, -BitVec.toNat_ofInt, -BitVec.toNat_and, len_string u9, index_str u9, conv_i u5 u75, slice_str u9, conv_i u75 u2, e1, hi1, em, hD, hp', w8, wu, wsub, wq, wq2, ho', wm, wa, w1]
      exact ih _ _ _ _ ⟨i + 1, 10 * x + dd, rfl, by omega, by omega, hg, rfl, rfl⟩ (by omega) ⟨rfl, rfl, by simp [lget], by simp [lget], trivial⟩
  · have hic : i = (nd r).length := by omega
    subst hic
    rw [List.drop_length] at hg
    simp only [numGo] at hg
    rw [← hg]
    have htk : r.take (nd r).length = nd r := tw_take _ _
    have wx : IntKind.i64.wrap (x : Int) = (x : Int) := wrap_i64 (by omega) (by omega)
    obtain ⟨v, m3, hput, rfl, ao1, fo1, hsc, hk, hfo⟩ := put_run hS6 h hb 4 (nd r) (x : Int)
    have em : (((nd r).length : Nat) : Int) ≤ 9223372036854775807 := by omega
    by_cases hl : (nd r).length < r.length
    · have e1 : ((nd r).length : Int) < r.length := by omega
      have hp : dgt (r[(nd r).length]).toNat = false := tw_end (p := fun c => dgt c.toNat) (s := r) rfl hl
      simp [-BitVec.toNat_or, -BitVec.toNat_ofInt, -BitVec.toNat_and, len_string u9, index_str u9, conv_i u5 u75, slice_str u9, conv_i u75 u2, e1, hl, em, hD, hp, hcl, htk, wx, hput]
      exact ⟨ao1, fo1, hsc, hk, hfo⟩
    · have e1 : ¬ ((nd r).length : Int) < r.length := by omega
      simp [-BitVec.toNat_or, -BitVec.toNat_ofInt, -BitVec.toNat_and, len_string u9, index_str u9, conv_i u5 u75, slice_str u9, conv_i u75 u2, e1, hl, em, hD, hcl, htk, wx, hput]
      exact ⟨ao1, fo1, hsc, hk, hfo⟩
def escB (n : Nat) : Option UInt8 := (esc n).map UInt8.ofNat
def textGo : List UInt8 → List UInt8 → Option (List UInt8 × List UInt8)
  | [], _ => none
  | [c], acc => if c.toNat = 34 then (if acc.length ≤ 2000 then some (acc, []) else none) else none
  | c :: e :: r, acc => if c.toNat = 34 then (if acc.length ≤ 2000 then some (acc, e :: r) else none) else if c.toNat = 92 then (match escB e.toNat with
      | some k => textGo r (acc ++ [k])
      | none => none) else if c.toNat < 32 ∨ 126 < c.toNat then none else textGo (e :: r) (acc ++ [c])
theorem textGo_cons (c : UInt8) (t acc : List UInt8) : textGo (c :: t) acc = if c.toNat = 34 then (if acc.length ≤ 2000 then some (acc, t) else none) else if c.toNat = 92 then (match t with
      | [] => none
      | e :: r => (match escB e.toNat with
        | some k => textGo r (acc ++ [k])
        | none => none)) else if c.toNat < 32 ∨ 126 < c.toNat then none else textGo t (acc ++ [c]) := by
  cases t with
  | nil =>
    simp only [textGo]
    split
    · rfl
    · split
      · rfl
      · split <;> rfl
  | cons e r => simp only [textGo]
theorem textGo_le : ∀ (n : Nat) (s acc : List UInt8) (a t : List UInt8), s.length ≤ n → textGo s acc = some (a, t) → t.length < s.length
  | 0, s, acc, a, t, h, he => by
    have : s = [] := List.length_eq_zero_iff.1 (by omega)
    subst this
    simp [textGo] at he
  | n + 1, [], acc, a, t, h, he => by simp [textGo] at he
  | n + 1, c :: r, acc, a, t, h, he => by
    rw [textGo_cons] at he
    simp only [List.length_cons] at h ⊢
    split at he
    · split at he
      · simp only [Option.some.injEq, Prod.mk.injEq] at he; rw [← he.2]; omega
      · cases he
    · split at he
      · split at he
        · cases he
        · rename_i e r2
          split at he
          · have := textGo_le n r2 _ a t (by simp at h; omega) he
            simp only [List.length_cons]; omega
          · cases he
      · split at he
        · cases he
        · have := textGo_le n r _ a t (by omega) he
          omega
theorem esc_lt {n k : Nat} (h : esc n = some k) : k < 256 := by
  unfold esc at h
  split at h
  · simp at h; omega
  · split at h
    · simp at h; omega
    · split at h
      · simp at h; omega
      · cases h
theorem text_run (hS : S 43 = []) (hS2 : S 39 = []) (hS4 : S 49 = []) (hS5 : S 48 = []) (hS6 : S 25 = []) (h : Sc m b f ao fo σ) (hb : Bd σ) (hlt0 : σ.at_ < σ.s.length) :
    ∃ v m1, callw Tryd.prog TT S 43 [.pointer (some ⟨b, 0, none⟩)] m = some (v, m1) ∧ ∃ ao1 fo1, (match textGo ((σ.s.drop σ.at_).drop 1) [] with
      | some (x, t) => v = .int .i64 ((σ.s.drop σ.at_).length - t.length : Nat) ∧ Sc m1 b f ao1 fo1 (σ.put 5 x 0)
      | none => v = .int .i64 0 ∧ Sc m1 b f ao1 fo1 (σ.fault 11)) ∧ Keeps m m1 [f, fo] ∧ (fo1 = fo ∨ m.next ≤ fo1) := by
  have hr := rest_run (m := m) hS2 h hb
  have hrl : (σ.s.drop σ.at_).length ≤ 16384 := by have := hb.s; simp; omega
  have hr1 : 1 ≤ (σ.s.drop σ.at_).length := by simp; omega
  generalize σ.s.drop σ.at_ = r at hr hrl hr1
  generalize hT : textGo (r.drop 1) [] = T
  refine fn_w 9 [14, 24, 38, 58, 65] k43 hS rfl ?_
  simp [-BitVec.toNat_or, -BitVec.toNat_ofInt, -BitVec.toNat_and, len_string u9, index_str u9, len_slice u39, conv_bytes u39 u5 u9, buildSlice_of u39 bs5 rfl, append_s u39 sz5, hr]
  refine wsem_loop 9 [14, 24, 38, 58, 65] (fun d E m2 => ∃ (n : Nat) (acc : List UInt8) (oa : Option Addr) (fa : Nat), r.length - n = d ∧ n ≤ r.length ∧ acc.length ≤ n ∧ textGo (r.drop n) acc = T ∧ E = [(0, .pointer (some ⟨b, 0, none⟩)), (3, .string ⟨r.toArray⟩), (4, .slice oa acc.length acc.length), (5, .int .i64 n)] ∧
    Sl m2 oa acc.length (acc.map fun b => Value.int .u8 b.toNat) 5 1 fa ∧ m.next ≤ fa ∧ Keeps m m2 []) _ ⟨_, ⟨1, [], none, m.next, rfl, hr1, by simp, hT, rfl, Sl.nil _ _ _ _, Nat.le_refl _, .refl _ _⟩, ⟨rfl, rfl, rfl, rfl, trivial⟩⟩ ?_
  rintro d E m2 ih ⟨n, acc, oa, fa, hd, hn, hacc, hg, rfl, hsl, hfa, hk2⟩
  have h2 := h.keep hk2 (by simp) (by simp)
  have fault : ∃ v m3, callw Tryd.prog TT S 48 [.pointer (some ⟨b, 0, none⟩), .int .i64 11] m2 = some (v, m3) ∧ v = .tuple #[] ∧ Sc m3 b f ao fo (σ.fault 11) ∧ Keeps m m3 [f, fo] ∧ (fo = fo ∨ m.next ≤ fo) := by
    obtain ⟨v, m3, hf, hv, hsc, hk⟩ := fault_run hS5 h2 11
    exact ⟨v, m3, hf, hv, hsc, hk2.nil.trans (hk.mono (by simp)), Or.inl rfl⟩
  by_cases hlt : n < r.length
  · have e1 : (n : Int) < r.length := by omega
    have em : (n : Int) ≤ 9223372036854775807 := by omega
    have w1 : IntKind.i64.wrap ((n : Int) + 1) = ((n + 1 : Nat) : Int) := by rw [wrap_i64 (by omega) (by omega)]; omega
    rw [List.drop_eq_getElem_cons hlt, textGo_cons] at hg
    have hc := (r[n]).toNat_lt
    by_cases c34 : (r[n]).toNat = 34
    · rw [if_pos c34] at hg
      have c34' : ((r[n]).toNat : Int) = 34 := by omega
      by_cases ha : acc.length ≤ 2000
      · rw [if_pos ha] at hg
        have ha' : (acc.length : Int) ≤ 2000 := by omega
        obtain ⟨v, m3, hput, rfl, ao1, fo1, hsc, hk, hfo⟩ := put_run hS6 h2 hb 5 acc 0
        subst hg
        have hlen : r.length - (r.drop (n + 1)).length = n + 1 := by simp; omega
        simp only [hlen]
        simp [-BitVec.toNat_or, -BitVec.toNat_ofInt, -BitVec.toNat_and, len_string u9, index_str u9, len_slice u39, conv_bytes u39 u5 u9, buildSlice_of u39 bs5 rfl, append_s u39 sz5, e1, hlt, em, c34', ha', bToS_sl hsl, hput, w1]
        exact ⟨ao1, fo1, hsc, hk2.nil.trans hk, by rcases hfo with e | e; exact Or.inl e; exact Or.inr (Nat.le_trans hk2.1 e)⟩
      · rw [if_neg ha] at hg
        have ha' : ¬ (acc.length : Int) ≤ 2000 := by omega
        obtain ⟨v, m3, hf, rfl, hsc, hk⟩ := fault
        subst hg
        simp [-BitVec.toNat_or, -BitVec.toNat_ofInt, -BitVec.toNat_and, len_string u9, index_str u9, len_slice u39, conv_bytes u39 u5 u9, buildSlice_of u39 bs5 rfl, append_s u39 sz5, e1, hlt, em, c34', ha', hf]
        exact ⟨ao, fo, hsc, hk⟩
    · rw [if_neg c34] at hg
      have c34' : ¬ ((r[n]).toNat : Int) = 34 := by omega
      by_cases c92 : (r[n]).toNat = 92
      · rw [if_pos c92] at hg
        have c92' : ((r[n]).toNat : Int) = 92 := by omega
        by_cases hl2 : n + 1 < r.length
        · have e2 : ((n + 1 : Nat) : Int) < r.length := by omega
          have em2 : ((n + 1 : Nat) : Int) ≤ 9223372036854775807 := by omega
          have w2 : IntKind.i64.wrap (((n + 1 : Nat) : Int) + 1) = ((n + 2 : Nat) : Int) := by rw [wrap_i64 (by omega) (by omega)]; omega
          rw [List.drop_eq_getElem_cons hl2] at hg
          have hes := escape_run (m := m2) hS4 (r[n + 1]).toNat
          have he256 := (r[n + 1]).toNat_lt
          simp only [escB] at hg
          cases hek : esc (r[n + 1]).toNat with
          | none =>
            rw [hek] at hg hes
            simp only [Option.map_none] at hg
            obtain ⟨v, m3, hf, rfl, hsc, hk⟩ := fault
            subst hg
            simp [-Int.natCast_add, -BitVec.toNat_or, -BitVec.toNat_ofInt, -BitVec.toNat_and, len_string u9, index_str u9, len_slice u39, conv_bytes u39 u5 u9, buildSlice_of u39 bs5 rfl, append_s u39 sz5, e1, hlt, em, c34', c92', e2, hl2, em2, w1, hes, hf]
            exact ⟨ao, fo, hsc, hk⟩
          | some k =>
            rw [hek] at hg hes
            simp only [Option.map_some] at hg
            have hk256 := esc_lt hek
            simp [-Int.natCast_add, -BitVec.toNat_or, -BitVec.toNat_ofInt, -BitVec.toNat_and, len_string u9, index_str u9, len_slice u39, conv_bytes u39 u5 u9, buildSlice_of u39 bs5 rfl, append_s u39 sz5, e1, hlt, em, c34', c92', e2, hl2, em2, w1, hes]
            generalize hr5 : sappend _ _ _ _ _ _ = x
            obtain ⟨m3, oa3, fa3, rfl, s3, k3, hf3⟩ := app_sl_new hr5 u39 ap5 hsl (by simp) (by simp [one_int]) (by omega) (by omega)
            have hk21 := hk2.1
            simp [-Int.natCast_add, -BitVec.toNat_or, -BitVec.toNat_ofInt, -BitVec.toNat_and, len_string u9, index_str u9, len_slice u39, conv_bytes u39 u5 u9, buildSlice_of u39 bs5 rfl, append_s u39 sz5, w2]
            refine ih _ _ _ _ ⟨n + 2, acc ++ [UInt8.ofNat k], oa3, fa3, rfl, by omega, by simp; omega, hg, rfl, ?_, by omega, hk2.mono2 k3 hfa⟩ (by omega) ⟨rfl, rfl, by simp [lget], by simp [lget], trivial⟩
            have hk' : (k : Int) % 256 = k := by omega
            simpa [hk'] using s3
        · have e2 : ¬ ((n + 1 : Nat) : Int) < r.length := by omega
          rw [List.drop_eq_nil_of_le (by omega)] at hg
          obtain ⟨v, m3, hf, rfl, hsc, hk⟩ := fault
          subst hg
          simp [-Int.natCast_add, -BitVec.toNat_or, -BitVec.toNat_ofInt, -BitVec.toNat_and, len_string u9, index_str u9, len_slice u39, conv_bytes u39 u5 u9, buildSlice_of u39 bs5 rfl, append_s u39 sz5, e1, hlt, em, c34', c92', e2, hl2, w1, hf]
          exact ⟨ao, fo, hsc, hk⟩
      · rw [if_neg c92] at hg
        have c92' : ¬ ((r[n]).toNat : Int) = 92 := by omega
        by_cases c32 : (r[n]).toNat < 32
        · rw [if_pos (Or.inl c32)] at hg
          have c32' : ((r[n]).toNat : Int) < 32 := by omega
          obtain ⟨v, m3, hf, rfl, hsc, hk⟩ := fault
          subst hg
          simp [-BitVec.toNat_or, -BitVec.toNat_ofInt, -BitVec.toNat_and, len_string u9, index_str u9, len_slice u39, conv_bytes u39 u5 u9, buildSlice_of u39 bs5 rfl, append_s u39 sz5, e1, hlt, em, c34', c92', c32', c32, hf]
          exact ⟨ao, fo, hsc, hk⟩
        · have c32' : ¬ ((r[n]).toNat : Int) < 32 := by omega
          by_cases c126 : 126 < (r[n]).toNat
          · rw [if_pos (Or.inr c126)] at hg
            have c126' : (126 : Int) < ((r[n]).toNat : Int) := by omega
            obtain ⟨v, m3, hf, rfl, hsc, hk⟩ := fault
            subst hg
            simp [-BitVec.toNat_or, -BitVec.toNat_ofInt, -BitVec.toNat_and, len_string u9, index_str u9, len_slice u39, conv_bytes u39 u5 u9, buildSlice_of u39 bs5 rfl, append_s u39 sz5, e1, hlt, em, c34', c92', c32', c32, c126, c126', hf]
            exact ⟨ao, fo, hsc, hk⟩
          · rw [if_neg (by omega)] at hg
            have c126' : ¬ (126 : Int) < ((r[n]).toNat : Int) := by omega
            simp [-BitVec.toNat_or, -BitVec.toNat_ofInt, -BitVec.toNat_and, len_string u9, index_str u9, len_slice u39, conv_bytes u39 u5 u9, buildSlice_of u39 bs5 rfl, append_s u39 sz5, e1, hlt, em, c34', c92', c32', c32, c126, c126']
            generalize hr5 : sappend _ _ _ _ _ _ = x
            obtain ⟨m3, oa3, fa3, rfl, s3, k3, hf3⟩ := app_sl_new hr5 u39 ap5 hsl (by simp) (by simp [one_int]) (by omega) (by omega)
            have hk21 := hk2.1
            simp [-BitVec.toNat_or, -BitVec.toNat_ofInt, -BitVec.toNat_and, len_string u9, index_str u9, len_slice u39, conv_bytes u39 u5 u9, buildSlice_of u39 bs5 rfl, append_s u39 sz5, w1]
            refine ih _ _ _ _ ⟨n + 1, acc ++ [r[n]], oa3, fa3, rfl, by omega, by simp; omega, hg, rfl, ?_, by omega, hk2.mono2 k3 hfa⟩ (by omega) ⟨rfl, rfl, by simp [lget], by simp [lget], trivial⟩
            simpa using s3
  · have e1 : ¬ (n : Int) < r.length := by omega
    rw [List.drop_eq_nil_of_le (by omega)] at hg
    obtain ⟨v, m3, hf, rfl, hsc, hk⟩ := fault
    subst hg
    simp [-BitVec.toNat_or, -BitVec.toNat_ofInt, -BitVec.toNat_and, len_string u9, index_str u9, len_slice u39, conv_bytes u39 u5 u9, buildSlice_of u39 bs5 rfl, append_s u39 sz5, e1, hlt, hf, textGo]
    exact ⟨ao, fo, hsc, hk⟩
end Go.Proofs.YtgomgdbapgibjaaDoor.base

