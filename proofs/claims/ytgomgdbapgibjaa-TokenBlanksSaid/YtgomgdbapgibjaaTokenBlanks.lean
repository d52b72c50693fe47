/-
  This text proves 'Rows.TokenBlanksSaid': the law 'TokenBlanks' returns true at any numbers, in whatever memory and on every tape, and its input reads as it did.
  No condition.
-/
import Derived.Test.YtgomgdbapgibjaaRows
import Derived.Test.YtgomgdbapgibjaaTokP
set_option maxRecDepth 100000
set_option linter.unusedSimpArgs false
set_option linter.unusedVariables false
namespace Go.Proofs.Ytgomgdbapgibjaa.tokenBlanks
open Go.Sh gen base
variable {S : Sums} {m : Mem}
theorem emod_tmod (x k : Int) (hk : 0 < k) : x % k = if x.tmod k < 0 then x.tmod k + k else x.tmod k := by
  have hx := Int.emod_nonneg x (by omega : k ≠ 0)
  have hx2 := Int.emod_lt_of_pos x hk
  split
  · rename_i h
    have : (x.tmod k + k) % k = x % k := by
      rw [Int.add_emod_right]
      have h3 := Int.tmod_add_mul_tdiv x k
      have : x.tmod k = x - k * x.tdiv k := by omega
      rw [this, Int.sub_mul_emod_self_left]
    rw [← this]
    have := Int.lt_tmod_of_pos x hk
    exact Int.emod_eq_of_lt (by omega) (by omega)
  · rename_i h
    have : (x.tmod k) % k = x % k := by
      have h3 := Int.tmod_add_mul_tdiv x k
      have : x.tmod k = x - k * x.tdiv k := by omega
      rw [this, Int.sub_mul_emod_self_left]
    rw [← this]
    have := Int.tmod_lt_of_pos x hk
    exact Int.emod_eq_of_lt (by omega) (by omega)


theorem pick_run (hS : S 10 = []) (x k : Int) (hk : 0 < k) (hk2 : k < 1000000) : callw Try.prog TT S 10 [.int .i64 x, .int .i64 k] m = some (.int .i64 (x % k), m) := by
  have hx := Int.emod_nonneg x (by omega : k ≠ 0)
  have hx2 := Int.emod_lt_of_pos x hk
  have hk0 : k ≠ 0 := by omega
  have hw : IntKind.i64.wrap (x % k) = x % k := wrap_i64 (by omega) (by omega)
  have e := emod_tmod x k hk
  refine fn_eq 5 [9] k10 hS rfl ?_
  by_cases h : x.tmod k < 0
  · rw [if_pos h] at e
    rw [e] at hw ⊢
    simp [-BitVec.toNat_or, -BitVec.toNat_ofInt, -BitVec.toNat_and, id, hk0, h, hw]
  · rw [if_neg h] at e
    rw [e]
    simp [-BitVec.toNat_or, -BitVec.toNat_ofInt, -BitVec.toNat_and, id, hk0, h]

theorem at_field {l : List Tok} {i : Nat} (h : i < l.length) (f : Nat) (hf : f < 5) : window (outCells l) (i * 5 + f) 1 = ((l[i]).cells.drop f).take 1 := by
  have h1 := at_cells h
  rw [← h1]
  simp only [window]
  rw [List.drop_take, List.drop_drop, List.take_take, Nat.min_eq_left (by omega)]

theorem law_run (hA : Na S) (hK : S 8 = [([], .bool true)]) (hS : S 6 = []) (hP : S 10 = []) {ls ms : List Int} {a0 a1 : Option Addr} {f0 f1 : Nat}
    (h0 : Rs m a0 ls.length (ls.flatMap fun n : Int => [Value.int .i64 n]) 3 1 f0) (hf0 : f0 < m.next) (hl0 : ls.length ≤ 9223372036854775807) (hw0 : ∀ n ∈ ls, (Lit.int .i64 n).wf = true)
    (h1 : Rs m a1 ms.length (ms.flatMap fun n : Int => [Value.int .i64 n]) 3 1 f1) (hf1 : f1 < m.next) (hl1 : ms.length ≤ 9223372036854775807) (hw1 : ∀ n ∈ ms, (Lit.int .i64 n).wf = true) :
    ∃ v m', callw Try.prog TT S 6 [.slice a0 ls.length ls.length, .slice a1 ms.length ms.length] m = some (v, m') ∧ v = .bool true := by
  have hkn := fun m' => sum_ok (P := Try.prog) (T := TT) (m := m') hK
  refine fn_w 19 [27, 38, 45, 66, 104, 108, 160] k6 hS rfl ?_
  simp [-Int.natCast_add, -BitVec.toNat_or, -BitVec.toNat_ofInt, -BitVec.toNat_and, build_arr u31 sz9 zo31, alloc_of zo31, store_of sz31, len_slice u30, index_slice u30 sz3, load_of ld3, build_arr u28 sz9 zo28, index_arr u28 sz9, part_one ld9, bin_str u9 .add (Or.inl rfl), indexAddr_arr u31 sz9, load_of ld9, len_string u9, alloc_of zo34, store_of sz34, len_slice u32, index_slice u32 sz34, fieldAddr_of fa34_0, fieldAddr_of fa34_1, fieldAddr_of fa34_2, load_of ld2, fieldAddr_of fa34_3]
  obtain ⟨oz, kz, nz⟩ := new_own (m := m) (cs := List.replicate 12 (Value.string ⟨#[]⟩)) (e := 31) rfl
  simp only [List.replicate] at oz kz nz
  generalize hr2 : storeRow _ _ _ = r2
  obtain ⟨m2, rfl, o2, k2⟩ := store_own hr2 oz (by simp) (by simp [one_str])
  have kk2 : Keeps m m2 [] := kz.mono2 k2 (Nat.le_refl _)
  have r0 := h0.keep kk2 (by simp)
  have r1 := h1.keep kk2 (by simp)
  simp [-Int.natCast_add, -BitVec.toNat_or, -BitVec.toNat_ofInt, -BitVec.toNat_and, build_arr u31 sz9 zo31, alloc_of zo31, store_of sz31, len_slice u30, index_slice u30 sz3, load_of ld3, build_arr u28 sz9 zo28, index_arr u28 sz9, part_one ld9, bin_str u9 .add (Or.inl rfl), indexAddr_arr u31 sz9, load_of ld9, len_string u9, alloc_of zo34, store_of sz34, len_slice u32, index_slice u32 sz34, fieldAddr_of fa34_0, fieldAddr_of fa34_1, fieldAddr_of fa34_2, load_of ld2, fieldAddr_of fa34_3]
  have hpt : ∃ pcs : List Value, pcs = [Value.string ⟨#[97]⟩, Value.string ⟨#[102, 111, 114]⟩, Value.string ⟨#[55]⟩, Value.string ⟨#[34, 120, 34]⟩, Value.string ⟨#[40]⟩, Value.string ⟨#[41]⟩, Value.string ⟨#[58, 61]⟩, Value.string ⟨#[123]⟩, Value.string ⟨#[125]⟩, Value.string ⟨#[110, 105, 108]⟩, Value.string ⟨#[44]⟩, Value.string ⟨#[10]⟩] := ⟨_, rfl⟩
  refine wsem_loop 19 [27, 38, 45, 66, 104, 108, 160] (fun d E m2' => ∃ (i : Nat) (l : List Pc), 40 - i = d ∧ i ≤ 40 ∧ l.length = i ∧ (∀ x ∈ l, x.wf) ∧ (l.flatMap Pc.sOf).length ≤ 12 * i ∧ (l.flatMap Pc.tOf).length ≤ 12 * i ∧ E = [(0, .slice a0 ls.length ls.length), (1, .slice a1 ms.length ms.length), (4, .bool false), (5, .string ⟨(l.flatMap Pc.sOf).toArray⟩), (6, .string ⟨(l.flatMap Pc.tOf).toArray⟩), (7, .pointer (some ⟨m.next, 0, none⟩)), (8, .int .i64 i)] ∧ m2' = m2) _ ⟨_, ⟨0, [], rfl, by omega, rfl, by simp, by simp, by simp, rfl, rfl⟩, ⟨by rfl, by rfl, by rfl, by rfl, by rfl, by rfl, by rfl, trivial⟩⟩ ?_
  rintro d E m3 ih ⟨i, l, hd, hi, hli, hwf, hsl, htl, rfl, rfl⟩
  obtain ⟨s, hs⟩ : ∃ s, s = l.flatMap Pc.sOf := ⟨_, rfl⟩
  obtain ⟨t, ht⟩ : ∃ t, t = l.flatMap Pc.tOf := ⟨_, rfl⟩
  rw [← hs] at hsl
  rw [← ht] at htl
  rw [← hs, ← ht]
  by_cases hgo : i < ls.length ∧ i < 40
  · obtain ⟨g1, g2⟩ := hgo
    have e1 : (i : Int) < ls.length := by omega
    have e2 : (i : Int) < 40 := by omega
    have em : (i : Int) ≤ 9223372036854775807 := by omega
    obtain ⟨b0, rfl, ob⟩ := r0.rdo (by omega)
    have ld : loadRow m3 ⟨b0, i, none⟩ 1 = some [.int .i64 ls[i]] := by
      have hf : (ls.flatMap fun n : Int => [Value.int .i64 n]) = ls.map (Value.int .i64) := List.map_eq_flatMap.symm
      have hl := ob.load (off := i) 1 (by rw [hf]; simp; omega)
      rw [hl, hf]
      simp only [window, ← List.map_drop, ← List.map_take]
      rw [List.drop_eq_getElem_cons g1]
      rfl
    obtain ⟨k, hk, hk12⟩ : ∃ k : Nat, ls[i] % 12 = k ∧ k < 12 := ⟨(ls[i] % 12).toNat, by omega, by omega⟩
    have pk := fun m' => pick_run (m := m') hP ls[i] 12 (by omega) (by omega)
    rw [hk] at pk
    obtain ⟨p, hp, hp11, hp3, ldp⟩ : ∃ p : List UInt8, (k < 11 → p ∈ parts) ∧ (k = 11 → p = [10]) ∧ p.length ≤ 3 ∧ loadRow m3 ⟨m.next, k, none⟩ 1 = some [.string ⟨p.toArray⟩] := by
      have hl := o2.load (off := k) 1 (by simp [over]; omega)
      rw [hl]
      rcases (by omega : k = 0 ∨ k = 1 ∨ k = 2 ∨ k = 3 ∨ k = 4 ∨ k = 5 ∨ k = 6 ∨ k = 7 ∨ k = 8 ∨ k = 9 ∨ k = 10 ∨ k = 11) with rfl | rfl | rfl | rfl | rfl | rfl | rfl | rfl | rfl | rfl | rfl | rfl
      all_goals exact ⟨_, by simp [parts], by simp, by simp, rfl⟩
    have hkm : (k : Int) < 12 ∧ (k : Int) ≤ 9223372036854775807 := by omega
    simp [-Int.natCast_add, -BitVec.toNat_or, -BitVec.toNat_ofInt, -BitVec.toNat_and, build_arr u31 sz9 zo31, alloc_of zo31, store_of sz31, len_slice u30, index_slice u30 sz3, load_of ld3, build_arr u28 sz9 zo28, index_arr u28 sz9, part_one ld9, bin_str u9 .add (Or.inl rfl), indexAddr_arr u31 sz9, load_of ld9, len_string u9, alloc_of zo34, store_of sz34, len_slice u32, index_slice u32 sz34, fieldAddr_of fa34_0, fieldAddr_of fa34_1, fieldAddr_of fa34_2, load_of ld2, fieldAddr_of fa34_3, e1, e2, em, g1, g2, ld, pk]
    by_cases g3 : i < ms.length
    case' pos =>
      have e3 : (i : Int) < ms.length := by omega
      obtain ⟨b1, hb1, ob1⟩ := r1.rdo (by omega)
      have ld1 : loadRow m3 ⟨b1, i, none⟩ 1 = some [.int .i64 ms[i]] := by
        have hf : (ms.flatMap fun n : Int => [Value.int .i64 n]) = ms.map (Value.int .i64) := List.map_eq_flatMap.symm
        have hl := ob1.load (off := i) 1 (by rw [hf]; simp; omega)
        rw [hl, hf]
        simp only [window, ← List.map_drop, ← List.map_take]
        rw [List.drop_eq_getElem_cons g3]
        rfl
      obtain ⟨n0, hn0, hn4⟩ : ∃ n0 : Nat, ms[i] % 4 = n0 ∧ n0 < 4 := ⟨(ms[i] % 4).toNat, by omega, by omega⟩
      have pk4 := fun m' => pick_run (m := m') hP ms[i] 4 (by omega) (by omega)
      rw [hn0] at pk4
      simp [-Int.natCast_add, -BitVec.toNat_or, -BitVec.toNat_ofInt, -BitVec.toNat_and, build_arr u31 sz9 zo31, alloc_of zo31, store_of sz31, len_slice u30, index_slice u30 sz3, load_of ld3, build_arr u28 sz9 zo28, index_arr u28 sz9, part_one ld9, bin_str u9 .add (Or.inl rfl), indexAddr_arr u31 sz9, load_of ld9, len_string u9, alloc_of zo34, store_of sz34, len_slice u32, index_slice u32 sz34, fieldAddr_of fa34_0, fieldAddr_of fa34_1, fieldAddr_of fa34_2, load_of ld2, fieldAddr_of fa34_3, e3, em, g3, hb1, ld1, pk4]
      rw [← hb1]
    case' neg =>
      obtain ⟨n0, hn0, hn4⟩ : ∃ n0 : Nat, (0 : Int) = n0 ∧ n0 < 4 := ⟨0, rfl, by omega⟩
      simp [-Int.natCast_add, -BitVec.toNat_or, -BitVec.toNat_ofInt, -BitVec.toNat_and, build_arr u31 sz9 zo31, alloc_of zo31, store_of sz31, len_slice u30, index_slice u30 sz3, load_of ld3, build_arr u28 sz9 zo28, index_arr u28 sz9, part_one ld9, bin_str u9 .add (Or.inl rfl), indexAddr_arr u31 sz9, load_of ld9, len_string u9, alloc_of zo34, store_of sz34, len_slice u32, index_slice u32 sz34, fieldAddr_of fa34_0, fieldAddr_of fa34_1, fieldAddr_of fa34_2, load_of ld2, fieldAddr_of fa34_3, g3]
      rw [hn0]
    all_goals
      refine wsem_loop 19 [27, 38, 45, 66, 104, 108, 160] (fun d E m2' => ∃ (n : Nat) (g : List UInt8), n = d ∧ n < 4 ∧ g.length ≤ 4 - n ∧ (∀ c ∈ g, base.blank c) ∧ E = [(0, .slice (some ⟨b0, 0, none⟩) ls.length ls.length), (1, .slice a1 ms.length ms.length), (4, .bool false), (5, .string ⟨s.toArray⟩), (6, .string ⟨t.toArray⟩), (7, .pointer (some ⟨m.next, 0, none⟩)), (8, .int .i64 i), (9, .int .i64 k), (10, .string ⟨(32 :: g).toArray⟩), (11, .int .i64 n)] ∧ m2' = m3) _ ⟨_, ⟨n0, [], rfl, hn4, by simp, by simp, rfl, rfl⟩, ⟨by rfl, by rfl, by rfl, by rfl, by rfl, by rfl, by rfl, by rfl, by rfl, by rfl, trivial⟩⟩ ?_
      rintro d2 E2 m4 ih2 ⟨n, g, hd2, hn, hgl, hgb, rfl, rfl⟩
      by_cases hn0 : 0 < n
      · have e4 : (0 : Int) < n := by omega
        obtain ⟨y, c, hy, hc, hcb, hc0⟩ : ∃ (y : Int) (c : UInt8), (n : Int).tmod 3 = y ∧ (∀ h, [Value.string ⟨#[32]⟩, Value.string ⟨#[9]⟩, Value.string ⟨#[13]⟩][y.toNat]'h = Value.string ⟨[c].toArray⟩) ∧ base.blank c ∧ (0 ≤ y ∧ y ≤ 9223372036854775807) ∧ y < 3 := by
          rcases (by omega : n = 1 ∨ n = 2 ∨ n = 3) with rfl | rfl | rfl
          · exact ⟨1, 9, rfl, fun _ => rfl, by simp [base.blank], by decide⟩
          · exact ⟨2, 13, rfl, fun _ => rfl, by simp [base.blank], by decide⟩
          · exact ⟨0, 32, rfl, fun _ => rfl, by simp [base.blank], by decide⟩
        have w1 : IntKind.i64.wrap ((n : Int) - 1) = ((n - 1 : Nat) : Int) := by rw [wrap_i64 (by omega) (by omega)]; omega
        have hsz : ((g.length + 1 + 1 : Nat) : Int) ≤ 9223372036854775807 := by omega
        simp [-Int.natCast_add, -BitVec.toNat_or, -BitVec.toNat_ofInt, -BitVec.toNat_and, build_arr u31 sz9 zo31, alloc_of zo31, store_of sz31, len_slice u30, index_slice u30 sz3, load_of ld3, build_arr u28 sz9 zo28, index_arr u28 sz9, part_one ld9, bin_str u9 .add (Or.inl rfl), indexAddr_arr u31 sz9, load_of ld9, len_string u9, alloc_of zo34, store_of sz34, len_slice u32, index_slice u32 sz34, fieldAddr_of fa34_0, fieldAddr_of fa34_1, fieldAddr_of fa34_2, load_of ld2, fieldAddr_of fa34_3, e4, hn0, hy, hc, hc0, w1, hsz]
        have hgb2 : ∀ x ∈ g ++ [c], base.blank x := by
          intro x hx
          rcases List.mem_append.1 hx with h | h
          · exact hgb x h
          · rw [List.mem_singleton.1 h]; exact hcb
        exact ih2 _ _ _ _ ⟨n - 1, g ++ [c], rfl, by omega, by simp; omega, hgb2, rfl, rfl⟩ (by omega) ⟨by rfl, by rfl, by rfl, by rfl, by rfl, by rfl, by rfl, by rfl, by simp [lget], by simp [lget], trivial⟩
      · have e4 : ¬ (0 : Int) < n := by omega
        have z1 : ((s.length + p.length : Nat) : Int) ≤ 9223372036854775807 := by omega
        have z2 : ((s.length + p.length + 1 : Nat) : Int) ≤ 9223372036854775807 := by omega
        have z3 : ((s.length + (p.length + 1) : Nat) : Int) ≤ 9223372036854775807 := by omega
        have z4 : ((t.length + 10 : Nat) : Int) ≤ 9223372036854775807 := by omega
        have z5 : ((t.length + p.length : Nat) : Int) ≤ 9223372036854775807 := by omega
        have z6 : ((t.length + p.length + (g.length + 1) : Nat) : Int) ≤ 9223372036854775807 := by omega
        have z7 : ((t.length + (p.length + (g.length + 1)) : Nat) : Int) ≤ 9223372036854775807 := by omega
        have w1 : IntKind.i64.wrap ((i : Int) + 1) = ((i + 1 : Nat) : Int) := by rw [wrap_i64 (by omega) (by omega)]; omega
        by_cases c11 : k = 11
        · subst c11
          have i11 : True := trivial
          have hp11 := hp11 rfl
          by_cases cg : 2 < g.length + 1
          · have ig : (2 : Int) < ((g.length + 1 : Nat) : Int) := by omega
            simp [-Int.natCast_add, -BitVec.toNat_or, -BitVec.toNat_ofInt, -BitVec.toNat_and, build_arr u31 sz9 zo31, alloc_of zo31, store_of sz31, len_slice u30, index_slice u30 sz3, load_of ld3, build_arr u28 sz9 zo28, index_arr u28 sz9, part_one ld9, bin_str u9 .add (Or.inl rfl), indexAddr_arr u31 sz9, load_of ld9, len_string u9, alloc_of zo34, store_of sz34, len_slice u32, index_slice u32 sz34, fieldAddr_of fa34_0, fieldAddr_of fa34_1, fieldAddr_of fa34_2, load_of ld2, fieldAddr_of fa34_3, e4, hn0, ldp, hkm, hk12, z1, z2, z3, c11, i11, cg, ig, z4, w1]
            subst hp11
            have hwf2 : ∀ x ∈ l ++ [Pc.cm], x.wf := by
              intro x hx
              rcases List.mem_append.1 hx with h | h
              · exact hwf x h
              · rw [List.mem_singleton.1 h]; exact trivial
            have hs2 : ((l ++ [Pc.cm]).flatMap Pc.sOf).length ≤ 12 * (i + 1) := by simp only [List.flatMap_append, ← hs, List.flatMap_cons, List.flatMap_nil, Pc.sOf]; simp; omega
            have ht2 : ((l ++ [Pc.cm]).flatMap Pc.tOf).length ≤ 12 * (i + 1) := by simp only [List.flatMap_append, ← ht, List.flatMap_cons, List.flatMap_nil, Pc.tOf]; simp; omega
            exact ih _ _ _ _ ⟨i + 1, l ++ [Pc.cm], rfl, by omega, by simp [hli], hwf2, hs2, ht2, rfl, rfl⟩ (by omega) ⟨by rfl, by rfl, by rfl, by simp [lget, hs, Pc.sOf], by simp [lget, ht, Pc.tOf], by rfl, by simp [lget], trivial⟩
          · have ig : ¬ (2 : Int) < ((g.length + 1 : Nat) : Int) := by omega
            simp [-Int.natCast_add, -BitVec.toNat_or, -BitVec.toNat_ofInt, -BitVec.toNat_and, build_arr u31 sz9 zo31, alloc_of zo31, store_of sz31, len_slice u30, index_slice u30 sz3, load_of ld3, build_arr u28 sz9 zo28, index_arr u28 sz9, part_one ld9, bin_str u9 .add (Or.inl rfl), indexAddr_arr u31 sz9, load_of ld9, len_string u9, alloc_of zo34, store_of sz34, len_slice u32, index_slice u32 sz34, fieldAddr_of fa34_0, fieldAddr_of fa34_1, fieldAddr_of fa34_2, load_of ld2, fieldAddr_of fa34_3, e4, hn0, ldp, hkm, hk12, z1, z2, z3, c11, i11, cg, ig, z5, z6, z7, w1]
            subst hp11
            have hwf2 : ∀ x ∈ l ++ [Pc.nl g], x.wf := by
              intro x hx
              rcases List.mem_append.1 hx with h | h
              · exact hwf x h
              · rw [List.mem_singleton.1 h]; exact hgb
            have hs2 : ((l ++ [Pc.nl g]).flatMap Pc.sOf).length ≤ 12 * (i + 1) := by simp only [List.flatMap_append, ← hs, List.flatMap_cons, List.flatMap_nil, Pc.sOf]; simp; omega
            have ht2 : ((l ++ [Pc.nl g]).flatMap Pc.tOf).length ≤ 12 * (i + 1) := by simp only [List.flatMap_append, ← ht, List.flatMap_cons, List.flatMap_nil, Pc.tOf]; simp; omega
            exact ih _ _ _ _ ⟨i + 1, l ++ [Pc.nl g], rfl, by omega, by simp [hli], hwf2, hs2, ht2, rfl, rfl⟩ (by omega) ⟨by rfl, by rfl, by rfl, by simp [lget, hs, Pc.sOf], by simp [lget, ht, Pc.tOf], by rfl, by simp [lget], trivial⟩
        · have i11 : ¬ (k : Int) = 11 := by omega
          simp [-Int.natCast_add, -BitVec.toNat_or, -BitVec.toNat_ofInt, -BitVec.toNat_and, build_arr u31 sz9 zo31, alloc_of zo31, store_of sz31, len_slice u30, index_slice u30 sz3, load_of ld3, build_arr u28 sz9 zo28, index_arr u28 sz9, part_one ld9, bin_str u9 .add (Or.inl rfl), indexAddr_arr u31 sz9, load_of ld9, len_string u9, alloc_of zo34, store_of sz34, len_slice u32, index_slice u32 sz34, fieldAddr_of fa34_0, fieldAddr_of fa34_1, fieldAddr_of fa34_2, load_of ld2, fieldAddr_of fa34_3, e4, hn0, ldp, hkm, hk12, z1, z2, z3, c11, i11, z5, z6, z7, w1]
          have hwf2 : ∀ x ∈ l ++ [Pc.tok p g], x.wf := by
            intro x hx
            rcases List.mem_append.1 hx with h | h
            · exact hwf x h
            · rw [List.mem_singleton.1 h]; exact ⟨hp (by omega), hgb⟩
          have hs2 : ((l ++ [Pc.tok p g]).flatMap Pc.sOf).length ≤ 12 * (i + 1) := by simp only [List.flatMap_append, ← hs, List.flatMap_cons, List.flatMap_nil, Pc.sOf]; simp; omega
          have ht2 : ((l ++ [Pc.tok p g]).flatMap Pc.tOf).length ≤ 12 * (i + 1) := by simp only [List.flatMap_append, ← ht, List.flatMap_cons, List.flatMap_nil, Pc.tOf]; simp; omega
          exact ih _ _ _ _ ⟨i + 1, l ++ [Pc.tok p g], rfl, by omega, by simp [hli], hwf2, hs2, ht2, rfl, rfl⟩ (by omega) ⟨by rfl, by rfl, by rfl, by simp [lget, hs, Pc.sOf], by simp [lget, ht, Pc.tOf], by rfl, by simp [lget], trivial⟩
  · have hlen : l.length ≤ 3900 := by omega
    obtain ⟨es, et, eq⟩ := allR_two l hwf hlen (by rw [← hs]; omega) (by rw [← ht]; omega)
    rw [← hs] at es eq
    rw [← ht] at et eq
    obtain ⟨v1, m1, h1, ax, fx, rfl, s1, hf1', k1⟩ := allP_run (m := m3) hA.u hA.p s (by omega)
    have hl1 := allR_len s
    rw [es] at h1
    generalize (allR s).1 = xs at *
    generalize hw : (allR s).2.1 = w at *
    clear hw
    by_cases a : i < ls.length
    case' pos =>
      have e1 : (i : Int) < ls.length := by omega
      have e2 : ¬ (i : Int) < 40 := by omega
      simp [-Int.natCast_add, -BitVec.toNat_or, -BitVec.toNat_ofInt, -BitVec.toNat_and, build_arr u31 sz9 zo31, alloc_of zo31, store_of sz31, len_slice u30, index_slice u30 sz3, load_of ld3, build_arr u28 sz9 zo28, index_arr u28 sz9, part_one ld9, bin_str u9 .add (Or.inl rfl), indexAddr_arr u31 sz9, load_of ld9, len_string u9, alloc_of zo34, store_of sz34, len_slice u32, index_slice u32 sz34, fieldAddr_of fa34_0, fieldAddr_of fa34_1, fieldAddr_of fa34_2, load_of ld2, fieldAddr_of fa34_3, e1, e2, a, h1, Tok.cells]
    case' neg =>
      have e1 : ¬ (i : Int) < ls.length := by omega
      simp [-Int.natCast_add, -BitVec.toNat_or, -BitVec.toNat_ofInt, -BitVec.toNat_and, build_arr u31 sz9 zo31, alloc_of zo31, store_of sz31, len_slice u30, index_slice u30 sz3, load_of ld3, build_arr u28 sz9 zo28, index_arr u28 sz9, part_one ld9, bin_str u9 .add (Or.inl rfl), indexAddr_arr u31 sz9, load_of ld9, len_string u9, alloc_of zo34, store_of sz34, len_slice u32, index_slice u32 sz34, fieldAddr_of fa34_0, fieldAddr_of fa34_1, fieldAddr_of fa34_2, load_of ld2, fieldAddr_of fa34_3, e1, a, h1, Tok.cells]
    all_goals
      obtain ⟨oz, kz, nz⟩ := new_own (m := m1) (cs := [Value.int .i64 0, .string ⟨#[]⟩, .int .i64 0, .int .i64 0, .int .i64 0]) (e := 34) rfl
      generalize hr2 : storeRow _ _ _ = r2
      obtain ⟨m2, rfl, o2, k2⟩ := store_own hr2 oz (by simp) (by simp [one_int, one_str])
      have kk2 : Keeps m1 m2 [] := kz.mono2 k2 (Nat.le_refl _)
      have s2 := s1.keep kk2 (by simp)
      obtain ⟨v4, m4, h4, ay, fy, rfl, s4, hf4', k4⟩ := allP_run (m := m2) hA.u hA.p t (by omega)
      have s24 := s2.keep k4 (by simp)
      rw [et] at h4
      generalize (allR t).1 = ys at *
      generalize hw : (allR t).2.1 = w2 at *
      clear hw
      have hxy : ys.length = xs.length := by
        have := congrArg List.length eq
        simpa using this.symm
      rw [hxy] at h4 s4
      simp [-Int.natCast_add, -BitVec.toNat_or, -BitVec.toNat_ofInt, -BitVec.toNat_and, build_arr u31 sz9 zo31, alloc_of zo31, store_of sz31, len_slice u30, index_slice u30 sz3, load_of ld3, build_arr u28 sz9 zo28, index_arr u28 sz9, part_one ld9, bin_str u9 .add (Or.inl rfl), indexAddr_arr u31 sz9, load_of ld9, len_string u9, alloc_of zo34, store_of sz34, len_slice u32, index_slice u32 sz34, fieldAddr_of fa34_0, fieldAddr_of fa34_1, fieldAddr_of fa34_2, load_of ld2, fieldAddr_of fa34_3, h4, Tok.cells]
      obtain ⟨oz4, kz4, nz4⟩ := new_own (m := m4) (cs := [Value.int .i64 0, .string ⟨#[]⟩, .int .i64 0, .int .i64 0, .int .i64 0]) (e := 34) rfl
      generalize hr5 : storeRow _ _ _ = r5
      obtain ⟨m5, rfl, o5, k5⟩ := store_own hr5 oz4 (by simp) (by simp [one_int, one_str])
      have kk5 : Keeps m4 m5 [] := kz4.mono2 k5 (Nat.le_refl _)
      have s5 := s4.keep kk5 (by simp)
      have s25 := s24.keep kk5 (by simp)
      simp [-Int.natCast_add, -BitVec.toNat_or, -BitVec.toNat_ofInt, -BitVec.toNat_and, build_arr u31 sz9 zo31, alloc_of zo31, store_of sz31, len_slice u30, index_slice u30 sz3, load_of ld3, build_arr u28 sz9 zo28, index_arr u28 sz9, part_one ld9, bin_str u9 .add (Or.inl rfl), indexAddr_arr u31 sz9, load_of ld9, len_string u9, alloc_of zo34, store_of sz34, len_slice u32, index_slice u32 sz34, fieldAddr_of fa34_0, fieldAddr_of fa34_1, fieldAddr_of fa34_2, load_of ld2, fieldAddr_of fa34_3, hkn]
      refine wsem_loop 19 [27, 38, 45, 66, 104, 108, 160] (fun d E m6 => ∃ q : Nat, xs.length - q = d ∧ q ≤ xs.length ∧ E = [(4, .bool false), (12, .slice ax xs.length xs.length), (15, .slice ay xs.length xs.length), (18, .int .i64 q)] ∧ m6 = m5) _ ⟨_, ⟨0, rfl, by omega, rfl, rfl⟩, ⟨by rfl, by rfl, by rfl, by rfl, trivial⟩⟩ ?_
      rintro d E m6 ihq ⟨q, hq, hqx, rfl, rfl⟩
      by_cases hlt : q < xs.length
      · have hlt2 : q < ys.length := by omega
        obtain ⟨bx, rfl, ox⟩ := s25.own (by omega)
        obtain ⟨bY, rfl, oy⟩ := s5.own (by omega)
        have e1 : (q : Int) < xs.length := by omega
        have em : (q : Int) ≤ 9223372036854775807 := by omega
        have w1 : IntKind.i64.wrap ((q : Int) + 1) = ((q + 1 : Nat) : Int) := by rw [wrap_i64 (by omega) (by omega)]; omega
        have lx := fun f (hf : f < 5) => (ox.load (off := q * 5 + f) 1 (by rw [← outCells_len]; omega)).trans (congrArg some (at_field hlt f hf))
        have ly := fun f (hf : f < 5) => (oy.load (off := q * 5 + f) 1 (by rw [← outCells_len]; omega)).trans (congrArg some (at_field hlt2 f hf))
        have lx0 := lx 0 (by omega)
        have lx1 := lx 1 (by omega)
        have lx2 := lx 2 (by omega)
        have lx3 := lx 3 (by omega)
        have ly0 := ly 0 (by omega)
        have ly1 := ly 1 (by omega)
        have ly2 := ly 2 (by omega)
        have ly3 := ly 3 (by omega)
        have hsp : sp xs[q] = sp ys[q] := by
          have h5 : (xs.map sp)[q]? = (ys.map sp)[q]? := by rw [eq]
          simp only [List.getElem?_map, List.getElem?_eq_getElem hlt, List.getElem?_eq_getElem hlt2, Option.map_some, Option.some.injEq] at h5
          exact h5
        simp only [sp, Prod.mk.injEq] at hsp
        obtain ⟨q1, q2, q3, q4⟩ := hsp
        simp only [Tok.cells, List.drop_zero, List.drop_succ_cons, List.take_succ_cons, List.take_zero, Nat.add_zero, q1, q2, q3, q4] at lx0 lx1 lx2 lx3 ly0 ly1 ly2 ly3
        clear lx ly
        simp [-Int.natCast_add, -BitVec.toNat_or, -BitVec.toNat_ofInt, -BitVec.toNat_and, build_arr u31 sz9 zo31, alloc_of zo31, store_of sz31, len_slice u30, index_slice u30 sz3, load_of ld3, build_arr u28 sz9 zo28, index_arr u28 sz9, part_one ld9, bin_str u9 .add (Or.inl rfl), indexAddr_arr u31 sz9, load_of ld9, len_string u9, alloc_of zo34, store_of sz34, len_slice u32, index_slice u32 sz34, fieldAddr_of fa34_0, fieldAddr_of fa34_1, fieldAddr_of fa34_2, load_of ld2, fieldAddr_of fa34_3, e1, em, hlt, lx0, lx1, lx2, lx3, ly0, ly1, ly2, ly3, w1]
        exact ihq _ _ _ _ ⟨q + 1, rfl, by omega, rfl, rfl⟩ (by omega) ⟨by rfl, by rfl, by rfl, by simp [lget], trivial⟩
      · have e1 : ¬ (q : Int) < xs.length := by omega
        simp [-Int.natCast_add, -BitVec.toNat_or, -BitVec.toNat_ofInt, -BitVec.toNat_and, build_arr u31 sz9 zo31, alloc_of zo31, store_of sz31, len_slice u30, index_slice u30 sz3, load_of ld3, build_arr u28 sz9 zo28, index_arr u28 sz9, part_one ld9, bin_str u9 .add (Or.inl rfl), indexAddr_arr u31 sz9, load_of ld9, len_string u9, alloc_of zo34, store_of sz34, len_slice u32, index_slice u32 sz34, fieldAddr_of fa34_0, fieldAddr_of fa34_1, fieldAddr_of fa34_2, load_of ld2, fieldAddr_of fa34_3, e1, hlt]

/- the row -/
open Go.ChangeShapes Go.WideShapes Go.ChangeAt Go.RowKit
theorem own : ownKnob Try.prog.godebug = none := by kernel_rfl
theorem mixed : Try.prog.follows .mixedOrders = true := by kernel_rfl
theorem tab : Sh.tabCheck Try.prog fns = true := by kernel_rfl
theorem known : Sh.isVal (.bool true) (Sh.call Try.prog (Sh.tabOf Try.prog fns) Sh.noSums 100000 8 [] (Sh.memG Try.prog [])) = true := by kernel_rfl
def sums : Sums := fun f => if f = 8 then [([], .bool true)] else []
theorem sumsOk : SumsOk Try.prog sums := by
  intro f p hp
  unfold sums at hp
  split at hp
  · rename_i hf
    subst hf
    simp only [List.mem_cons, List.not_mem_nil, or_false] at hp
    subst hp
    exact ⟨rfl, rfl, ⟨Try.f8, Try.func8, by kernel_rfl, by kernel_rfl⟩, fun w => Sh.closed_val mixed (Sh.tab_ok tab) (Sh.noSums_ok _) 100000 8 Try.func8 (by kernel_rfl) (gs := []) (by kernel_rfl) (by kernel_rfl) known w (fun p hp => by simp at hp)⟩
  · simp at hp

theorem walk (w : World) {v0 : Value} (h0 : RowArg Try.prog w (fun n : Int => [Value.int .i64 n]) (fun n => (Lit.int .i64 n).wf = true) 3 1 v0) {v1 : Value} (h1 : RowArg Try.prog w (fun n : Int => [Value.int .i64 n]) (fun n => (Lit.int .i64 n).wf = true) 3 1 v1) :
    Calls Try.prog 6 #[v0, v1] w fun e w' => e = .returned (.bool true) ∧ Below w.heap.size w w' := by
  have hM := start_rel Try.prog w
  obtain ⟨rs0, J0, m0, ao0, fr0, le0, hM0, vr0, hr0, hg0, hl0, hk0, hz0, hw0⟩ := row_in hM sz3 (by omega) (fun _ => rfl) h0
  obtain ⟨rs1, J1, m1, ao1, fr1, le1, hM1, vr1, hr1, hg1, hl1, hk1, hz1, hw1⟩ := row_in hM0 sz3 (by omega) (fun _ => rfl) h1
  obtain ⟨v', m', h, rfl⟩ := law_run (S := sums) (m := m1) ⟨⟨rfl, rfl, rfl, rfl, rfl, rfl, rfl, rfl, rfl, rfl, rfl, rfl, rfl, rfl, rfl, rfl⟩, ⟨rfl, rfl, rfl, rfl, rfl, rfl, rfl⟩, rfl, rfl, rfl, rfl⟩ rfl rfl rfl (hr0.keep hk1 (by simp)) (by have := hk1.1; omega) hz0 hw0 hr1 hl1 hz1 hw1
  exact calls_of mixed (Sh.tab_ok tab) sumsOk Try.func6 (by kernel_rfl) h rfl hM1 (.cons (vr0.mono le1) (.cons vr1 LRel.nil))

theorem laidOut : laidOutB Try.prog = true := by kernel_rfl

theorem lifted (os : Os) (started : os.Started) (H : Type) (enc : TypeId × Value → H) :
    ReturnsInHanded {} Try.checked os 6 .any (Rows.tokenBlanksSpec.pre6 enc Try.prog Try.f6 Rows.tokenBlanksRow.domain false) (Rows.tokenBlanksSpec.post enc Try.prog Try.f6 false true false false) := by
  refine returnsInHanded_of_change (C := Try.checked) own started (by kernel_rfl) Try.func6
    (ChangeSpec.witness6 (enc := enc) (C := Try.checked) false ⟨#[], #[.slice none 0 0, .slice none 0 0], []⟩ 8 (by kernel_rfl) (by kernel_rfl) (by kernel_rfl) (by kernel_rfl)) ?_
  intro W base args ds gs before hval0 hW hcnd _
  have hval : ∀ (j : Nat) t v, Try.f6.params[j]? = some t → args[j]? = some v → Value.okWide Try.prog W .any base t v := hval0
  have hW' := hW
  obtain ⟨p, q, hA0, hV, rfl, hfz, hnd⟩ := hW
  have hA : DataW.TrodAll enc Try.prog W 0 (fun _ => true) true Try.f6.params.toList args.toList ds p := hA0
  rw [Try.params6] at hA hval
  obtain ⟨v0, v1, d0, d1, p0, p1, rfl, rfl, rfl, t0, t1⟩ := trodAll_two hA
  obtain ⟨rfl, rfl⟩ := trodVars_none hV
  have hv0 := ints_row u30 u3 sz3 (hval 0 _ _ rfl rfl) t0
  have hv1 := ints_row u30 u3 sz3 (hval 1 _ _ rfl rfl) t1
  clear hA0 hval0
  simp only [List.append_nil, List.nil_append] at hW'
  refine (walk W hv0 hv1).mono fun e W' ⟨he, hg⟩ => ?_
  subst he
  have hlt0 : ∀ z ∈ p0, z.block < W.heap.size := fun z hz => hW'.lt z (by simp [hz])
  have hlt1 : ∀ z ∈ p1, z.block < W.heap.size := fun z hz => hW'.lt z (by simp [hz])
  exact ⟨_, rfl, Sh.law_post (pa := (p0 ++ p1)) (pv := []) hW' hg (by simp) (fun sp hsp => trodAll_mk2 (WideElems.Trod_stays laidOut (by kernel_rfl) (of_decide_eq_true (by kernel_rfl)) t0 (fun z hz => hg.same (hlt0 z hz)) (fun z hz => hsp z (by simp [hz]))) (WideElems.Trod_stays laidOut (by kernel_rfl) (of_decide_eq_true (by kernel_rfl)) t1 (fun z hz => hg.same (hlt1 z hz)) (fun z hz => hsp z (by simp [hz])))) (fun _ _ => rfl) (fun _ _ _ => (trodAll_cons_mk (shut_bool u4 _) trodAll_mk0))
    (ok_one (by kernel_rfl) rfl (okWide_bool_mk u4 _))⟩

theorem over : Rows.tokenBlanksRow.holds Try.pinned (OpenSpec.ofChange Rows.tokenBlanksSpec) :=
  OpenClaim.holds_of_wide 6 Try.f6 rfl rfl rfl rfl rfl rfl rfl ⟨rfl, rfl, rfl, rfl, rfl⟩ rfl rfl rfl rfl rfl (by kernel_rfl) Try.func6 (by kernel_rfl)
    (of_decide_eq_true (by kernel_rfl)) (by unfold Func.isWrapper; first | (rw [if_pos (by decide +kernel)]; kernel_rfl) | (rw [if_neg (by decide +kernel)]; exact ⟨rfl, rfl⟩))
    (fun os started H enc _ => lifted os started H enc)

theorem proved : Rows.TokenBlanksSaid :=
  over
#print axioms proved
end Go.Proofs.Ytgomgdbapgibjaa.tokenBlanks

