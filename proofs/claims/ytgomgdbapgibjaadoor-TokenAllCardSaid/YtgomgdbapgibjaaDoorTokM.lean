/-
  This text proves what 'one' of the document's chapter 3 does over the abstract run: 'readR'.
  Condition: nothing is known of their calls ahead ('S f = []').
-/
import Derived.Test.YtgomgdbapgibjaaDoorTokL
set_option maxRecDepth 100000
set_option linter.unusedSimpArgs false
set_option linter.unusedVariables false
namespace Go.Proofs.YtgomgdbapgibjaaDoor.base
open Go.Sh gen
variable {S : Sums} {m : Mem} {b f fo : Nat} {ao : Option Addr} {σ : St}
structure Nr (S : Sums) : Prop where
  one : S 32 = []
  letter : S 28 = []
  digit : S 29 = []
  isWord : S 15 = []
  text : S 44 = []
  ends : S 30 = []
  add : S 31 = []
theorem rone_run (hS : Nr S) (r : List UInt8) (hr0 : r ≠ []) (hrl : r.length ≤ 16384) :
    ∃ v m1, callw Tryd.prog TT S 32 [.string ⟨r.toArray⟩] m = some (v, m1) ∧ v = (readR r).val ∧ Keeps m m1 [] := by
  obtain ⟨oz, kz, nz⟩ := new_own (m := m) (cs := [Value.int .i64 0, .string ⟨#[]⟩, .int .i64 0, .int .i64 0, .int .i64 0]) (e := 31) rfl
  obtain ⟨c, q, rfl⟩ : ∃ c q, r = c :: q := by cases r with | nil => exact absurd rfl hr0 | cons c q => exact ⟨c, q, rfl⟩
  have hrl1 : q.length + 1 ≤ 16384 := by simpa using hrl
  have hL := fun m n => rletter_run (m := m) hS.letter n
  have hD := fun m n => rdigit_run (m := m) hS.digit n
  refine fn_w 13 [15, 33, 39, 50, 62, 72, 86, 96, 117, 121] k32 hS.one rfl ?_
  obtain ⟨mz, hmz⟩ : ∃ mz, m.new [Value.int .i64 0, .string ⟨#[]⟩, .int .i64 0, .int .i64 0, .int .i64 0] 31 = mz := ⟨_, rfl⟩
  rw [hmz] at oz kz nz
  cases hl : ltr c.toNat with
  | true =>
    have hR : readR (c :: q) = .tok (if wd (c :: q) ∈ wordL then 3 else 2) (wd (c :: q)) 0 (wd (c :: q)).length := by simp only [readR, hl, if_true]
    rw [hR]
    simp [-BitVec.toNat_or, -BitVec.toNat_ofInt, -BitVec.toNat_and, lres_agg ld31, alloc_of zo31, index_str u9, len_string u9, slice_str u9, build_of bo31, store_of sz31, conv_i u5 u2, build_arr u69 sz9 zo69, alloc_of zo69, store_of sz69, indexAddr_arr u69 sz9, load_of ld9, hmz, hL, hl]
    have h1 : 1 ≤ (wd (c :: q)).length := by
      have : lod c.toNat = true := by simp [lod, hl]
      simp [wd, List.takeWhile_cons, this]
    have hcl := tw_le (fun c => lod c.toNat) (c :: q)
    obtain ⟨r, hr⟩ : ∃ r, r = c :: q := ⟨_, rfl⟩
    rw [← hr] at h1 hcl hrl ⊢
    have hlr : (r.length : Int) = (q.length : Int) + 1 := by rw [hr]; simp
    refine wsem_loop 13 [15, 33, 39, 50, 62, 72, 86, 96, 117, 121] (fun d E m2 => ∃ i : Nat, (wd r).length - i = d ∧ i ≤ (wd r).length ∧ E = [(0, .string ⟨r.toArray⟩), (2, .pointer (some ⟨m.next, 0, none⟩)), (6, .int .i64 i)] ∧ m2 = mz) _ ⟨_, ⟨1, rfl, h1, rfl, rfl⟩, ⟨rfl, rfl, rfl, trivial⟩⟩ ?_
    rintro d E m2 ih ⟨i, hd, hi, rfl, rfl⟩
    by_cases hlt : i < (wd r).length
    · obtain ⟨hi1, hp⟩ := tw_lt hlt
      have e1 : (i : Int) < r.length := by omega
      have em : (i : Int) ≤ 9223372036854775807 := by omega
      have w1 : IntKind.i64.wrap ((i : Int) + 1) = ((i + 1 : Nat) : Int) := by rw [wrap_i64 (by omega) (by omega)]; omega
      simp only [lod, Bool.or_eq_true] at hp
      by_cases hl2 : ltr (r[i]).toNat = true
      · simp [-BitVec.toNat_or, -BitVec.toNat_ofInt, -BitVec.toNat_and, lres_agg ld31, alloc_of zo31, index_str u9, len_string u9, slice_str u9, build_of bo31, store_of sz31, conv_i u5 u2, build_arr u69 sz9 zo69, alloc_of zo69, store_of sz69, indexAddr_arr u69 sz9, load_of ld9, e1, hi1, em, hL, hD, hl2, w1]
        exact ih _ _ _ _ ⟨i + 1, rfl, by omega, rfl, rfl⟩ (by omega) ⟨rfl, rfl, by simp [lget], trivial⟩
      · have hdg := hp.resolve_left hl2
        simp [-BitVec.toNat_or, -BitVec.toNat_ofInt, -BitVec.toNat_and, lres_agg ld31, alloc_of zo31, index_str u9, len_string u9, slice_str u9, build_of bo31, store_of sz31, conv_i u5 u2, build_arr u69 sz9 zo69, alloc_of zo69, store_of sz69, indexAddr_arr u69 sz9, load_of ld9, e1, hi1, em, hL, hD, hl2, hdg, w1]
        exact ih _ _ _ _ ⟨i + 1, rfl, by omega, rfl, rfl⟩ (by omega) ⟨rfl, rfl, by simp [lget], trivial⟩
    · have hic : i = (wd r).length := by omega
      subst hic
      have htk : r.take (wd r).length = wd r := tw_take _ _
      have hW := risWord_run (m := m2) hS.isWord (wd r)
      have hcl' : (wd r).length ≤ r.length := hcl
      have em : (((wd r).length : Nat) : Int) ≤ 9223372036854775807 := by omega
      by_cases hl2 : (wd r).length < r.length
      · have e1 : ((wd r).length : Int) < r.length := by omega
        have hp' : lod (r[(wd r).length]).toNat = false := tw_end (p := fun c => lod c.toNat) (s := r) rfl hl2
        simp only [lod, Bool.or_eq_false_iff] at hp'
        by_cases hw : wd r ∈ wordL
        · simp [-BitVec.toNat_or, -BitVec.toNat_ofInt, -BitVec.toNat_and, lres_agg ld31, alloc_of zo31, index_str u9, len_string u9, slice_str u9, build_of bo31, store_of sz31, conv_i u5 u2, build_arr u69 sz9 zo69, alloc_of zo69, store_of sz69, indexAddr_arr u69 sz9, load_of ld9, e1, hl2, em, hL, hD, hp'.1, hp'.2, hcl', htk, hW, hw]
          generalize hrr : storeRow _ _ _ = rr
          obtain ⟨m3, rfl, o3, k3⟩ := store_own hrr oz (by simp) (by simp [one_int, one_str])
          have l3 := o3.load (off := 0) 5 (by simp [over])
          simp [over, window] at l3
          simp [-BitVec.toNat_or, -BitVec.toNat_ofInt, -BitVec.toNat_and, lres_agg ld31, alloc_of zo31, index_str u9, len_string u9, slice_str u9, build_of bo31, store_of sz31, conv_i u5 u2, build_arr u69 sz9 zo69, alloc_of zo69, store_of sz69, indexAddr_arr u69 sz9, load_of ld9, l3]
          exact ⟨by simp [Rd.val], kz.mono2 k3 (Nat.le_refl _)⟩
        · simp [-BitVec.toNat_or, -BitVec.toNat_ofInt, -BitVec.toNat_and, lres_agg ld31, alloc_of zo31, index_str u9, len_string u9, slice_str u9, build_of bo31, store_of sz31, conv_i u5 u2, build_arr u69 sz9 zo69, alloc_of zo69, store_of sz69, indexAddr_arr u69 sz9, load_of ld9, e1, hl2, em, hL, hD, hp'.1, hp'.2, hcl', htk, hW, hw]
          generalize hrr : storeRow _ _ _ = rr
          obtain ⟨m3, rfl, o3, k3⟩ := store_own hrr oz (by simp) (by simp [one_int, one_str])
          have l3 := o3.load (off := 0) 5 (by simp [over])
          simp [over, window] at l3
          simp [-BitVec.toNat_or, -BitVec.toNat_ofInt, -BitVec.toNat_and, lres_agg ld31, alloc_of zo31, index_str u9, len_string u9, slice_str u9, build_of bo31, store_of sz31, conv_i u5 u2, build_arr u69 sz9 zo69, alloc_of zo69, store_of sz69, indexAddr_arr u69 sz9, load_of ld9, l3]
          exact ⟨by simp [Rd.val], kz.mono2 k3 (Nat.le_refl _)⟩
      · have e1 : ¬ ((wd r).length : Int) < r.length := by omega
        by_cases hw : wd r ∈ wordL
        · simp [-BitVec.toNat_or, -BitVec.toNat_ofInt, -BitVec.toNat_and, lres_agg ld31, alloc_of zo31, index_str u9, len_string u9, slice_str u9, build_of bo31, store_of sz31, conv_i u5 u2, build_arr u69 sz9 zo69, alloc_of zo69, store_of sz69, indexAddr_arr u69 sz9, load_of ld9, e1, hl2, em, hL, hD, hcl', htk, hW, hw]
          generalize hrr : storeRow _ _ _ = rr
          obtain ⟨m3, rfl, o3, k3⟩ := store_own hrr oz (by simp) (by simp [one_int, one_str])
          have l3 := o3.load (off := 0) 5 (by simp [over])
          simp [over, window] at l3
          simp [-BitVec.toNat_or, -BitVec.toNat_ofInt, -BitVec.toNat_and, lres_agg ld31, alloc_of zo31, index_str u9, len_string u9, slice_str u9, build_of bo31, store_of sz31, conv_i u5 u2, build_arr u69 sz9 zo69, alloc_of zo69, store_of sz69, indexAddr_arr u69 sz9, load_of ld9, l3]
          exact ⟨by simp [Rd.val], kz.mono2 k3 (Nat.le_refl _)⟩
        · simp [-BitVec.toNat_or, -BitVec.toNat_ofInt, -BitVec.toNat_and, lres_agg ld31, alloc_of zo31, index_str u9, len_string u9, slice_str u9, build_of bo31, store_of sz31, conv_i u5 u2, build_arr u69 sz9 zo69, alloc_of zo69, store_of sz69, indexAddr_arr u69 sz9, load_of ld9, e1, hl2, em, hL, hD, hcl', htk, hW, hw]
          generalize hrr : storeRow _ _ _ = rr
          obtain ⟨m3, rfl, o3, k3⟩ := store_own hrr oz (by simp) (by simp [one_int, one_str])
          have l3 := o3.load (off := 0) 5 (by simp [over])
          simp [over, window] at l3
          simp [-BitVec.toNat_or, -BitVec.toNat_ofInt, -BitVec.toNat_and, lres_agg ld31, alloc_of zo31, index_str u9, len_string u9, slice_str u9, build_of bo31, store_of sz31, conv_i u5 u2, build_arr u69 sz9 zo69, alloc_of zo69, store_of sz69, indexAddr_arr u69 sz9, load_of ld9, l3]
          exact ⟨by simp [Rd.val], kz.mono2 k3 (Nat.le_refl _)⟩
  | false =>
    cases hd : dgt c.toNat with
    | true =>
      have hR : readR (c :: q) = (match numGo (nd (c :: q)) 0 with
        | some x => .tok 4 (nd (c :: q)) x (nd (c :: q)).length
        | none => .err 12) := by simp only [readR, hl, hd, Bool.false_eq_true, if_false, if_true]; rfl
      rw [hR]
      simp [-BitVec.toNat_or, -BitVec.toNat_ofInt, -BitVec.toNat_and, lres_agg ld31, alloc_of zo31, index_str u9, len_string u9, slice_str u9, build_of bo31, store_of sz31, conv_i u5 u2, build_arr u69 sz9 zo69, alloc_of zo69, store_of sz69, indexAddr_arr u69 sz9, load_of ld9, hmz, hL, hD, hl, hd]
      obtain ⟨r, hr⟩ : ∃ r, r = c :: q := ⟨_, rfl⟩
      rw [← hr] at hrl ⊢
      refine wsem_loop 13 [15, 33, 39, 50, 62, 72, 86, 96, 117, 121] (fun d E m2 => ∃ i x : Nat, (nd r).length - i = d ∧ i ≤ (nd r).length ∧ x ≤ 9223372036854775807 ∧ numGo ((nd r).drop i) x = numGo (nd r) 0 ∧ E = [(0, .string ⟨r.toArray⟩), (2, .pointer (some ⟨m.next, 0, none⟩)), (7, .int .i64 i), (8, .int .i64 x)] ∧ m2 = mz) _ ⟨_, ⟨0, 0, rfl, by omega, by omega, rfl, rfl, rfl⟩, ⟨rfl, rfl, rfl, rfl, trivial⟩⟩ ?_
      rintro d E m2 ih ⟨i, x, hd, hi, hx, hg, rfl, rfl⟩
      have hcl : (nd r).length ≤ r.length := tw_le _ _
      by_cases hlt : i < (nd r).length
      · obtain ⟨hi1, hp⟩ := tw_lt (p := fun c => dgt c.toNat) (s := r) hlt
        have hdr : (nd r).drop i = r[i] :: (nd r).drop (i + 1) := by
          rw [List.drop_eq_getElem_cons hlt]
          congr 1
          exact (List.takeWhile_prefix _).getElem hlt
        rw [hdr] at hg
        have e1 : (i : Int) < r.length := by omega
        have em : (i : Int) ≤ 9223372036854775807 := by omega
        have w1 : IntKind.i64.wrap ((i : Int) + 1) = ((i + 1 : Nat) : Int) := by rw [wrap_i64 (by omega) (by omega)]; omega
        have hp' : dgt (r[i]).toNat = true := hp
        have hp2 := hp'
        simp only [dgt, Bool.and_eq_true, decide_eq_true_eq] at hp2
        simp only [numGo] at hg
        obtain ⟨dd, hdd⟩ : ∃ dd, dd = (r[i]).toNat - 48 := ⟨_, rfl⟩
        rw [← hdd] at hg
        have hd9 : dd ≤ 9 := by omega
        have w8 : IntKind.u8.wrap (((r[i]).toNat : Int) - 48) = (dd : Int) := by rw [wrap_u8 (by omega) (by omega)]; omega
        have wu : IntKind.i64.wrap (dd : Int) = (dd : Int) := wrap_i64 (by omega) (by omega)
        have wsub : IntKind.i64.wrap (9223372036854775807 - (dd : Int)) = ((9223372036854775807 - dd : Nat) : Int) := by rw [wrap_i64 (by omega) (by omega)]; omega
        have wq : IntKind.i64.wrap ((((9223372036854775807 - dd : Nat) : Int)).tdiv 10) = (((9223372036854775807 - dd) / 10 : Nat) : Int) := by
          rw [Int.tdiv_eq_ediv_of_nonneg (by omega), wrap_i64 (by omega) (by omega)]; omega
        have wq2 : IntKind.i64.wrap ((((9223372036854775807 - dd : Nat) : Int)) / 10) = (((9223372036854775807 - dd) / 10 : Nat) : Int) := by
          rw [wrap_i64 (by omega) (by omega)]; omega
        by_cases ho : (9223372036854775807 - dd) / 10 < x
        · rw [if_pos ho] at hg
          have ho' : (((9223372036854775807 - dd) / 10 : Nat) : Int) < x := by omega
          rw [← hg]
          simp [-Int.natCast_ediv, -BitVec.toNat_or, -BitVec.toNat_ofInt, -BitVec.toNat_and, lres_agg ld31, alloc_of zo31, index_str u9, len_string u9, slice_str u9, build_of bo31, store_of sz31, conv_i u5 u2, build_arr u69 sz9 zo69, alloc_of zo69, store_of sz69, indexAddr_arr u69 sz9, load_of ld9, e1, hi1, em, hD, hp', w8, wu, wsub, wq, wq2, ho']
          generalize hrr : storeRow _ _ _ = rr
          obtain ⟨m9, rfl, o9, k9⟩ := store_own hrr oz (by simp) (by simp [one_int, one_str])
          have l9 := o9.load (off := 0) 5 (by simp [over])
          simp [over, window] at l9
          simp [-Int.natCast_add, -BitVec.toNat_or, -BitVec.toNat_ofInt, -BitVec.toNat_and, lres_agg ld31, alloc_of zo31, index_str u9, len_string u9, slice_str u9, build_of bo31, store_of sz31, conv_i u5 u2, build_arr u69 sz9 zo69, alloc_of zo69, store_of sz69, indexAddr_arr u69 sz9, load_of ld9, l9]
          exact ⟨by simp [Rd.val], kz.mono2 k9 (Nat.le_refl _)⟩
        · rw [if_neg ho] at hg
          have ho' : ¬ (((9223372036854775807 - dd) / 10 : Nat) : Int) < x := by omega
          have wm : IntKind.i64.wrap (10 * (x : Int)) = ((10 * x : Nat) : Int) := by rw [wrap_i64 (by omega) (by omega)]; omega
          have wa : IntKind.i64.wrap (((10 * x : Nat) : Int) + dd) = ((10 * x + dd : Nat) : Int) := by rw [wrap_i64 (by omega) (by omega)]; omega
          simp [-Int.natCast_ediv, -Int.natCast_mul, -BitVec.toNat_or, -BitVec.toNat_ofInt, -BitVec.toNat_and, lres_agg ld31, alloc_of zo31, index_str u9, len_string u9, slice_str u9, build_of bo31, store_of sz31, conv_i u5 u2, build_arr u69 sz9 zo69, alloc_of zo69, store_of sz69, indexAddr_arr u69 sz9, load_of ld9, e1, hi1, em, hD, hp', w8, wu, wsub, wq, wq2, ho', wm, wa, w1]
          exact ih _ _ _ _ ⟨i + 1, 10 * x + dd, rfl, by omega, by omega, hg, rfl, rfl⟩ (by omega) ⟨rfl, rfl, by simp [lget], by simp [lget], trivial⟩
      · have hic : i = (nd r).length := by omega
        subst hic
        rw [List.drop_length] at hg
        simp only [numGo] at hg
        rw [← hg]
        have htk : r.take (nd r).length = nd r := tw_take _ _
        have em : (((nd r).length : Nat) : Int) ≤ 9223372036854775807 := by omega
        by_cases hl2 : (nd r).length < r.length
        · have e1 : ((nd r).length : Int) < r.length := by omega
          have hp : dgt (r[(nd r).length]).toNat = false := tw_end (p := fun c => dgt c.toNat) (s := r) rfl hl2
          simp [-BitVec.toNat_or, -BitVec.toNat_ofInt, -BitVec.toNat_and, lres_agg ld31, alloc_of zo31, index_str u9, len_string u9, slice_str u9, build_of bo31, store_of sz31, conv_i u5 u2, build_arr u69 sz9 zo69, alloc_of zo69, store_of sz69, indexAddr_arr u69 sz9, load_of ld9, e1, hl2, em, hD, hp, hcl, htk]
          generalize hrr : storeRow _ _ _ = rr
          obtain ⟨m9, rfl, o9, k9⟩ := store_own hrr oz (by simp) (by simp [one_int, one_str])
          have l9 := o9.load (off := 0) 5 (by simp [over])
          simp [over, window] at l9
          simp [-Int.natCast_add, -BitVec.toNat_or, -BitVec.toNat_ofInt, -BitVec.toNat_and, lres_agg ld31, alloc_of zo31, index_str u9, len_string u9, slice_str u9, build_of bo31, store_of sz31, conv_i u5 u2, build_arr u69 sz9 zo69, alloc_of zo69, store_of sz69, indexAddr_arr u69 sz9, load_of ld9, l9]
          exact ⟨by simp [Rd.val], kz.mono2 k9 (Nat.le_refl _)⟩
        · have e1 : ¬ ((nd r).length : Int) < r.length := by omega
          simp [-BitVec.toNat_or, -BitVec.toNat_ofInt, -BitVec.toNat_and, lres_agg ld31, alloc_of zo31, index_str u9, len_string u9, slice_str u9, build_of bo31, store_of sz31, conv_i u5 u2, build_arr u69 sz9 zo69, alloc_of zo69, store_of sz69, indexAddr_arr u69 sz9, load_of ld9, e1, hl2, em, hD, hcl, htk]
          generalize hrr : storeRow _ _ _ = rr
          obtain ⟨m9, rfl, o9, k9⟩ := store_own hrr oz (by simp) (by simp [one_int, one_str])
          have l9 := o9.load (off := 0) 5 (by simp [over])
          simp [over, window] at l9
          simp [-Int.natCast_add, -BitVec.toNat_or, -BitVec.toNat_ofInt, -BitVec.toNat_and, lres_agg ld31, alloc_of zo31, index_str u9, len_string u9, slice_str u9, build_of bo31, store_of sz31, conv_i u5 u2, build_arr u69 sz9 zo69, alloc_of zo69, store_of sz69, indexAddr_arr u69 sz9, load_of ld9, l9]
          exact ⟨by simp [Rd.val], kz.mono2 k9 (Nat.le_refl _)⟩
    | false =>
      by_cases c34 : c.toNat = 34
      · have c34' : (c.toNat : Int) = 34 := by omega
        have hl34 : ltr 34 = false := rfl
        have hd34 : dgt 34 = false := rfl
        have hL34 : callw Tryd.prog TT S 28 [.int .u8 34] mz = some (.bool false, mz) := hL mz 34
        have hD34 : callw Tryd.prog TT S 29 [.int .u8 34] mz = some (.bool false, mz) := hD mz 34
        have hR : readR (c :: q) = textRd (c :: q) := by
          simp only [readR, hl, hd, Bool.false_eq_true, if_false]; rw [if_pos c34]; rfl
        rw [hR]
        obtain ⟨v, m3, ht, rfl, k3⟩ := rtext_run (m := mz) hS.text (c :: q) (by simp) hrl
        have oz3 := oz.keep k3 (by simp)
        cases hx : textRd (c :: q) with
        | tok k t v n =>
          rw [hx] at ht
          simp only [Rd.val] at ht
          simp [-BitVec.toNat_or, -BitVec.toNat_ofInt, -BitVec.toNat_and, lres_agg ld31, alloc_of zo31, index_str u9, len_string u9, slice_str u9, build_of bo31, store_of sz31, conv_i u5 u2, build_arr u69 sz9 zo69, alloc_of zo69, store_of sz69, indexAddr_arr u69 sz9, load_of ld9, hmz, c34', hL34, hD34, hl34, hd34, ht]
          generalize hrr : storeRow _ _ _ = rr
          obtain ⟨m9, rfl, o9, k9⟩ := store_own hrr oz3 (by simp) (by simp [one_int, one_str])
          have l9 := o9.load (off := 0) 5 (by simp [over])
          simp [over, window] at l9
          simp [-Int.natCast_add, -BitVec.toNat_or, -BitVec.toNat_ofInt, -BitVec.toNat_and, lres_agg ld31, alloc_of zo31, index_str u9, len_string u9, slice_str u9, build_of bo31, store_of sz31, conv_i u5 u2, build_arr u69 sz9 zo69, alloc_of zo69, store_of sz69, indexAddr_arr u69 sz9, load_of ld9, l9]
          exact ⟨by simp [Rd.val], (kz.trans k3).mono2 k9 (Nat.le_refl _)⟩
        | err e =>
          rw [hx] at ht
          simp only [Rd.val] at ht
          simp [-BitVec.toNat_or, -BitVec.toNat_ofInt, -BitVec.toNat_and, lres_agg ld31, alloc_of zo31, index_str u9, len_string u9, slice_str u9, build_of bo31, store_of sz31, conv_i u5 u2, build_arr u69 sz9 zo69, alloc_of zo69, store_of sz69, indexAddr_arr u69 sz9, load_of ld9, hmz, c34', hL34, hD34, hl34, hd34, ht]
          generalize hrr : storeRow _ _ _ = rr
          obtain ⟨m9, rfl, o9, k9⟩ := store_own hrr oz3 (by simp) (by simp [one_int, one_str])
          have l9 := o9.load (off := 0) 5 (by simp [over])
          simp [over, window] at l9
          simp [-Int.natCast_add, -BitVec.toNat_or, -BitVec.toNat_ofInt, -BitVec.toNat_and, lres_agg ld31, alloc_of zo31, index_str u9, len_string u9, slice_str u9, build_of bo31, store_of sz31, conv_i u5 u2, build_arr u69 sz9 zo69, alloc_of zo69, store_of sz69, indexAddr_arr u69 sz9, load_of ld9, l9]
          exact ⟨by simp [Rd.val], (kz.trans k3).mono2 k9 (Nat.le_refl _)⟩
      · have c34' : ¬ (c.toNat : Int) = 34 := by omega
        have hR : readR (c :: q) = (match signR (c :: q) with
            | some (k, x) => .tok k x 0 x.length
            | none => .err 10) := by
          simp only [readR, hl, hd, Bool.false_eq_true, if_false]; rw [if_neg c34]; rfl
        rw [hR]
        simp [-BitVec.toNat_or, -BitVec.toNat_ofInt, -BitVec.toNat_and, lres_agg ld31, alloc_of zo31, index_str u9, len_string u9, slice_str u9, build_of bo31, store_of sz31, conv_i u5 u2, build_arr u69 sz9 zo69, alloc_of zo69, store_of sz69, indexAddr_arr u69 sz9, load_of ld9, hmz, hL, hD, hl, hd, c34']
        obtain ⟨oa, ka, na⟩ := new_own (m := mz) (cs := List.replicate 27 (Value.string ⟨#[]⟩)) (e := 69) rfl
        simp only [List.replicate] at oa ka na
        generalize hr3 : storeRow _ _ _ = r3
        obtain ⟨m3, rfl, o3, k3⟩ := store_own hr3 oa (by simp) (by simp [one_str])
        have hcl : over (List.replicate 27 (Value.string ⟨#[]⟩)) 0 (signL.map fun l => Value.string ⟨l.toArray⟩) = signL.map fun l => Value.string ⟨l.toArray⟩ := by rfl
        have o3' : Own m3 mz.next (signL.map fun l => Value.string ⟨l.toArray⟩) 69 mz.next := o3
        have oz3 := (oz.keep ka (by simp)).keep k3 (by simp; omega)
        have kz3 : Keeps m m3 [] := kz.trans (ka.mono2 k3 (Nat.le_refl _))
        clear o3 hr3
        obtain ⟨r, hr⟩ : ∃ r, r = c :: q := ⟨_, rfl⟩
        have hrne : r ≠ [] := by rw [hr]; simp
        simp [-BitVec.toNat_or, -BitVec.toNat_ofInt, -BitVec.toNat_and, lres_agg ld31, alloc_of zo31, index_str u9, len_string u9, slice_str u9, build_of bo31, store_of sz31, conv_i u5 u2, build_arr u69 sz9 zo69, alloc_of zo69, store_of sz69, indexAddr_arr u69 sz9, load_of ld9]
        rw [← hr] at hrl ⊢
        refine wsem_loop 13 [15, 33, 39, 50, 62, 72, 86, 96, 117, 121] (fun d E m2 => ∃ i : Nat, 25 - i = d ∧ i ≤ 25 ∧ (∀ j, j < i → ¬ mat r j) ∧ E = [(0, .string ⟨r.toArray⟩), (2, .pointer (some ⟨m.next, 0, none⟩)), (10, .pointer (some ⟨mz.next, 0, none⟩)), (11, .int .i64 i)] ∧ m2 = m3) _ ⟨_, ⟨0, rfl, by omega, fun j hj => by omega, rfl, rfl⟩, ⟨rfl, rfl, rfl, rfl, trivial⟩⟩ ?_
        rintro d E m2 ih ⟨i, hd2, hi, hno, rfl, rfl⟩
        by_cases hlt : i < 25
        · have e1 : (i : Int) < 25 := by omega
          have em : (i : Int) ≤ 9223372036854775807 := by omega
          have hi27 : i < 27 := by omega
          have w1 : IntKind.i64.wrap ((i : Int) + 1) = ((i + 1 : Nat) : Int) := by rw [wrap_i64 (by omega) (by omega)]; omega
          have hsl : signL.length = 27 := rfl
          have hgc : (signL.map fun l : List UInt8 => Value.string ⟨l.toArray⟩)[i]? = some (.string ⟨(signL.getD i []).toArray⟩) := by
            rw [List.getElem?_map, List.getD_eq_getElem?_getD, List.getElem?_eq_getElem (by omega)]
            rfl
          have lg : loadRow m2 ⟨mz.next, i, none⟩ 1 = some [.string ⟨(signL.getD i []).toArray⟩] := o3'.load1 (off := i) hgc
          have hmat : mat r i ↔ ((signL.getD i []).length ≤ r.length ∧ r.take (signL.getD i []).length = signL.getD i []) := Iff.rfl
          have hg2 : (signL.getD i []).length ≤ 2 := by
            have : i = 0 ∨ i = 1 ∨ i = 2 ∨ i = 3 ∨ i = 4 ∨ i = 5 ∨ i = 6 ∨ i = 7 ∨ i = 8 ∨ i = 9 ∨ i = 10 ∨ i = 11 ∨ i = 12 ∨ i = 13 ∨ i = 14 ∨ i = 15 ∨ i = 16 ∨ i = 17 ∨ i = 18 ∨ i = 19 ∨ i = 20 ∨ i = 21 ∨ i = 22 ∨ i = 23 ∨ i = 24 := by omega
            rcases this with rfl | rfl | rfl | rfl | rfl | rfl | rfl | rfl | rfl | rfl | rfl | rfl | rfl | rfl | rfl | rfl | rfl | rfl | rfl | rfl | rfl | rfl | rfl | rfl | rfl <;> decide
          have hyes := fun hm => sign_yes (r := r) hlt hm hno
          generalize signL.getD i [] = g at lg hmat hg2 hyes hgc
          have gm : (g.length : Int) ≤ 9223372036854775807 := by omega
          by_cases hgl : g.length ≤ r.length
          · have hgl' : (g.length : Int) ≤ r.length := by omega
            by_cases hgt : r.take g.length = g
            · have hm : mat r i := hmat.2 ⟨hgl, hgt⟩
              rw [hyes hm]
              simp [-BitVec.toNat_or, -BitVec.toNat_ofInt, -BitVec.toNat_and, lres_agg ld31, alloc_of zo31, index_str u9, len_string u9, slice_str u9, build_of bo31, store_of sz31, conv_i u5 u2, build_arr u69 sz9 zo69, alloc_of zo69, store_of sz69, indexAddr_arr u69 sz9, load_of ld9, e1, em, hi27, lg, hgl, hgl', gm, hgt]
              by_cases h59 : g = [59]
              · subst h59
                simp [-BitVec.toNat_or, -BitVec.toNat_ofInt, -BitVec.toNat_and, lres_agg ld31, alloc_of zo31, index_str u9, len_string u9, slice_str u9, build_of bo31, store_of sz31, conv_i u5 u2, build_arr u69 sz9 zo69, alloc_of zo69, store_of sz69, indexAddr_arr u69 sz9, load_of ld9, em, hi27, lg]
                generalize hrr : storeRow _ _ _ = rr
                obtain ⟨m9, rfl, o9, k9⟩ := store_own hrr oz3 (by simp) (by simp [one_int, one_str])
                have l9 := o9.load (off := 0) 5 (by simp [over])
                have lg9 := (o3'.keep k9 (by simp; omega)).load1 (off := i) hgc
                simp [over, window] at l9
                simp [-BitVec.toNat_or, -BitVec.toNat_ofInt, -BitVec.toNat_and, lres_agg ld31, alloc_of zo31, index_str u9, len_string u9, slice_str u9, build_of bo31, store_of sz31, conv_i u5 u2, build_arr u69 sz9 zo69, alloc_of zo69, store_of sz69, indexAddr_arr u69 sz9, load_of ld9, em, hi27, lg, lg9, l9]
                exact ⟨by simp [Rd.val], kz3.mono2 k9 (Nat.le_refl _)⟩
              · simp only [h59, if_false]
                simp [-BitVec.toNat_or, -BitVec.toNat_ofInt, -BitVec.toNat_and, lres_agg ld31, alloc_of zo31, index_str u9, len_string u9, slice_str u9, build_of bo31, store_of sz31, conv_i u5 u2, build_arr u69 sz9 zo69, alloc_of zo69, store_of sz69, indexAddr_arr u69 sz9, load_of ld9, h59, em, hi27, lg]
                generalize hrr : storeRow _ _ _ = rr
                obtain ⟨m9, rfl, o9, k9⟩ := store_own hrr oz3 (by simp) (by simp [one_int, one_str])
                have l9 := o9.load (off := 0) 5 (by simp [over])
                have lg9 := (o3'.keep k9 (by simp; omega)).load1 (off := i) hgc
                simp [over, window] at l9
                simp [-BitVec.toNat_or, -BitVec.toNat_ofInt, -BitVec.toNat_and, lres_agg ld31, alloc_of zo31, index_str u9, len_string u9, slice_str u9, build_of bo31, store_of sz31, conv_i u5 u2, build_arr u69 sz9 zo69, alloc_of zo69, store_of sz69, indexAddr_arr u69 sz9, load_of ld9, h59, em, hi27, lg, lg9, l9]
                exact ⟨by simp [Rd.val, h59], kz3.mono2 k9 (Nat.le_refl _)⟩
            · have hnm : ¬ mat r i := fun h => hgt (hmat.1 h).2
              simp [-BitVec.toNat_or, -BitVec.toNat_ofInt, -BitVec.toNat_and, lres_agg ld31, alloc_of zo31, index_str u9, len_string u9, slice_str u9, build_of bo31, store_of sz31, conv_i u5 u2, build_arr u69 sz9 zo69, alloc_of zo69, store_of sz69, indexAddr_arr u69 sz9, load_of ld9, e1, em, hi27, lg, hgl, hgl', gm, hgt, w1]
              exact ih _ _ _ _ ⟨i + 1, rfl, by omega, fun j hj => by rcases Nat.lt_succ_iff_lt_or_eq.1 hj with h | rfl; exact hno j h; exact hnm, rfl, rfl⟩ (by omega) ⟨rfl, rfl, rfl, by simp [lget], trivial⟩
          · have hgl' : ¬ (g.length : Int) ≤ r.length := by omega
            have hnm : ¬ mat r i := fun h => hgl (hmat.1 h).1
            simp [-BitVec.toNat_or, -BitVec.toNat_ofInt, -BitVec.toNat_and, lres_agg ld31, alloc_of zo31, index_str u9, len_string u9, slice_str u9, build_of bo31, store_of sz31, conv_i u5 u2, build_arr u69 sz9 zo69, alloc_of zo69, store_of sz69, indexAddr_arr u69 sz9, load_of ld9, e1, em, hi27, lg, hgl, hgl', gm, w1]
            exact ih _ _ _ _ ⟨i + 1, rfl, by omega, fun j hj => by rcases Nat.lt_succ_iff_lt_or_eq.1 hj with h | rfl; exact hno j h; exact hnm, rfl, rfl⟩ (by omega) ⟨rfl, rfl, rfl, by simp [lget], trivial⟩
        · have e1 : ¬ (i : Int) < 25 := by omega
          rw [sign_no hrne (fun j hj => hno j (by omega))]
          simp [-BitVec.toNat_or, -BitVec.toNat_ofInt, -BitVec.toNat_and, lres_agg ld31, alloc_of zo31, index_str u9, len_string u9, slice_str u9, build_of bo31, store_of sz31, conv_i u5 u2, build_arr u69 sz9 zo69, alloc_of zo69, store_of sz69, indexAddr_arr u69 sz9, load_of ld9, e1]
          generalize hrr : storeRow _ _ _ = rr
          obtain ⟨m9, rfl, o9, k9⟩ := store_own hrr oz3 (by simp) (by simp [one_int, one_str])
          have l9 := o9.load (off := 0) 5 (by simp [over])
          simp [over, window] at l9
          simp [-BitVec.toNat_or, -BitVec.toNat_ofInt, -BitVec.toNat_and, lres_agg ld31, alloc_of zo31, index_str u9, len_string u9, slice_str u9, build_of bo31, store_of sz31, conv_i u5 u2, build_arr u69 sz9 zo69, alloc_of zo69, store_of sz69, indexAddr_arr u69 sz9, load_of ld9, l9]
          exact ⟨by simp [Rd.val], kz3.mono2 k9 (Nat.le_refl _)⟩
end Go.Proofs.YtgomgdbapgibjaaDoor.base

