/-
  This text proves what turnstonelaw23.find and .does answer over the abstract run.
  Condition: nothing is known of the calls ahead ('S f = []').
-/
import Derived.Test.YtkeapfbemlclmaaMovQ
import Derived.Test.YtkeapfbemlclmaaMovF
set_option maxRecDepth 100000
set_option linter.unusedSimpArgs false
set_option linter.unusedVariables false
namespace Go.Proofs.Ytkeapfbemlclmaa.base
open Go.Sh gen
variable {S : Sums} {m : Mem}
theorem fnd_take {l : List Mv} {at_ : Int} {j : Nat} (hj : j < l.length) : fnd (l.take (j + 1)) at_ = if l[j].2 = at_ then l[j].1 else fnd (l.take j) at_ := by
  rw [List.take_succ_eq_append_getElem hj, fnd_snoc]
theorem find_run (hS : S 16 = []) {lo : Option Addr} {ls : List Mv} {lf le : Nat} (hl : Rs m lo ls.length (mvc ls) le 2 lf) (hlen : ls.length ≤ 4611686018427387904) (at_ : Int) :
    callw Try.prog TT S 16 [.slice lo ls.length ls.length, .int .i64 at_] m = some (.int .i64 (fnd ls at_), m) := by
  refine fn_eq 6 [10, 19] k16 hS rfl ?_
  have w0 : IntKind.i64.wrap ((ls.length : Int) - 1) = (ls.length : Int) - 1 := wrap_i64 (by omega) (by omega)
  simp [-Int.natCast_add, -BitVec.toNat_or, -BitVec.toNat_ofInt, -BitVec.toNat_and, len_slice u22, index_slice u22 sz27, fieldAddr_of fa27_1, load_of ld3, fieldAddr_of fa27_0, w0]
  refine wsem_loop 6 [10, 19] (fun d E m2 => ∃ j : Nat, j = d ∧ j ≤ ls.length ∧ fnd ls at_ = fnd (ls.take j) at_ ∧ m2 = m ∧ E = [(0, .slice lo ls.length ls.length), (1, .int .i64 at_), (5, .int .i64 ((j : Int) - 1))]) _ ⟨_, ⟨ls.length, rfl, by omega, by simp, rfl, rfl⟩, ⟨by rfl, by rfl, by rfl, trivial⟩⟩ ?_
  rintro d E m2 ih ⟨j, rfl, hj, hf, rfl, rfl⟩
  by_cases h0 : j = 0
  · subst h0
    have : fnd ls at_ = at_ := by rw [hf]; rfl
    simp [-Int.natCast_add, -BitVec.toNat_or, -BitVec.toNat_ofInt, -BitVec.toNat_and, len_slice u22, index_slice u22 sz27, fieldAddr_of fa27_1, load_of ld3, fieldAddr_of fa27_0, this]
  · obtain ⟨i, rfl⟩ : ∃ i, j = i + 1 := ⟨j - 1, by omega⟩
    have hlt : i < ls.length := by omega
    have ei : (((i + 1 : Nat) : Int) - 1) = (i : Int) := by omega
    have em : (i : Int) ≤ 9223372036854775807 := by omega
    have p0 : (0 : Int) ≤ (i : Int) := by omega
    have hlt' : (i : Int) < ls.length := by omega
    have wi : IntKind.i64.wrap ((i : Int) - 1) = (i : Int) - 1 := wrap_i64 (by omega) (by omega)
    obtain ⟨lb, rfl, ol⟩ := hl.rdo (by omega)
    have l0 := ol.load1 (mvc_at0 hlt)
    have l1 := ol.load1 (mvc_at1 hlt)
    rw [fnd_take hlt] at hf
    rw [ei]
    obtain ⟨⟨x, y⟩, hxy⟩ : ∃ p, ls[i] = p := ⟨_, rfl⟩
    rw [hxy] at l0 l1 hf
    simp only at l0 l1 hf
    by_cases c : y = at_
    · rw [if_pos c] at hf
      simp [-Int.natCast_add, -BitVec.toNat_or, -BitVec.toNat_ofInt, -BitVec.toNat_and, len_slice u22, index_slice u22 sz27, fieldAddr_of fa27_1, load_of ld3, fieldAddr_of fa27_0, hlt, hlt', em, p0, l0, l1, c, hf]
    · rw [if_neg c] at hf
      simp [-Int.natCast_add, -BitVec.toNat_or, -BitVec.toNat_ofInt, -BitVec.toNat_and, len_slice u22, index_slice u22 sz27, fieldAddr_of fa27_1, load_of ld3, fieldAddr_of fa27_0, hlt, hlt', em, p0, l0, l1, c, wi]
      exact ih _ _ _ _ ⟨i, rfl, by omega, hf, rfl, rfl⟩ (by omega) ⟨by rfl, by rfl, by rfl, trivial⟩
def askP (l : List Mv) (y : Int) : Prop := ∃ w ∈ l, w.2 = y
set_option maxHeartbeats 4000000 in
theorem does_run (hS : S 12 = []) (hF : S 16 = []) {wo : Option Addr} {want : List Mv} {wf we : Nat} (hw : Rs m wo want.length (mvc want) we 2 wf) (hwl : want.length ≤ 1000)
    {go : Option Addr} {got : List Mv} {gf ge : Nat} (hg : Rs m go got.length (mvc got) ge 2 gf) (hgl : got.length ≤ 1000) {spare : Int} (hD : Does want got spare) :
    ∃ v m1, callw Try.prog TT S 12 [.slice wo want.length want.length, .slice go got.length got.length, .int .i64 spare] m = some (v, m1) ∧ v = .bool true ∧ Keeps m m1 [] := by
  refine fn_w 14 [17, 30, 50, 65, 69, 79, 83, 104] k12 hS rfl ?_
  simp [-Int.natCast_add, -BitVec.toNat_or, -BitVec.toNat_ofInt, -BitVec.toNat_and, len_slice u22, index_slice u22 sz27, fieldAddr_of fa27_0, load_of ld3, fieldAddr_of fa27_1, build_of bo27, buildSlice_of u22 bs27 rfl, append_s u22 sz27]
  refine wsem_loop 14 [17, 30, 50, 65, 69, 79, 83, 104] (fun d E m2 => ∃ (i : Nat) (na : Option Addr) (nf : Nat), got.length - i = d ∧ i ≤ got.length ∧ Sl m2 na (told (got.take i)).length (mvc (told (got.take i))) 27 2 nf ∧ (na ≠ none → m.next ≤ nf) ∧ Keeps m m2 [] ∧ E = [(0, .slice wo want.length want.length), (1, .slice go got.length got.length), (2, .int .i64 spare), (7, .slice na (told (got.take i)).length (told (got.take i)).length), (8, .int .i64 i)]) _ ⟨_, ⟨0, none, 0, rfl, by omega, Sl.nil _ _ _ _, by simp, Keeps.refl _ _, rfl⟩, ⟨by rfl, by rfl, by rfl, by rfl, by rfl, trivial⟩⟩ ?_
  rintro d E m2 ih ⟨i, na, nf, hd, hi, h2, hb, k2, rfl⟩
  by_cases hlt : i < got.length
  · have em : (i : Int) ≤ 9223372036854775807 := by omega
    have hlt' : (i : Int) < got.length := by omega
    have wi : IntKind.i64.wrap ((i : Int) + 1) = ((i + 1 : Nat) : Int) := by rw [wrap_i64 (by omega) (by omega)]; omega
    have og := hg.keep k2 (by simp)
    obtain ⟨gb, hgo, ol⟩ := og.rdo (by omega)
    have et : got.take (i + 1) = got.take i ++ [got[i]] := List.take_succ_eq_append_getElem hlt
    have htl : (told (got.take i)).length ≤ 1000 := by rw [told_len]; simp; omega
    have hte := told_snoc (got.take i) got[i]
    rw [← et] at hte
    have hne := hD.ne _ (List.getElem_mem hlt)
    have l0 := ol.load1 (mvc_at0 hlt)
    have l1 := ol.load1 (mvc_at1 hlt)
    obtain ⟨⟨x, y⟩, hxy⟩ : ∃ p, got[i] = p := ⟨_, rfl⟩
    rw [hxy] at l0 l1 hte hne
    simp only at l0 l1 hte hne
    generalize told (got.take i) = tl at *
    have cf := find_run (m := m2) hF h2.rs (by omega) x
    obtain ⟨z, hz⟩ : ∃ z, fnd tl x = z := ⟨_, rfl⟩
    rw [hz] at cf hte
    simp [-Int.natCast_add, -BitVec.toNat_or, -BitVec.toNat_ofInt, -BitVec.toNat_and, len_slice u22, index_slice u22 sz27, fieldAddr_of fa27_0, load_of ld3, fieldAddr_of fa27_1, build_of bo27, buildSlice_of u22 bs27 rfl, append_s u22 sz27, hgo, hlt, hlt', em, l0, l1, hne, cf]
    generalize hra : sappend _ _ _ _ _ _ = ra
    obtain ⟨m3, nb, nf3, rfl, o3, k3, hf3, _, _⟩ := app_slz hra u22 ap27 h2 (by omega) (by simp) (by simp [one_int]) (by omega) (by omega)
    have kg : gf ∉ (if na = none then [] else [nf]) := by
      split
      · simp
      · rename_i hn
        obtain ⟨_, _, o⟩ := hg.rdo (by omega)
        have := o.flt
        have := hb hn
        simp; omega
    have l03 := (ol.keep k3 kg).load1 (mvc_at0 hlt)
    have l13 := (ol.keep k3 kg).load1 (mvc_at1 hlt)
    rw [hxy] at l03 l13
    simp only at l03 l13
    have l0n := (ol.ln [.int .i64 z, .int .i64 y] 27 (i * 2) 1).trans l0
    have l1n := (ol.ln [.int .i64 z, .int .i64 y] 27 (i * 2 + 1) 1).trans l1
    simp [-Int.natCast_add, -BitVec.toNat_or, -BitVec.toNat_ofInt, -BitVec.toNat_and, len_slice u22, index_slice u22 sz27, fieldAddr_of fa27_0, load_of ld3, fieldAddr_of fa27_1, build_of bo27, buildSlice_of u22 bs27 rfl, append_s u22 sz27, l0, l1, l03, l13, l0n, l1n, wi]
    have s3 : Sl m3 (some ⟨nb, 0, none⟩) (tl ++ [(z, y)]).length (mvc (tl ++ [(z, y)])) 27 2 nf3 := Sl.of (by simpa [mvc] using o3) (by rw [mvc_len])
    rw [← hte] at s3
    have hl3 : (told (got.take (i + 1))).length = tl.length + 1 := by rw [hte]; simp
    refine ih _ _ _ _ ⟨i + 1, _, nf3, rfl, by omega, s3, fun _ => ?_, k2.fresh k3 ?_, rfl⟩ (by omega) ⟨by rfl, by simp [lget, hgo], by rfl, by simp [lget, hl3], by rfl, trivial⟩
    · rcases hf3 with ⟨h, h'⟩ | h
      · rw [h']; exact hb h
      · have := k2.1; omega
    · intro f hf
      split at hf
      · simp at hf
      · rename_i hn
        simp at hf; rw [hf]; exact hb hn
  · have hlt' : ¬ (i : Int) < got.length := by omega
    have ei : got.take i = got := List.take_of_length_le (by omega)
    rw [ei] at h2 ⊢
    clear ih
    have htl : (told got).length ≤ 1000 := by rw [told_len]; omega
    have hto : ∀ n ∈ told got, ∃ g ∈ got, g.2 = n.2 := fun n hn => by
      have h1 : n.2 ∈ (told got).map (·.2) := List.mem_map.2 ⟨n, hn, rfl⟩
      rw [told_to] at h1
      obtain ⟨g, hg, e⟩ := List.mem_map.1 h1
      exact ⟨g, hg, e⟩
    have hrest : ∀ n ∈ told got, n.2 ≠ spare → askP want n.2 ∨ fnd (told got) n.2 = n.2 := fun n hn hs => by
      obtain ⟨g, hg, e⟩ := hto n hn
      have := hD.rest g hg (by rw [e]; exact hs)
      rwa [e] at this
    have hwant := hD.wnt
    clear hto hD
    generalize told got = tl at *
    simp [-Int.natCast_add, -BitVec.toNat_or, -BitVec.toNat_ofInt, -BitVec.toNat_and, len_slice u22, index_slice u22 sz27, fieldAddr_of fa27_0, load_of ld3, fieldAddr_of fa27_1, build_of bo27, buildSlice_of u22 bs27 rfl, append_s u22 sz27, hlt']
    refine wsem_loop 14 [17, 30, 50, 65, 69, 79, 83, 104] (fun d E m3 => ∃ i : Nat, want.length - i = d ∧ i ≤ want.length ∧ m3 = m2 ∧ E = [(0, .slice wo want.length want.length), (2, .int .i64 spare), (7, .slice na tl.length tl.length), (9, .int .i64 i)]) _ ⟨_, ⟨0, rfl, by omega, rfl, rfl⟩, ⟨by rfl, by rfl, by rfl, by rfl, trivial⟩⟩ ?_
    rintro d E m3 ih ⟨i, hd, hi, rfl, rfl⟩
    have ow := hw.keep k2 (by simp)
    by_cases hlt : i < want.length
    · have em : (i : Int) ≤ 9223372036854775807 := by omega
      have hlt' : (i : Int) < want.length := by omega
      have wi : IntKind.i64.wrap ((i : Int) + 1) = ((i + 1 : Nat) : Int) := by rw [wrap_i64 (by omega) (by omega)]; omega
      obtain ⟨wb, hwo, ol⟩ := ow.rdo (by omega)
      have l0 := ol.load1 (mvc_at0 hlt)
      have l1 := ol.load1 (mvc_at1 hlt)
      have hww := hwant _ (List.getElem_mem hlt)
      obtain ⟨⟨x, y⟩, hxy⟩ : ∃ p, want[i] = p := ⟨_, rfl⟩
      rw [hxy] at l0 l1 hww
      simp only at l0 l1 hww
      have cf := find_run (m := m3) hF h2.rs (by omega) y
      rw [hww] at cf
      simp [-Int.natCast_add, -BitVec.toNat_or, -BitVec.toNat_ofInt, -BitVec.toNat_and, len_slice u22, index_slice u22 sz27, fieldAddr_of fa27_0, load_of ld3, fieldAddr_of fa27_1, build_of bo27, buildSlice_of u22 bs27 rfl, append_s u22 sz27, hwo, hlt, hlt', em, l0, l1, cf, wi]
      exact ih _ _ _ _ ⟨i + 1, rfl, by omega, rfl, rfl⟩ (by omega) ⟨by simp [lget, hwo], by rfl, by rfl, by rfl, trivial⟩
    · have hlt' : ¬ (i : Int) < want.length := by omega
      simp [-Int.natCast_add, -BitVec.toNat_or, -BitVec.toNat_ofInt, -BitVec.toNat_and, len_slice u22, index_slice u22 sz27, fieldAddr_of fa27_0, load_of ld3, fieldAddr_of fa27_1, build_of bo27, buildSlice_of u22 bs27 rfl, append_s u22 sz27, hlt']
      clear ih hlt hlt' hi hd
      refine wsem_loop 14 [17, 30, 50, 65, 69, 79, 83, 104] (fun d E m4 => ∃ i : Nat, tl.length - i = d ∧ i ≤ tl.length ∧ m4 = m3 ∧ E = [(0, .slice wo want.length want.length), (2, .int .i64 spare), (7, .slice na tl.length tl.length), (10, .int .i64 i)]) _ ⟨_, ⟨0, rfl, by omega, rfl, rfl⟩, ⟨by rfl, by rfl, by rfl, by rfl, trivial⟩⟩ ?_
      rintro d E m4 ih ⟨i, hd, hi, rfl, rfl⟩
      by_cases hlt : i < tl.length
      · have em : (i : Int) ≤ 9223372036854775807 := by omega
        have hlt' : (i : Int) < tl.length := by omega
        have wi : IntKind.i64.wrap ((i : Int) + 1) = ((i + 1 : Nat) : Int) := by rw [wrap_i64 (by omega) (by omega)]; omega
        obtain ⟨nb, hna, on⟩ := h2.own (by omega)
        have l1 := on.load1 (mvc_at1 hlt)
        have hr := hrest _ (List.getElem_mem hlt)
        generalize tl[i].2 = y at *
        by_cases c : y = spare
        · simp [-Int.natCast_add, -BitVec.toNat_or, -BitVec.toNat_ofInt, -BitVec.toNat_and, len_slice u22, index_slice u22 sz27, fieldAddr_of fa27_0, load_of ld3, fieldAddr_of fa27_1, build_of bo27, buildSlice_of u22 bs27 rfl, append_s u22 sz27, hna, hlt, hlt', em, l1, c, wi]
          exact ih _ _ _ _ ⟨i + 1, rfl, by omega, rfl, rfl⟩ (by omega) ⟨by rfl, by rfl, by simp [lget, hna], by rfl, trivial⟩
        · have hr := hr c
          simp [-Int.natCast_add, -BitVec.toNat_or, -BitVec.toNat_ofInt, -BitVec.toNat_and, len_slice u22, index_slice u22 sz27, fieldAddr_of fa27_0, load_of ld3, fieldAddr_of fa27_1, build_of bo27, buildSlice_of u22 bs27 rfl, append_s u22 sz27, hna, hlt, hlt', em, l1, c, wi]
          refine wsem_loop 14 [17, 30, 50, 65, 69, 79, 83, 104] (fun d2 E m5 => ∃ (k : Nat) (b : Bool), want.length - k = d2 ∧ k ≤ want.length ∧ (b = true ↔ askP (want.take k) y) ∧ m5 = m4 ∧ E = [(0, .slice wo want.length want.length), (2, .int .i64 spare), (7, .slice na tl.length tl.length), (10, .int .i64 i), (11, .int .i64 y), (12, .bool b), (13, .int .i64 k)]) _ ⟨_, ⟨0, false, rfl, by omega, by simp [askP], rfl, rfl⟩, ⟨by rfl, by rfl, by simp [lget, hna], by rfl, by rfl, by rfl, by rfl, trivial⟩⟩ ?_
          rintro d2 E m5 ih2 ⟨k, b, hd2, hk, hb2, rfl, rfl⟩
          by_cases hkl : k < want.length
          · have ek : (k : Int) ≤ 9223372036854775807 := by omega
            have hkl' : (k : Int) < want.length := by omega
            have wk : IntKind.i64.wrap ((k : Int) + 1) = ((k + 1 : Nat) : Int) := by rw [wrap_i64 (by omega) (by omega)]; omega
            obtain ⟨wb, hwo, ol⟩ := ow.rdo (by omega)
            have lw := ol.load1 (mvc_at1 hkl)
            have et : want.take (k + 1) = want.take k ++ [want[k]] := List.take_succ_eq_append_getElem hkl
            have hs : ∀ b2 : Bool, (b2 = true ↔ b = true ∨ want[k].2 = y) → (b2 = true ↔ askP (want.take (k + 1)) y) := by
              intro b2 h
              rw [h, hb2, et]
              unfold askP
              simp only [List.mem_append, List.mem_singleton]
              constructor
              · rintro (⟨w, hw, e⟩ | h)
                · exact ⟨w, Or.inl hw, e⟩
                · exact ⟨_, Or.inr rfl, h⟩
              · rintro ⟨w, hw | rfl, e⟩
                · exact Or.inl ⟨w, hw, e⟩
                · exact Or.inr e
            generalize want[k].2 = z at *
            by_cases hbt : b = true
            · simp [-Int.natCast_add, -BitVec.toNat_or, -BitVec.toNat_ofInt, -BitVec.toNat_and, len_slice u22, index_slice u22 sz27, fieldAddr_of fa27_0, load_of ld3, fieldAddr_of fa27_1, build_of bo27, buildSlice_of u22 bs27 rfl, append_s u22 sz27, hwo, hkl, hkl', ek, lw, hbt, wk]
              exact ih2 _ _ _ _ ⟨k + 1, true, rfl, by omega, hs _ (by simp [hbt]), rfl, rfl⟩ (by omega) ⟨by simp [lget, hwo], by rfl, by rfl, by rfl, by rfl, by rfl, by rfl, trivial⟩
            · by_cases hz : z = y
              · simp [-Int.natCast_add, -BitVec.toNat_or, -BitVec.toNat_ofInt, -BitVec.toNat_and, len_slice u22, index_slice u22 sz27, fieldAddr_of fa27_0, load_of ld3, fieldAddr_of fa27_1, build_of bo27, buildSlice_of u22 bs27 rfl, append_s u22 sz27, hwo, hkl, hkl', ek, lw, hbt, hz, wk]
                exact ih2 _ _ _ _ ⟨k + 1, true, rfl, by omega, hs _ (by simp [hz]), rfl, rfl⟩ (by omega) ⟨by simp [lget, hwo], by rfl, by rfl, by rfl, by rfl, by rfl, by rfl, trivial⟩
              · simp [-Int.natCast_add, -BitVec.toNat_or, -BitVec.toNat_ofInt, -BitVec.toNat_and, len_slice u22, index_slice u22 sz27, fieldAddr_of fa27_0, load_of ld3, fieldAddr_of fa27_1, build_of bo27, buildSlice_of u22 bs27 rfl, append_s u22 sz27, hwo, hkl, hkl', ek, lw, hbt, hz, wk]
                exact ih2 _ _ _ _ ⟨k + 1, false, rfl, by omega, hs _ (by simp [hbt, hz]), rfl, rfl⟩ (by omega) ⟨by simp [lget, hwo], by rfl, by rfl, by rfl, by rfl, by rfl, by rfl, trivial⟩
          · have hkl' : ¬ (k : Int) < want.length := by omega
            have ek : want.take k = want := List.take_of_length_le (by omega)
            rw [ek] at hb2
            by_cases hbt : b = true
            · simp [-Int.natCast_add, -BitVec.toNat_or, -BitVec.toNat_ofInt, -BitVec.toNat_and, len_slice u22, index_slice u22 sz27, fieldAddr_of fa27_0, load_of ld3, fieldAddr_of fa27_1, build_of bo27, buildSlice_of u22 bs27 rfl, append_s u22 sz27, hkl', hbt, wi]
              exact ih _ _ _ _ ⟨i + 1, rfl, by omega, rfl, rfl⟩ (by omega) ⟨by rfl, by rfl, by rfl, by rfl, trivial⟩
            · have hfy : fnd tl y = y := hr.resolve_left (fun h => hbt (hb2.2 h))
              have cf := find_run (m := m5) hF h2.rs (by omega) y
              rw [hfy] at cf
              simp [-Int.natCast_add, -BitVec.toNat_or, -BitVec.toNat_ofInt, -BitVec.toNat_and, len_slice u22, index_slice u22 sz27, fieldAddr_of fa27_0, load_of ld3, fieldAddr_of fa27_1, build_of bo27, buildSlice_of u22 bs27 rfl, append_s u22 sz27, hkl', hbt, cf, wi]
              exact ih _ _ _ _ ⟨i + 1, rfl, by omega, rfl, rfl⟩ (by omega) ⟨by rfl, by rfl, by rfl, by rfl, trivial⟩
      · have hlt' : ¬ (i : Int) < tl.length := by omega
        simp [-Int.natCast_add, -BitVec.toNat_or, -BitVec.toNat_ofInt, -BitVec.toNat_and, len_slice u22, index_slice u22 sz27, fieldAddr_of fa27_0, load_of ld3, fieldAddr_of fa27_1, build_of bo27, buildSlice_of u22 bs27 rfl, append_s u22 sz27, hlt']
        exact k2
end Go.Proofs.Ytkeapfbemlclmaa.base

