/-
  This text proves what machine.Encode and the document's RightCode, Encode answer over the abstract run.
  Condition: of their calls nothing is known ahead but Name's at the ops ('nmL').
-/
import Derived.Test.YtkcehgajpalgnaaDoorMacB
set_option maxRecDepth 100000
set_option linter.unusedSimpArgs false
set_option linter.unusedVariables false
namespace Go.Proofs.YtkcehgajpalgnaaDoor.base
open Go.Sh gen
variable {S : Sums} {m : Mem}
set_option maxHeartbeats 4000000 in
theorem code_run (hN : Nr S) {lo : Option Addr} {ls : List In5} {lf le : Nat} (hl : Rs m lo ls.length (icv ls) le 5 lf) (hlen : ls.length ≤ 4611686018427387904) :
    ∃ v m1, callw Tryd.prog TT S 23 [.slice lo ls.length ls.length] m = some (v, m1) ∧ (∃ b : Bool, v = .bool b ∧ (b = true ↔ RightC ls)) ∧ Keeps m m1 [] := by
  refine fn_w 4 [6, 10, 20] k23 hN.code rfl ?_
  by_cases h4 : 32768 < ls.length
  · have h4' : (32768 : Int) < ls.length := by omega
    simp [-Int.natCast_add, -BitVec.toNat_or, -BitVec.toNat_ofInt, -BitVec.toNat_and, len_slice u22, index_slice u22 sz52, load_agg ld52, h4, h4']
    exact ⟨fun h => by have := h.1; omega, Keeps.refl _ _⟩
  · have h4' : ¬ (32768 : Int) < ls.length := by omega
    simp [-Int.natCast_add, -BitVec.toNat_or, -BitVec.toNat_ofInt, -BitVec.toNat_and, len_slice u22, index_slice u22 sz52, load_agg ld52, h4, h4']
    refine wsem_loop 4 [6, 10, 20] (fun d E m2 => ∃ i : Nat, ls.length - i = d ∧ i ≤ ls.length ∧ (∀ x ∈ ls.take i, RightI x ls.length) ∧ Keeps m m2 [] ∧ E = [(0, .slice lo ls.length ls.length), (3, .int .i64 i)]) _ ⟨_, ⟨0, rfl, by omega, by simp, Keeps.refl _ _, rfl⟩, ⟨by rfl, by rfl, trivial⟩⟩ ?_
    rintro d E m2 ih ⟨i, hd, hi, hall, k2, rfl⟩
    by_cases hlt : i < ls.length
    · have em : (i : Int) ≤ 9223372036854775807 := by omega
      have hlt' : (i : Int) < ls.length := by omega
      have wi : IntKind.i64.wrap ((i : Int) + 1) = ((i + 1 : Nat) : Int) := by rw [wrap_i64 (by omega) (by omega)]; omega
      obtain ⟨lb, rfl, ol⟩ := (hl.keep k2 (by simp)).rdo (by omega)
      have et : ls.take (i + 1) = ls.take i ++ [ls[i]] := List.take_succ_eq_append_getElem hlt
      have hmem : ls[i] ∈ ls := List.getElem_mem _
      have ld : loadRow m2 ⟨lb, i * 5, none⟩ 5 = some (icl ls[i]) := by rw [ol.load 5 (by rw [icv_len]; omega), icv_win hlt]
      generalize ls[i] = x at *
      obtain ⟨_, m5, c5, ⟨b, rfl, hb⟩, k5⟩ := ins_run (m := m2) hN x (size := ls.length) hlen
      have kk := k2.trans k5
      cases b with
      | false =>
        simp [-Int.natCast_add, -BitVec.toNat_or, -BitVec.toNat_ofInt, -BitVec.toNat_and, len_slice u22, index_slice u22 sz52, load_agg ld52, hlt, hlt', em, ld, c5]
        exact ⟨fun h => by have := hb.2 (h.2 x hmem); simp at this, kk⟩
      | true =>
        simp [-Int.natCast_add, -BitVec.toNat_or, -BitVec.toNat_ofInt, -BitVec.toNat_and, len_slice u22, index_slice u22 sz52, load_agg ld52, hlt, hlt', em, ld, c5, wi]
        refine ih _ _ _ _ ⟨i + 1, rfl, by omega, ?_, kk, rfl⟩ (by omega) ⟨by rfl, by rfl, trivial⟩
        rw [et]
        intro y hy
        rcases List.mem_append.1 hy with hy | hy
        · exact hall y hy
        · simp at hy; subst hy; exact hb.1 rfl
    · have hlt' : ¬ (i : Int) < ls.length := by omega
      have ei : ls.take i = ls := List.take_of_length_le (by omega)
      rw [ei] at hall
      simp [-Int.natCast_add, -BitVec.toNat_or, -BitVec.toNat_ofInt, -BitVec.toNat_and, len_slice u22, index_slice u22 sz52, load_agg ld52, hlt']
      exact ⟨⟨by omega, hall⟩, k2⟩
/-- bytes' cells -/
abbrev bc (l : List UInt8) : List Value := l.map fun b => Value.int .u8 b.toNat
/-- what Encode answers -/
def Encd (m m1 : Mem) (ls : List In5) (v : Value) : Prop :=
  (¬ RightC ls ∧ v = .tuple #[.slice none 0 0, .int .i64 1]) ∨
  (RightC ls ∧ ∃ oa fo, v = .tuple #[.slice oa (encP ls).length (encP ls).length, .int .i64 0] ∧ Sl m1 oa (encP ls).length (bc (encP ls)) 5 1 fo ∧ (oa ≠ none → m.next ≤ fo))
theorem nb_eq (n : Int) {k : Nat} (hk : k < 8) : IntKind.u8.wrap ((IntKind.u64.wrap n).fdiv (2 ^ min (8 * (k : Int)).toNat IntKind.u64.bits)) = ((nb n k).toNat : Int) := by
  have e1 : (8 * (k : Int)).toNat = 8 * k := by omega
  have e2 : IntKind.u64.bits = 64 := rfl
  rw [e1, e2, Nat.min_eq_left (by omega), u8_wrap, u64_mod, Int.fdiv_eq_ediv_of_nonneg _ (Int.pow_nonneg (by omega))]
  rfl
theorem encP_snoc (l : List In5) (x : In5) : encP (l ++ [x]) = encP l ++ encI x := by simp [encP]
set_option maxHeartbeats 8000000 in
theorem enc_run (hN : Nr S) (hE : S 17 = []) {lo : Option Addr} {ls : List In5} {lf le : Nat} (hl : Rs m lo ls.length (icv ls) le 5 lf) (hlen : ls.length ≤ 4611686018427387904) :
    ∃ v m1, callw Tryd.prog TT S 17 [.slice lo ls.length ls.length] m = some (v, m1) ∧ Encd m m1 ls v ∧ Keeps m m1 [] := by
  obtain ⟨_, m1, c1, ⟨b, rfl, hb⟩, k1⟩ := Right_run (m := m) hN hl hlen
  refine fn_w 14 [14, 34] k17 hE rfl ?_
  cases b with
  | false =>
    simp [-Int.natCast_add, -BitVec.toNat_or, -BitVec.toNat_ofInt, -BitVec.toNat_and, len_slice u22, index_slice u22 sz52, load_agg ld52, alloc_of zo52, store_of sz52, fieldAddr_of fa52_0, load_of ld3, conv_i u3 u5, fieldAddr_of fa52_1, fieldAddr_of fa52_2, fieldAddr_of fa52_3, buildSlice_of u48 bs5 rfl, append_s u48 sz5, fieldAddr_of fa52_4, load_of ld2, conv_i u2 u33, conv_i u33 u5, c1]
    exact ⟨Or.inl ⟨fun h => by simpa using hb.2 h, rfl⟩, k1⟩
  | true =>
    have hR := hb.1 rfl
    have hl4 := hR.1
    simp [-Int.natCast_add, -BitVec.toNat_or, -BitVec.toNat_ofInt, -BitVec.toNat_and, len_slice u22, index_slice u22 sz52, load_agg ld52, alloc_of zo52, store_of sz52, fieldAddr_of fa52_0, load_of ld3, conv_i u3 u5, fieldAddr_of fa52_1, fieldAddr_of fa52_2, fieldAddr_of fa52_3, buildSlice_of u48 bs5 rfl, append_s u48 sz5, fieldAddr_of fa52_4, load_of ld2, conv_i u2 u33, conv_i u33 u5, c1]
    refine wsem_loop 14 [14, 34] (fun d E m2 => ∃ (i : Nat) (oa : Option Addr) (fo : Nat), ls.length - i = d ∧ i ≤ ls.length ∧ Sl m2 oa (encP (ls.take i)).length (bc (encP (ls.take i))) 5 1 fo ∧ (oa ≠ none → m.next ≤ fo) ∧ Keeps m m2 [] ∧ E = [(4, .slice oa (encP (ls.take i)).length (encP (ls.take i)).length), (11, .slice lo ls.length ls.length), (12, .int .i64 ls.length), (13, .int .i64 i)]) _ ⟨_, ⟨0, none, 0, rfl, by omega, Sl.nil _ _ _ _, by simp, k1, rfl⟩, ⟨by rfl, by rfl, by rfl, by rfl, trivial⟩⟩ ?_
    rintro d E m2 ih ⟨i, oa, fo, hd, hi, h2, hb2, k2, rfl⟩
    by_cases hlt : i < ls.length
    · have em : (i : Int) ≤ 9223372036854775807 := by omega
      have hlt' : (i : Int) < ls.length := by omega
      have wi : IntKind.i64.wrap ((i : Int) + 1) = ((i + 1 : Nat) : Int) := by rw [wrap_i64 (by omega) (by omega)]; omega
      obtain ⟨lb, rfl, ol⟩ := (hl.keep k2 (by simp)).rdo (by omega)
      have et : encP (ls.take (i + 1)) = encP (ls.take i) ++ encI ls[i] := by rw [List.take_succ_eq_append_getElem hlt, encP_snoc]
      have hsz : (encP (ls.take i)).length ≤ 360448 := by rw [encP_len]; simp; omega
      have hri := hR.2 _ (List.getElem_mem hlt)
      have ld : loadRow m2 ⟨lb, i * 5, none⟩ 5 = some (icl ls[i]) := by rw [ol.load 5 (by rw [icv_len]; omega), icv_win hlt]
      generalize ls[i] = x at *
      generalize encP (ls.take i) = el at *
      obtain ⟨o3, k3, n3⟩ := new_own (m := m2) (cs := [.int .i64 0, .int .i64 0, .int .i64 0, .int .i64 0, .int .i64 0]) (e := 52) rfl
      obtain ⟨m4, e4, o4, k4⟩ := store_own (r := _) rfl o3 (off := 0) (vs := icl x) (by simp) (by simp [one_int])
      simp [over] at o4
      have k24 := k3.fresh k4 (by simp)
      have h4 := h2.keepz k24 (by simp)
      have q0 := o4.load1 (off := 0) rfl
      have q1 := o4.load1 (off := 1) rfl
      have q2 := o4.load1 (off := 2) rfl
      have q3 := o4.load1 (off := 3) rfl
      have q4 := o4.load1 (off := 4) rfl
      obtain ⟨⟨a1, a2, _⟩, ⟨b1, b2, _⟩, ⟨c1', c2, _⟩⟩ := hri.2.2.2
      have w1 : IntKind.i64.wrap (16 * x.2.1) = 16 * x.2.1 := wrap_i64 (by omega) (by omega)
      have w2 : IntKind.i64.wrap (16 * x.2.1 + x.2.2.1) = 16 * x.2.1 + x.2.2.1 := wrap_i64 (by omega) (by omega)
      simp [-Int.natCast_add, -BitVec.toNat_or, -BitVec.toNat_ofInt, -BitVec.toNat_and, len_slice u22, index_slice u22 sz52, load_agg ld52, alloc_of zo52, store_of sz52, fieldAddr_of fa52_0, load_of ld3, conv_i u3 u5, fieldAddr_of fa52_1, fieldAddr_of fa52_2, fieldAddr_of fa52_3, buildSlice_of u48 bs5 rfl, append_s u48 sz5, fieldAddr_of fa52_4, load_of ld2, conv_i u2 u33, conv_i u33 u5, hlt, hlt', em, ld, e4, q0, q1, q2, q3, w1, w2, u8_wrap]
      generalize hra : sappend _ _ _ _ _ _ = ra
      obtain ⟨m5, nb5, f5, rfl, o5, k5, hf5, hfl5, _⟩ := app_slz hra u48 ap5 h4 (by omega) (by simp) (by simp [one_int]) (by omega) (by omega)
      simp [-Int.natCast_add, -BitVec.toNat_or, -BitVec.toNat_ofInt, -BitVec.toNat_and, len_slice u22, index_slice u22 sz52, load_agg ld52, alloc_of zo52, store_of sz52, fieldAddr_of fa52_0, load_of ld3, conv_i u3 u5, fieldAddr_of fa52_1, fieldAddr_of fa52_2, fieldAddr_of fa52_3, buildSlice_of u48 bs5 rfl, append_s u48 sz5, fieldAddr_of fa52_4, load_of ld2, conv_i u2 u33, conv_i u33 u5]
      have m24 : m2.next < m4.next := Nat.lt_of_lt_of_le n3 k4.1
      have hfo : oa ≠ none → fo < m2.next := fun hn => h2.sr.flt hn
      have kfx : m2.next ∉ (if oa = none then [] else [fo]) := by
        split
        · simp
        · rename_i hn
          have := hfo hn
          simp; omega
      have o4x := o4.keep k5 kfx
      have hf5n : f5 ≠ m2.next := by
        rcases hf5 with ⟨h, h'⟩ | h
        · have := hfo h; omega
        · omega
      have hf5b : m.next ≤ f5 := by
        rcases hf5 with ⟨h, h'⟩ | h
        · rw [h']; exact hb2 h
        · have := k2.1; have := k24.1; omega
      have kk5 : Keeps m m5 [] := (k2.trans k24).fresh k5 (by
        intro f hf
        split at hf
        · simp at hf
        · rename_i hn
          simp at hf; rw [hf]; exact hb2 hn)
      obtain ⟨hd3, hhd⟩ : ∃ hd3, el ++ [u8 x.1, u8 (16 * x.2.1 + x.2.2.1), u8 x.2.2.2.1] = hd3 := ⟨_, rfl⟩
      have hhl : hd3.length = el.length + 3 := by rw [← hhd]; simp
      have o5b : Own m5 nb5 (bc hd3) 5 f5 := by rw [← hhd]; simpa [bc] using o5
      have hend : hd3 ++ (List.range 8).map (nb x.2.2.2.2) = encP (ls.take (i + 1)) := by rw [et, ← hhd, encI, List.append_assoc]
      refine wsem_loop 14 [14, 34] (fun d2 E m6 => ∃ (k : Nat) (na : Option Addr) (nf : Nat), 8 - k = d2 ∧ k ≤ 8 ∧ Sl m6 na (hd3 ++ (List.range k).map (nb x.2.2.2.2)).length (bc (hd3 ++ (List.range k).map (nb x.2.2.2.2))) 5 1 nf ∧ m.next ≤ nf ∧ nf ≠ m2.next ∧ Own m6 m2.next (icl x) 52 m2.next ∧ Keeps m m6 [] ∧ E = [(4, .slice na (hd3.length + k) (hd3.length + k)), (6, .pointer (some ⟨m2.next, 0, none⟩)), (7, .int .i64 k), (11, .slice (some ⟨lb, 0, none⟩) ls.length ls.length), (12, .int .i64 ls.length), (13, .int .i64 i)]) _ ⟨_, ⟨0, some ⟨nb5, 0, none⟩, f5, rfl, by omega, Sl.of (by simpa using o5b) (by simp), hf5b, hf5n, o4x, kk5, rfl⟩, ⟨by simp [lget, hhl], by rfl, by rfl, by rfl, by rfl, by rfl, trivial⟩⟩ ?_
      clear o4x kk5 o5b o5
      rintro d2 E m6 ih2 ⟨k, na, nf, hd2, hk, h6, hb6, hn6, o6, k6, rfl⟩
      by_cases hkl : k < 8
      · have hkl' : (k : Int) < 8 := by omega
        have wk : IntKind.i64.wrap ((k : Int) + 1) = ((k + 1 : Nat) : Int) := by rw [wrap_i64 (by omega) (by omega)]; omega
        have w8 : IntKind.i64.wrap (8 * (k : Int)) = 8 * (k : Int) := wrap_i64 (by omega) (by omega)
        have q4 := o6.load1 (off := 4) rfl
        have c8 : ¬ 8 * (k : Int) < 0 := by omega
        simp [-Int.natCast_add, -BitVec.toNat_or, -BitVec.toNat_ofInt, -BitVec.toNat_and, len_slice u22, index_slice u22 sz52, load_agg ld52, alloc_of zo52, store_of sz52, fieldAddr_of fa52_0, load_of ld3, conv_i u3 u5, fieldAddr_of fa52_1, fieldAddr_of fa52_2, fieldAddr_of fa52_3, buildSlice_of u48 bs5 rfl, append_s u48 sz5, fieldAddr_of fa52_4, load_of ld2, conv_i u2 u33, conv_i u33 u5, hkl, hkl', q4, w8, c8, nb_eq _ hkl]
        generalize hrb : sappend _ _ _ _ _ _ = rb
        have hln : (hd3 ++ (List.range k).map (nb x.2.2.2.2)).length = hd3.length + k := by simp
        have h6' : Sl m6 na (hd3.length + k) (bc (hd3 ++ (List.range k).map (nb x.2.2.2.2))) 5 1 nf := hln ▸ h6
        obtain ⟨m7, nb7, f7, rfl, o7, k7, hf7, _, _⟩ := app_slz hrb u48 ap5 h6' (by omega) (by simp) (by simp [one_int]) (by omega) (by omega)
        simp [-Int.natCast_add, -BitVec.toNat_or, -BitVec.toNat_ofInt, -BitVec.toNat_and, len_slice u22, index_slice u22 sz52, load_agg ld52, alloc_of zo52, store_of sz52, fieldAddr_of fa52_0, load_of ld3, conv_i u3 u5, fieldAddr_of fa52_1, fieldAddr_of fa52_2, fieldAddr_of fa52_3, buildSlice_of u48 bs5 rfl, append_s u48 sz5, fieldAddr_of fa52_4, load_of ld2, conv_i u2 u33, conv_i u33 u5, wk]
        have hb7 : m.next ≤ f7 ∧ f7 ≠ m2.next := by
          rcases hf7 with ⟨h, h'⟩ | h
          · rw [h']; exact ⟨hb6, hn6⟩
          · have := k6.1; have := o6.flt; omega
        have kf7 : m2.next ∉ (if na = none then [] else [nf]) := by
          split
          · simp
          · simpa using hn6.symm
        have o7' := o6.keep k7 kf7
        have s7 : Sl m7 (some ⟨nb7, 0, none⟩) (hd3 ++ (List.range (k + 1)).map (nb x.2.2.2.2)).length (bc (hd3 ++ (List.range (k + 1)).map (nb x.2.2.2.2))) 5 1 f7 := by
          refine Sl.of ?_ (by simp [bc])
          rw [List.range_succ]
          simpa [bc] using o7
        refine ih2 _ _ _ _ ⟨k + 1, _, f7, rfl, by omega, s7, hb7.1, hb7.2, o7', k6.fresh k7 ?_, rfl⟩ (by omega) ⟨by simp [lget, Nat.add_assoc], by rfl, by rfl, by rfl, by rfl, by rfl, trivial⟩
        intro f hf
        split at hf
        · simp at hf
        · simp at hf; rw [hf]; exact hb6
      · have hkl' : ¬ (k : Int) < 8 := by omega
        have ek : k = 8 := by omega
        subst ek
        rw [hend] at h6
        simp [-Int.natCast_add, -BitVec.toNat_or, -BitVec.toNat_ofInt, -BitVec.toNat_and, len_slice u22, index_slice u22 sz52, load_agg ld52, alloc_of zo52, store_of sz52, fieldAddr_of fa52_0, load_of ld3, conv_i u3 u5, fieldAddr_of fa52_1, fieldAddr_of fa52_2, fieldAddr_of fa52_3, buildSlice_of u48 bs5 rfl, append_s u48 sz5, fieldAddr_of fa52_4, load_of ld2, conv_i u2 u33, conv_i u33 u5, wi]
        have hln : (encP (ls.take (i + 1))).length = hd3.length + 8 := by rw [← hend]; simp
        exact ih _ _ _ _ ⟨i + 1, na, nf, rfl, by omega, h6, fun _ => hb6, k6, rfl⟩ (by omega) ⟨by simp [lget, hln], by rfl, by rfl, by rfl, trivial⟩
    · have hlt' : ¬ (i : Int) < ls.length := by omega
      have ei : ls.take i = ls := List.take_of_length_le (by omega)
      rw [ei] at h2 ⊢
      simp [-Int.natCast_add, -BitVec.toNat_or, -BitVec.toNat_ofInt, -BitVec.toNat_and, len_slice u22, index_slice u22 sz52, load_agg ld52, alloc_of zo52, store_of sz52, fieldAddr_of fa52_0, load_of ld3, conv_i u3 u5, fieldAddr_of fa52_1, fieldAddr_of fa52_2, fieldAddr_of fa52_3, buildSlice_of u48 bs5 rfl, append_s u48 sz5, fieldAddr_of fa52_4, load_of ld2, conv_i u2 u33, conv_i u33 u5, hlt']
      exact ⟨Or.inr ⟨hR, oa, fo, rfl, h2, hb2⟩, k2⟩
end Go.Proofs.YtkcehgajpalgnaaDoor.base

