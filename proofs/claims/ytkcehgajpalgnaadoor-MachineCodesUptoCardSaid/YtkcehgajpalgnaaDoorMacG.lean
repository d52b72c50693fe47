/-
  This text proves what the document's Encode and Decode answer over the abstract run.
  Condition: of their calls nothing is known ahead but Name's at the ops ('nmL').
-/
import Derived.Test.YtkcehgajpalgnaaDoorMacF
set_option maxRecDepth 100000
set_option linter.unusedSimpArgs false
set_option linter.unusedVariables false
namespace Go.Proofs.YtkcehgajpalgnaaDoor.base
open Go.Sh gen
variable {S : Sums} {m : Mem}
set_option maxHeartbeats 8000000 in
theorem renc_run (hN : Nr S) (hE : S 21 = []) {lo : Option Addr} {ls : List In5} {lf le : Nat} (hl : Rs m lo ls.length (icv ls) le 5 lf) (hlen : ls.length ≤ 4611686018427387904) :
    ∃ v m1, callw Tryd.prog TT S 21 [.slice lo ls.length ls.length] m = some (v, m1) ∧ Encd m m1 ls v ∧ Keeps m m1 [] := by
  obtain ⟨_, m1, c1, ⟨b, rfl, hb⟩, k1⟩ := code_run (m := m) hN hl hlen
  refine fn_w 8 [10, 14, 52] k21 hE rfl ?_
  cases b with
  | false =>
    simp [-Int.natCast_add, -BitVec.toNat_or, -BitVec.toNat_ofInt, -BitVec.toNat_and, len_slice u22, index_slice u22 sz52, fieldAddr_of fa52_0, load_of ld3, conv_i u3 u5, fieldAddr_of fa52_1, fieldAddr_of fa52_2, fieldAddr_of fa52_3, buildSlice_of u48 bs5 rfl, append_s u48 sz5, fieldAddr_of fa52_4, load_of ld2, conv_i u2 u33, conv_i u3 u65, conv_i u33 u5, c1]
    exact ⟨Or.inl ⟨fun h => by simpa using hb.2 h, rfl⟩, k1⟩
  | true =>
    have hR := hb.1 rfl
    have hl4 := hR.1
    simp [-Int.natCast_add, -BitVec.toNat_or, -BitVec.toNat_ofInt, -BitVec.toNat_and, len_slice u22, index_slice u22 sz52, fieldAddr_of fa52_0, load_of ld3, conv_i u3 u5, fieldAddr_of fa52_1, fieldAddr_of fa52_2, fieldAddr_of fa52_3, buildSlice_of u48 bs5 rfl, append_s u48 sz5, fieldAddr_of fa52_4, load_of ld2, conv_i u2 u33, conv_i u3 u65, conv_i u33 u5, c1]
    refine wsem_loop 8 [10, 14, 52] (fun d E m2 => ∃ (i : Nat) (oa : Option Addr) (fo : Nat), ls.length - i = d ∧ i ≤ ls.length ∧ Sl m2 oa (encP (ls.take i)).length (bc (encP (ls.take i))) 5 1 fo ∧ (oa ≠ none → m.next ≤ fo) ∧ Keeps m m2 [] ∧ E = [(0, .slice lo ls.length ls.length), (4, .slice oa (encP (ls.take i)).length (encP (ls.take i)).length), (5, .int .i64 i)]) _ ⟨_, ⟨0, none, 0, rfl, by omega, Sl.nil _ _ _ _, by simp, k1, rfl⟩, ⟨by rfl, by rfl, by rfl, trivial⟩⟩ ?_
    rintro d E m2 ih ⟨i, oa, fo, hd, hi, h2, hb2, k2, rfl⟩
    by_cases hlt : i < ls.length
    · have em : (i : Int) ≤ 9223372036854775807 := by omega
      have hlt' : (i : Int) < ls.length := by omega
      have wi : IntKind.i64.wrap ((i : Int) + 1) = ((i + 1 : Nat) : Int) := by rw [wrap_i64 (by omega) (by omega)]; omega
      obtain ⟨lb, rfl, ol⟩ := (hl.keep k2 (by simp)).rdo (by omega)
      have et : encP (ls.take (i + 1)) = encP (ls.take i) ++ encI ls[i] := by rw [List.take_succ_eq_append_getElem hlt, encP_snoc]
      have hsz : (encP (ls.take i)).length ≤ 360448 := by rw [encP_len]; simp; omega
      have hri := hR.2 _ (List.getElem_mem hlt)
      have hw5 : window (icv ls) (i * 5) 5 = icl ls[i] := icv_win hlt
      have hat : ∀ j, j < 5 → (icv ls)[i * 5 + j]? = (icl ls[i])[j]? := fun j hj => by
        rw [← hw5]
        simp [window, List.getElem?_take, List.getElem?_drop, hj]
      have q0 := fun (m' : Mem) (o : Rdo m' lb (icv ls) le lf) => o.load1 (hat 0 (by omega))
      have q1 := fun (m' : Mem) (o : Rdo m' lb (icv ls) le lf) => o.load1 (hat 1 (by omega))
      have q2 := fun (m' : Mem) (o : Rdo m' lb (icv ls) le lf) => o.load1 (hat 2 (by omega))
      have q3 := fun (m' : Mem) (o : Rdo m' lb (icv ls) le lf) => o.load1 (hat 3 (by omega))
      have q4 := fun (m' : Mem) (o : Rdo m' lb (icv ls) le lf) => o.load1 (hat 4 (by omega))
      rw [Nat.add_zero] at q0
      clear hat hw5
      generalize ls[i] = x at *
      generalize encP (ls.take i) = el at *
      obtain ⟨⟨a1, a2, _⟩, ⟨b1, b2, _⟩, ⟨c1', c2, _⟩⟩ := hri.2.2.2
      have w1 : IntKind.i64.wrap (16 * x.2.1) = 16 * x.2.1 := wrap_i64 (by omega) (by omega)
      have w2 : IntKind.i64.wrap (16 * x.2.1 + x.2.2.1) = 16 * x.2.1 + x.2.2.1 := wrap_i64 (by omega) (by omega)
      have a0 := q0 m2 ol
      have a1' := q1 m2 ol
      have a2' := q2 m2 ol
      have a3 := q3 m2 ol
      simp [-Int.natCast_add, -BitVec.toNat_or, -BitVec.toNat_ofInt, -BitVec.toNat_and, len_slice u22, index_slice u22 sz52, fieldAddr_of fa52_0, load_of ld3, conv_i u3 u5, fieldAddr_of fa52_1, fieldAddr_of fa52_2, fieldAddr_of fa52_3, buildSlice_of u48 bs5 rfl, append_s u48 sz5, fieldAddr_of fa52_4, load_of ld2, conv_i u2 u33, conv_i u3 u65, conv_i u33 u5, hlt, hlt', em, a0, a1', a2', a3, w1, w2, u8_wrap]
      generalize hra : sappend _ _ _ _ _ _ = ra
      obtain ⟨m5, nb5, f5, rfl, o5, k5, hf5, hfl5, _⟩ := app_slz hra u48 ap5 h2 (by omega) (by simp) (by simp [one_int]) (by omega) (by omega)
      have hlf : lf < m.next := by
        obtain ⟨_, _, o⟩ := hl.rdo (by omega)
        exact o.flt
      have ol5 := ol.keep k5 (by
        split
        · simp
        · rename_i hn
          have := hb2 hn
          simp; omega)
      have oln := ol.keep (keeps_new m2 [.int .u8 (u8 x.1).toNat, .int .u8 (u8 (16 * x.2.1 + x.2.2.1)).toNat, .int .u8 (u8 x.2.2.2.1).toNat] 5 []) (by simp)
      have b0 := q0 _ oln
      have b1' := q1 _ oln
      have b2' := q2 _ oln
      have b3 := q3 _ oln
      have d0 := q0 m5 ol5
      have d1' := q1 m5 ol5
      have d2' := q2 m5 ol5
      have d3 := q3 m5 ol5
      have d4 := q4 m5 ol5
      simp [-Int.natCast_add, -BitVec.toNat_or, -BitVec.toNat_ofInt, -BitVec.toNat_and, len_slice u22, index_slice u22 sz52, fieldAddr_of fa52_0, load_of ld3, conv_i u3 u5, fieldAddr_of fa52_1, fieldAddr_of fa52_2, fieldAddr_of fa52_3, buildSlice_of u48 bs5 rfl, append_s u48 sz5, fieldAddr_of fa52_4, load_of ld2, conv_i u2 u33, conv_i u3 u65, conv_i u33 u5, hlt, hlt', em, a0, a1', a2', a3, b0, b1', b2', b3, d0, d1', d2', d3, d4, w1, w2, u8_wrap]
      have hf5b : m.next ≤ f5 := by
        rcases hf5 with ⟨h, h'⟩ | h
        · rw [h']; exact hb2 h
        · have := k2.1; omega
      have kk5 : Keeps m m5 [] := k2.fresh k5 (by
        intro f hf
        split at hf
        · simp at hf
        · rename_i hn
          simp at hf; rw [hf]; exact hb2 hn)
      obtain ⟨hd3, hhd⟩ : ∃ hd3, el ++ [u8 x.1, u8 (16 * x.2.1 + x.2.2.1), u8 x.2.2.2.1] = hd3 := ⟨_, rfl⟩
      have hhl : hd3.length = el.length + 3 := by rw [← hhd]; simp
      have o5b : Own m5 nb5 (bc hd3) 5 f5 := by rw [← hhd]; simpa [bc] using o5
      have hend : hd3 ++ (List.range 8).map (nb x.2.2.2.2) = encP (ls.take (i + 1)) := by rw [et, ← hhd, encI, List.append_assoc]
      refine wsem_loop 8 [10, 14, 52] (fun d2 E m6 => ∃ (k : Nat) (na : Option Addr) (nf : Nat), 8 - k = d2 ∧ k ≤ 8 ∧ Sl m6 na (hd3 ++ (List.range k).map (nb x.2.2.2.2)).length (bc (hd3 ++ (List.range k).map (nb x.2.2.2.2))) 5 1 nf ∧ m.next ≤ nf ∧ Keeps m m6 [] ∧ E = [(0, .slice (some ⟨lb, 0, none⟩) ls.length ls.length), (4, .slice na (hd3.length + k) (hd3.length + k)), (5, .int .i64 i), (6, .int .u64 (IntKind.u64.wrap x.2.2.2.2)), (7, .int .i64 k)]) _ ⟨_, ⟨0, some ⟨nb5, 0, none⟩, f5, rfl, by omega, Sl.of (by simpa using o5b) (by simp), hf5b, kk5, rfl⟩, ⟨by rfl, by simp [lget, hhl], by rfl, by rfl, by rfl, trivial⟩⟩ ?_
      clear kk5 o5b o5
      rintro d2 E m6 ih2 ⟨k, na, nf, hd2, hk, h6, hb6, k6, rfl⟩
      by_cases hkl : k < 8
      · have hkl' : (k : Int) < 8 := by omega
        have wk : IntKind.i64.wrap ((k : Int) + 1) = ((k + 1 : Nat) : Int) := by rw [wrap_i64 (by omega) (by omega)]; omega
        have w8 : IntKind.i64.wrap (8 * (k : Int)) = 8 * (k : Int) := wrap_i64 (by omega) (by omega)
        have w8u : IntKind.u64.wrap (8 * (k : Int)) = 8 * (k : Int) := wrap_u64 (by omega) (by omega)
        have c8 : ¬ 8 * (k : Int) < 0 := by omega
        simp [-Int.natCast_add, -BitVec.toNat_or, -BitVec.toNat_ofInt, -BitVec.toNat_and, len_slice u22, index_slice u22 sz52, fieldAddr_of fa52_0, load_of ld3, conv_i u3 u5, fieldAddr_of fa52_1, fieldAddr_of fa52_2, fieldAddr_of fa52_3, buildSlice_of u48 bs5 rfl, append_s u48 sz5, fieldAddr_of fa52_4, load_of ld2, conv_i u2 u33, conv_i u3 u65, conv_i u33 u5, hkl, hkl', w8, w8u, c8, nb_eq _ hkl]
        generalize hrb : sappend _ _ _ _ _ _ = rb
        have hln : (hd3 ++ (List.range k).map (nb x.2.2.2.2)).length = hd3.length + k := by simp
        have h6' : Sl m6 na (hd3.length + k) (bc (hd3 ++ (List.range k).map (nb x.2.2.2.2))) 5 1 nf := hln ▸ h6
        obtain ⟨m7, nb7, f7, rfl, o7, k7, hf7, _, _⟩ := app_slz hrb u48 ap5 h6' (by omega) (by simp) (by simp [one_int]) (by omega) (by omega)
        simp [-Int.natCast_add, -BitVec.toNat_or, -BitVec.toNat_ofInt, -BitVec.toNat_and, len_slice u22, index_slice u22 sz52, fieldAddr_of fa52_0, load_of ld3, conv_i u3 u5, fieldAddr_of fa52_1, fieldAddr_of fa52_2, fieldAddr_of fa52_3, buildSlice_of u48 bs5 rfl, append_s u48 sz5, fieldAddr_of fa52_4, load_of ld2, conv_i u2 u33, conv_i u3 u65, conv_i u33 u5, wk]
        have hb7 : m.next ≤ f7 := by
          rcases hf7 with ⟨h, h'⟩ | h
          · rw [h']; exact hb6
          · have := k6.1; omega
        have s7 : Sl m7 (some ⟨nb7, 0, none⟩) (hd3 ++ (List.range (k + 1)).map (nb x.2.2.2.2)).length (bc (hd3 ++ (List.range (k + 1)).map (nb x.2.2.2.2))) 5 1 f7 := by
          refine Sl.of ?_ (by simp [bc])
          rw [List.range_succ]
          simpa [bc] using o7
        refine ih2 _ _ _ _ ⟨k + 1, _, f7, rfl, by omega, s7, hb7, k6.fresh k7 ?_, rfl⟩ (by omega) ⟨by rfl, by simp [lget, Nat.add_assoc], by rfl, by rfl, by rfl, trivial⟩
        intro f hf
        split at hf
        · simp at hf
        · simp at hf; rw [hf]; exact hb6
      · have hkl' : ¬ (k : Int) < 8 := by omega
        have ek : k = 8 := by omega
        subst ek
        rw [hend] at h6
        simp [-Int.natCast_add, -BitVec.toNat_or, -BitVec.toNat_ofInt, -BitVec.toNat_and, len_slice u22, index_slice u22 sz52, fieldAddr_of fa52_0, load_of ld3, conv_i u3 u5, fieldAddr_of fa52_1, fieldAddr_of fa52_2, fieldAddr_of fa52_3, buildSlice_of u48 bs5 rfl, append_s u48 sz5, fieldAddr_of fa52_4, load_of ld2, conv_i u2 u33, conv_i u3 u65, conv_i u33 u5, wi]
        have hln : (encP (ls.take (i + 1))).length = hd3.length + 8 := by rw [← hend]; simp
        exact ih _ _ _ _ ⟨i + 1, na, nf, rfl, by omega, h6, fun _ => hb6, k6, rfl⟩ (by omega) ⟨by rfl, by simp [lget, hln], by rfl, trivial⟩
    · have hlt' : ¬ (i : Int) < ls.length := by omega
      have ei : ls.take i = ls := List.take_of_length_le (by omega)
      rw [ei] at h2 ⊢
      simp [-Int.natCast_add, -BitVec.toNat_or, -BitVec.toNat_ofInt, -BitVec.toNat_and, len_slice u22, index_slice u22 sz52, fieldAddr_of fa52_0, load_of ld3, conv_i u3 u5, fieldAddr_of fa52_1, fieldAddr_of fa52_2, fieldAddr_of fa52_3, buildSlice_of u48 bs5 rfl, append_s u48 sz5, fieldAddr_of fa52_4, load_of ld2, conv_i u2 u33, conv_i u3 u65, conv_i u33 u5, hlt']
      exact ⟨Or.inr ⟨hR, oa, fo, rfl, h2, hb2⟩, k2⟩
theorem valB_drop {l : List UInt8} {k : Nat} (h : k < l.length) : valB (l.drop k) = at8 l k + 256 * valB (l.drop (k + 1)) := by
  rw [List.drop_eq_getElem_cons h]
  simp [valB, at8, List.getD_eq_getElem?_getD, h]
/-- a slice of bytes, its block may hold more -/
def Rr (m : Mem) (lo : Option Addr) (l : List UInt8) (fam : Nat) : Prop := l.length ≠ 0 → ∃ b rest, lo = some ⟨b, 0, none⟩ ∧ Rdo m b (bc l ++ rest) 5 fam
theorem bc_at2 {l : List UInt8} {j : Nat} (rest : List Value) (h : j < l.length) : (bc l ++ rest)[j]? = some (.int .u8 (at8 l j : Nat)) := by
  rw [List.getElem?_append_left (by simpa [bc] using h)]
  exact bc_at h
theorem Rr.of {lo : Option Addr} {l : List UInt8} {fam : Nat} (h : Rs m lo l.length (bc l) 5 1 fam) : Rr m lo l fam := fun hn => by
  obtain ⟨b, rfl, ho⟩ := h.rdo hn
  exact ⟨b, [], rfl, by simpa using ho⟩
theorem Rr.keep {lo : Option Addr} {l : List UInt8} {fam : Nat} {m' : Mem} {fs : List Nat} (h : Rr m lo l fam) (k : Keeps m m' fs) (hf : fam ∉ fs) : Rr m' lo l fam := fun hn => by
  obtain ⟨b, rest, rfl, ho⟩ := h hn
  exact ⟨b, rest, rfl, ho.keep k hf⟩
set_option maxHeartbeats 8000000 in
theorem rdec_run (hN : Nr S) (hD : S 22 = []) {lo : Option Addr} {l : List UInt8} {lf : Nat} (hl : Rr m lo l lf) (hlen : l.length ≤ 1048576) :
    ∃ v m1, callw Tryd.prog TT S 22 [.slice lo l.length l.length] m = some (v, m1) ∧ Decd m m1 l v ∧ Keeps m m1 [] := by
  refine fn_w 9 [12, 16, 46, 70, 77] k22 hD rfl ?_
  have tm : (l.length : Int).tmod 11 = ((l.length % 11 : Nat) : Int) := by rw [Int.tmod_eq_emod_of_nonneg (by omega)]; omega
  by_cases h11 : l.length % 11 = 0
  · have h11' : ((l.length % 11 : Nat) : Int) = 0 := by omega
    obtain ⟨K, hK⟩ : ∃ K, l.length = 11 * K := ⟨l.length / 11, by omega⟩
    have hK2 : l.length / 11 = K := by omega
    have hdp : decP l = if opsOk l K then (if RightC (decL l K) then (decL l K, 0) else ([], 5)) else ([], 30) := by
      unfold decP; rw [if_neg (by omega), hK2]
    have t11 : (l.length : Int).tmod 11 = 0 := by rw [tm]; exact h11'
    have hops0 : opsOk l 0 := fun i hi => absurd hi (by omega)
    simp [-Int.natCast_add, -BitVec.toNat_or, -BitVec.toNat_ofInt, -BitVec.toNat_and, len_slice u48, index_slice u48 sz5, load_of ld5, conv_i u5 u3, build_of bo52, alloc_of zo52, store_of sz52, conv_i u5 u33, conv_i u33 u2, fieldAddr_of fa52_4, store_of sz2, fieldAddr_of fa52_0, load_of ld3, load_agg ld52, buildSlice_of u22 bs52 rfl, append_s u22 sz52, t11]
    refine wsem_loop 9 [12, 16, 46, 70, 77] (fun d E m2 => ∃ (i : Nat) (oa : Option Addr) (fo : Nat), K - i = d ∧ i ≤ K ∧ opsOk l i ∧ Sl m2 oa i (icv (decL l i)) 52 5 fo ∧ (oa ≠ none → m.next ≤ fo) ∧ Keeps m m2 [] ∧ E = [(0, .slice lo l.length l.length), (4, .slice oa i i), (5, .int .i64 ((11 * i : Nat) : Int))]) _ ⟨_, ⟨0, none, 0, rfl, by omega, hops0, Sl.nil _ _ _ _, by simp, Keeps.refl _ _, rfl⟩, ⟨by rfl, by rfl, by rfl, trivial⟩⟩ ?_
    rintro d E m2 ih ⟨i, oa, fo, hd, hi, hops, h2, hb2, k2, rfl⟩
    obtain ⟨I, hI⟩ : ∃ I, 11 * i = I := ⟨_, rfl⟩
    rw [hI]
    by_cases hlt : i < K
    · have hIl : I < l.length := by omega
      have hIl' : (I : Int) < l.length := by omega
      obtain ⟨bb, rest, hlo, ol⟩ := hl (by omega)
      obtain ⟨L, hL⟩ : ∃ L, l.drop I = L := ⟨_, rfl⟩
      have hLl : 11 ≤ L.length := by rw [← hL]; simp; omega
      have ld : ∀ j, j < 11 → ∀ (m' : Mem), Rdo m' bb (bc l ++ rest) 5 lf → loadRow m' ⟨bb, I + j, none⟩ 1 = some [.int .u8 (at8 L j : Nat)] := fun j hj m' o => by
        rw [← hL, at8_drop]
        exact o.load1 (bc_at2 rest (by omega))
      have ol2 := ol.keep k2 (by simp)
      have d0 := ld 0 (by omega) m2 ol2
      have d1 := ld 1 (by omega) m2 ol2
      have d2 := ld 2 (by omega) m2 ol2
      rw [Nat.add_zero] at d0
      obtain ⟨I1, hI1⟩ : ∃ I1, I + 1 = I1 := ⟨_, rfl⟩
      obtain ⟨I2, hI2⟩ : ∃ I2, I + 2 = I2 := ⟨_, rfl⟩
      rw [hI1] at d1
      rw [hI2] at d2
      have wI1 : IntKind.i64.wrap ((I : Int) + 1) = (I1 : Int) := by rw [wrap_i64 (by omega) (by omega)]; omega
      have wI2 : IntKind.i64.wrap ((I : Int) + 2) = (I2 : Int) := by rw [wrap_i64 (by omega) (by omega)]; omega
      have eI : (I : Int) ≤ 9223372036854775807 := by omega
      have eI1 : (I1 : Int) ≤ 9223372036854775807 := by omega
      have eI2 : (I2 : Int) ≤ 9223372036854775807 := by omega
      have r1 : I1 < l.length := by omega
      have r2 : I2 < l.length := by omega
      have b0 := at8_lt L 0
      have b1 := at8_lt L 1
      have b2 := at8_lt L 2
      have hdec : decI L = ((at8 L 0 : Int), ((at8 L 1 / 16 : Nat) : Int), ((at8 L 1 % 16 : Nat) : Int), (at8 L 2 : Int), IntKind.i64.wrap (valB ((L.drop 3).take 8) : Nat)) := rfl
      have hop : at8 l (11 * i) = at8 L 0 := by rw [← hL, at8_drop, Nat.add_zero, hI]
      have hds := decL_succ l i
      rw [hI, hL] at hds
      obtain ⟨q0, hq0⟩ : ∃ q, at8 L 0 = q := ⟨_, rfl⟩
      obtain ⟨q1, hq1⟩ : ∃ q, at8 L 1 = q := ⟨_, rfl⟩
      obtain ⟨q2, hq2⟩ : ∃ q, at8 L 2 = q := ⟨_, rfl⟩
      obtain ⟨qa, hqa⟩ : ∃ q, q1 / 16 = q := ⟨_, rfl⟩
      obtain ⟨qb, hqb⟩ : ∃ q, q1 % 16 = q := ⟨_, rfl⟩
      rw [hq0] at d0 b0 hop
      rw [hq1] at d1 b1
      rw [hq2] at d2 b2
      rw [hq0, hq1, hq2, hqa, hqb] at hdec
      have v0 : IntKind.i64.wrap (q0 : Int) = (q0 : Int) := wrap_i64 (by omega) (by omega)
      have v1 : IntKind.u8.wrap ((q1 : Int) / 16) = (qa : Int) := by
        have h := u8_wrap ((q1 : Int) / 16)
        have h2 := u8_nat ((q1 : Int) / 16)
        omega
      have v1' : IntKind.i64.wrap (qa : Int) = (qa : Int) := wrap_i64 (by omega) (by omega)
      have v2 : (q1 : Int).tmod 16 = (qb : Int) := by rw [Int.tmod_eq_emod_of_nonneg (by omega)]; omega
      have v2' : IntKind.i64.wrap (qb : Int) = (qb : Int) := wrap_i64 (by omega) (by omega)
      have v3 : IntKind.i64.wrap (q2 : Int) = (q2 : Int) := wrap_i64 (by omega) (by omega)
      obtain ⟨o3, k3, n3⟩ := new_own (m := m2) (cs := [.int .i64 0, .int .i64 0, .int .i64 0, .int .i64 0, .int .i64 0]) (e := 52) rfl
      obtain ⟨m4, e4, o4, k4⟩ := store_own (r := _) rfl o3 (off := 0) (vs := [.int .i64 (q0 : Int), .int .i64 (qa : Int), .int .i64 (qb : Int), .int .i64 (q2 : Int), .int .i64 0]) (by simp) (by simp [one_int])
      simp [over] at o4
      have k24 := k3.fresh k4 (by simp)
      have ol3 := ol2.keep k3 (by simp)
      have ol4 := ol2.keep k24 (by simp)
      have d03 := ld 0 (by omega) _ ol3
      have d13 := ld 1 (by omega) _ ol3
      have d23 := ld 2 (by omega) _ ol3
      have d04 := ld 0 (by omega) _ ol4
      have d14 := ld 1 (by omega) _ ol4
      have d24 := ld 2 (by omega) _ ol4
      rw [Nat.add_zero] at d03 d04
      rw [hI1] at d13 d14
      rw [hI2] at d23 d24
      rw [hq0] at d03 d04
      rw [hq1] at d13 d14
      rw [hq2] at d23 d24
      have h4 := h2.keepz k24 (by simp)
      simp [-Int.natCast_add, -BitVec.toNat_or, -BitVec.toNat_ofInt, -BitVec.toNat_and, len_slice u48, index_slice u48 sz5, load_of ld5, conv_i u5 u3, build_of bo52, alloc_of zo52, store_of sz52, conv_i u5 u33, conv_i u33 u2, fieldAddr_of fa52_4, store_of sz2, fieldAddr_of fa52_0, load_of ld3, load_agg ld52, buildSlice_of u22 bs52 rfl, append_s u22 sz52, hlo, hIl, hIl', eI, eI1, eI2, wI1, wI2, d0, d1, d2, r1, r2, v0, v1, v1', v2, v2', v3, e4, d03, d13, d23, d04, d14, d24]
      have hl8 : ((L.drop 3).take 8).length = 8 := by simp; omega
      have hat8 : ∀ k, k < 8 → at8 ((L.drop 3).take 8) k = at8 L (3 + k) := fun k hk => by
        simp [at8, List.getD_eq_getElem?_getD, List.getElem?_take, List.getElem?_drop, hk]
      refine wsem_loop 9 [12, 16, 46, 70, 77] (fun d2 E m5 => ∃ k : Nat, k = d2 ∧ k ≤ 8 ∧ m5 = m4 ∧ E = [(0, .slice lo l.length l.length), (4, .slice oa i i), (5, .int .i64 (I : Int)), (6, .pointer (some ⟨m2.next, 0, none⟩)), (7, .int .u64 (valB (((L.drop 3).take 8).drop k) : Nat)), (8, .int .i64 ((k : Int) - 1))]) _ ⟨_, ⟨8, rfl, by omega, rfl, rfl⟩, ⟨by simp [lget, hlo], by rfl, by rfl, by rfl, by rw [List.drop_of_length_le (by omega)]; rfl, by rfl, trivial⟩⟩ ?_
      rintro d2 E m5 ih2 ⟨k, hk2, hk, rfl, rfl⟩
      by_cases hk0 : k = 0
      · subst hk0
        rw [List.drop_zero]
        obtain ⟨vN, hvN⟩ : ∃ vN, IntKind.i64.wrap (valB ((L.drop 3).take 8) : Nat) = vN := ⟨_, rfl⟩
        rw [hvN] at hdec
        obtain ⟨m6, e6, o6, k6⟩ := store_own (r := _) rfl o4 (off := 4) (vs := [.int .i64 vN]) (by simp) (by simp [one_int])
        simp [over] at o6
        have l6 := o6.load (off := 0) 5 (by simp)
        simp [window] at l6
        have l60 := o6.load1 (off := 0) rfl
        have k26 := k24.fresh k6 (by simp)
        have h6 := h4.keepz k6 (fun hn => by have := h2.sr.flt hn; simp; omega)
        have wI11 : IntKind.i64.wrap ((I : Int) + 11) = ((11 * (i + 1) : Nat) : Int) := by rw [wrap_i64 (by omega) (by omega)]; omega
        have kk := k2.trans k26
        by_cases hopk : 1 ≤ q0 ∧ q0 ≤ 27
        · have g1 : ¬ (q0 : Int) < 1 := by omega
          have g2 : ¬ (27 : Int) < (q0 : Int) := by omega
          have g3 : ¬ q0 = 0 := by omega
          have g4 : ¬ 27 < q0 := by omega
          simp [-Int.natCast_add, -BitVec.toNat_or, -BitVec.toNat_ofInt, -BitVec.toNat_and, len_slice u48, index_slice u48 sz5, load_of ld5, conv_i u5 u3, build_of bo52, alloc_of zo52, store_of sz52, conv_i u5 u33, conv_i u33 u2, fieldAddr_of fa52_4, store_of sz2, fieldAddr_of fa52_0, load_of ld3, load_agg ld52, buildSlice_of u22 bs52 rfl, append_s u22 sz52, hvN, e6, l60, g1, g2, g3, g4, l6]
          generalize hra : sappend _ _ _ _ _ _ = ra
          obtain ⟨m7, nb7, f7, rfl, o7, k7, hf7, _, _⟩ := app_slz hra u22 ap52 h6 (by omega) (by simp) (by simp [one_int]) (by omega) (by omega)
          have o6x := o6.keep k7 (by
            split
            · simp
            · rename_i hn
              have := h2.sr.flt hn
              simp; omega)
          have l7 := o6x.load (off := 0) 5 (by simp)
          simp [window] at l7
          have l6n := (o6.ln [.int .i64 (q0 : Int), .int .i64 (qa : Int), .int .i64 (qb : Int), .int .i64 (q2 : Int), .int .i64 vN] 52 0 5).trans l6
          simp [-Int.natCast_add, -BitVec.toNat_or, -BitVec.toNat_ofInt, -BitVec.toNat_and, len_slice u48, index_slice u48 sz5, load_of ld5, conv_i u5 u3, build_of bo52, alloc_of zo52, store_of sz52, conv_i u5 u33, conv_i u33 u2, fieldAddr_of fa52_4, store_of sz2, fieldAddr_of fa52_0, load_of ld3, load_agg ld52, buildSlice_of u22 bs52 rfl, append_s u22 sz52, l6, l6n, l7, wI11]
          have s7 : Sl m7 (some ⟨nb7, 0, none⟩) (i + 1) (icv (decL l (i + 1))) 52 5 f7 := by
            rw [hds, hdec]
            refine Sl.of (by simpa [icv] using o7) ?_
            rw [icv_len, List.length_append, decL_len]; rfl
          have hb7 : m.next ≤ f7 := by
            rcases hf7 with ⟨h, h'⟩ | h
            · rw [h']; exact hb2 h
            · have := k2.1; have := k26.1; omega
          have ops1 : opsOk l (i + 1) := fun j hj => by
            rcases (by omega : j < i ∨ j = i) with h | rfl
            · exact hops j h
            · rw [hop]; exact hopk
          have kk7 : Keeps m m7 [] := (k2.trans k26).fresh k7 (by
            intro f hf
            split at hf
            · simp at hf
            · rename_i hn
              simp at hf; rw [hf]; exact hb2 hn)
          exact ih _ _ _ _ ⟨i + 1, _, f7, rfl, by omega, ops1, s7, fun _ => hb7, kk7, rfl⟩ (by omega) ⟨by rfl, by rfl, by rfl, trivial⟩
        · have hnop : ¬ opsOk l K := fun h => hopk (by have := h i hlt; rw [hop] at this; exact this)
          rw [if_neg hnop] at hdp
          by_cases g1 : (q0 : Int) < 1
          · have g3 : q0 = 0 := by omega
            simp [-Int.natCast_add, -BitVec.toNat_or, -BitVec.toNat_ofInt, -BitVec.toNat_and, len_slice u48, index_slice u48 sz5, load_of ld5, conv_i u5 u3, build_of bo52, alloc_of zo52, store_of sz52, conv_i u5 u33, conv_i u33 u2, fieldAddr_of fa52_4, store_of sz2, fieldAddr_of fa52_0, load_of ld3, load_agg ld52, buildSlice_of u22 bs52 rfl, append_s u22 sz52, hvN, e6, l60, g1, g3, l6]
            exact ⟨⟨none, 0, by rw [hdp]; rfl, by rw [hdp]; exact Sl.nil _ _ _ _, by simp⟩, kk⟩
          · have g2 : (27 : Int) < (q0 : Int) := by omega
            have g3 : ¬ q0 = 0 := by omega
            have g4 : 27 < q0 := by omega
            simp [-Int.natCast_add, -BitVec.toNat_or, -BitVec.toNat_ofInt, -BitVec.toNat_and, len_slice u48, index_slice u48 sz5, load_of ld5, conv_i u5 u3, build_of bo52, alloc_of zo52, store_of sz52, conv_i u5 u33, conv_i u33 u2, fieldAddr_of fa52_4, store_of sz2, fieldAddr_of fa52_0, load_of ld3, load_agg ld52, buildSlice_of u22 bs52 rfl, append_s u22 sz52, hvN, e6, l60, g1, g2, g3, g4, l6]
            exact ⟨⟨none, 0, by rw [hdp]; rfl, by rw [hdp]; exact Sl.nil _ _ _ _, by simp⟩, kk⟩
      · obtain ⟨k', rfl⟩ : ∃ k', k = k' + 1 := ⟨k - 1, by omega⟩
        have ek : (((k' + 1 : Nat) : Int) - 1) = (k' : Int) := by omega
        rw [ek]
        have p0 : (0 : Int) ≤ (k' : Int) := by omega
        obtain ⟨J, hJ⟩ : ∃ J, I + (3 + k') = J := ⟨_, rfl⟩
        have wJ1 : IntKind.i64.wrap ((I : Int) + 3) = (I : Int) + 3 := wrap_i64 (by omega) (by omega)
        have wJ : IntKind.i64.wrap ((I : Int) + 3 + (k' : Int)) = (J : Int) := by rw [wrap_i64 (by omega) (by omega)]; omega
        have dk := ld (3 + k') (by omega) m5 ol4
        rw [hJ] at dk
        have rJ : J < l.length := by omega
        have eJ : (J : Int) ≤ 9223372036854775807 := by omega
        have hvs := valB_drop (l := (L.drop 3).take 8) (k := k') (by omega)
        rw [hat8 k' (by omega)] at hvs
        have hvl := valB_lt (((L.drop 3).take 8).drop (k' + 1))
        have hvl2 : valB (((L.drop 3).take 8).drop (k' + 1)) < 72057594037927936 := by
          have h1 : (((L.drop 3).take 8).drop (k' + 1)).length ≤ 7 := by rw [List.length_drop, hl8]; omega
          have h2 : (256 : Nat) ^ (((L.drop 3).take 8).drop (k' + 1)).length ≤ 256 ^ 7 := Nat.pow_le_pow_right (by omega) h1
          have h3 : (256 : Nat) ^ 7 = 72057594037927936 := by decide
          omega
        have hbl := at8_lt L (3 + k')
        obtain ⟨v', hv'⟩ : ∃ v', valB (((L.drop 3).take 8).drop k') = v' := ⟨_, rfl⟩
        rw [hv'] at hvs
        generalize valB (((L.drop 3).take 8).drop (k' + 1)) = v at *
        generalize at8 L (3 + k') = b at *
        have wb : IntKind.u64.wrap (b : Int) = (b : Int) := wrap_u64 (by omega) (by omega)
        have wv : IntKind.u64.wrap (256 * (v : Int)) = 256 * (v : Int) := wrap_u64 (by omega) (by omega)
        have wv2 : IntKind.u64.wrap (256 * (v : Int) + (b : Int)) = (v' : Int) := by rw [wrap_u64 (by omega) (by omega)]; omega
        have wk : IntKind.i64.wrap ((k' : Int) - 1) = (k' : Int) - 1 := wrap_i64 (by omega) (by omega)
        simp [-Int.natCast_add, -BitVec.toNat_or, -BitVec.toNat_ofInt, -BitVec.toNat_and, len_slice u48, index_slice u48 sz5, load_of ld5, conv_i u5 u3, build_of bo52, alloc_of zo52, store_of sz52, conv_i u5 u33, conv_i u33 u2, fieldAddr_of fa52_4, store_of sz2, fieldAddr_of fa52_0, load_of ld3, load_agg ld52, buildSlice_of u22 bs52 rfl, append_s u22 sz52, hlo, p0, wJ1, wJ, eJ, rJ, dk, wb, wv, wv2, wk]
        exact ih2 _ _ _ _ ⟨k', rfl, by omega, rfl, rfl⟩ (by omega) ⟨by simp [lget, hlo], by rfl, by rfl, by rfl, by rw [hv']; rfl, by rfl, trivial⟩
    · have hiK : i = K := by omega
      subst hiK
      have hIl : ¬ I < l.length := by omega
      have hIl' : ¬ (I : Int) < l.length := by omega
      obtain ⟨_, m3, c3, ⟨b, rfl, hb⟩, k3⟩ := code_run (m := m2) hN (ls := decL l i) (lo := oa) (lf := fo) (le := 52) (by rw [decL_len]; exact h2.rs) (by rw [decL_len]; omega)
      rw [decL_len] at c3
      have kk := k2.trans k3
      rw [if_pos hops] at hdp
      have s3 := h2.keepz k3 (by simp)
      cases b with
      | true =>
        have hR := hb.1 rfl
        rw [if_pos hR] at hdp
        simp [-Int.natCast_add, -BitVec.toNat_or, -BitVec.toNat_ofInt, -BitVec.toNat_and, len_slice u48, index_slice u48 sz5, load_of ld5, conv_i u5 u3, build_of bo52, alloc_of zo52, store_of sz52, conv_i u5 u33, conv_i u33 u2, fieldAddr_of fa52_4, store_of sz2, fieldAddr_of fa52_0, load_of ld3, load_agg ld52, buildSlice_of u22 bs52 rfl, append_s u22 sz52, hIl', c3]
        refine ⟨⟨oa, fo, by rw [hdp]; simp [decL_len], by rw [hdp]; simpa [decL_len] using s3, hb2⟩, kk⟩
      | false =>
        have hR : ¬ RightC (decL l i) := fun h => by have := hb.2 h; simp at this
        rw [if_neg hR] at hdp
        simp [-Int.natCast_add, -BitVec.toNat_or, -BitVec.toNat_ofInt, -BitVec.toNat_and, len_slice u48, index_slice u48 sz5, load_of ld5, conv_i u5 u3, build_of bo52, alloc_of zo52, store_of sz52, conv_i u5 u33, conv_i u33 u2, fieldAddr_of fa52_4, store_of sz2, fieldAddr_of fa52_0, load_of ld3, load_agg ld52, buildSlice_of u22 bs52 rfl, append_s u22 sz52, hIl', c3]
        exact ⟨⟨none, 0, by rw [hdp]; rfl, by rw [hdp]; exact Sl.nil _ _ _ _, by simp⟩, kk⟩
  · have h11a : ¬ (l.length : Int) % 11 = 0 := by omega
    have h11' : ¬ ((l.length % 11 : Nat) : Int) = 0 := by omega
    have hdp : decP l = ([], 7) := by unfold decP; rw [if_pos (by omega)]
    simp [-Int.natCast_add, -BitVec.toNat_or, -BitVec.toNat_ofInt, -BitVec.toNat_and, len_slice u48, index_slice u48 sz5, load_of ld5, conv_i u5 u3, build_of bo52, alloc_of zo52, store_of sz52, conv_i u5 u33, conv_i u33 u2, fieldAddr_of fa52_4, store_of sz2, fieldAddr_of fa52_0, load_of ld3, load_agg ld52, buildSlice_of u22 bs52 rfl, append_s u22 sz52, tm, h11a]
    exact ⟨⟨none, 0, by rw [hdp]; rfl, by rw [hdp]; exact Sl.nil _ _ _ _, by simp⟩, Keeps.refl _ _⟩
end Go.Proofs.YtkcehgajpalgnaaDoor.base

