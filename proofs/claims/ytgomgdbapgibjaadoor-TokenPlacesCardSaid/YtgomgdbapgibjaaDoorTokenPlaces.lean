/-
  This text proves 'Rows.TokenPlacesCardSaid': the law 'TokenPlaces' returns true at any numbers, in whatever memory and on every tape, and its input reads as it did.
  The condition is the card's own: the listed package-level variable holds what the program's text lays.
-/
import Derived.Test.YtgomgdbapgibjaaDoorCards
import Derived.Test.YtgomgdbapgibjaaDoorTie
import Derived.Deep.DeepHandedRow
import Derived.Lib.LaidTab
import Derived.Test.YtgomgdbapgibjaaDoorTokR
import Derived.Test.YtgomgdbapgibjaaDoorMakH
set_option maxRecDepth 100000
set_option linter.unusedSimpArgs false
set_option linter.unusedVariables false
namespace Go.Proofs.YtgomgdbapgibjaaDoor.tokenPlaces
open Go.Sh gen base
variable {S : Sums} {m : Mem}
theorem strip_mk (d : Option Tmp) (op : Op) (ty : TypeId) (pos : String) (af : Array Edge) (g : Option (Nat × Bool)) : strip ⟨d, op, ty, pos, af, g⟩ = ⟨d, op, ty, "", #[], g⟩ := rfl
theorem tk_all {lb fl : Nat} {Q : List (base.Tok × Nat)} (ol : Own m lb (outCells (Q.map (·.1))) 31 fl) {i : Nat} (hi : i < Q.length) : loadRow m ⟨lb, i * 5, none⟩ 5 = some (Q[i].1.cells) := by
  have := (ol.load (off := i * 5) 5 (by rw [← outCells_len]; simp; omega)).trans (congrArg some (atq_cells (l := Q.map (·.1)) (by simpa using hi)))
  simpa using this
theorem tk_fld {lb fl : Nat} {Q : List (base.Tok × Nat)} (ol : Own m lb (outCells (Q.map (·.1))) 31 fl) {i : Nat} (hi : i < Q.length) (f : Nat) (hf : f < 5) : loadRow m ⟨lb, i * 5 + f, none⟩ 1 = some ((Q[i].1.cells.drop f).take 1) := by
  have := (ol.load (off := i * 5 + f) 1 (by rw [← outCells_len]; simp; omega)).trans (congrArg some (atq_field (l := Q.map (·.1)) (by simpa using hi) f hf))
  simpa using this
set_option maxHeartbeats 4000000 in
theorem law_run (hK : S 10 = [([], .bool true)]) (hS : S 4 = []) (hU : Nu S) (hN : Nm S) (hA : S 13 = []) (hWs : S 8 = [])
    {ls ms ns : List Int} {near : Bool} {a0 a1 a2 : Option Addr} {f0 f1 f2 : Nat}
    (h0 : Rs m a0 ls.length (ls.flatMap fun n : Int => [Value.int .i64 n]) 3 1 f0) (hf0 : f0 < m.next) (hl0 : ls.length ≤ 9223372036854775807) (hw0 : ∀ n ∈ ls, (Lit.int .i64 n).wf = true)
    (h1 : Rs m a1 ms.length (ms.flatMap fun n : Int => [Value.int .i64 n]) 3 1 f1) (hf1 : f1 < m.next) (hl1 : ms.length ≤ 9223372036854775807) (hw1 : ∀ n ∈ ms, (Lit.int .i64 n).wf = true)
    (h2 : Rs m a2 ns.length (ns.flatMap fun n : Int => [Value.int .i64 n]) 3 1 f2) (hf2 : f2 < m.next) (hl2 : ns.length ≤ 9223372036854775807) (hw2 : ∀ n ∈ ns, (Lit.int .i64 n).wf = true)
    {e : TypeId} (hg : Rdo m 0 handC e 0) :
    ∃ v m', callw Tryd.prog TT S 4 [.slice a0 ls.length ls.length, .slice a1 ms.length ms.length, .slice a2 ns.length ns.length, .bool near] m = some (v, m') ∧ v = .bool true := by
  have hkn := fun m' => sum_ok (P := Tryd.prog) (T := TT) (m := m') hK
  refine fn_w 19 [21, 50, 65, 89, 175, 189] k4 hS rfl ?_
  apply cut2_ (fun (m1 : Mem) (s : List UInt8) => s.length ≤ 1000000000000 ∧ Keeps m m1 [])
  case main =>
    obtain ⟨v1, m1, c1, ⟨s1, rfl, hs1⟩, k1⟩ := mtext_run (m := m) hN h0 hf0 hl0
    obtain ⟨v2, m2, c2, rfl, hm2⟩ := words_run (m := m1) hWs hN.pick (hg.keep k1 (by simp)) (c := ns.length) (h2.keep k1 (by simp)) hl2 (k := ns.length) (by omega)
    rw [hm2] at c2
    have hl := wordsT_len (List.take 200 (List.take ns.length ns))
    have hl3 : (List.take 200 (List.take ns.length ns)).length ≤ 200 := by simp; omega
    generalize wordsT (List.take 200 (List.take ns.length ns)) = s2 at *
    rcases Bool.eq_false_or_eq_true near with hn | hn
    case inr =>
      intro meth
      simp [-Int.natCast_add, -w4_4, -BitVec.toNat_or, -BitVec.toNat_ofInt, -BitVec.toNat_and, alloc_of zo31, store_of sz31, len_slice u29, index_slice u29 sz31, fieldAddr_of fa31_0, load_of ld3, len_string u9, fieldAddr_of fa31_3, fieldAddr_of fa31_4, load_agg ld31, index_str u9, fieldAddr_of fa31_1, load_of ld9, slice_str u9, hn, c1]
      exact w_sub (E := [(9, .string ⟨s1.toArray⟩)]) (meth m1 s1 ⟨hs1, k1⟩) ⟨by rfl, trivial⟩
    case inl =>
      intro meth
      simp [-Int.natCast_add, -w4_4, -BitVec.toNat_or, -BitVec.toNat_ofInt, -BitVec.toNat_and, alloc_of zo31, store_of sz31, len_slice u29, index_slice u29 sz31, fieldAddr_of fa31_0, load_of ld3, len_string u9, fieldAddr_of fa31_3, fieldAddr_of fa31_4, load_agg ld31, index_str u9, fieldAddr_of fa31_1, load_of ld9, slice_str u9, hn, c1, c2]
      exact w_sub (E := [(9, .string ⟨s2.toArray⟩)]) (meth m1 s2 ⟨by omega, k1⟩) ⟨by rfl, trivial⟩
  intro m1 s ⟨hs, k1⟩
  obtain ⟨v3, m3, c3, al, fl, rfl, s3, _, k3⟩ := allP_run (m := m1) hU hA s (by omega)
  have hpl := allR_places s
  generalize allR s = R at *
  obtain ⟨l, w, er⟩ := R
  simp only at hpl s3 c3
  simp [-Int.natCast_add, -BitVec.toNat_or, -BitVec.toNat_ofInt, -BitVec.toNat_and, alloc_of zo31, store_of sz31, len_slice u29, index_slice u29 sz31, fieldAddr_of fa31_0, load_of ld3, len_string u9, fieldAddr_of fa31_3, fieldAddr_of fa31_4, load_agg ld31, index_str u9, fieldAddr_of fa31_1, load_of ld9, slice_str u9, hkn, c3, Tok.cells]
  obtain ⟨oz, kz, nz⟩ := new_own (m := m3) (cs := [Value.int .i64 0, .string ⟨#[]⟩, .int .i64 0, .int .i64 0, .int .i64 0]) (e := 31) rfl
  generalize hrr : storeRow _ _ _ = rr
  obtain ⟨m4, rfl, o4, k4⟩ := store_own hrr oz (by simp) (by simp [one_int, one_str])
  have kk4 : Keeps m3 m4 [] := kz.mono2 k4 (Nat.le_refl _)
  have s4 := s3.keep kk4 (by simp)
  clear hrr o4 k4 oz kz nz s3 k3
  by_cases h0 : er = 0
  · obtain ⟨hsl, Q, rfl, hq, hsrt, hQ0, hz, hlen⟩ : s.length ≤ 16384 ∧ ∃ Q : List (base.Tok × Nat), l = Q.map (·.1) ∧ (∀ q ∈ Q, Pl s q) ∧ Q.Pairwise (fun a b => a.2 ≤ b.2) ∧ 0 < Q.length ∧ (∀ h : Q.length - 1 < Q.length, (Q[Q.length - 1]).1.k = 0) ∧ Q.length ≤ 4000 := by
      obtain ⟨hsl, qs, z, h1, hq, hsrt, hz, hlen⟩ := hpl h0
      exact ⟨hsl, qs ++ [z], h1, hq, hsrt, by simp, fun h => by simpa using hz, hlen⟩
    subst h0
    clear hpl
    simp only [List.length_map] at s4
    have hl0 : ¬ Q.length = 0 := by omega
    have hl0' : ¬ (Q.length : Int) = 0 := by omega
    have hQn : Q ≠ [] := fun h => hl0 (by rw [h]; rfl)
    obtain ⟨lb, rfl, ol⟩ := s4.own hl0
    have n1 : IntKind.i64.wrap ((Q.length : Int) - 1) = ((Q.length - 1 : Nat) : Int) := by rw [wrap_i64 (by omega) (by omega)]; omega
    have n2 : Q.length - 1 < Q.length := by omega
    have n3 : ((Q.length - 1 : Nat) : Int) ≤ 9223372036854775807 := by omega
    have lzk : loadRow m4 ⟨lb, (Q.length - 1) * 5, none⟩ 1 = some [.int .i64 0] := by
      have := tk_fld ol n2 0 (by omega)
      simpa [Tok.cells, hz n2] using this
    simp [-Int.natCast_add, -BitVec.toNat_or, -BitVec.toNat_ofInt, -BitVec.toNat_and, alloc_of zo31, store_of sz31, len_slice u29, index_slice u29 sz31, fieldAddr_of fa31_0, load_of ld3, len_string u9, fieldAddr_of fa31_3, fieldAddr_of fa31_4, load_agg ld31, index_str u9, fieldAddr_of fa31_1, load_of ld9, slice_str u9, hkn, n1, n2, n3, hl0, hl0', hQn, lzk]
    have hi9 : ∀ (i : Nat) (hi : i < Q.length), Q[i].2 ≤ s.length := fun i hi => (hq _ (List.getElem_mem hi)).i
    have hp9 : ∀ (i j : Nat) (hi : i < Q.length) (hj : j < Q.length), i ≤ j → Q[i].2 ≤ Q[j].2 := fun i j hi hj hij => by
      rcases Nat.lt_or_ge i j with h | h
      · exact List.pairwise_iff_getElem.1 hsrt i j hi hj h
      · have : i = j := by omega
        subst this
        exact Nat.le_refl _
    refine wsem_loop 19 [21, 50, 65, 89, 175, 189] (fun d E m5 => ∃ i k ln cl : Nat, s.length + 1 - i = d ∧ i ≤ s.length + 1 ∧ k ≤ Q.length ∧ (i ≤ s.length → posOf s i = (ln, cl)) ∧ ln ≤ i + 1 ∧ cl ≤ i + 1 ∧ (∀ j (hj : j < Q.length), j < k → Q[j].2 < i) ∧ (∀ j (hj : j < Q.length), k ≤ j → i ≤ Q[j].2) ∧ E = [(9, .string ⟨s.toArray⟩), (10, .slice (some ⟨lb, 0, none⟩) Q.length Q.length), (13, .int .i64 ln), (14, .int .i64 cl), (15, .int .i64 k), (16, .int .i64 i)] ∧ Own m5 lb (outCells (Q.map (·.1))) 31 fl) _ ⟨_, ⟨0, 0, 1, 1, rfl, by omega, by omega, fun _ => rfl, by omega, by omega, fun j hj h => by omega, fun j hj h => by omega, rfl, ol⟩, ⟨by rfl, by rfl, by rfl, by rfl, by rfl, by rfl, trivial⟩⟩ ?_
    clear ol lzk
    rintro d E m5 ih ⟨i, k, ln, cl, hd, hi, hk, hpos, hln, hcl, hlo, hhi, rfl, ol⟩
    by_cases hgo : i ≤ s.length ∧ k < Q.length
    · obtain ⟨g1, g2⟩ := hgo
      have g1' : (i : Int) ≤ s.length := by omega
      have g2' : (k : Int) < Q.length := by omega
      simp [-Int.natCast_add, -BitVec.toNat_or, -BitVec.toNat_ofInt, -BitVec.toNat_and, alloc_of zo31, store_of sz31, len_slice u29, index_slice u29 sz31, fieldAddr_of fa31_0, load_of ld3, len_string u9, fieldAddr_of fa31_3, fieldAddr_of fa31_4, load_agg ld31, index_str u9, fieldAddr_of fa31_1, load_of ld9, slice_str u9, g1, g1', g2, g2']
      refine wsem_loop 19 [21, 50, 65, 89, 175, 189] (fun d2 E m6 => ∃ k : Nat, Q.length - k = d2 ∧ k ≤ Q.length ∧ (∀ j (hj : j < Q.length), j < k → Q[j].2 ≤ i) ∧ (∀ j (hj : j < Q.length), k ≤ j → i ≤ Q[j].2) ∧ E = [(9, .string ⟨s.toArray⟩), (10, .slice (some ⟨lb, 0, none⟩) Q.length Q.length), (13, .int .i64 ln), (14, .int .i64 cl), (15, .int .i64 k), (16, .int .i64 i)] ∧ Own m6 lb (outCells (Q.map (·.1))) 31 fl) _ ⟨_, ⟨k, rfl, hk, fun j hj h => by have := hlo j hj h; omega, hhi, rfl, ol⟩, ⟨by rfl, by rfl, by rfl, by rfl, by rfl, by rfl, trivial⟩⟩ ?_
      clear g2 g2' hk hlo hhi ol
      clear k
      rintro d2 E m6 ih2 ⟨k, hd2, hk, hlo, hhi, rfl, ol⟩
      have hps := hpos g1
      by_cases hcont : ∃ hk2 : k < Q.length, Q[k].2 = i
      · obtain ⟨hk2, hpe⟩ := hcont
        have hk2' : (k : Int) < Q.length := by omega
        have em : (k : Int) ≤ 9223372036854775807 := by omega
        have hpl := hq _ (List.getElem_mem hk2)
        have hge := hhi k hk2 (Nat.le_refl _)
        have lall := tk_all ol hk2
        have l3 := tk_fld ol hk2 3 (by omega)
        have l4 := tk_fld ol hk2 4 (by omega)
        obtain ⟨⟨tk, p⟩, hQk⟩ : ∃ q, Q[k] = q := ⟨_, rfl⟩
        rw [hQk] at hpl hge lall l3 l4
        obtain ⟨pl, pc, pw, pi⟩ := hpl
        simp only at pl pc pw pi hge
        simp only [Tok.cells, List.drop_succ_cons, List.drop_zero, List.take_succ_cons, List.take_zero] at l3 l4 lall
        rw [hQk] at hpe
        simp only at hpe
        subst hpe
        rw [hps] at pl pc
        simp only at pl pc
        rw [pl] at l3
        rw [pc] at l4
        simp [-Int.natCast_add, -BitVec.toNat_or, -BitVec.toNat_ofInt, -BitVec.toNat_and, alloc_of zo31, store_of sz31, len_slice u29, index_slice u29 sz31, fieldAddr_of fa31_0, load_of ld3, len_string u9, fieldAddr_of fa31_3, fieldAddr_of fa31_4, load_agg ld31, index_str u9, fieldAddr_of fa31_1, load_of ld9, slice_str u9, hk2, hk2', em, l3, l4, lall]
        obtain ⟨oz, kz, nz⟩ := new_own (m := m6) (cs := [Value.int .i64 0, .string ⟨#[]⟩, .int .i64 0, .int .i64 0, .int .i64 0]) (e := 31) rfl
        generalize hrr : storeRow _ _ _ = rr
        obtain ⟨m8, rfl, o8, k8⟩ := store_own hrr oz (by simp) (by simp [one_int, one_str])
        simp [over] at o8
        have kk8 : Keeps m6 m8 [] := kz.mono2 k8 (Nat.le_refl _)
        have t0 := o8.load1 (off := 0) rfl
        have t1 := o8.load1 (off := 1) rfl
        clear hrr k8 oz kz nz l3 l4 lall
        have w1 : IntKind.i64.wrap ((k : Int) + 1) = ((k + 1 : Nat) : Int) := by rw [wrap_i64 (by omega) (by omega)]; omega
        have hlo2 : ∀ j (hj : j < Q.length), j < k + 1 → Q[j].2 ≤ p := fun j hj h => by
          rcases (by omega : j < k ∨ j = k) with h | rfl
          · exact hlo j hj h
          · rw [hQk]; exact Nat.le_refl _
        have hhi2 : ∀ j (hj : j < Q.length), k + 1 ≤ j → p ≤ Q[j].2 := fun j hj h => hhi j hj (by omega)
        have em2 : (p : Int) ≤ 9223372036854775807 := by omega
        rcases pw with pw | pw | pw | pw
        · simp [-Int.natCast_add, -BitVec.toNat_or, -BitVec.toNat_ofInt, -BitVec.toNat_and, alloc_of zo31, store_of sz31, len_slice u29, index_slice u29 sz31, fieldAddr_of fa31_0, load_of ld3, len_string u9, fieldAddr_of fa31_3, fieldAddr_of fa31_4, load_agg ld31, index_str u9, fieldAddr_of fa31_1, load_of ld9, slice_str u9, strip_mk, t0, t1, pw, w1]
          exact ih2 _ _ _ _ ⟨k + 1, rfl, by omega, hlo2, hhi2, rfl, ol.keep kk8 (by simp)⟩ (by omega) ⟨by rfl, by rfl, by rfl, by rfl, by simp [lget], by rfl, trivial⟩
        · obtain ⟨h1, h2⟩ := pw
          by_cases hpe : p = s.length
          · have hpe' : (p : Int) = s.length := by omega
            simp [-Int.natCast_add, -BitVec.toNat_or, -BitVec.toNat_ofInt, -BitVec.toNat_and, alloc_of zo31, store_of sz31, len_slice u29, index_slice u29 sz31, fieldAddr_of fa31_0, load_of ld3, len_string u9, fieldAddr_of fa31_3, fieldAddr_of fa31_4, load_agg ld31, index_str u9, fieldAddr_of fa31_1, load_of ld9, slice_str u9, strip_mk, t0, t1, h1, hpe, hpe', w1]
            exact ih2 _ _ _ _ ⟨k + 1, rfl, by omega, hlo2, hhi2, rfl, ol.keep kk8 (by simp)⟩ (by omega) ⟨by rfl, by rfl, by rfl, by rfl, by simp [lget], by simp [lget, hpe'], trivial⟩
          · have hpe' : ¬ (p : Int) = s.length := by omega
            rcases h2 with h2 | ⟨c, q, h2, h3⟩
            · have := congrArg List.length h2
              simp at this
              omega
            · have hc : s[p]? = some c := by
                have := congrArg (fun l => l[0]?) h2
                simpa [List.getElem?_drop] using this
              rcases h3 with h3 | h3
              · have h3' : (c.toNat : Int) = 10 := by omega
                simp [-Int.natCast_add, -BitVec.toNat_or, -BitVec.toNat_ofInt, -BitVec.toNat_and, alloc_of zo31, store_of sz31, len_slice u29, index_slice u29 sz31, fieldAddr_of fa31_0, load_of ld3, len_string u9, fieldAddr_of fa31_3, fieldAddr_of fa31_4, load_agg ld31, index_str u9, fieldAddr_of fa31_1, load_of ld9, slice_str u9, strip_mk, t0, t1, h1, hpe, hpe', hc, h3, h3', em2, w1]
                exact ih2 _ _ _ _ ⟨k + 1, rfl, by omega, hlo2, hhi2, rfl, ol.keep kk8 (by simp)⟩ (by omega) ⟨by rfl, by rfl, by rfl, by rfl, by simp [lget], by rfl, trivial⟩
              · have h3' : (c.toNat : Int) = 59 := by omega
                simp [-Int.natCast_add, -BitVec.toNat_or, -BitVec.toNat_ofInt, -BitVec.toNat_and, alloc_of zo31, store_of sz31, len_slice u29, index_slice u29 sz31, fieldAddr_of fa31_0, load_of ld3, len_string u9, fieldAddr_of fa31_3, fieldAddr_of fa31_4, load_agg ld31, index_str u9, fieldAddr_of fa31_1, load_of ld9, slice_str u9, strip_mk, t0, t1, h1, hpe, hpe', hc, h3, h3', em2, w1]
                exact ih2 _ _ _ _ ⟨k + 1, rfl, by omega, hlo2, hhi2, rfl, ol.keep kk8 (by simp)⟩ (by omega) ⟨by rfl, by rfl, by rfl, by rfl, by simp [lget], by rfl, trivial⟩
        · obtain ⟨h1, c, q, h2, h3⟩ := pw
          have hc : s[p]? = some c := by
            have := congrArg (fun l => l[0]?) h2
            simpa [List.getElem?_drop] using this
          have h3' : (c.toNat : Int) = 34 := by omega
          simp [-Int.natCast_add, -BitVec.toNat_or, -BitVec.toNat_ofInt, -BitVec.toNat_and, alloc_of zo31, store_of sz31, len_slice u29, index_slice u29 sz31, fieldAddr_of fa31_0, load_of ld3, len_string u9, fieldAddr_of fa31_3, fieldAddr_of fa31_4, load_agg ld31, index_str u9, fieldAddr_of fa31_1, load_of ld9, slice_str u9, strip_mk, t0, t1, h1, hc, h3, h3', em2, w1]
          exact ih2 _ _ _ _ ⟨k + 1, rfl, by omega, hlo2, hhi2, rfl, ol.keep kk8 (by simp)⟩ (by omega) ⟨by rfl, by rfl, by rfl, by rfl, by simp [lget], by rfl, trivial⟩
        · obtain ⟨h1, h2, h3⟩ := pw
          simp only [List.length_drop] at h2
          have w2 : IntKind.i64.wrap ((p : Int) + (tk.t.length : Int)) = ((p + tk.t.length : Nat) : Int) := by rw [wrap_i64 (by omega) (by omega)]; omega
          have e2 : ((p + tk.t.length : Nat) : Int) ≤ s.length := by omega
          have e3 : p + tk.t.length ≤ s.length := by omega
          have e4 : ((p + tk.t.length : Nat) : Int) ≤ 9223372036854775807 := by omega
          rcases h1 with h1 | h1 | h1 | h1
          all_goals
            simp [-Int.natCast_add, -BitVec.toNat_or, -BitVec.toNat_ofInt, -BitVec.toNat_and, alloc_of zo31, store_of sz31, len_slice u29, index_slice u29 sz31, fieldAddr_of fa31_0, load_of ld3, len_string u9, fieldAddr_of fa31_3, fieldAddr_of fa31_4, load_agg ld31, index_str u9, fieldAddr_of fa31_1, load_of ld9, slice_str u9, strip_mk, t0, t1, h1, w2, e2, e3, e4, h3, em2, w1]
            exact ih2 _ _ _ _ ⟨k + 1, rfl, by omega, hlo2, hhi2, rfl, ol.keep kk8 (by simp)⟩ (by omega) ⟨by rfl, by rfl, by rfl, by rfl, by simp [lget], by rfl, trivial⟩
      · have hhi3 : k < Q.length → ∀ j (hj : j < Q.length), k ≤ j → i + 1 ≤ Q[j].2 := fun hk2 j hj h => by
          have h1 := hp9 k j hk2 hj h
          have h2 := hhi k hk2 (Nat.le_refl _)
          have h3 : ¬ Q[k].2 = i := fun h => hcont ⟨hk2, h⟩
          omega
        have hhi2 : ∀ j (hj : j < Q.length), k ≤ j → i + 1 ≤ Q[j].2 := fun j hj h => hhi3 (by omega) j hj h
        apply cut_
        case main =>
          by_cases hk2 : k < Q.length
          · have hk2' : (k : Int) < Q.length := by omega
            have em : (k : Int) ≤ 9223372036854775807 := by omega
            have hpl := hq _ (List.getElem_mem hk2)
            have l3 := tk_fld ol hk2 3 (by omega)
            have l4 := tk_fld ol hk2 4 (by omega)
            have hpe : ¬ Q[k].2 = i := fun h => hcont ⟨hk2, h⟩
            obtain ⟨⟨tk, p⟩, hQk⟩ : ∃ q, Q[k] = q := ⟨_, rfl⟩
            rw [hQk] at hpl l3 l4 hpe
            obtain ⟨pl, pc, pw, pi⟩ := hpl
            simp only at pl pc pw pi hpe
            simp only [Tok.cells, List.drop_succ_cons, List.drop_zero, List.take_succ_cons, List.take_zero] at l3 l4
            have hne : ¬ (tk.l = ln ∧ tk.c = cl) := by
              rintro ⟨h1, h2⟩
              apply hpe
              apply posOf_inj pi g1
              rw [hps]
              have q1 : (posOf s p).1 = ln := by omega
              have q2 : (posOf s p).2 = cl := by omega
              exact Prod.ext q1 q2
            by_cases hl : tk.l = ln
            · have hcc : ¬ tk.c = cl := fun h => hne ⟨hl, h⟩
              intro meth
              simp [-Int.natCast_add, -w4_18, -BitVec.toNat_or, -BitVec.toNat_ofInt, -BitVec.toNat_and, alloc_of zo31, store_of sz31, len_slice u29, index_slice u29 sz31, fieldAddr_of fa31_0, load_of ld3, len_string u9, fieldAddr_of fa31_3, fieldAddr_of fa31_4, load_agg ld31, index_str u9, fieldAddr_of fa31_1, load_of ld9, slice_str u9, hk2, hk2', em, l3, l4, hl, hcc]
              exact w_sub (E := [(9, .string ⟨s.toArray⟩), (10, .slice (some ⟨lb, 0, none⟩) Q.length Q.length), (13, .int .i64 ln), (14, .int .i64 cl), (15, .int .i64 k), (16, .int .i64 i)]) meth ⟨by rfl, by rfl, by rfl, by rfl, by rfl, by rfl, trivial⟩
            · intro meth
              simp [-Int.natCast_add, -w4_18, -BitVec.toNat_or, -BitVec.toNat_ofInt, -BitVec.toNat_and, alloc_of zo31, store_of sz31, len_slice u29, index_slice u29 sz31, fieldAddr_of fa31_0, load_of ld3, len_string u9, fieldAddr_of fa31_3, fieldAddr_of fa31_4, load_agg ld31, index_str u9, fieldAddr_of fa31_1, load_of ld9, slice_str u9, hk2, hk2', em, l3, l4, hl]
              exact w_sub (E := [(9, .string ⟨s.toArray⟩), (10, .slice (some ⟨lb, 0, none⟩) Q.length Q.length), (13, .int .i64 ln), (14, .int .i64 cl), (15, .int .i64 k), (16, .int .i64 i)]) meth ⟨by rfl, by rfl, by rfl, by rfl, by rfl, by rfl, trivial⟩
          · have hk2' : ¬ (k : Int) < Q.length := by omega
            intro meth
            simp [-Int.natCast_add, -w4_18, -BitVec.toNat_or, -BitVec.toNat_ofInt, -BitVec.toNat_and, alloc_of zo31, store_of sz31, len_slice u29, index_slice u29 sz31, fieldAddr_of fa31_0, load_of ld3, len_string u9, fieldAddr_of fa31_3, fieldAddr_of fa31_4, load_agg ld31, index_str u9, fieldAddr_of fa31_1, load_of ld9, slice_str u9, hk2, hk2']
            exact w_sub (E := [(9, .string ⟨s.toArray⟩), (10, .slice (some ⟨lb, 0, none⟩) Q.length Q.length), (13, .int .i64 ln), (14, .int .i64 cl), (15, .int .i64 k), (16, .int .i64 i)]) meth ⟨by rfl, by rfl, by rfl, by rfl, by rfl, by rfl, trivial⟩
        have hlo2 : ∀ j (hj : j < Q.length), j < k → Q[j].2 < i + 1 := fun j hj h => by have := hlo j hj h; omega
        have wc : IntKind.i64.wrap ((cl : Int) + 1) = ((cl + 1 : Nat) : Int) := by rw [wrap_i64 (by omega) (by omega)]; omega
        have wl : IntKind.i64.wrap ((ln : Int) + 1) = ((ln + 1 : Nat) : Int) := by rw [wrap_i64 (by omega) (by omega)]; omega
        have wi : IntKind.i64.wrap ((i : Int) + 1) = ((i + 1 : Nat) : Int) := by rw [wrap_i64 (by omega) (by omega)]; omega
        have emi : (i : Int) ≤ 9223372036854775807 := by omega
        by_cases his : i < s.length
        · have his' : (i : Int) < s.length := by omega
          have hc : s[i]? = some s[i] := List.getElem?_eq_getElem his
          by_cases h10 : (s[i]).toNat = 10
          · have hpn := posOf_nl his h10
            rw [hps] at hpn
            have h10' : ((s[i]).toNat : Int) = 10 := by omega
            simp [-Int.natCast_add, -BitVec.toNat_or, -BitVec.toNat_ofInt, -BitVec.toNat_and, alloc_of zo31, store_of sz31, len_slice u29, index_slice u29 sz31, fieldAddr_of fa31_0, load_of ld3, len_string u9, fieldAddr_of fa31_3, fieldAddr_of fa31_4, load_agg ld31, index_str u9, fieldAddr_of fa31_1, load_of ld9, slice_str u9, his, his', hc, h10, h10', emi, wc, wl, wi]
            exact ih _ _ _ _ ⟨i + 1, k, ln + 1, 1, rfl, by omega, hk, fun _ => hpn, by omega, by omega, hlo2, hhi2, rfl, ol⟩ (by omega) ⟨by rfl, by rfl, by simp [lget], by rfl, by rfl, by simp [lget], trivial⟩
          · have hpn := posOf_col his h10
            rw [hps] at hpn
            have h10' : ¬ ((s[i]).toNat : Int) = 10 := by omega
            simp [-Int.natCast_add, -BitVec.toNat_or, -BitVec.toNat_ofInt, -BitVec.toNat_and, alloc_of zo31, store_of sz31, len_slice u29, index_slice u29 sz31, fieldAddr_of fa31_0, load_of ld3, len_string u9, fieldAddr_of fa31_3, fieldAddr_of fa31_4, load_agg ld31, index_str u9, fieldAddr_of fa31_1, load_of ld9, slice_str u9, his, his', hc, h10, h10', emi, wc, wl, wi]
            exact ih _ _ _ _ ⟨i + 1, k, ln, cl + 1, rfl, by omega, hk, fun _ => hpn, by omega, by omega, hlo2, hhi2, rfl, ol⟩ (by omega) ⟨by rfl, by rfl, by rfl, by simp [lget], by rfl, by simp [lget], trivial⟩
        · have his' : ¬ (i : Int) < s.length := by omega
          simp [-Int.natCast_add, -BitVec.toNat_or, -BitVec.toNat_ofInt, -BitVec.toNat_and, alloc_of zo31, store_of sz31, len_slice u29, index_slice u29 sz31, fieldAddr_of fa31_0, load_of ld3, len_string u9, fieldAddr_of fa31_3, fieldAddr_of fa31_4, load_agg ld31, index_str u9, fieldAddr_of fa31_1, load_of ld9, slice_str u9, his, his', wc, wi]
          exact ih _ _ _ _ ⟨i + 1, k, ln, cl + 1, rfl, by omega, hk, fun h => by omega, by omega, by omega, hlo2, hhi2, rfl, ol⟩ (by omega) ⟨by rfl, by rfl, by rfl, by simp [lget], by rfl, by simp [lget], trivial⟩
    · have hkk : k = Q.length := by
        apply Classical.byContradiction
        intro hne
        have hk2 : k < Q.length := by omega
        have := hhi k hk2 (Nat.le_refl _)
        have := hi9 k hk2
        omega
      have g2 : ¬ k < Q.length := by omega
      have g2' : ¬ (k : Int) < Q.length := by omega
      by_cases hin : i ≤ s.length
      · have hin' : (i : Int) ≤ s.length := by omega
        simp [-Int.natCast_add, -BitVec.toNat_or, -BitVec.toNat_ofInt, -BitVec.toNat_and, alloc_of zo31, store_of sz31, len_slice u29, index_slice u29 sz31, fieldAddr_of fa31_0, load_of ld3, len_string u9, fieldAddr_of fa31_3, fieldAddr_of fa31_4, load_agg ld31, index_str u9, fieldAddr_of fa31_1, load_of ld9, slice_str u9, g2, g2', hkk, hkn, hin, hin']
      · have hin' : ¬ (i : Int) ≤ s.length := by omega
        simp [-Int.natCast_add, -BitVec.toNat_or, -BitVec.toNat_ofInt, -BitVec.toNat_and, alloc_of zo31, store_of sz31, len_slice u29, index_slice u29 sz31, fieldAddr_of fa31_0, load_of ld3, len_string u9, fieldAddr_of fa31_3, fieldAddr_of fa31_4, load_agg ld31, index_str u9, fieldAddr_of fa31_1, load_of ld9, slice_str u9, g2, g2', hkk, hkn, hin, hin']

  · simp [-Int.natCast_add, -BitVec.toNat_or, -BitVec.toNat_ofInt, -BitVec.toNat_and, alloc_of zo31, store_of sz31, len_slice u29, index_slice u29 sz31, fieldAddr_of fa31_0, load_of ld3, len_string u9, fieldAddr_of fa31_3, fieldAddr_of fa31_4, load_agg ld31, index_str u9, fieldAddr_of fa31_1, load_of ld9, slice_str u9, hkn, h0]

/- the row -/
open Go.ChangeShapes Go.WideShapes Go.ChangeAt Go.RowKit
theorem own : ownKnob Tryd.prog.godebug = none := by kernel_rfl
theorem mixed : Tryd.prog.follows .mixedOrders = true := by kernel_rfl
theorem tab : Sh.tabCheck Tryd.prog fns = true := by kernel_rfl
theorem known : Sh.isVal (.bool true) (Sh.call Tryd.prog (Sh.tabOf Tryd.prog fns) Sh.noSums 100000 10 [] (Sh.memG Tryd.prog [])) = true := by kernel_rfl
def sums : Sums := fun f => if f = 10 then [([], .bool true)] else []
theorem sumsOk : SumsOk Tryd.prog sums := by
  intro f p hp
  unfold sums at hp
  split at hp
  · rename_i hf
    subst hf
    simp only [List.mem_cons, List.not_mem_nil, or_false] at hp
    subst hp
    exact ⟨rfl, rfl, ⟨Tryd.f10, Tryd.func10, by kernel_rfl, by kernel_rfl⟩, fun w => Sh.closed_val mixed (Sh.tab_ok tab) (Sh.noSums_ok _) 100000 10 Tryd.func10 (by kernel_rfl) (gs := []) (by kernel_rfl) (by kernel_rfl) known w (fun p hp => by simp at hp)⟩
  · simp at hp

theorem tab0 {w : World} (h : laidMetH Tryd.prog Rows.tokenPlacesRow.laid w) : 0 < w.heap.size ∧ ∀ (i : Nat) v, ((Sh.tabLits (Rows.laid_turnstone_turnstonehand_words : DataW Unit)).map Lit.value)[i]? = some v → w.cell? ⟨0, i, none⟩ = some v :=
  Sh.laid_lits (name := "turnstone/turnstonehand.words") (t := 38) (e := 9) (n := 44) (by kernel_rfl) h (by
    have e : (("turnstone/turnstonehand.words", (.agg ((Sh.tabLits (Rows.laid_turnstone_turnstonehand_words : DataW Unit)).map .lit) : DataW Unit)) : String × DataW Unit) = ("turnstone/turnstonehand.words", Rows.laid_turnstone_turnstonehand_words) := by kernel_rfl
    rw [e]
    simp [Rows.tokenPlacesRow]) (by kernel_rfl) (by kernel_rfl) Tryd.underlying38 (by first | exact Or.inr (Or.inl Tryd.underlying9) | exact Or.inl ⟨_, Tryd.underlying9⟩ | exact Or.inr (Or.inr Tryd.underlying9)) (by kernel_rfl) (by kernel_rfl) (of_decide_eq_true (by kernel_rfl))
def tables : List (Nat × List Value) := [(0, (Sh.tabLits (Rows.laid_turnstone_turnstonehand_words : DataW Unit)).map Lit.value)]
theorem rd0 : Rdo (memG Tryd.prog tables) 0 base.handC (gtype Tryd.prog 0) 0 := ⟨by kernel_rfl, ⟨⟨none, 0⟩, by kernel_rfl, Nat.zero_le _⟩, of_decide_eq_true (by kernel_rfl), of_decide_eq_true (by kernel_rfl)⟩
theorem startT (w : World) (h : laidMetH Tryd.prog Rows.tokenPlacesRow.laid w) : MRel Tryd.prog (inj0 Tryd.prog) (memG Tryd.prog tables) (allF w) w w := by
  refine memG_rel Tryd.prog w tables fun p hp => ?_
  simp only [tables, List.mem_cons, List.not_mem_nil, or_false] at hp
  rcases hp with rfl
  · exact ⟨of_decide_eq_true (by kernel_rfl), (tab0 h).1, by kernel_rfl, by kernel_rfl, (tab0 h).2⟩

theorem walk (w : World) (hL : laidMetH Tryd.prog Rows.tokenPlacesRow.laid w) {v0 : Value} (h0 : RowArg Tryd.prog w (fun n : Int => [Value.int .i64 n]) (fun n => (Lit.int .i64 n).wf = true) 3 1 v0) {v1 : Value} (h1 : RowArg Tryd.prog w (fun n : Int => [Value.int .i64 n]) (fun n => (Lit.int .i64 n).wf = true) 3 1 v1) {v2 : Value} (h2 : RowArg Tryd.prog w (fun n : Int => [Value.int .i64 n]) (fun n => (Lit.int .i64 n).wf = true) 3 1 v2) (x3 : Bool) :
    Calls Tryd.prog 4 #[v0, v1, v2, .bool x3] w fun e w' => e = .returned (.bool true) ∧ Below w.heap.size w w' := by
  have hM := startT w hL
  obtain ⟨rs0, J0, m0, ao0, fr0, le0, hM0, vr0, hr0, hg0, hl0, hk0, hz0, hw0⟩ := row_in hM sz3 (by omega) (fun _ => rfl) h0
  obtain ⟨rs1, J1, m1, ao1, fr1, le1, hM1, vr1, hr1, hg1, hl1, hk1, hz1, hw1⟩ := row_in hM0 sz3 (by omega) (fun _ => rfl) h1
  obtain ⟨rs2, J2, m2, ao2, fr2, le2, hM2, vr2, hr2, hg2, hl2, hk2, hz2, hw2⟩ := row_in hM1 sz3 (by omega) (fun _ => rfl) h2
  obtain ⟨v', m', h, rfl⟩ := law_run (S := sums) (m := m2) rfl rfl ⟨rfl, rfl, rfl, rfl, rfl, rfl, rfl, rfl, rfl, rfl, rfl, rfl, rfl, rfl, rfl, rfl⟩ ⟨rfl, rfl, rfl, rfl, rfl, rfl, rfl, rfl, rfl, rfl, rfl, rfl, rfl, rfl, rfl⟩ rfl rfl ((hr0.keep hk1 (by simp)).keep hk2 (by simp)) (by have := hk1.1; have := hk2.1; omega) hz0 hw0 (hr1.keep hk2 (by simp)) (by have := hk2.1; omega) hz1 hw1 hr2 hl2 hz2 hw2 (((rd0.keep hk0 (by simp)).keep hk1 (by simp)).keep hk2 (by simp))
  exact calls_of mixed (Sh.tab_ok tab) sumsOk Tryd.func4 (by kernel_rfl) h rfl hM2 (.cons ((vr0.mono le1).mono le2) (.cons (vr1.mono le2) (.cons vr2 (.cons (.clo _ rfl) LRel.nil))))

theorem laidOut : laidOutB Tryd.prog = true := by kernel_rfl

theorem contract (H : Type) (enc : TypeId × Value → H) (W : World) (base : Nat) (args : Array Value) (ds gs : List (DataW H)) (before : List MemPlace)
    (hval : ∀ (j : Nat) t v, Tryd.f4.params[j]? = some t → args[j]? = some v → Value.okWide Tryd.prog W .any base t v)
    (hW : DataW.Whole enc Tryd.prog Tryd.f4.params.toList Rows.tokenPlacesSpec.vars false W args.toList ds gs before) (hL : laidMetH Tryd.prog Rows.tokenPlacesRow.laid W) :
    Calls Tryd.prog 4 args W fun e W' => ∃ v, e = .returned v ∧ Rows.tokenPlacesSpec.post enc Tryd.prog Tryd.f4 false true false false W args v W' := by
  have hW' := hW
  obtain ⟨p, q, hA0, hV, rfl, hfz, hnd⟩ := hW
  have hA : DataW.TrodAll enc Tryd.prog W 0 (fun _ => true) true Tryd.f4.params.toList args.toList ds p := hA0
  rw [Tryd.params4] at hA hval
  obtain ⟨v0, v1, v2, v3, d0, d1, d2, d3, p0, p1, p2, p3, rfl, rfl, rfl, t0, t1, t2, t3⟩ := trodAll_four hA
  obtain ⟨rfl, rfl⟩ := trodVars_none hV
  have hv0 := ints_row u22 u3 sz3 (hval 0 _ _ rfl rfl) t0
  have hv1 := ints_row u22 u3 sz3 (hval 1 _ _ rfl rfl) t1
  have hv2 := ints_row u22 u3 sz3 (hval 2 _ _ rfl rfl) t2
  obtain ⟨x3, rfl, rfl, rfl⟩ := open_bool u4 (hval 3 _ _ rfl rfl) t3
  clear hA0
  simp only [List.append_nil, List.nil_append] at hW'
  refine (walk W hL hv0 hv1 hv2 x3).mono fun e W' ⟨he, hg⟩ => ?_
  subst he
  have hlt0 : ∀ z ∈ p0, z.block < W.heap.size := fun z hz => hW'.lt z (by simp [hz])
  have hlt1 : ∀ z ∈ p1, z.block < W.heap.size := fun z hz => hW'.lt z (by simp [hz])
  have hlt2 : ∀ z ∈ p2, z.block < W.heap.size := fun z hz => hW'.lt z (by simp [hz])
  exact ⟨_, rfl, Sh.law_post (pa := (p0 ++ (p1 ++ (p2 ++ [])))) (pv := []) hW' hg (by simp) (fun sp hsp => trodAll_mk4 (WideElems.Trod_stays laidOut (by kernel_rfl) (of_decide_eq_true (by kernel_rfl)) t0 (fun z hz => hg.same (hlt0 z hz)) (fun z hz => hsp z (by simp [hz]))) (WideElems.Trod_stays laidOut (by kernel_rfl) (of_decide_eq_true (by kernel_rfl)) t1 (fun z hz => hg.same (hlt1 z hz)) (fun z hz => hsp z (by simp [hz]))) (WideElems.Trod_stays laidOut (by kernel_rfl) (of_decide_eq_true (by kernel_rfl)) t2 (fun z hz => hg.same (hlt2 z hz)) (fun z hz => hsp z (by simp [hz]))) (shut_bool u4 _)) (fun _ _ => rfl) (fun _ _ _ => (trodAll_cons_mk (shut_bool u4 _) trodAll_mk0))
    (ok_one (by kernel_rfl) rfl (okWide_bool_mk u4 _))⟩
/-- A world for the witness: the settled one, the listed variables holding what is laid. -/
noncomputable def laidWorld (os : Os) : World :=
  { World.holding Tryd.prog os ⟨#[], #[], []⟩ with heap := ((World.holding Tryd.prog os ⟨#[], #[], []⟩).heap).modify 0 (Sh.laidBlock (Rows.laid_turnstone_turnstonehand_words : DataW Unit)) }
theorem laid_met (os : Os) : laidMet Tryd.prog Rows.tokenPlacesRow.laid ((laidWorld os).forCall (fun _ _ => 0) ⟨#[], #[.slice none 0 0, .slice none 0 0, .slice none 0 0, .bool false], []⟩).memory :=
  laidMet_of_run' 8 (by kernel_rfl) (by kernel_rfl)
theorem reads (os : Os) {H : Type} (enc : TypeId × Value → H) : ∃ places, DataW.whole enc Tryd.prog ((laidWorld os).forCall (fun _ _ => 0) ⟨#[], #[.slice none 0 0, .slice none 0 0, .slice none 0 0, .bool false], []⟩).memory Tryd.f4.params.toList Rows.tokenPlacesSpec.vars false (#[.slice none 0 0, .slice none 0 0, .slice none 0 0, .bool false] : Array Value).toList 8 = some ([.nil, .nil, .nil, .lit (.bool false)], [], places) :=
  ⟨[], by kernel_rfl⟩

theorem lifted (os : Os) (started : os.Started) (H : Type) (enc : TypeId × Value → H) (F : Stop.Interp) :
    ReturnsInHanded {} Tryd.checked os 4 .any ((OpenSpec.ofChange Rows.tokenPlacesSpec).preRow enc Tryd.prog Tryd.f4 Rows.tokenPlacesRow.domain false Rows.tokenPlacesRow.laid) (((OpenSpec.ofChange Rows.tokenPlacesSpec).at F).post enc Tryd.prog Tryd.f4 false true false false) := by
  obtain ⟨places, hx⟩ := reads os enc
  refine returnsInHanded_of_row (C := Tryd.checked) (s := OpenSpec.ofChange Rows.tokenPlacesSpec) own started (by kernel_rfl) Tryd.func4
    (witness_row_at (enc := enc) (C := Tryd.checked) false (laidWorld os) #[.slice none 0 0, .slice none 0 0, .slice none 0 0, .bool false] rfl (by kernel_rfl) (by kernel_rfl) (by kernel_rfl)
      (OpenSpec.preRow_of_cond 8 hx (by kernel_rfl) (fun k hk => by cases hk) (by kernel_rfl) (laid_met os))) ?_
  intro W base args ds gs before hval hW _ _ hwt hL _ _
  exact contract H enc W base args ds gs before hval hW hL

theorem said : Rows.TokenPlacesSaid :=
  OpenClaim.holds_of_cond 4 Tryd.f4 rfl rfl rfl rfl rfl rfl rfl ⟨rfl, rfl, rfl, rfl, rfl⟩ rfl rfl rfl rfl rfl (by kernel_rfl) Tryd.func4 (by kernel_rfl)
    (of_decide_eq_true (by kernel_rfl)) (by unfold Func.isWrapper; first | (rw [if_pos (by decide +kernel)]; kernel_rfl) | (rw [if_neg (by decide +kernel)]; exact ⟨rfl, rfl⟩))
    (fun os started H enc _ F => by rw [OpenClaim.pre_eq_preRow]; exact lifted os started H enc F)

theorem plain (f : FuncId) (fn : Func) (hf : Tryd.pinned.checked.prog.funcNamed "turnstone/turnstonelaw3.TokenPlaces" = some f) (hfn : Tryd.pinned.checked.prog.funcs[f]? = some fn) :
    false = Tryd.pinned.checked.prog.looks [] ∧ ∀ (j : Nat) t, fn.params[j]? = some t → Tryd.pinned.checked.prog.wantsStandIn t = false := by
  obtain rfl : f = 4 := Option.some.inj ((show Tryd.prog.funcNamed "turnstone/turnstonelaw3.TokenPlaces" = some 4 by kernel_rfl).symm.trans hf) |>.symm
  obtain rfl : fn = Tryd.f4 := (Option.some.inj (Tryd.func4.symm.trans hfn)).symm
  refine ⟨by kernel_rfl, fun j t ht => ?_⟩
  rw [Tryd.params4] at ht
  rcases j with _ | _ | _ | _ | _
  all_goals first
    | (simp at ht; done)
    | (obtain rfl := Option.some.inj ht; kernel_rfl)
    | (simp at ht; subst ht; kernel_rfl)

theorem proved : Rows.TokenPlacesCardSaid :=
  Claim7.holds_tied_plain_at .later [] _ _ _ _ said (fun _ h => by cases h) (by kernel_rfl) (fun _ h => by cases h) tokenPlaces_row_tie rfl ⟨rfl, rfl⟩ (by kernel_rfl) rfl plain (by kernel_rfl)
#print axioms proved
end Go.Proofs.YtgomgdbapgibjaaDoor.tokenPlaces

