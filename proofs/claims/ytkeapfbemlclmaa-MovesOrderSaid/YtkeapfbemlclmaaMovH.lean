/-
  This text proves what the document's leads and Rings and the law's list answer over the abstract run.
  Condition: nothing is known of the calls ahead ('S f = []').
-/
import Derived.Test.YtkeapfbemlclmaaMovR
import Derived.Test.YtkeapfbemlclmaaMovG
set_option maxRecDepth 100000
set_option linter.unusedSimpArgs false
set_option linter.unusedVariables false
namespace Go.Proofs.Ytkeapfbemlclmaa.base
open Go.Sh gen
variable {S : Sums} {m : Mem}
theorem find_none {l : List Mv} {x : Int} (h : ∀ p ∈ l, p.2 ≠ x) : l.find? (fun p => decide (p.2 = x)) = none := List.find?_eq_none.2 fun p hp => by simpa using h p hp
theorem find_some {l : List Mv} {x : Int} {j : Nat} (hj : j < l.length) (h : ∀ p ∈ l.take j, p.2 ≠ x) (hx : l[j].2 = x) : l.find? (fun p => decide (p.2 = x)) = some l[j] := by
  have e : l = l.take j ++ (l[j] :: l.drop (j + 1)) := by rw [← List.drop_eq_getElem_cons hj]; exact (List.take_append_drop j l).symm
  generalize l[j] = p at *
  rw [e, List.find?_append, find_none h, Option.none_or, List.find?_cons]
  simp [hx]
set_option maxHeartbeats 4000000 in
theorem leads_run (hS : S 17 = []) {lo : Option Addr} {ls : List Mv} {lf le : Nat} (hl : Rs m lo ls.length (mvc ls) le 2 lf) (hlen : ls.length ≤ 1000) (y x : Int) :
    callw Try.prog TT S 17 [.slice lo ls.length ls.length, .int .i64 y, .int .i64 x] m = some (.bool (leadsGo ls y (ls.length + 1) x), m) := by
  refine fn_eq 10 [14, 19, 32, 38] k17 hS rfl ?_
  generalize hr : leadsGo ls y (ls.length + 1) x = r
  simp [-Int.natCast_add, -BitVec.toNat_or, -BitVec.toNat_ofInt, -BitVec.toNat_and, len_slice u22, index_slice u22 sz27, fieldAddr_of fa27_1, load_of ld3, fieldAddr_of fa27_0]
  refine wsem_loop 10 [14, 19, 32, 38] (fun d E m2 => ∃ (k : Nat) (x2 : Int), ls.length + 1 - k = d ∧ k ≤ ls.length + 1 ∧ r = leadsGo ls y (ls.length + 1 - k) x2 ∧ m2 = m ∧ E = [(0, .slice lo ls.length ls.length), (1, .int .i64 y), (7, .int .i64 x2), (8, .int .i64 k)]) _ ⟨_, ⟨0, x, rfl, by omega, hr.symm, rfl, rfl⟩, ⟨by rfl, by rfl, by rfl, by rfl, trivial⟩⟩ ?_
  clear hr
  rintro d E m2 ih ⟨k, x2, hd, hk, hx, rfl, rfl⟩
  by_cases hkl : k ≤ ls.length
  · have hkl' : (k : Int) ≤ ls.length := by omega
    have wk : IntKind.i64.wrap ((k : Int) + 1) = ((k + 1 : Nat) : Int) := by rw [wrap_i64 (by omega) (by omega)]; omega
    have ek : ls.length + 1 - k = (ls.length + 1 - (k + 1)) + 1 := by omega
    rw [ek, leadsGo] at hx
    by_cases c : x2 = y
    · rw [if_pos c] at hx
      simp [-Int.natCast_add, -BitVec.toNat_or, -BitVec.toNat_ofInt, -BitVec.toNat_and, len_slice u22, index_slice u22 sz27, fieldAddr_of fa27_1, load_of ld3, fieldAddr_of fa27_0, hkl', c, hx]
    · rw [if_neg c] at hx
      simp [-Int.natCast_add, -BitVec.toNat_or, -BitVec.toNat_ofInt, -BitVec.toNat_and, len_slice u22, index_slice u22 sz27, fieldAddr_of fa27_1, load_of ld3, fieldAddr_of fa27_0, hkl', c]
      refine wsem_loop 10 [14, 19, 32, 38] (fun d2 E m3 => ∃ j : Nat, ls.length - j = d2 ∧ j ≤ ls.length ∧ (∀ p ∈ ls.take j, p.2 ≠ x2) ∧ m3 = m2 ∧ E = [(0, .slice lo ls.length ls.length), (1, .int .i64 y), (7, .int .i64 x2), (8, .int .i64 k), (9, .int .i64 j)]) _ ⟨_, ⟨0, rfl, by omega, by simp, rfl, rfl⟩, ⟨by rfl, by rfl, by rfl, by rfl, by rfl, trivial⟩⟩ ?_
      rintro d2 E m3 ih2 ⟨j, hd2, hj, hno, rfl, rfl⟩
      by_cases hlt : j < ls.length
      · have em : (j : Int) ≤ 9223372036854775807 := by omega
        have hlt' : (j : Int) < ls.length := by omega
        have hne' : ¬ (j : Int) = ls.length := by omega
        have hne2 : ¬ j = ls.length := by omega
        have wj : IntKind.i64.wrap ((j : Int) + 1) = ((j + 1 : Nat) : Int) := by rw [wrap_i64 (by omega) (by omega)]; omega
        obtain ⟨lb, rfl, ol⟩ := hl.rdo (by omega)
        have l0 := ol.load1 (mvc_at0 hlt)
        have l1 := ol.load1 (mvc_at1 hlt)
        have et : ls.take (j + 1) = ls.take j ++ [ls[j]] := List.take_succ_eq_append_getElem hlt
        have hfs := find_some hlt hno
        obtain ⟨⟨u, v⟩, huv⟩ : ∃ p, ls[j] = p := ⟨_, rfl⟩
        rw [huv] at l0 l1 et hfs
        simp only at l0 l1 hfs
        by_cases c2 : v = x2
        · rw [hfs c2] at hx
          simp only at hx
          simp [-Int.natCast_add, -BitVec.toNat_or, -BitVec.toNat_ofInt, -BitVec.toNat_and, len_slice u22, index_slice u22 sz27, fieldAddr_of fa27_1, load_of ld3, fieldAddr_of fa27_0, hlt, hlt', hne', hne2, em, l0, l1, c2, wk]
          exact ih _ _ _ _ ⟨k + 1, u, rfl, by omega, hx, rfl, rfl⟩ (by omega) ⟨by rfl, by rfl, by rfl, by rfl, trivial⟩
        · simp [-Int.natCast_add, -BitVec.toNat_or, -BitVec.toNat_ofInt, -BitVec.toNat_and, len_slice u22, index_slice u22 sz27, fieldAddr_of fa27_1, load_of ld3, fieldAddr_of fa27_0, hlt, hlt', em, l0, l1, c2, wj]
          refine ih2 _ _ _ _ ⟨j + 1, rfl, by omega, ?_, rfl, rfl⟩ (by omega) ⟨by rfl, by rfl, by rfl, by rfl, by rfl, trivial⟩
          rw [et]
          intro p hp
          rcases List.mem_append.1 hp with hp | hp
          · exact hno p hp
          · simp at hp; subst hp; exact c2
      · have hlt' : ¬ (j : Int) < ls.length := by omega
        have ej : j = ls.length := by omega
        have ej' : (j : Int) = ls.length := by omega
        rw [ej, List.take_length] at hno
        rw [find_none hno] at hx
        simp only at hx
        simp [-Int.natCast_add, -BitVec.toNat_or, -BitVec.toNat_ofInt, -BitVec.toNat_and, len_slice u22, index_slice u22 sz27, fieldAddr_of fa27_1, load_of ld3, fieldAddr_of fa27_0, hlt', ej', hx]
  · have hkl' : ¬ (k : Int) ≤ ls.length := by omega
    have ek : ls.length + 1 - k = 0 := by omega
    rw [ek, leadsGo] at hx
    simp [-Int.natCast_add, -BitVec.toNat_or, -BitVec.toNat_ofInt, -BitVec.toNat_and, len_slice u22, index_slice u22 sz27, fieldAddr_of fa27_1, load_of ld3, fieldAddr_of fa27_0, hkl', hx]
set_option maxHeartbeats 8000000 in
theorem rings_run (hS : S 13 = []) (hL : S 17 = []) {lo : Option Addr} {ls : List Mv} {lf le : Nat} (hl : Rs m lo ls.length (mvc ls) le 2 lf) (hR : RightP ls) :
    ∃ n : Nat, callw Try.prog TT S 13 [.slice lo ls.length ls.length] m = some (.int .i64 n, m) ∧ gcount ls ls ≤ n ∧ n ≤ ls.length := by
  suffices h : ∃ v m1, callw Try.prog TT S 13 [.slice lo ls.length ls.length] m = some (v, m1) ∧ ∃ n : Nat, v = .int .i64 n ∧ gcount ls ls ≤ n ∧ n ≤ ls.length ∧ m1 = m by
    obtain ⟨_, _, h, n, rfl, hb, hc, rfl⟩ := h
    exact ⟨n, h, hb, hc⟩
  have hlen := hR.1
  have hnd := hR.2.2
  refine fn_w 11 [14, 30, 36, 59, 66, 101] k13 hS rfl ?_
  simp [-Int.natCast_add, -BitVec.toNat_or, -BitVec.toNat_ofInt, -BitVec.toNat_and, len_slice u22, index_slice u22 sz27, fieldAddr_of fa27_1, load_of ld3, fieldAddr_of fa27_0]
  refine wsem_loop 11 [14, 30, 36, 59, 66, 101] (fun d E m2 => ∃ (i n : Nat), ls.length - i = d ∧ i ≤ ls.length ∧ gcount ls (ls.take i) ≤ n ∧ n ≤ i ∧ m2 = m ∧ E = [(0, .slice lo ls.length ls.length), (3, .int .i64 n), (4, .int .i64 i)]) _ ⟨_, ⟨0, 0, rfl, by omega, by simp [gcount], by omega, rfl, rfl⟩, ⟨by rfl, by rfl, by rfl, trivial⟩⟩ ?_
  rintro d E m2 ih ⟨i, n, hd, hi, hgc, hni, rfl, rfl⟩
  by_cases hlt : i < ls.length
  · have em : (i : Int) ≤ 9223372036854775807 := by omega
    have hlt' : (i : Int) < ls.length := by omega
    have wi : IntKind.i64.wrap ((i : Int) + 1) = ((i + 1 : Nat) : Int) := by rw [wrap_i64 (by omega) (by omega)]; omega
    have wn : IntKind.i64.wrap ((n : Int) + 1) = ((n + 1 : Nat) : Int) := by rw [wrap_i64 (by omega) (by omega)]; omega
    obtain ⟨lb, rfl, ol⟩ := hl.rdo (by omega)
    have l0 := ol.load1 (mvc_at0 hlt)
    have l1 := ol.load1 (mvc_at1 hlt)
    have et : ls.take (i + 1) = ls.take i ++ [ls[i]] := List.take_succ_eq_append_getElem hlt
    have hgs := gcount_snoc ls (ls.take i) ls[i]
    rw [← et] at hgs
    obtain ⟨⟨u, x⟩, hux⟩ : ∃ p, ls[i] = p := ⟨_, rfl⟩
    rw [hux] at l0 l1 hgs
    simp only at l0 l1 hgs
    clear et hux
    simp [-Int.natCast_add, -BitVec.toNat_or, -BitVec.toNat_ofInt, -BitVec.toNat_and, len_slice u22, index_slice u22 sz27, fieldAddr_of fa27_1, load_of ld3, fieldAddr_of fa27_0, hlt, hlt', em, l0, l1]
    refine wsem_loop 11 [14, 30, 36, 59, 66, 101] (fun d2 E m3 => ∃ (k : Nat) (p lst : Int) (cl : Bool), 2 * (ls.length + 1 - k) + (if cl then 0 else 1) = d2 ∧ k ≤ ls.length + 1 ∧ (∀ c, Orb (srcOf ls) (tos ls) x c → p = itr (srcOf ls) ((c - 1) * k) x ∧ lst = x ∧ (cl = false → k < c)) ∧ m3 = m2 ∧ E = [(0, .slice (some ⟨lb, 0, none⟩) ls.length ls.length), (3, .int .i64 n), (4, .int .i64 i), (5, .int .i64 p), (6, .int .i64 lst), (7, .bool cl), (8, .int .i64 k)]) _ ⟨_, ⟨0, x, x, false, rfl, by omega, fun c hc => ⟨by rw [Nat.mul_zero]; rfl, rfl, fun _ => hc.pos⟩, rfl, rfl⟩, ⟨by rfl, by rfl, by rfl, by rfl, by rfl, by rfl, by rfl, trivial⟩⟩ ?_
    rintro d2 E m3 ih2 ⟨k, p, lst, cl, hd2, hk, hinv, rfl, rfl⟩
    by_cases hgo : k ≤ ls.length ∧ cl = false
    · obtain ⟨hkl, rfl⟩ := hgo
      have hkl' : (k : Int) ≤ ls.length := by omega
      have wk : IntKind.i64.wrap ((k : Int) + 1) = ((k + 1 : Nat) : Int) := by rw [wrap_i64 (by omega) (by omega)]; omega
      simp [-Int.natCast_add, -BitVec.toNat_or, -BitVec.toNat_ofInt, -BitVec.toNat_and, len_slice u22, index_slice u22 sz27, fieldAddr_of fa27_1, load_of ld3, fieldAddr_of fa27_0, hkl', hkl]
      refine wsem_loop 11 [14, 30, 36, 59, 66, 101] (fun d3 E m4 => ∃ (q : Nat), ls.length - q = d3 ∧ q ≤ ls.length ∧ m4 = m3 ∧ E = [(0, .slice (some ⟨lb, 0, none⟩) ls.length ls.length), (3, .int .i64 n), (4, .int .i64 i), (5, .int .i64 p), (6, .int .i64 lst), (7, .bool false), (8, .int .i64 k), (9, .int .i64 (nxt ls x p (ls.take q))), (10, .int .i64 q)]) _ ⟨_, ⟨0, rfl, by omega, rfl, rfl⟩, ⟨by rfl, by rfl, by rfl, by rfl, by rfl, by rfl, by rfl, by rfl, by rfl, trivial⟩⟩ ?_
      rintro d3 E m4 ih3 ⟨q, hd3, hq, rfl, rfl⟩
      by_cases hql : q < ls.length
      · have eq : (q : Int) ≤ 9223372036854775807 := by omega
        have hql' : (q : Int) < ls.length := by omega
        have wq : IntKind.i64.wrap ((q : Int) + 1) = ((q + 1 : Nat) : Int) := by rw [wrap_i64 (by omega) (by omega)]; omega
        have q0 := ol.load1 (mvc_at0 hql)
        have q1 := ol.load1 (mvc_at1 hql)
        have et2 : ls.take (q + 1) = ls.take q ++ [ls[q]] := List.take_succ_eq_append_getElem hql
        have hns := nxt_snoc ls x p (ls.take q) ls[q]
        rw [← et2] at hns
        obtain ⟨⟨a, b⟩, hab⟩ : ∃ p, ls[q] = p := ⟨_, rfl⟩
        rw [hab] at q0 q1 hns
        simp only at q0 q1 hns
        have cl := leads_run (m := m4) hL hl (by omega) b x
        generalize nxt ls x p (ls.take q) = z at *
        by_cases c1 : a = p
        · by_cases c2 : leadsGo ls b (ls.length + 1) x = true
          · rw [if_pos ⟨c1, c2⟩] at hns
            simp [-Int.natCast_add, -BitVec.toNat_or, -BitVec.toNat_ofInt, -BitVec.toNat_and, len_slice u22, index_slice u22 sz27, fieldAddr_of fa27_1, load_of ld3, fieldAddr_of fa27_0, hql, hql', hlt, hlt', em, eq, q0, q1, l1, c1, cl, c2, wq]
            exact ih3 _ _ _ _ ⟨q + 1, rfl, by omega, rfl, rfl⟩ (by omega) ⟨by rfl, by rfl, by rfl, by rfl, by rfl, by rfl, by rfl, by simp [lget, hns], by rfl, trivial⟩
          · rw [if_neg (fun h => c2 h.2)] at hns
            simp [-Int.natCast_add, -BitVec.toNat_or, -BitVec.toNat_ofInt, -BitVec.toNat_and, len_slice u22, index_slice u22 sz27, fieldAddr_of fa27_1, load_of ld3, fieldAddr_of fa27_0, hql, hql', hlt, hlt', em, eq, q0, q1, l1, c1, cl, c2, wq]
            exact ih3 _ _ _ _ ⟨q + 1, rfl, by omega, rfl, rfl⟩ (by omega) ⟨by rfl, by rfl, by rfl, by rfl, by rfl, by rfl, by rfl, by simp [lget, hns], by rfl, trivial⟩
        · rw [if_neg (fun h => c1 h.1)] at hns
          simp [-Int.natCast_add, -BitVec.toNat_or, -BitVec.toNat_ofInt, -BitVec.toNat_and, len_slice u22, index_slice u22 sz27, fieldAddr_of fa27_1, load_of ld3, fieldAddr_of fa27_0, hql, hql', em, eq, q0, q1, c1, wq]
          exact ih3 _ _ _ _ ⟨q + 1, rfl, by omega, rfl, rfl⟩ (by omega) ⟨by rfl, by rfl, by rfl, by rfl, by rfl, by rfl, by rfl, by simp [lget, hns], by rfl, trivial⟩
      · have hql' : ¬ (q : Int) < ls.length := by omega
        have eq : ls.take q = ls := List.take_of_length_le (by omega)
        rw [eq]
        clear ih3
        have hz : ∀ c, Orb (srcOf ls) (tos ls) x c → nxt ls x p ls = itr (srcOf ls) ((c - 1) * (k + 1)) x := fun c hc => by
          rw [(hinv c hc).1, nxt_ring hnd hc, Nat.mul_add, Nat.mul_one, Nat.add_comm]
        generalize nxt ls x p ls = z at *
        by_cases hz0 : z < 0
        · have hno : ¬ Good (srcOf ls) (tos ls) x := fun hG => by
            obtain ⟨c, hc⟩ := hG.orb
            have h1 := (hc.all ((c - 1) * (k + 1))).1
            rw [← hz c hc] at h1
            obtain ⟨w, hw, _, e⟩ := tos_mem.1 h1
            have := (hR.2.1 w hw).2.2.1
            omega
          rw [if_neg (fun h => hno h.1)] at hgs
          simp [-Int.natCast_add, -BitVec.toNat_or, -BitVec.toNat_ofInt, -BitVec.toNat_and, len_slice u22, index_slice u22 sz27, fieldAddr_of fa27_1, load_of ld3, fieldAddr_of fa27_0, hql', hz0, wi]
          exact ih _ _ _ _ ⟨i + 1, n, rfl, by omega, by omega, by omega, rfl, rfl⟩ (by omega) ⟨by rfl, by rfl, by rfl, trivial⟩
        · simp [-Int.natCast_add, -BitVec.toNat_or, -BitVec.toNat_ofInt, -BitVec.toNat_and, len_slice u22, index_slice u22 sz27, fieldAddr_of fa27_1, load_of ld3, fieldAddr_of fa27_0, hql', hz0, hlt, hlt', em, l1, wk]
          refine ih2 _ _ _ _ ⟨k + 1, z, if z < lst then z else lst, decide (z = x), rfl, by omega, fun c hc => ?_, rfl, rfl⟩ ?_ ⟨by rfl, by rfl, by rfl, by rfl, by rfl, by rfl, by rfl, trivial⟩
          · have h1 := hz c hc
            have h2 := (hc.all ((c - 1) * (k + 1))).2
            rw [← h1] at h2
            obtain ⟨_, e2, e3⟩ := hinv c hc
            refine ⟨h1, ?_, fun hne => ?_⟩
            · rw [e2, if_neg (by omega)]
            · have h3 := e3 rfl
              by_cases hkc : k + 1 = c
              · exfalso
                rw [hkc, itr_per hc.per] at h1
                simp [h1] at hne
              · omega
          · have h5 : (if decide (z = x) = true then 0 else 1) ≤ 1 := by split <;> omega
            omega
    · by_cases hcl : cl = true
      · subst hcl
        have hg2 : Good (srcOf ls) (tos ls) x → lst = x := fun hG => by
          obtain ⟨c, hc⟩ := hG.orb
          exact (hinv c hc).2.1
        by_cases c1 : lst = x
        · by_cases c2 : u = x
          · rw [if_neg (fun h => h.2 c2)] at hgs
            by_cases hkl : k ≤ ls.length
            · have hkl' : (k : Int) ≤ ls.length := by omega
              simp [-Int.natCast_add, -BitVec.toNat_or, -BitVec.toNat_ofInt, -BitVec.toNat_and, len_slice u22, index_slice u22 sz27, fieldAddr_of fa27_1, load_of ld3, fieldAddr_of fa27_0, hkl', hkl, hlt, hlt', em, l0, l1, c1, c2, wi]
              exact ih _ _ _ _ ⟨i + 1, n, rfl, by omega, by omega, by omega, rfl, rfl⟩ (by omega) ⟨by rfl, by rfl, by rfl, trivial⟩
            · have hkl' : ¬ (k : Int) ≤ ls.length := by omega
              simp [-Int.natCast_add, -BitVec.toNat_or, -BitVec.toNat_ofInt, -BitVec.toNat_and, len_slice u22, index_slice u22 sz27, fieldAddr_of fa27_1, load_of ld3, fieldAddr_of fa27_0, hkl', hkl, hlt, hlt', em, l0, l1, c1, c2, wi]
              exact ih _ _ _ _ ⟨i + 1, n, rfl, by omega, by omega, by omega, rfl, rfl⟩ (by omega) ⟨by rfl, by rfl, by rfl, trivial⟩
          · have hgs2 : gcount ls (ls.take (i + 1)) ≤ n + 1 := by rw [hgs]; split <;> omega
            by_cases hkl : k ≤ ls.length
            · have hkl' : (k : Int) ≤ ls.length := by omega
              simp [-Int.natCast_add, -BitVec.toNat_or, -BitVec.toNat_ofInt, -BitVec.toNat_and, len_slice u22, index_slice u22 sz27, fieldAddr_of fa27_1, load_of ld3, fieldAddr_of fa27_0, hkl', hkl, hlt, hlt', em, l0, l1, c1, c2, wi, wn]
              exact ih _ _ _ _ ⟨i + 1, n + 1, rfl, by omega, by omega, by omega, rfl, rfl⟩ (by omega) ⟨by rfl, by rfl, by rfl, trivial⟩
            · have hkl' : ¬ (k : Int) ≤ ls.length := by omega
              simp [-Int.natCast_add, -BitVec.toNat_or, -BitVec.toNat_ofInt, -BitVec.toNat_and, len_slice u22, index_slice u22 sz27, fieldAddr_of fa27_1, load_of ld3, fieldAddr_of fa27_0, hkl', hkl, hlt, hlt', em, l0, l1, c1, c2, wi, wn]
              exact ih _ _ _ _ ⟨i + 1, n + 1, rfl, by omega, by omega, by omega, rfl, rfl⟩ (by omega) ⟨by rfl, by rfl, by rfl, trivial⟩
        · rw [if_neg (fun h => c1 (hg2 h.1))] at hgs
          by_cases hkl : k ≤ ls.length
          · have hkl' : (k : Int) ≤ ls.length := by omega
            simp [-Int.natCast_add, -BitVec.toNat_or, -BitVec.toNat_ofInt, -BitVec.toNat_and, len_slice u22, index_slice u22 sz27, fieldAddr_of fa27_1, load_of ld3, fieldAddr_of fa27_0, hkl', hkl, hlt, hlt', em, l0, l1, c1, wi]
            exact ih _ _ _ _ ⟨i + 1, n, rfl, by omega, by omega, by omega, rfl, rfl⟩ (by omega) ⟨by rfl, by rfl, by rfl, trivial⟩
          · have hkl' : ¬ (k : Int) ≤ ls.length := by omega
            simp [-Int.natCast_add, -BitVec.toNat_or, -BitVec.toNat_ofInt, -BitVec.toNat_and, len_slice u22, index_slice u22 sz27, fieldAddr_of fa27_1, load_of ld3, fieldAddr_of fa27_0, hkl', hkl, hlt, hlt', em, l0, l1, c1, wi]
            exact ih _ _ _ _ ⟨i + 1, n, rfl, by omega, by omega, by omega, rfl, rfl⟩ (by omega) ⟨by rfl, by rfl, by rfl, trivial⟩
      · have hcl0 : cl = false := by simpa using hcl
        subst hcl0
        have hkl : ¬ k ≤ ls.length := fun h => hgo ⟨h, rfl⟩
        have hkl' : ¬ (k : Int) ≤ ls.length := by omega
        have hno : ¬ Good (srcOf ls) (tos ls) x := fun hG => by
          obtain ⟨c, hc⟩ := hG.orb
          have h1 := (hinv c hc).2.2 rfl
          have h2 := hc.le
          have h3 := tos_len ls
          omega
        rw [if_neg (fun h => hno h.1)] at hgs
        simp [-Int.natCast_add, -BitVec.toNat_or, -BitVec.toNat_ofInt, -BitVec.toNat_and, len_slice u22, index_slice u22 sz27, fieldAddr_of fa27_1, load_of ld3, fieldAddr_of fa27_0, hkl', hkl, hlt, hlt', em, l0, l1, wi]
        exact ih _ _ _ _ ⟨i + 1, n, rfl, by omega, by omega, by omega, rfl, rfl⟩ (by omega) ⟨by rfl, by rfl, by rfl, trivial⟩
  · have hlt' : ¬ (i : Int) < ls.length := by omega
    have ei : ls.take i = ls := List.take_of_length_le (by omega)
    rw [ei] at hgc
    simp [-Int.natCast_add, -BitVec.toNat_or, -BitVec.toNat_ofInt, -BitVec.toNat_and, len_slice u22, index_slice u22 sz27, fieldAddr_of fa27_1, load_of ld3, fieldAddr_of fa27_0, hlt']
    exact ⟨n, rfl, hgc, by omega⟩
set_option maxHeartbeats 4000000 in
/-- the law's moves -/
theorem list_run (hS : S 10 = []) (hP : S 11 = []) (hRM : S 14 = []) {lo : Option Addr} {ls : List Mv} {lf le : Nat} (hl : Rs m lo ls.length (mvc ls) le 2 lf) (few : Int) :
    ∃ v m1, callw Try.prog TT S 10 [.slice lo ls.length ls.length, .int .i64 few] m = some (v, m1) ∧ (∃ (oa : Option Addr) (w : List Mv) (fo : Nat), v = .slice oa w.length w.length ∧ Rs m1 oa w.length (mvc w) 27 2 fo ∧ RightP w ∧ w.length ≤ 40 ∧ (w.length = 0 → oa = none) ∧ ∀ p ∈ w, p.1 < 32 ∧ p.2 < 32) ∧ Keeps m m1 [] := by
  have pf := fun m' => pick_run (m := m') hP few 30 (by omega) (by omega)
  have f1 := Int.emod_nonneg few (by omega : (30 : Int) ≠ 0)
  have f2 := Int.emod_lt_of_pos few (by omega : (0 : Int) < 30)
  obtain ⟨fw, hfw⟩ : ∃ fw : Int, 2 + few % 30 = fw := ⟨_, rfl⟩
  have wf : IntKind.i64.wrap (2 + few % 30) = fw := by rw [wrap_i64 (by omega) (by omega)]; omega
  have fw1 : 2 ≤ fw ∧ fw ≤ 31 := by omega
  refine fn_w 9 [19, 44] k10 hS rfl ?_
  simp [-Int.natCast_add, -BitVec.toNat_or, -BitVec.toNat_ofInt, -BitVec.toNat_and, len_slice u22, index_slice u22 sz27, fieldAddr_of fa27_0, load_of ld3, fieldAddr_of fa27_1, build_of bo27, alloc_of zo27, store_of sz27, buildSlice_of u22 bs27 rfl, append_s u22 sz27, load_agg ld27, pf, wf]
  clear pf f1 f2 hfw wf
  refine wsem_loop 9 [19, 44] (fun d E m2 => ∃ (i : Nat) (oa : Option Addr) (w : List Mv) (fo : Nat), 40 - i = d ∧ i ≤ 40 ∧ w.length ≤ i ∧ (w.length = 0 → oa = none) ∧ Rs m2 oa w.length (mvc w) 27 2 fo ∧ RightP w ∧ (∀ p ∈ w, p.1 < 32 ∧ p.2 < 32) ∧ Keeps m m2 [] ∧ E = [(0, .slice lo ls.length ls.length), (1, .int .i64 fw), (5, .slice oa w.length w.length), (6, .int .i64 i)]) _ ⟨_, ⟨0, none, [], 0, rfl, by omega, by simp, fun _ => rfl, ⟨rfl, Or.inl rfl⟩, ⟨by simp, by simp [InP], by simp⟩, by simp, Keeps.refl _ _, rfl⟩, ⟨by rfl, by rfl, by rfl, by rfl, trivial⟩⟩ ?_
  rintro d E m2 ih ⟨i, oa, w, fo, hd, hi, hwl, hw0, hw, hwR, hwb, k2, rfl⟩
  by_cases hgo : i < ls.length ∧ i < 40
  · obtain ⟨hlt, hlt4⟩ := hgo
    have em : (i : Int) ≤ 9223372036854775807 := by omega
    have hlt' : (i : Int) < ls.length := by omega
    have hlt4' : (i : Int) < 40 := by omega
    have wi : IntKind.i64.wrap ((i : Int) + 1) = ((i + 1 : Nat) : Int) := by rw [wrap_i64 (by omega) (by omega)]; omega
    obtain ⟨lb, rfl, ol⟩ := (hl.keep k2 (by simp)).rdo (by omega)
    have l0 := ol.load1 (mvc_at0 hlt)
    have l1 := ol.load1 (mvc_at1 hlt)
    obtain ⟨⟨x, y⟩, hxy⟩ : ∃ p, ls[i] = p := ⟨_, rfl⟩
    rw [hxy] at l0 l1
    simp only at l0 l1
    have pk1 := fun m' => pick_run (m := m') hP x fw (by omega) (by omega)
    have pk2 := fun m' => pick_run (m := m') hP y fw (by omega) (by omega)
    have x1 := Int.emod_nonneg x (by omega : fw ≠ 0)
    have x2 := Int.emod_lt_of_pos x (by omega : (0 : Int) < fw)
    have y1 := Int.emod_nonneg y (by omega : fw ≠ 0)
    have y2 := Int.emod_lt_of_pos y (by omega : (0 : Int) < fw)
    generalize x % fw = x' at *
    generalize y % fw = y' at *
    simp [-Int.natCast_add, -BitVec.toNat_or, -BitVec.toNat_ofInt, -BitVec.toNat_and, len_slice u22, index_slice u22 sz27, fieldAddr_of fa27_0, load_of ld3, fieldAddr_of fa27_1, build_of bo27, alloc_of zo27, store_of sz27, buildSlice_of u22 bs27 rfl, append_s u22 sz27, load_agg ld27, hlt, hlt', hlt4, hlt4', em, l0, l1, pk1, pk2]
    obtain ⟨o3, k3, n3⟩ := new_own (m := m2) (cs := [.int .i64 0, .int .i64 0]) (e := 27) rfl
    obtain ⟨m4, e4, o4, k4⟩ := store_own (r := _) rfl o3 (off := 0) (vs := [.int .i64 x', .int .i64 y']) (by simp) (by simp [one_int])
    simp [over] at o4
    have k24 := k3.fresh k4 (by simp)
    have l04 := (ol.keep k24 (by simp)).load1 (mvc_at0 hlt)
    have l14 := (ol.keep k24 (by simp)).load1 (mvc_at1 hlt)
    have l03 := (ol.keep k3 (by simp)).load1 (mvc_at0 hlt)
    have l13 := (ol.keep k3 (by simp)).load1 (mvc_at1 hlt)
    rw [hxy] at l04 l14 l03 l13
    simp only at l04 l14 l03 l13
    have lx4 := o4.load (off := 0) 2 (by simp)
    simp [window] at lx4
    have hw4 := hw.keep k24 (by simp)
    have kk := k2.trans k24
    obtain ⟨on, kn, nn⟩ := new_own (m := m4) (cs := []) (e := 27) rfl
    have lx4n := (o4.keep kn (by simp)).load (off := 0) 2 (by simp)
    simp [window] at lx4n
    by_cases hz : w.length = 0
    · have hn := hw0 hz
      subst hn
      have hwn := List.length_eq_zero_iff.1 hz
      subst hwn
      simp [-Int.natCast_add, -BitVec.toNat_or, -BitVec.toNat_ofInt, -BitVec.toNat_and, len_slice u22, index_slice u22 sz27, fieldAddr_of fa27_0, load_of ld3, fieldAddr_of fa27_1, build_of bo27, alloc_of zo27, store_of sz27, buildSlice_of u22 bs27 rfl, append_s u22 sz27, load_agg ld27, e4, l0, l1, l04, l14, l03, l13, lx4, lx4n]
      generalize hra : sappend _ _ _ _ _ _ = ra
      obtain ⟨m5, nb5, rfl, o5, k5⟩ := app_own hra u22 ap27 on (by simp) (by simp) (by simp) (by omega) (by omega)
      simp only [List.append_nil] at o5
      have o5x := (o4.keep kn (by simp)).keep k5 (by have := o4.flt; simp; omega)
      have lx5 := o5x.load (off := 0) 2 (by simp)
      simp [window] at lx5
      have lx5n := (o5x.ln [.int .i64 x', .int .i64 y'] 27 0 2).trans lx5
      simp [-Int.natCast_add, -BitVec.toNat_or, -BitVec.toNat_ofInt, -BitVec.toNat_and, len_slice u22, index_slice u22 sz27, fieldAddr_of fa27_0, load_of ld3, fieldAddr_of fa27_1, build_of bo27, alloc_of zo27, store_of sz27, buildSlice_of u22 bs27 rfl, append_s u22 sz27, load_agg ld27, e4, l0, l1, l04, l14, l03, l13, lx4, lx4n, lx5, lx5n]
      generalize hrb : sappend _ _ _ _ _ _ = rb
      obtain ⟨m6, nb6, rfl, o6, k6⟩ := app_own_new hrb u22 ap27 o5 (by simp) (by simp) (by simp [one_int]) (by omega) (by omega)
      have o6x := o5x.keep k6 (by have := o4.flt; simp; omega)
      have lx6 := o6x.load (off := 0) 2 (by simp)
      simp [window] at lx6
      have hmc : ([] : List Value) ++ [.int .i64 x', .int .i64 y'] = mvc (([] : List Mv) ++ [(x', y')]) := by simp [mvc]
      rw [hmc] at o6
      have k46 : Keeps m4 m6 [] := ((kn.fresh k5 (by simp)).fresh k6 (by simp))
      have s6 : Rs m6 (some ⟨nb6, 0, none⟩) (([] : List Mv) ++ [(x', y')]).length (mvc (([] : List Mv) ++ [(x', y')])) 27 2 m4.next := (Sl.of o6 (by rw [mvc_len])).rs
      obtain ⟨b, cR, hb⟩ := refright_run (m := m6) hRM s6 (by first | (simp; done) | (simp; omega))
      have cR' : callw Try.prog TT S 14 [.slice (some ⟨nb6, 0, none⟩) 1 1] m6 = some (.bool b, m6) := cR
      cases b with
      | true =>
        simp [-Int.natCast_add, -BitVec.toNat_or, -BitVec.toNat_ofInt, -BitVec.toNat_and, len_slice u22, index_slice u22 sz27, fieldAddr_of fa27_0, load_of ld3, fieldAddr_of fa27_1, build_of bo27, alloc_of zo27, store_of sz27, buildSlice_of u22 bs27 rfl, append_s u22 sz27, load_agg ld27, lx4, lx4n, lx5, lx5n, lx6, cR', wi]
        have hnew := hb.1 rfl
        refine ih _ _ _ _ ⟨i + 1, _, ([] : List Mv) ++ [(x', y')], _, rfl, by omega, by first | (simp; done) | (simp; omega), fun h => by simp at h, s6, hnew, ?_, kk.trans k46, rfl⟩ (by omega) ⟨by rfl, by rfl, by simp [lget], by rfl, trivial⟩
        intro p hp
        rcases List.mem_append.1 hp with hp | hp
        · exact hwb p hp
        · simp at hp; subst hp; exact ⟨by simp only; omega, by simp only; omega⟩
      | false =>
        simp [-Int.natCast_add, -BitVec.toNat_or, -BitVec.toNat_ofInt, -BitVec.toNat_and, len_slice u22, index_slice u22 sz27, fieldAddr_of fa27_0, load_of ld3, fieldAddr_of fa27_1, build_of bo27, alloc_of zo27, store_of sz27, buildSlice_of u22 bs27 rfl, append_s u22 sz27, load_agg ld27, lx4, lx4n, lx5, lx5n, lx6, cR', wi]
        exact ih _ _ _ _ ⟨i + 1, _, [], fo, rfl, by omega, by omega, hw0, hw4.keep k46 (by simp), hwR, hwb, kk.trans k46, rfl⟩ (by omega) ⟨by rfl, by rfl, by simp [lget], by rfl, trivial⟩
    · obtain ⟨wb, hoa, ow⟩ := hw4.rdo hz
      have lw := ((ow.keep kn (by simp)).load (off := 0) (w.length * 2) (by rw [mvc_len]; omega))
      have ww : window (mvc w) 0 (w.length * 2) = mvc w := by
        simp only [window, List.drop_zero]
        exact List.take_of_length_le (by rw [mvc_len]; omega)
      rw [ww] at lw
      simp [-Int.natCast_add, -BitVec.toNat_or, -BitVec.toNat_ofInt, -BitVec.toNat_and, len_slice u22, index_slice u22 sz27, fieldAddr_of fa27_0, load_of ld3, fieldAddr_of fa27_1, build_of bo27, alloc_of zo27, store_of sz27, buildSlice_of u22 bs27 rfl, append_s u22 sz27, load_agg ld27, e4, l0, l1, l04, l14, l03, l13, lx4, lx4n, hoa, hz, lw]
      generalize hra : sappend _ _ _ _ _ _ = ra
      obtain ⟨m5, nb5, rfl, o5, k5⟩ := app_own hra u22 ap27 on (by simp) (by rw [mvc_len]) (by simp [one_int]) (by omega) (by omega)
      simp only [Nat.zero_add, List.nil_append] at o5
      have o5x := (o4.keep kn (by simp)).keep k5 (by have := o4.flt; simp; omega)
      have lx5 := o5x.load (off := 0) 2 (by simp)
      simp [window] at lx5
      have lx5n := (o5x.ln [.int .i64 x', .int .i64 y'] 27 0 2).trans lx5
      simp [-Int.natCast_add, -BitVec.toNat_or, -BitVec.toNat_ofInt, -BitVec.toNat_and, len_slice u22, index_slice u22 sz27, fieldAddr_of fa27_0, load_of ld3, fieldAddr_of fa27_1, build_of bo27, alloc_of zo27, store_of sz27, buildSlice_of u22 bs27 rfl, append_s u22 sz27, load_agg ld27, e4, l0, l1, l04, l14, l03, l13, lx4, lx4n, lx5, lx5n]
      generalize hrb : sappend _ _ _ _ _ _ = rb
      obtain ⟨m6, nb6, rfl, o6, k6⟩ := app_own_new hrb u22 ap27 o5 (by rw [mvc_len]) (by simp) (by simp [one_int]) (by omega) (by omega)
      have o6x := o5x.keep k6 (by have := o4.flt; simp; omega)
      have lx6 := o6x.load (off := 0) 2 (by simp)
      simp [window] at lx6
      have hmc : mvc w ++ [.int .i64 x', .int .i64 y'] = mvc (w ++ [(x', y')]) := by simp [mvc]
      rw [hmc] at o6
      have k46 : Keeps m4 m6 [] := ((kn.fresh k5 (by simp)).fresh k6 (by simp))
      have s6 : Rs m6 (some ⟨nb6, 0, none⟩) (w ++ [(x', y')]).length (mvc (w ++ [(x', y')])) 27 2 m4.next := (Sl.of o6 (by rw [mvc_len])).rs
      obtain ⟨b, cR, hb⟩ := refright_run (m := m6) hRM s6 (by first | (simp; done) | (simp; omega))
      have cR' : callw Try.prog TT S 14 [.slice (some ⟨nb6, 0, none⟩) (w.length + 1) (w.length + 1)] m6 = some (.bool b, m6) := by rw [List.length_append] at cR; exact cR
      cases b with
      | true =>
        simp [-Int.natCast_add, -BitVec.toNat_or, -BitVec.toNat_ofInt, -BitVec.toNat_and, len_slice u22, index_slice u22 sz27, fieldAddr_of fa27_0, load_of ld3, fieldAddr_of fa27_1, build_of bo27, alloc_of zo27, store_of sz27, buildSlice_of u22 bs27 rfl, append_s u22 sz27, load_agg ld27, lx4, lx4n, lx5, lx5n, lx6, cR', wi]
        have hnew := hb.1 rfl
        refine ih _ _ _ _ ⟨i + 1, _, w ++ [(x', y')], _, rfl, by omega, by first | (simp; done) | (simp; omega), fun h => by simp at h, s6, hnew, ?_, kk.trans k46, rfl⟩ (by omega) ⟨by rfl, by rfl, by simp [lget], by rfl, trivial⟩
        intro p hp
        rcases List.mem_append.1 hp with hp | hp
        · exact hwb p hp
        · simp at hp; subst hp; exact ⟨by simp only; omega, by simp only; omega⟩
      | false =>
        simp [-Int.natCast_add, -BitVec.toNat_or, -BitVec.toNat_ofInt, -BitVec.toNat_and, len_slice u22, index_slice u22 sz27, fieldAddr_of fa27_0, load_of ld3, fieldAddr_of fa27_1, build_of bo27, alloc_of zo27, store_of sz27, buildSlice_of u22 bs27 rfl, append_s u22 sz27, load_agg ld27, lx4, lx4n, lx5, lx5n, lx6, cR', wi]
        exact ih _ _ _ _ ⟨i + 1, _, w, fo, rfl, by omega, by omega, hw0, hw4.keep k46 (by simp), hwR, hwb, kk.trans k46, rfl⟩ (by omega) ⟨by rfl, by rfl, by simp [lget, hoa], by rfl, trivial⟩
  · by_cases hlt : i < ls.length
    · have hlt' : (i : Int) < ls.length := by omega
      have hlt4 : ¬ i < 40 := fun h => hgo ⟨hlt, h⟩
      have hlt4' : ¬ (i : Int) < 40 := by omega
      simp [-Int.natCast_add, -BitVec.toNat_or, -BitVec.toNat_ofInt, -BitVec.toNat_and, len_slice u22, index_slice u22 sz27, fieldAddr_of fa27_0, load_of ld3, fieldAddr_of fa27_1, build_of bo27, alloc_of zo27, store_of sz27, buildSlice_of u22 bs27 rfl, append_s u22 sz27, load_agg ld27, hlt, hlt', hlt4, hlt4']
      exact ⟨⟨oa, w, ⟨rfl, rfl⟩, ⟨fo, hw⟩, hwR, by omega, fun h => hw0 (by simp [h]), fun a b h => hwb (a, b) h⟩, k2⟩
    · have hlt' : ¬ (i : Int) < ls.length := by omega
      simp [-Int.natCast_add, -BitVec.toNat_or, -BitVec.toNat_ofInt, -BitVec.toNat_and, len_slice u22, index_slice u22 sz27, fieldAddr_of fa27_0, load_of ld3, fieldAddr_of fa27_1, build_of bo27, alloc_of zo27, store_of sz27, buildSlice_of u22 bs27 rfl, append_s u22 sz27, load_agg ld27, hlt, hlt']
      exact ⟨⟨oa, w, ⟨rfl, rfl⟩, ⟨fo, hw⟩, hwR, by omega, fun h => hw0 (by simp [h]), fun a b h => hwb (a, b) h⟩, k2⟩
end Go.Proofs.Ytkeapfbemlclmaa.base

