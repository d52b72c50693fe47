/-
  This text proves what moves.Right, moves.Order and the document's RightMoves answer over the abstract run.
  Condition: nothing is known of the calls ahead ('S f = []').
-/
import Derived.Test.YtkeapfbemlclmaaMovD
set_option maxRecDepth 100000
set_option linter.unusedSimpArgs false
set_option linter.unusedVariables false
namespace Go.Proofs.Ytkeapfbemlclmaa.base
open Go.Sh gen
variable {S : Sums} {m : Mem}
theorem mvc_at0 {l : List Mv} {i : Nat} (h : i < l.length) : (mvc l)[i * 2]? = some (.int .i64 l[i].1) := by
  have h2 := mvc_win h
  have hl := mvc_len l
  simp only [window] at h2
  have := congrArg (fun x : List Value => x[0]?) h2
  simpa [List.getElem?_take, List.getElem?_drop] using this
theorem mvc_at1 {l : List Mv} {i : Nat} (h : i < l.length) : (mvc l)[i * 2 + 1]? = some (.int .i64 l[i].2) := by
  have h2 := mvc_win h
  have hl := mvc_len l
  simp only [window] at h2
  have := congrArg (fun x : List Value => x[1]?) h2
  simpa [List.getElem?_take, List.getElem?_drop] using this
/-- places that there are -/
def InP (l : List Mv) : Prop := ∀ p ∈ l, 0 ≤ p.1 ∧ p.1 ≤ 10000 ∧ 0 ≤ p.2 ∧ p.2 ≤ 10000
def RightP (l : List Mv) : Prop := l.length ≤ 400 ∧ InP l ∧ (l.map (·.2)).Nodup
theorem inP_snoc {l : List Mv} {x y : Int} (h : InP l) (hx : 0 ≤ x) (hx2 : x ≤ 10000) (hy : 0 ≤ y) (hy2 : y ≤ 10000) : InP (l ++ [(x, y)]) := fun p hp => by
  rcases List.mem_append.1 hp with hp | hp
  · exact h p hp
  · simp at hp; subst hp; exact ⟨hx, hx2, hy, hy2⟩
theorem nodup_snoc {l : List Int} {y : Int} (h : l.Nodup) (hy : y ∉ l) : (l ++ [y]).Nodup := List.nodup_append.2 ⟨h, by simp, fun a ha b hb => by simp at hb; subst hb; exact fun e => hy (e ▸ ha)⟩
theorem not_nodup {l : List Mv} {i : Nat} (hi : i < l.length) (h : l[i].2 ∈ (l.take i).map (·.2)) : ¬ (l.map (·.2)).Nodup := fun hn => by
  have e : l.take (i + 1) = l.take i ++ [l[i]] := List.take_succ_eq_append_getElem hi
  have h2 : ((l.take (i + 1)).map (·.2)).Nodup := List.Nodup.sublist ((List.take_sublist _ _).map _) hn
  rw [e, List.map_append] at h2
  exact (List.nodup_append.1 h2).2.2 _ h _ (by simp) rfl
abbrev bmap (l : List Int) : Int → Option Value := fun k => if k ∈ l then some (.bool true) else none
theorem bmap_snoc (l : List Int) (y : Int) : gput (bmap l) y (some (.bool true)) = bmap (l ++ [y]) := by
  funext k
  simp only [gput, bmap, List.mem_append, List.mem_singleton]
  by_cases e : k = y <;> simp [e]
set_option maxHeartbeats 4000000 in
theorem right_run (hS : S 9 = []) {lo : Option Addr} {ls : List Mv} {lf le : Nat} (hl : Rs m lo ls.length (mvc ls) le 2 lf) (hlen : ls.length ≤ 4611686018427387904) :
    ∃ v m1, callw Try.prog TT S 9 [.slice lo ls.length ls.length] m = some (v, m1) ∧ (∃ b : Bool, v = .bool b ∧ (b = true ↔ RightP ls)) ∧ Keeps m m1 [] := by
  refine fn_w 13 [13, 39] k9 hS rfl ?_
  by_cases h4 : 400 < ls.length
  · have h4' : (400 : Int) < ls.length := by omega
    simp [-Int.natCast_add, -BitVec.toNat_or, -BitVec.toNat_ofInt, -BitVec.toNat_and, len_slice u22, mkmap_of u37, index_slice u22 sz27, load_agg ld27, alloc_of zo27, store_of sz27, fieldAddr_of fa27_0, load_of ld3, fieldAddr_of fa27_1, look_int u37 u3 zv4, upd_int u37, h4, h4']
    exact ⟨fun h => by have := h.1; omega, Keeps.refl _ _⟩
  · have h4' : ¬ (400 : Int) < ls.length := by omega
    obtain ⟨p1, k1, n1⟩ := newMap_mp (m := m) rfl
    simp [-Int.natCast_add, -BitVec.toNat_or, -BitVec.toNat_ofInt, -BitVec.toNat_and, len_slice u22, mkmap_of u37, index_slice u22 sz27, load_agg ld27, alloc_of zo27, store_of sz27, fieldAddr_of fa27_0, load_of ld3, fieldAddr_of fa27_1, look_int u37 u3 zv4, upd_int u37, h4, h4']
    refine wsem_loop 13 [13, 39] (fun d E m2 => ∃ i, ls.length - i = d ∧ i ≤ ls.length ∧ Mp m2 m.next (bmap ((ls.take i).map (·.2))) ∧ InP (ls.take i) ∧ ((ls.take i).map (·.2)).Nodup ∧ Keeps m m2 [] ∧ E = [(3, .map (some m.next)), (10, .slice lo ls.length ls.length), (11, .int .i64 ls.length), (12, .int .i64 i)]) _ ⟨_, ⟨0, rfl, by omega, (show bmap ((ls.take 0).map (·.2)) = fun _ => none from by funext k; simp [bmap]) ▸ p1, by simp [InP], by simp, k1, rfl⟩, ⟨by rfl, by rfl, by rfl, by rfl, trivial⟩⟩ ?_
    clear p1 k1 n1
    rintro d E m2 ih ⟨i, hd, hi, hp, hin, hnd, k2, rfl⟩
    by_cases hlt : i < ls.length
    · have em : (i : Int) ≤ 9223372036854775807 := by omega
      have hlt' : (i : Int) < ls.length := by omega
      have wi : IntKind.i64.wrap ((i : Int) + 1) = ((i + 1 : Nat) : Int) := by rw [wrap_i64 (by omega) (by omega)]; omega
      obtain ⟨lb, rfl, ol⟩ := (hl.keep k2 (by simp)).rdo (by omega)
      have hni := not_nodup hlt
      have et : ls.take (i + 1) = ls.take i ++ [ls[i]] := List.take_succ_eq_append_getElem hlt
      have hmem : ls[i] ∈ ls := List.getElem_mem _
      have ld : loadRow m2 ⟨lb, i * 2, none⟩ 2 = some [.int .i64 ls[i].1, .int .i64 ls[i].2] := by
        rw [ol.load 2 (by rw [mvc_len]; omega), mvc_win hlt]
      obtain ⟨⟨x, y⟩, hxy⟩ : ∃ p, ls[i] = p := ⟨_, rfl⟩
      rw [hxy] at ld hni et hmem
      simp only at ld hni
      obtain ⟨o3, k3, n3⟩ := new_own (m := m2) (cs := [.int .i64 0, .int .i64 0]) (e := 27) rfl
      obtain ⟨m4, e4, o4, k4⟩ := store_own (r := _) rfl o3 (off := 0) (vs := [.int .i64 x, .int .i64 y]) (by simp) (by simp [one_int])
      simp [over] at o4
      have k24 := k3.fresh k4 (by simp)
      have l0 := o4.load1 (off := 0) rfl
      have l1 := o4.load1 (off := 1) rfl
      have hbad : ¬ (0 ≤ x ∧ x ≤ 10000 ∧ 0 ≤ y ∧ y ≤ 10000) → ¬ RightP ls := fun h hR => h (hR.2.1 (x, y) hmem)
      have p4 := hp.keep k24 (by simp)
      have g4 := p4.get y
      have kk := k2.trans k24
      by_cases c1 : x < 0
      · simp [-Int.natCast_add, -BitVec.toNat_or, -BitVec.toNat_ofInt, -BitVec.toNat_and, len_slice u22, mkmap_of u37, index_slice u22 sz27, load_agg ld27, alloc_of zo27, store_of sz27, fieldAddr_of fa27_0, load_of ld3, fieldAddr_of fa27_1, look_int u37 u3 zv4, upd_int u37, hlt, hlt', em, ld, e4, l0, l1, c1]
        exact ⟨hbad (by omega), kk⟩
      by_cases c2 : 10000 < x
      · simp [-Int.natCast_add, -BitVec.toNat_or, -BitVec.toNat_ofInt, -BitVec.toNat_and, len_slice u22, mkmap_of u37, index_slice u22 sz27, load_agg ld27, alloc_of zo27, store_of sz27, fieldAddr_of fa27_0, load_of ld3, fieldAddr_of fa27_1, look_int u37 u3 zv4, upd_int u37, hlt, hlt', em, ld, e4, l0, l1, c1, c2]
        exact ⟨hbad (by omega), kk⟩
      by_cases c3 : y < 0
      · simp [-Int.natCast_add, -BitVec.toNat_or, -BitVec.toNat_ofInt, -BitVec.toNat_and, len_slice u22, mkmap_of u37, index_slice u22 sz27, load_agg ld27, alloc_of zo27, store_of sz27, fieldAddr_of fa27_0, load_of ld3, fieldAddr_of fa27_1, look_int u37 u3 zv4, upd_int u37, hlt, hlt', em, ld, e4, l0, l1, c1, c2, c3]
        exact ⟨hbad (by omega), kk⟩
      by_cases c4 : 10000 < y
      · simp [-Int.natCast_add, -BitVec.toNat_or, -BitVec.toNat_ofInt, -BitVec.toNat_and, len_slice u22, mkmap_of u37, index_slice u22 sz27, load_agg ld27, alloc_of zo27, store_of sz27, fieldAddr_of fa27_0, load_of ld3, fieldAddr_of fa27_1, look_int u37 u3 zv4, upd_int u37, hlt, hlt', em, ld, e4, l0, l1, c1, c2, c3, c4]
        exact ⟨hbad (by omega), kk⟩
      by_cases c5 : y ∈ (ls.take i).map (·.2)
      · have g4' : mget m4 m.next y = some (some (.bool true)) := by rw [g4, bmap, if_pos c5]
        simp [-Int.natCast_add, -BitVec.toNat_or, -BitVec.toNat_ofInt, -BitVec.toNat_and, len_slice u22, mkmap_of u37, index_slice u22 sz27, load_agg ld27, alloc_of zo27, store_of sz27, fieldAddr_of fa27_0, load_of ld3, fieldAddr_of fa27_1, look_int u37 u3 zv4, upd_int u37, hlt, hlt', em, ld, e4, l0, l1, c1, c2, c3, c4, g4']
        exact ⟨fun hR => hni c5 hR.2.2, kk⟩
      · have g4' : mget m4 m.next y = some none := by rw [g4, bmap, if_neg c5]
        obtain ⟨m5, e5, p5, k5, _⟩ := mput_mp (r := _) rfl u3 p4 (k := y) (v := .bool true)
        rw [bmap_snoc] at p5
        simp [-Int.natCast_add, -BitVec.toNat_or, -BitVec.toNat_ofInt, -BitVec.toNat_and, len_slice u22, mkmap_of u37, index_slice u22 sz27, load_agg ld27, alloc_of zo27, store_of sz27, fieldAddr_of fa27_0, load_of ld3, fieldAddr_of fa27_1, look_int u37 u3 zv4, upd_int u37, hlt, hlt', em, ld, e4, l0, l1, c1, c2, c3, c4, g4', e5, wi]
        refine ih _ _ _ _ ⟨i + 1, rfl, by omega, ?_, ?_, ?_, kk.fresh k5 (by simp), rfl⟩ (by omega) ⟨by rfl, by rfl, by rfl, by rfl, trivial⟩
        · rw [et]; simpa using p5
        · rw [et]; exact inP_snoc hin (by omega) (by omega) (by omega) (by omega)
        · rw [et, List.map_append]; exact nodup_snoc hnd c5
    · have hlt' : ¬ (i : Int) < ls.length := by omega
      have ei : ls.take i = ls := List.take_of_length_le (by omega)
      rw [ei] at hin hnd
      simp [-Int.natCast_add, -BitVec.toNat_or, -BitVec.toNat_ofInt, -BitVec.toNat_and, len_slice u22, mkmap_of u37, index_slice u22 sz27, load_agg ld27, alloc_of zo27, store_of sz27, fieldAddr_of fa27_0, load_of ld3, fieldAddr_of fa27_1, look_int u37 u3 zv4, upd_int u37, hlt']
      exact ⟨⟨by omega, hin, hnd⟩, k2⟩
/-- where each place is moved from -/
def srcOf (l : List Mv) (q : Int) : Int := ((l.find? fun p => decide (p.2 = q)).map (·.1)).getD q
theorem srcOf_eq : ∀ {l : List Mv}, (l.map (·.2)).Nodup → ∀ p ∈ l, srcOf l p.2 = p.1
  | [], _, p, hp => by simp at hp
  | a :: l, hn, p, hp => by
    simp only [List.map_cons, List.nodup_cons] at hn
    simp only [srcOf, List.find?_cons]
    rcases List.mem_cons.1 hp with rfl | hp
    · simp
    · have h2 : ¬ a.2 = p.2 := fun e => hn.1 (e ▸ List.mem_map.2 ⟨p, hp, rfl⟩)
      rw [show decide (a.2 = p.2) = false by simp [h2]]
      exact srcOf_eq hn.2 p hp
def FreeP (l : List Mv) (spare : Int) : Prop := 0 ≤ spare ∧ spare ≤ 10001 ∧ ∀ p ∈ l, p.1 ≠ spare ∧ p.2 ≠ spare
theorem mov_of {l : List Mv} {spare : Int} (hR : RightP l) (hF : FreeP l spare) : Mov (srcOf l) (tos l) spare := by
  have hs : ∀ t ∈ tos l, ∃ p ∈ l, p.2 = t ∧ p.1 ≠ p.2 := fun t ht => by
    obtain ⟨p, hp, rfl⟩ := List.mem_map.1 ht
    obtain ⟨h1, h2⟩ := List.mem_filter.1 hp
    exact ⟨p, h1, rfl, by simpa using h2⟩
  refine ⟨List.Nodup.sublist (List.filter_sublist.map _) hR.2.2, fun t ht => ?_, fun ht => ?_, fun t ht => ?_⟩
  · obtain ⟨p, hp, rfl, hne⟩ := hs t ht
    rw [srcOf_eq hR.2.2 p hp]; exact hne
  · obtain ⟨p, hp, e, hne⟩ := hs _ ht
    exact (hF.2.2 p hp).2 e
  · obtain ⟨p, hp, rfl, hne⟩ := hs t ht
    rw [srcOf_eq hR.2.2 p hp]; exact (hF.2.2 p hp).1
structure No (S : Sums) : Prop where
  h : Nh S
  flow : S 19 = []
  ring : S 20 = []
  one : S 15 = []
  right : S 9 = []
  order : S 7 = []
/-- what Order answers -/
def Ordered (m m1 : Mem) (ls : List Mv) (spare : Int) (v : Value) : Prop :=
  (¬ (RightP ls ∧ FreeP ls spare) ∧ v = .tuple #[.slice none 0 0, .int .i64 1]) ∨
  (RightP ls ∧ FreeP ls spare ∧ ∃ oa out fo ms, v = .tuple #[.slice oa out.length out.length, .int .i64 0] ∧ Sl m1 oa out.length (mvc out) 27 2 fo ∧ (oa ≠ none → m.next ≤ fo) ∧ Done (srcOf ls) (tos ls) spare out ms)
set_option maxHeartbeats 4000000 in
theorem order_run (hN : No S) {lo : Option Addr} {ls : List Mv} {lf le : Nat} (hl : Rs m lo ls.length (mvc ls) le 2 lf) (hlen : ls.length ≤ 4611686018427387904) (spare : Int) :
    ∃ v m1, callw Try.prog TT S 7 [.slice lo ls.length ls.length, .int .i64 spare] m = some (v, m1) ∧ Ordered m m1 ls spare v ∧ Keeps m m1 [] := by
  obtain ⟨_, m1, c1, ⟨b, rfl, hb⟩, k1⟩ := right_run (m := m) hN.right hl hlen
  refine fn_w 22 [22, 34] k7 hN.order rfl ?_
  cases b with
  | false =>
    simp [-Int.natCast_add, -BitVec.toNat_or, -BitVec.toNat_ofInt, -BitVec.toNat_and, len_slice u22, index_slice u22 sz27, load_agg ld27, alloc_of zo27, store_of sz27, fieldAddr_of fa27_0, load_of ld3, fieldAddr_of fa27_1, c1]
    exact ⟨Or.inl ⟨fun h => by simpa using hb.2 h.1, rfl⟩, k1⟩
  | true =>
    have hR := hb.1 rfl
    by_cases s1 : spare < 0
    · simp [-Int.natCast_add, -BitVec.toNat_or, -BitVec.toNat_ofInt, -BitVec.toNat_and, len_slice u22, index_slice u22 sz27, load_agg ld27, alloc_of zo27, store_of sz27, fieldAddr_of fa27_0, load_of ld3, fieldAddr_of fa27_1, c1, s1]
      exact ⟨Or.inl ⟨fun h => by have := h.2.1; omega, rfl⟩, k1⟩
    by_cases s2 : 10001 < spare
    · simp [-Int.natCast_add, -BitVec.toNat_or, -BitVec.toNat_ofInt, -BitVec.toNat_and, len_slice u22, index_slice u22 sz27, load_agg ld27, alloc_of zo27, store_of sz27, fieldAddr_of fa27_0, load_of ld3, fieldAddr_of fa27_1, c1, s1, s2]
      exact ⟨Or.inl ⟨fun h => by have := h.2.2.1; omega, rfl⟩, k1⟩
    simp [-Int.natCast_add, -BitVec.toNat_or, -BitVec.toNat_ofInt, -BitVec.toNat_and, len_slice u22, index_slice u22 sz27, load_agg ld27, alloc_of zo27, store_of sz27, fieldAddr_of fa27_0, load_of ld3, fieldAddr_of fa27_1, c1, s1, s2]
    refine wsem_loop 22 [22, 34] (fun d E m2 => ∃ i, ls.length - i = d ∧ i ≤ ls.length ∧ (∀ p ∈ ls.take i, p.1 ≠ spare ∧ p.2 ≠ spare) ∧ Keeps m m2 [] ∧ E = [(0, .slice lo ls.length ls.length), (1, .int .i64 spare), (19, .slice lo ls.length ls.length), (20, .int .i64 ls.length), (21, .int .i64 i)]) _ ⟨_, ⟨0, rfl, by omega, by simp, k1, rfl⟩, ⟨by rfl, by rfl, by rfl, by rfl, by rfl, trivial⟩⟩ ?_
    clear k1 c1
    rintro d E m2 ih ⟨i, hd, hi, hno, k2, rfl⟩
    by_cases hlt : i < ls.length
    · have em : (i : Int) ≤ 9223372036854775807 := by omega
      have hlt' : (i : Int) < ls.length := by omega
      have wi : IntKind.i64.wrap ((i : Int) + 1) = ((i + 1 : Nat) : Int) := by rw [wrap_i64 (by omega) (by omega)]; omega
      obtain ⟨lb, rfl, ol⟩ := (hl.keep k2 (by simp)).rdo (by omega)
      have et : ls.take (i + 1) = ls.take i ++ [ls[i]] := List.take_succ_eq_append_getElem hlt
      have hmem : ls[i] ∈ ls := List.getElem_mem _
      have ld : loadRow m2 ⟨lb, i * 2, none⟩ 2 = some [.int .i64 ls[i].1, .int .i64 ls[i].2] := by
        rw [ol.load 2 (by rw [mvc_len]; omega), mvc_win hlt]
      obtain ⟨⟨x, y⟩, hxy⟩ : ∃ p, ls[i] = p := ⟨_, rfl⟩
      rw [hxy] at ld et hmem
      simp only at ld
      obtain ⟨o3, k3, n3⟩ := new_own (m := m2) (cs := [.int .i64 0, .int .i64 0]) (e := 27) rfl
      obtain ⟨m4, e4, o4, k4⟩ := store_own (r := _) rfl o3 (off := 0) (vs := [.int .i64 x, .int .i64 y]) (by simp) (by simp [one_int])
      simp [over] at o4
      have k24 := k3.fresh k4 (by simp)
      have l0 := o4.load1 (off := 0) rfl
      have l1 := o4.load1 (off := 1) rfl
      have kk := k2.trans k24
      by_cases c1 : x = spare
      · subst c1
        simp [-Int.natCast_add, -BitVec.toNat_or, -BitVec.toNat_ofInt, -BitVec.toNat_and, len_slice u22, index_slice u22 sz27, load_agg ld27, alloc_of zo27, store_of sz27, fieldAddr_of fa27_0, load_of ld3, fieldAddr_of fa27_1, hlt, hlt', em, ld, e4, l0, l1]
        exact ⟨Or.inl ⟨fun h => (h.2.2.2 _ hmem).1 rfl, rfl⟩, kk⟩
      by_cases c2 : y = spare
      · subst c2
        simp [-Int.natCast_add, -BitVec.toNat_or, -BitVec.toNat_ofInt, -BitVec.toNat_and, len_slice u22, index_slice u22 sz27, load_agg ld27, alloc_of zo27, store_of sz27, fieldAddr_of fa27_0, load_of ld3, fieldAddr_of fa27_1, hlt, hlt', em, ld, e4, l0, l1, c1]
        exact ⟨Or.inl ⟨fun h => (h.2.2.2 _ hmem).2 rfl, rfl⟩, kk⟩
      simp [-Int.natCast_add, -BitVec.toNat_or, -BitVec.toNat_ofInt, -BitVec.toNat_and, len_slice u22, index_slice u22 sz27, load_agg ld27, alloc_of zo27, store_of sz27, fieldAddr_of fa27_0, load_of ld3, fieldAddr_of fa27_1, hlt, hlt', em, ld, e4, l0, l1, c1, c2, wi]
      refine ih _ _ _ _ ⟨i + 1, rfl, by omega, ?_, kk, rfl⟩ (by omega) ⟨by rfl, by rfl, by rfl, by rfl, by rfl, trivial⟩
      rw [et]
      intro p hp
      rcases List.mem_append.1 hp with hp | hp
      · exact hno p hp
      · simp at hp; subst hp; exact ⟨c1, c2⟩
    · have hlt' : ¬ (i : Int) < ls.length := by omega
      have ei : ls.take i = ls := List.take_of_length_le (by omega)
      rw [ei] at hno
      have hF : FreeP ls spare := ⟨by omega, by omega, hno⟩
      obtain ⟨v5, m5, c5, ⟨oa, out, fo, ms, rfl, s5, b5, hD⟩, k5⟩ := one_run (m := m2) hN.h hN.flow hN.ring hN.one (spare := spare) (hl.keep k2 (by simp)) (mov_of hR hF) (fun p hp _ => srcOf_eq hR.2.2 p hp) hR.1
      simp [-Int.natCast_add, -BitVec.toNat_or, -BitVec.toNat_ofInt, -BitVec.toNat_and, len_slice u22, index_slice u22 sz27, load_agg ld27, alloc_of zo27, store_of sz27, fieldAddr_of fa27_0, load_of ld3, fieldAddr_of fa27_1, hlt', c5]
      exact ⟨Or.inr ⟨hR, hF, oa, out, fo, ms, rfl, s5, fun hn => Nat.le_trans k2.1 (b5 hn), hD⟩, k2.trans k5⟩
set_option maxHeartbeats 4000000 in
theorem refright_run (hS : S 14 = []) {lo : Option Addr} {ls : List Mv} {lf le : Nat} (hl : Rs m lo ls.length (mvc ls) le 2 lf) (hlen : ls.length ≤ 4611686018427387904) :
    ∃ b : Bool, callw Try.prog TT S 14 [.slice lo ls.length ls.length] m = some (.bool b, m) ∧ (b = true ↔ RightP ls) := by
  suffices h : ∃ v m1, callw Try.prog TT S 14 [.slice lo ls.length ls.length] m = some (v, m1) ∧ ∃ b : Bool, v = .bool b ∧ (b = true ↔ RightP ls) ∧ m1 = m by
    obtain ⟨_, _, h, b, rfl, hb, rfl⟩ := h
    exact ⟨b, h, hb⟩
  refine fn_w 5 [7, 11, 43, 46, 59] k14 hS rfl ?_
  by_cases h4 : 400 < ls.length
  · have h4' : (400 : Int) < ls.length := by omega
    simp [-Int.natCast_add, -BitVec.toNat_or, -BitVec.toNat_ofInt, -BitVec.toNat_and, len_slice u22, index_slice u22 sz27, fieldAddr_of fa27_0, load_of ld3, fieldAddr_of fa27_1, h4, h4']
    exact fun h => by have := h.1; omega
  · have h4' : ¬ (400 : Int) < ls.length := by omega
    simp [-Int.natCast_add, -BitVec.toNat_or, -BitVec.toNat_ofInt, -BitVec.toNat_and, len_slice u22, index_slice u22 sz27, fieldAddr_of fa27_0, load_of ld3, fieldAddr_of fa27_1, h4, h4']
    refine wsem_loop 5 [7, 11, 43, 46, 59] (fun d E m2 => ∃ i, ls.length - i = d ∧ i ≤ ls.length ∧ InP (ls.take i) ∧ ((ls.take i).map (·.2)).Nodup ∧ m2 = m ∧ E = [(0, .slice lo ls.length ls.length), (3, .int .i64 i)]) _ ⟨_, ⟨0, rfl, by omega, by simp [InP], by simp, rfl, rfl⟩, ⟨by rfl, by rfl, trivial⟩⟩ ?_
    rintro d E m2 ih ⟨i, hd, hi, hin, hnd, rfl, rfl⟩
    by_cases hlt : i < ls.length
    · have em : (i : Int) ≤ 9223372036854775807 := by omega
      have hlt' : (i : Int) < ls.length := by omega
      have wi : IntKind.i64.wrap ((i : Int) + 1) = ((i + 1 : Nat) : Int) := by rw [wrap_i64 (by omega) (by omega)]; omega
      obtain ⟨lb, rfl, ol⟩ := hl.rdo (by omega)
      have hni := not_nodup hlt
      have et : ls.take (i + 1) = ls.take i ++ [ls[i]] := List.take_succ_eq_append_getElem hlt
      have hmem : ls[i] ∈ ls := List.getElem_mem _
      have l0 := ol.load1 (mvc_at0 hlt)
      have l1 := ol.load1 (mvc_at1 hlt)
      obtain ⟨⟨x, y⟩, hxy⟩ : ∃ p, ls[i] = p := ⟨_, rfl⟩
      rw [hxy] at l0 l1 hni et hmem
      simp only at l0 l1 hni
      have hbad : ¬ (0 ≤ x ∧ x ≤ 10000 ∧ 0 ≤ y ∧ y ≤ 10000) → ¬ RightP ls := fun h hR => h (hR.2.1 (x, y) hmem)
      by_cases c1 : x < 0
      · simp [-Int.natCast_add, -BitVec.toNat_or, -BitVec.toNat_ofInt, -BitVec.toNat_and, len_slice u22, index_slice u22 sz27, fieldAddr_of fa27_0, load_of ld3, fieldAddr_of fa27_1, hlt, hlt', em, l0, l1, c1]
        exact hbad (by omega)
      by_cases c2 : 10000 < x
      · simp [-Int.natCast_add, -BitVec.toNat_or, -BitVec.toNat_ofInt, -BitVec.toNat_and, len_slice u22, index_slice u22 sz27, fieldAddr_of fa27_0, load_of ld3, fieldAddr_of fa27_1, hlt, hlt', em, l0, l1, c1, c2]
        exact hbad (by omega)
      by_cases c3 : y < 0
      · simp [-Int.natCast_add, -BitVec.toNat_or, -BitVec.toNat_ofInt, -BitVec.toNat_and, len_slice u22, index_slice u22 sz27, fieldAddr_of fa27_0, load_of ld3, fieldAddr_of fa27_1, hlt, hlt', em, l0, l1, c1, c2, c3]
        exact hbad (by omega)
      by_cases c4 : 10000 < y
      · simp [-Int.natCast_add, -BitVec.toNat_or, -BitVec.toNat_ofInt, -BitVec.toNat_and, len_slice u22, index_slice u22 sz27, fieldAddr_of fa27_0, load_of ld3, fieldAddr_of fa27_1, hlt, hlt', em, l0, l1, c1, c2, c3, c4]
        exact hbad (by omega)
      simp [-Int.natCast_add, -BitVec.toNat_or, -BitVec.toNat_ofInt, -BitVec.toNat_and, len_slice u22, index_slice u22 sz27, fieldAddr_of fa27_0, load_of ld3, fieldAddr_of fa27_1, hlt, hlt', em, l0, l1, c1, c2, c3, c4]
      refine wsem_loop 5 [7, 11, 43, 46, 59] (fun d E m3 => ∃ k, i - k = d ∧ k ≤ i ∧ y ∉ (ls.take k).map (·.2) ∧ m3 = m2 ∧ E = [(0, .slice (some ⟨lb, 0, none⟩) ls.length ls.length), (3, .int .i64 i), (4, .int .i64 k)]) _ ⟨_, ⟨0, rfl, by omega, by simp, rfl, rfl⟩, ⟨by rfl, by rfl, by rfl, trivial⟩⟩ ?_
      rintro d2 E m3 ih2 ⟨k, hd2, hk, hny, rfl, rfl⟩
      by_cases hki : k < i
      · have hkl : k < ls.length := by omega
        have hki' : (k : Int) < i := by omega
        have hkl' : (k : Int) < ls.length := by omega
        have ek : (k : Int) ≤ 9223372036854775807 := by omega
        have wk : IntKind.i64.wrap ((k : Int) + 1) = ((k + 1 : Nat) : Int) := by rw [wrap_i64 (by omega) (by omega)]; omega
        have lk := ol.load1 (mvc_at1 hkl)
        have et2 : ls.take (k + 1) = ls.take k ++ [ls[k]] := List.take_succ_eq_append_getElem hkl
        have hin2 : ls[k].2 ∈ (ls.take i).map (·.2) := List.mem_map.2 ⟨ls[k], List.mem_take_iff_getElem.2 ⟨k, by omega, rfl⟩, rfl⟩
        generalize ls[k] = q at *
        by_cases c5 : y = q.2
        · simp [-Int.natCast_add, -BitVec.toNat_or, -BitVec.toNat_ofInt, -BitVec.toNat_and, len_slice u22, index_slice u22 sz27, fieldAddr_of fa27_0, load_of ld3, fieldAddr_of fa27_1, hlt, hlt', em, l0, l1, hki, hki', hkl, hkl', ek, lk, c5]
          exact fun hR => hni (c5 ▸ hin2) hR.2.2
        · simp [-Int.natCast_add, -BitVec.toNat_or, -BitVec.toNat_ofInt, -BitVec.toNat_and, len_slice u22, index_slice u22 sz27, fieldAddr_of fa27_0, load_of ld3, fieldAddr_of fa27_1, hlt, hlt', em, l0, l1, hki, hki', hkl, hkl', ek, lk, c5, wk]
          refine ih2 _ _ _ _ ⟨k + 1, rfl, by omega, ?_, rfl, rfl⟩ (by omega) ⟨by rfl, by rfl, by rfl, trivial⟩
          rw [et2, List.map_append, List.mem_append, not_or]
          exact ⟨hny, by simpa using c5⟩
      · have hki' : ¬ (k : Int) < i := by omega
        have eki : k = i := by omega
        rw [eki] at hny
        simp [-Int.natCast_add, -BitVec.toNat_or, -BitVec.toNat_ofInt, -BitVec.toNat_and, len_slice u22, index_slice u22 sz27, fieldAddr_of fa27_0, load_of ld3, fieldAddr_of fa27_1, hki', wi]
        refine ih _ _ _ _ ⟨i + 1, rfl, by omega, ?_, ?_, rfl, rfl⟩ (by omega) ⟨by rfl, by rfl, trivial⟩
        · rw [et]; exact inP_snoc hin (by omega) (by omega) (by omega) (by omega)
        · rw [et, List.map_append]; exact nodup_snoc hnd hny
    · have hlt' : ¬ (i : Int) < ls.length := by omega
      have ei : ls.take i = ls := List.take_of_length_le (by omega)
      rw [ei] at hin hnd
      simp [-Int.natCast_add, -BitVec.toNat_or, -BitVec.toNat_ofInt, -BitVec.toNat_and, len_slice u22, index_slice u22 sz27, fieldAddr_of fa27_0, load_of ld3, fieldAddr_of fa27_1, hlt']
      exact ⟨by omega, hin, hnd⟩
end Go.Proofs.Ytkeapfbemlclmaa.base

