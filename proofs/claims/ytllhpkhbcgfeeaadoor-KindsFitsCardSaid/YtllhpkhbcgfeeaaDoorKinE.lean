/-
  This text proves what the small functions of package kinds answer over the abstract run: of, kind, value, Index, Contains, unlike, method, Method.
  Condition: nothing is known of their calls ahead ('S f = []').
-/
import Derived.Test.YtllhpkhbcgfeeaaDoorKinD
set_option maxRecDepth 100000
set_option linter.unusedSimpArgs false
set_option linter.unusedVariables false
namespace Go.Proofs.YtllhpkhbcgfeeaaDoor.base
open Go.Sh gen
variable {S : Sums} {m : Mem}
/-- a table that can be read -/
structure Tb (m : Mem) (to : Option Addr) (L : List TypeT.D) : Prop where
  ex : ∃ (css : List (List Value)) (f : Nat), css.length = L.length ∧ (∀ (i : Nat) d c, L[i]? = some d → css[i]? = some c → At m TypeT d c) ∧ Rs m to L.length css.flatten 25 5 f
  le : L.length ≤ 1000
  wf : ∀ x ∈ L, TypeT.wf x
theorem Tb.keep {m1 : Mem} {to : Option Addr} {L : List TypeT.D} (h : Tb m to L) (k : Keeps m m1 []) : Tb m1 to L := by
  obtain ⟨css, f, h1, h2, h3⟩ := h.ex
  exact ⟨⟨css, f, h1, fun i d c hd hc => (h2 i d c hd hc).keep k, h3.keep k (by simp)⟩, h.le, h.wf⟩
/-- one of it -/
theorem Tb.one {to : Option Addr} {L : List TypeT.D} (h : Tb m to L) {i : Nat} (hi : i < L.length) : ∃ b c, to = some ⟨b, 0, none⟩ ∧ At m TypeT L[i] c ∧ ∀ m', Keeps m m' [] → loadRow m' ⟨b, i * 5, none⟩ 5 = some c := by
  obtain ⟨css, f, h1, h2, h3⟩ := h.ex
  obtain ⟨b, rfl, hr⟩ := h3.rdo (by omega)
  obtain ⟨c, hc, hw⟩ := At.elem h1 h2 hi
  refine ⟨b, c, rfl, hc, fun m' k => ?_⟩
  have hl : css.flatten.length = L.length * 5 := h3.1.symm
  rw [(hr.keep k (by simp)).load (off := i * 5) 5 (by rw [hl]; omega)]
  exact congrArg some hw
theorem value_run (hS : S 31 = []) {to : Option Addr} {n : Nat} (t : Int) : callw Tryd.prog TT S 31 [.slice to n n, .int .i64 t] m = some (.bool (decide (1 ≤ t ∧ t < n ∧ t ≠ 4)), m) := by
  refine fn_eq 5 [] k31 hS rfl ?_
  by_cases h1 : 1 ≤ t
  · by_cases h2 : t < (n : Int)
    · by_cases h3 : t = 4
      · subst h3
        simp [-Int.natCast_add, -BitVec.toNat_or, -BitVec.toNat_ofInt, -BitVec.toNat_and, len_slice u27, h2]
      · simp [-Int.natCast_add, -BitVec.toNat_or, -BitVec.toNat_ofInt, -BitVec.toNat_and, len_slice u27, h1, h2, h3]
    · simp [-Int.natCast_add, -BitVec.toNat_or, -BitVec.toNat_ofInt, -BitVec.toNat_and, len_slice u27, h1, h2]
  · simp [-Int.natCast_add, -BitVec.toNat_or, -BitVec.toNat_ofInt, -BitVec.toNat_and, len_slice u27, h1]
def zeroC : List Value := [Value.int .i64 0, .string ⟨#[]⟩, .int .i64 0, .slice none 0 0, .slice none 0 0]
/-- of: a type of the table, or none -/
theorem of_run (hS : S 23 = []) {to : Option Addr} {L : List TypeT.D} (h : Tb m to L) (t : Int) :
    ∃ v m1, callw Tryd.prog TT S 23 [.slice to L.length L.length, .int .i64 t] m = some (v, m1) ∧ ((∃ (i : Nat) (c : List Value), t = i ∧ (∃ hi : i < L.length, At m TypeT L[i] c) ∧ v = .tuple #[.agg c.toArray, .bool true]) ∨ (¬ (0 ≤ t ∧ t < L.length) ∧ v = .tuple #[.agg zeroC.toArray, .bool false])) ∧ Keeps m m1 [] := by
  obtain ⟨o0, k0, n0⟩ := new_own (m := m) (cs := [Value.int .i64 0, .string ⟨#[]⟩, .int .i64 0, .slice none 0 0, .slice none 0 0]) (e := 25) rfl
  obtain ⟨rb, hrb⟩ : ∃ rb, m.next = rb := ⟨_, rfl⟩
  rw [hrb] at o0 n0
  refine fn_w 6 [13] k23 hS rfl ?_
  by_cases hin : 0 ≤ t ∧ t < L.length
  · obtain ⟨i, rfl⟩ : ∃ i : Nat, t = i := ⟨t.toNat, by omega⟩
    have hi : i < L.length := by omega
    obtain ⟨b, c, rfl, hc, ld'⟩ := h.one hi
    have ld := ld' _ k0
    obtain ⟨x0, x1, x2, x3, x4, rfl⟩ : ∃ x0 x1 x2 x3 x4, c = [x0, x1, x2, x3, x4] := by
      have hl := hc.len
      have e5 : TypeT.size = 5 := rfl
      rw [e5] at hl
      match c, hl with
      | [x0, x1, x2, x3, x4], _ => exact ⟨x0, x1, x2, x3, x4, rfl⟩
    have i1 : ¬ (i : Int) < 0 := by omega
    have i2 : ¬ (L.length : Int) ≤ i := by omega
    have i3 : (i : Int) ≤ 9223372036854775807 := by have := h.le; omega
    simp [-Int.natCast_add, -BitVec.toNat_or, -BitVec.toNat_ofInt, -BitVec.toNat_and, lres_agg ld25, alloc_of zo25, len_slice u27, build_of bo25, store_of sz25, index_slice u27 sz25, load_agg ld25, i1, i2, i3, hi, ld, hrb]
    generalize hra : storeRow _ _ _ = ra
    obtain ⟨m1, rfl, o1, k1⟩ := store_own hra o0 (by simp) (At_ones hc)
    simp [over] at o1
    have l1 := o1.load (off := 0) 5 (by simp)
    simp [window] at l1
    simp [-Int.natCast_add, -BitVec.toNat_or, -BitVec.toNat_ofInt, -BitVec.toNat_and, lres_agg ld25, alloc_of zo25, len_slice u27, build_of bo25, store_of sz25, index_slice u27 sz25, load_agg ld25, l1, lres_agg]
    exact ⟨⟨i, rfl, hi, hc⟩, k0.fresh k1 (by simp; omega)⟩
  · have zz : ∀ {P : Prop}, P → P := fun h => h
    by_cases h1 : t < 0
    case' pos => simp [-Int.natCast_add, -BitVec.toNat_or, -BitVec.toNat_ofInt, -BitVec.toNat_and, lres_agg ld25, alloc_of zo25, len_slice u27, build_of bo25, store_of sz25, index_slice u27 sz25, load_agg ld25, h1, hrb]
    case' neg =>
      have h2 : (L.length : Int) ≤ t := by omega
      simp [-Int.natCast_add, -BitVec.toNat_or, -BitVec.toNat_ofInt, -BitVec.toNat_and, lres_agg ld25, alloc_of zo25, len_slice u27, build_of bo25, store_of sz25, index_slice u27 sz25, load_agg ld25, h1, h2, hrb]
    all_goals
      generalize hra : storeRow _ _ _ = ra
      obtain ⟨m1, rfl, o1, k1⟩ := store_own hra o0 (by simp) (by simp [one_int, one_str, one_slice])
      simp [over] at o1
      have l1 := o1.load (off := 0) 5 (by simp)
      simp [window] at l1
      simp [-Int.natCast_add, -BitVec.toNat_or, -BitVec.toNat_ofInt, -BitVec.toNat_and, lres_agg ld25, alloc_of zo25, len_slice u27, build_of bo25, store_of sz25, index_slice u27 sz25, load_agg ld25, l1, lres_agg]
      first
        | exact ⟨⟨fun h => by omega, rfl⟩, k0.fresh k1 (by simp; omega)⟩
        | exact ⟨rfl, k0.fresh k1 (by simp; omega)⟩
def kindF (L : List TypeT.D) (t : Int) : Int := if h : 0 ≤ t ∧ t < L.length then (L[t.toNat]'(by omega)).1 else -1
theorem kind_run (hS : S 26 = []) (hO : S 23 = []) {to : Option Addr} {L : List TypeT.D} (h : Tb m to L) (t : Int) :
    ∃ v m1, callw Tryd.prog TT S 26 [.slice to L.length L.length, .int .i64 t] m = some (v, m1) ∧ v = .int .i64 (kindF L t) ∧ Keeps m m1 [] := by
  obtain ⟨_, m1, hc, hcase, k1⟩ := of_run hO h t
  refine fn_w 7 [14] k26 hS rfl ?_
  rcases hcase with ⟨i, c, rfl, ⟨hi, hA⟩, rfl⟩ | ⟨hno, rfl⟩
  · obtain ⟨ao, bo, ca, cb, f, g, ty⟩ := type_cells hA
    have ek : kindF L (i : Int) = L[i].1 := by
      unfold kindF
      rw [dif_pos ⟨by omega, by omega⟩]
      rfl
    rw [ek]
    rw [ty.c] at hc
    obtain ⟨o0, k0, n0⟩ := new_own (m := m1) (cs := [Value.int .i64 0, .string ⟨#[]⟩, .int .i64 0, .slice none 0 0, .slice none 0 0]) (e := 25) rfl
    obtain ⟨xb, hxb⟩ : ∃ xb, m1.next = xb := ⟨_, rfl⟩
    rw [hxb] at o0 n0
    simp [-Int.natCast_add, -BitVec.toNat_or, -BitVec.toNat_ofInt, -BitVec.toNat_and, alloc_of zo25, store_of sz25, fieldAddr_of fa25_0, load_of ld3, hc, hxb]
    generalize hra : storeRow _ _ _ = ra
    obtain ⟨m2, rfl, o1, k2⟩ := store_own hra o0 (by simp) (by simp [one_int, one_str, one_slice])
    simp [over] at o1
    have l0 := o1.load1 (off := 0) rfl
    simp [-Int.natCast_add, -BitVec.toNat_or, -BitVec.toNat_ofInt, -BitVec.toNat_and, alloc_of zo25, store_of sz25, fieldAddr_of fa25_0, load_of ld3, l0]
    exact (k1.trans k0).fresh k2 (by have := k1.1; simp; omega)
  · have ek : kindF L t = -1 := by unfold kindF; rw [dif_neg hno]
    rw [ek]
    simp [zeroC] at hc
    obtain ⟨o0, k0, n0⟩ := new_own (m := m1) (cs := [Value.int .i64 0, .string ⟨#[]⟩, .int .i64 0, .slice none 0 0, .slice none 0 0]) (e := 25) rfl
    obtain ⟨xb, hxb⟩ : ∃ xb, m1.next = xb := ⟨_, rfl⟩
    rw [hxb] at o0 n0
    simp [-Int.natCast_add, -BitVec.toNat_or, -BitVec.toNat_ofInt, -BitVec.toNat_and, alloc_of zo25, store_of sz25, fieldAddr_of fa25_0, load_of ld3, hc, hxb]
    generalize hra : storeRow _ _ _ = ra
    obtain ⟨m2, rfl, o1, k2⟩ := store_own hra o0 (by simp) (by simp [one_int, one_str, one_slice])
    simp [over] at o1
    have l0 := o1.load1 (off := 0) rfl
    simp [-Int.natCast_add, -BitVec.toNat_or, -BitVec.toNat_ofInt, -BitVec.toNat_and, alloc_of zo25, store_of sz25, fieldAddr_of fa25_0, load_of ld3, l0]
    exact (k1.trans k0).fresh k2 (by have := k1.1; simp; omega)
/-- two texts: where the one stands among the other -/
theorem sidx_run (hS : S 35 = []) {ao : Option Addr} {f : Nat} {l : List (List UInt8)} {s : List UInt8} {n c : Nat} (hn : n ≤ l.length) (hl : l.length ≤ 1000) (hr : Rs m ao l.length (l.map fun x => Value.string ⟨x.toArray⟩) 9 1 f) :
    ∃ v m1, callw Tryd.prog TT S 35 [.slice ao n c, .string ⟨s.toArray⟩] m = some (v, m1) ∧ (∃ r : Int, v = .int .i64 r) ∧ m1 = m := by
  refine fn_w 9 [9, 16] k35 hS rfl ?_
  simp [-Int.natCast_add, -BitVec.toNat_or, -BitVec.toNat_ofInt, -BitVec.toNat_and, len_slice u63, index_slice u63 sz9, load_of ld9]
  refine wsem_loop 9 [9, 16] (fun d E mC => ∃ i : Nat, n - i = d ∧ i ≤ n ∧ mC = m ∧ E = [(0, .slice ao n c), (1, .string ⟨s.toArray⟩), (6, .slice ao n c), (7, .int .i64 n), (8, .int .i64 i)]) _ ⟨_, ⟨0, rfl, by omega, rfl, rfl⟩, ⟨by rfl, by rfl, by rfl, by rfl, by rfl, trivial⟩⟩ ?_
  rintro d E mC ih ⟨i, hd, hi, rfl, rfl⟩
  by_cases hln : i < n
  · have hlt : i < l.length := by omega
    have i1 : (i : Int) < n := by omega
    have em : (i : Int) ≤ 9223372036854775807 := by omega
    have wi : IntKind.i64.wrap ((i : Int) + 1) = ((i + 1 : Nat) : Int) := by rw [wrap_i64 (by omega) (by omega)]; omega
    obtain ⟨ab, rfl, hrb⟩ := hr.rdo (by omega)
    have la : loadRow mC ⟨ab, i, none⟩ 1 = some [.string ⟨(l[i]).toArray⟩] := by
      rw [hrb.load (off := i) 1 (by simp; omega)]
      simp only [window, ← List.map_drop, ← List.map_take]
      rw [List.drop_eq_getElem_cons hlt]
      rfl
    obtain ⟨x, hx⟩ : ∃ x, l[i] = x := ⟨_, rfl⟩
    rw [hx] at la
    by_cases he : s = x
    · subst he
      simp [-Int.natCast_add, -BitVec.toNat_or, -BitVec.toNat_ofInt, -BitVec.toNat_and, len_slice u63, index_slice u63 sz9, load_of ld9, i1, em, hlt, hln, la]
    · have he' : ¬ x = s := fun h => he h.symm
      simp [-Int.natCast_add, -BitVec.toNat_or, -BitVec.toNat_ofInt, -BitVec.toNat_and, len_slice u63, index_slice u63 sz9, load_of ld9, i1, em, hlt, hln, la, he, he', wi]
      exact ih _ _ _ _ ⟨i + 1, rfl, by omega, rfl, rfl⟩ (by omega) ⟨by rfl, by rfl, by rfl, by rfl, by simp [lget], trivial⟩
  · have i1 : ¬ (i : Int) < n := by omega
    simp [-Int.natCast_add, -BitVec.toNat_or, -BitVec.toNat_ofInt, -BitVec.toNat_and, len_slice u63, index_slice u63 sz9, load_of ld9, i1]
theorem cont_run (hS : S 34 = []) (hI : S 35 = []) {ao : Option Addr} {f : Nat} {l : List (List UInt8)} {s : List UInt8} {n c : Nat} (hn : n ≤ l.length) (hl : l.length ≤ 1000) (hr : Rs m ao l.length (l.map fun x => Value.string ⟨x.toArray⟩) 9 1 f) :
    ∃ v m1, callw Tryd.prog TT S 34 [.slice ao n c, .string ⟨s.toArray⟩] m = some (v, m1) ∧ (∃ b : Bool, v = .bool b) ∧ m1 = m := by
  obtain ⟨_, m1, hc, ⟨r, rfl⟩, hm⟩ := sidx_run hI (s := s) (c := c) hn hl hr
  rw [hm] at hc
  clear hm
  refine fn_w 5 [] k34 hS rfl ?_
  by_cases h0 : 0 ≤ r
  · simp [-Int.natCast_add, -BitVec.toNat_or, -BitVec.toNat_ofInt, -BitVec.toNat_and, id, hc, h0]
  · simp [-Int.natCast_add, -BitVec.toNat_or, -BitVec.toNat_ofInt, -BitVec.toNat_and, id, hc, h0]
theorem unlike_run (hS : S 33 = []) (hC : S 34 = []) (hI : S 35 = []) {ao : Option Addr} {f : Nat} {l : List (List UInt8)} (hl : l.length ≤ 1000) (hr : Sl m ao l.length (l.map fun x => Value.string ⟨x.toArray⟩) 9 1 f) :
    ∃ v m1, callw Tryd.prog TT S 33 [.slice ao l.length l.length] m = some (v, m1) ∧ (∃ b : Bool, v = .bool b) ∧ m1 = m := by
  refine fn_w 8 [8, 16] k33 hS rfl ?_
  simp [-Int.natCast_add, -BitVec.toNat_or, -BitVec.toNat_ofInt, -BitVec.toNat_and, len_slice u63, index_slice u63 sz9, load_of ld9, slice_sl u63 sz9]
  refine wsem_loop 8 [8, 16] (fun d E mC => ∃ i : Nat, l.length - i = d ∧ i ≤ l.length ∧ mC = m ∧ E = [(0, .slice ao l.length l.length), (5, .slice ao l.length l.length), (6, .int .i64 l.length), (7, .int .i64 i)]) _ ⟨_, ⟨0, rfl, by omega, rfl, rfl⟩, ⟨by rfl, by rfl, by rfl, by rfl, trivial⟩⟩ ?_
  rintro d E mC ih ⟨i, hd, hi, rfl, rfl⟩
  by_cases hlt : i < l.length
  · have i1 : (i : Int) < l.length := by omega
    have em : (i : Int) ≤ 9223372036854775807 := by omega
    have wi : IntKind.i64.wrap ((i : Int) + 1) = ((i + 1 : Nat) : Int) := by rw [wrap_i64 (by omega) (by omega)]; omega
    obtain ⟨ab, rfl, hrb⟩ := hr.own (by omega)
    have la : loadRow mC ⟨ab, i, none⟩ 1 = some [.string ⟨(l[i]).toArray⟩] := by
      rw [hrb.load (off := i) 1 (by simp; omega)]
      simp only [window, ← List.map_drop, ← List.map_take]
      rw [List.drop_eq_getElem_cons hlt]
      rfl
    obtain ⟨x, hx⟩ : ∃ x, l[i] = x := ⟨_, rfl⟩
    rw [hx] at la
    have hle : i ≤ l.length := by omega
    obtain ⟨_, m1, hc, ⟨b, rfl⟩, hm⟩ := cont_run hC hI (s := x) (n := i) (c := i) (by omega) hl hr.rs
    rw [hm] at hc
    clear hm
    cases b
    · simp [-Int.natCast_add, -BitVec.toNat_or, -BitVec.toNat_ofInt, -BitVec.toNat_and, len_slice u63, index_slice u63 sz9, load_of ld9, slice_sl u63 sz9, i1, em, hlt, hle, la, hc, wi]
      exact ih _ _ _ _ ⟨i + 1, rfl, by omega, rfl, rfl⟩ (by omega) ⟨by rfl, by rfl, by rfl, by simp [lget], trivial⟩
    · simp [-Int.natCast_add, -BitVec.toNat_or, -BitVec.toNat_ofInt, -BitVec.toNat_and, len_slice u63, index_slice u63 sz9, load_of ld9, slice_sl u63 sz9, i1, em, hlt, hle, la, hc]
  · have i1 : ¬ (i : Int) < l.length := by omega
    simp [-Int.natCast_add, -BitVec.toNat_or, -BitVec.toNat_ofInt, -BitVec.toNat_and, len_slice u63, index_slice u63 sz9, load_of ld9, slice_sl u63 sz9, i1]
theorem method_run (hS : S 32 = []) (hV : S 31 = []) {to : Option Addr} {n : Nat} {d : MethT.D} {c : List Value} (hd : MethT.wf d) (h : At m MethT d c) :
    ∃ v m1, callw Tryd.prog TT S 32 [.slice to n n, .agg c.toArray] m = some (v, m1) ∧ (∃ b : Bool, v = .bool b) ∧ Keeps m m1 [] := by
  obtain ⟨po, pf, hc, hp⟩ := meth_cells h
  rw [hc]
  refine fn_w 27 [27, 33] k32 hS rfl ?_
  simp [-Int.natCast_add, -w32_1, -BitVec.toNat_or, -BitVec.toNat_ofInt, -BitVec.toNat_and, box_of b38, fieldAddr_of fa38_1, load_of ld36, len_slice u36, fieldAddr_of fa38_2, load_of ld3, index_slice u36 sz3]
  obtain ⟨nm, ps, rs, fu, u⟩ := d
  simp only at hp
  obtain ⟨_, ⟨hpl, hpw⟩, hrs, _⟩ := hd
  simp only at hpl hpw hrs
  obtain ⟨o1, k1, n1⟩ := new_own (m := m) (cs := [.string ⟨nm.toArray⟩, .slice po ps.length ps.length, .int .i64 rs, .int .i64 fu]) (e := 38) rfl
  obtain ⟨xb, hxb⟩ : ∃ xb, m.next = xb := ⟨_, rfl⟩
  rw [hxb] at o1 n1
  obtain ⟨m1, hm1⟩ : ∃ m1, m.new [.string ⟨nm.toArray⟩, .slice po ps.length ps.length, .int .i64 rs, .int .i64 fu] 38 = m1 := ⟨_, rfl⟩
  simp only [hxb]
  rw [hm1] at o1 k1 ⊢
  have l1 := o1.load1 (off := 1) rfl
  have l2 := o1.load1 (off := 2) rfl
  have vr := fun m' t => value_run (m := m') (to := to) (n := n) hV t
  have hp1 := hp.keep k1 (by simp)
  by_cases c1 : 8 < ps.length
  · have c1' : (8 : Int) < ps.length := by omega
    simp [-Int.natCast_add, -BitVec.toNat_or, -BitVec.toNat_ofInt, -BitVec.toNat_and, box_of b38, fieldAddr_of fa38_1, load_of ld36, len_slice u36, fieldAddr_of fa38_2, load_of ld3, index_slice u36 sz3, l1, l2, c1, c1', vr]
    exact k1
  · have c1' : ¬ (8 : Int) < ps.length := by omega
    by_cases hb : ¬ rs = 0 ∧ ¬ (1 ≤ rs ∧ rs < n ∧ rs ≠ 4)
    · obtain ⟨h0, hv⟩ := hb
      have vr1 := fun m' => (vr m' rs).trans (by rw [decide_eq_false hv])
      simp [-Int.natCast_add, -BitVec.toNat_or, -BitVec.toNat_ofInt, -BitVec.toNat_and, box_of b38, fieldAddr_of fa38_1, load_of ld36, len_slice u36, fieldAddr_of fa38_2, load_of ld3, index_slice u36 sz3, l1, l2, c1, c1', vr1, h0]
      exact k1
    · apply cut_
      case main =>
        have hcase : rs = 0 ∨ (¬ rs = 0 ∧ (1 ≤ rs ∧ rs < n ∧ rs ≠ 4)) := by
          by_cases h0 : rs = 0
          · exact Or.inl h0
          · exact Or.inr ⟨h0, Classical.byContradiction fun hv => hb ⟨h0, hv⟩⟩
        rcases hcase with h0 | ⟨h0, hv⟩
        · have h0' := h0
          intro meth
          simp [-Int.natCast_add, -w32_3, -BitVec.toNat_or, -BitVec.toNat_ofInt, -BitVec.toNat_and, box_of b38, fieldAddr_of fa38_1, load_of ld36, len_slice u36, fieldAddr_of fa38_2, load_of ld3, index_slice u36 sz3, l1, l2, c1, c1', h0]
          exact w_sub (E := [(0, .slice to n n), (3, .pointer (some ⟨xb, 0, none⟩))]) meth ⟨by rfl, by rfl, trivial⟩
        · have vr1 := fun m' => (vr m' rs).trans (by rw [decide_eq_true hv])
          intro meth
          simp [-Int.natCast_add, -w32_3, -BitVec.toNat_or, -BitVec.toNat_ofInt, -BitVec.toNat_and, box_of b38, fieldAddr_of fa38_1, load_of ld36, len_slice u36, fieldAddr_of fa38_2, load_of ld3, index_slice u36 sz3, l1, l2, c1, c1', vr1, h0]
          exact w_sub (E := [(0, .slice to n n), (3, .pointer (some ⟨xb, 0, none⟩))]) meth ⟨by rfl, by rfl, trivial⟩
      simp [-Int.natCast_add, -BitVec.toNat_or, -BitVec.toNat_ofInt, -BitVec.toNat_and, box_of b38, fieldAddr_of fa38_1, load_of ld36, len_slice u36, fieldAddr_of fa38_2, load_of ld3, index_slice u36 sz3, l1]
      refine wsem_loop 27 [27, 33] (fun d E mC => ∃ i : Nat, ps.length - i = d ∧ i ≤ ps.length ∧ mC = m1 ∧ E = [(0, .slice to n n), (24, .slice po ps.length ps.length), (25, .int .i64 ps.length), (26, .int .i64 i)]) _ ⟨_, ⟨0, rfl, by omega, rfl, rfl⟩, ⟨by rfl, by rfl, by rfl, by rfl, trivial⟩⟩ ?_
      rintro d E mC ih ⟨i, hdi, hi, rfl, rfl⟩
      by_cases hlt : i < ps.length
      · have i1 : (i : Int) < ps.length := by omega
        have em : (i : Int) ≤ 9223372036854775807 := by omega
        have wi : IntKind.i64.wrap ((i : Int) + 1) = ((i + 1 : Nat) : Int) := by rw [wrap_i64 (by omega) (by omega)]; omega
        obtain ⟨ab, rfl, hrb⟩ := hp1.rdo (by omega)
        have la : loadRow mC ⟨ab, i, none⟩ 1 = some [.int .i64 ps[i]] := by
          rw [hrb.load (off := i) 1 (by simp; omega)]
          simp only [window, ← List.map_drop, ← List.map_take]
          rw [List.drop_eq_getElem_cons hlt]
          rfl
        obtain ⟨x, hx⟩ : ∃ x, ps[i] = x := ⟨_, rfl⟩
        rw [hx] at la
        by_cases hv : 1 ≤ x ∧ x < n ∧ x ≠ 4
        · have vr1 := fun m' => (vr m' x).trans (by rw [decide_eq_true hv])
          simp [-Int.natCast_add, -BitVec.toNat_or, -BitVec.toNat_ofInt, -BitVec.toNat_and, box_of b38, fieldAddr_of fa38_1, load_of ld36, len_slice u36, fieldAddr_of fa38_2, load_of ld3, index_slice u36 sz3, i1, em, hlt, la, vr1, wi]
          exact ih _ _ _ _ ⟨i + 1, rfl, by omega, rfl, rfl⟩ (by omega) ⟨by rfl, by rfl, by rfl, by simp [lget], trivial⟩
        · have vr1 := fun m' => (vr m' x).trans (by rw [decide_eq_false hv])
          simp [-Int.natCast_add, -BitVec.toNat_or, -BitVec.toNat_ofInt, -BitVec.toNat_and, box_of b38, fieldAddr_of fa38_1, load_of ld36, len_slice u36, fieldAddr_of fa38_2, load_of ld3, index_slice u36 sz3, i1, em, hlt, la, vr1]
          exact k1
      · have i1 : ¬ (i : Int) < ps.length := by omega
        simp [-Int.natCast_add, -BitVec.toNat_or, -BitVec.toNat_ofInt, -BitVec.toNat_and, box_of b38, fieldAddr_of fa38_1, load_of ld36, len_slice u36, fieldAddr_of fa38_2, load_of ld3, index_slice u36 sz3, i1]
        exact k1
end Go.Proofs.YtllhpkhbcgfeeaaDoor.base

