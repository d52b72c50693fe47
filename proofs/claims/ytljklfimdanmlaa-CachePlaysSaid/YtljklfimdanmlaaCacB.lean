/-
  This text proves what container/heap's Push, Pop, Fix and Remove do over the abstract run with a cache's items.
  Condition: nothing is known of the calls ahead ('S f = []').
-/
import Derived.Test.YtljklfimdanmlaaCacA
set_option maxRecDepth 100000
set_option linter.unusedSimpArgs false
set_option linter.unusedVariables false
namespace Go.Proofs.Ytljklfimdanmlaa.base
open Go.Sh gen
variable {S : Sums} {m : Mem} {cb f0 fa : Nat} {x0 x2 : Value} {a : Option Addr} {l : List Px}
theorem ItAt.lt {x : Px} (h : ItAt m x) : x.b < m.next ∧ (x.sz ≠ 0 → x.cf < m.next) ∧ (x.needs ≠ [] → x.nf < m.next) := by
  refine ⟨h.own.flt, fun hz => ?_, fun hz => ?_⟩
  · obtain ⟨_, _, r⟩ := h.code.rdo hz
    exact r.flt
  · obtain ⟨_, _, r⟩ := h.needs.rdo (by simpa using hz)
    exact r.flt
/-- an item's families are none of these -/
def Df (x : Px) (f g : Nat) : Prop := x.b ≠ f ∧ x.b ≠ g ∧ (x.sz ≠ 0 → x.cf ≠ f ∧ x.cf ≠ g) ∧ (x.needs ≠ [] → x.nf ≠ f ∧ x.nf ≠ g)
set_option maxHeartbeats 1000000 in
/-- an item is laid in -/
theorem push_run (hN : Nh S) (h : HAt m cb f0 x0 x2 a l fa) (hl : l.length ≤ 900) {x : Px} (hx : ItAt m x) (hd : x.b ≠ f0 ∧ (x.sz ≠ 0 → x.cf ≠ f0) ∧ (x.needs ≠ [] → x.nf ≠ f0)) (hd2 : a ≠ none → x.b ≠ fa ∧ (x.sz ≠ 0 → x.cf ≠ fa) ∧ (x.needs ≠ [] → x.nf ≠ fa)) :
    ∃ v m1, callw Try.prog TT S 83 [.pointer (some ⟨cb, 1, none⟩), .iface 64 (ptr x)] m = some (v, m1) ∧ (∃ a' fa', HAt m1 cb f0 x0 x2 a' (l ++ [x]) fa' ∧ ((a ≠ none ∧ fa' = fa) ∨ m.next ≤ fa') ∧ a' ≠ none) ∧ Keeps m m1 (if a = none then [f0] else [f0, fa]) := by
  have ld := h.own.load1 (off := 1) rfl
  have lnn := (h.own.ln [ptr x] 64 1 1).trans ld
  refine fn_w 2 [] k83 hN.push rfl ?_
  simp [-Int.natCast_add, -BitVec.toNat_or, -BitVec.toNat_ofInt, -BitVec.toNat_and, load_of ld60, asr_of ni64, buildSlice_of u60 bs64 rfl, append_s u60 sz64, store_of sz60, ld]
  generalize hra : sappend _ _ _ _ _ _ = ra
  obtain ⟨m1, a1, fa', rfl, o1, k1, hf, hne1, hfe⟩ := app_sr_new hra u60 ap64 h.sl (by omega) (by simp) (by simp [one_ptr]) (by omega) (by omega)
  have hne : f0 ∉ (if a = none then [] else [fa]) := by
    split
    · simp
    · rename_i ha; simpa using (h.ne ha).symm
  have o2 := h.own.keep k1 hne
  simp [-Int.natCast_add, -BitVec.toNat_or, -BitVec.toNat_ofInt, -BitVec.toNat_and, load_of ld60, asr_of ni64, buildSlice_of u60 bs64 rfl, append_s u60 sz64, store_of sz60, ld]
  generalize hrb : storeRow _ _ _ = rb
  obtain ⟨m2, rfl, o3, k2⟩ := store_own hrb o2 (by simp) (by simp [one_slice])
  simp [over] at o3
  simp [-Int.natCast_add, -BitVec.toNat_or, -BitVec.toNat_ofInt, -BitVec.toNat_and, load_of ld60, asr_of ni64, buildSlice_of u60 bs64 rfl, append_s u60 sz64, store_of sz60, ld, lnn]
  have hfn : fa' ≠ f0 := by
    rcases hf with ⟨h1, h2⟩ | h1
    · rw [h2]; exact h.ne h1
    · have := h.own.flt; omega
  have oa := o1.keep k2 (fun _ => by simpa using hfn)
  have kk : Keeps m m2 (if a = none then [f0] else [f0, fa]) := by
    split
    · rename_i ha
      rw [if_pos ha] at k1
      exact k1.nil.trans k2
    · rename_i ha
      rw [if_neg ha] at k1
      exact (k1.mono (by simp)).trans (k2.mono (by simp))
  have dd : ∀ y ∈ l ++ [x], ItAt m y ∧ y.b ≠ f0 ∧ (y.sz ≠ 0 → y.cf ≠ f0) ∧ (y.needs ≠ [] → y.nf ≠ f0) ∧ (a ≠ none → y.b ≠ fa ∧ (y.sz ≠ 0 → y.cf ≠ fa) ∧ (y.needs ≠ [] → y.nf ≠ fa)) := by
    intro y hy
    rcases List.mem_append.1 hy with hy | hy
    · have d := h.df y hy
      exact ⟨h.it y hy, d.1, fun hz => (d.2.2.1 hz).1, fun hz => (d.2.2.2 hz).1, fun _ => ⟨d.2.1, fun hz => (d.2.2.1 hz).2, fun hz => (d.2.2.2 hz).2⟩⟩
    · rw [List.mem_singleton.1 hy]
      exact ⟨hx, hd.1, hd.2.1, hd.2.2, hd2⟩
  refine ⟨⟨a1, fa', ⟨by simpa using o3, by simpa using oa, fun _ => hfn, fun y hy => ?_, fun y hy => ?_⟩, hf, hne1⟩, kk⟩
  · obtain ⟨d0, d1, d2, d3, d4⟩ := dd y hy
    refine d0.keep kk ?_ ?_ ?_
    · split
      · simpa using d1
      · rename_i ha; simp; exact ⟨d1, (d4 ha).1⟩
    · intro hz
      split
      · simpa using d2 hz
      · rename_i ha; simp; exact ⟨d2 hz, (d4 ha).2.1 hz⟩
    · intro hz
      split
      · simpa using d3 hz
      · rename_i ha; simp; exact ⟨d3 hz, (d4 ha).2.2 hz⟩
  · obtain ⟨d0, d1, d2, d3, d4⟩ := dd y hy
    obtain ⟨t0, t1, t2⟩ := d0.lt
    rcases hf with ⟨h1, h2⟩ | h1
    · rw [h2]
      exact ⟨d1, (d4 h1).1, fun hz => ⟨d2 hz, (d4 h1).2.1 hz⟩, fun hz => ⟨d3 hz, (d4 h1).2.2 hz⟩⟩
    · exact ⟨d1, by omega, fun hz => ⟨d2 hz, by have := t1 hz; omega⟩, fun hz => ⟨d3 hz, by have := t2 hz; omega⟩⟩
theorem ku_cong {l1 l2 : List Px} {i : Nat} (h : l1.getD i default = l2.getD i default) : ku l1 i = ku l2 i := by simp only [ku, h]
theorem getD_app {l1 l2 : List Px} {i : Nat} (h : i < l1.length) : (l1 ++ l2).getD i default = l1.getD i default := by
  simp only [List.getD_eq_getElem?_getD, List.getElem?_append_left h]
/-- and brought to its place -/
theorem hpush_run (hN : Nh S) (h : HAt m cb f0 x0 x2 a l fa) (hl : l.length ≤ 900) (hp0 : Hp l.length (ku l)) {x : Px} (hx : ItAt m x) (hd : x.b ≠ f0 ∧ (x.sz ≠ 0 → x.cf ≠ f0) ∧ (x.needs ≠ [] → x.nf ≠ f0)) (hd2 : a ≠ none → x.b ≠ fa ∧ (x.sz ≠ 0 → x.cf ≠ fa) ∧ (x.needs ≠ [] → x.nf ≠ fa)) :
    ∃ v m1, callw Try.prog TT S 28 [hif cb, .iface 64 (ptr x)] m = some (v, m1) ∧ (∃ a' fa' l', l'.Perm (l ++ [x]) ∧ HAt m1 cb f0 x0 x2 a' l' fa' ∧ Hp l'.length (ku l') ∧ ((a ≠ none ∧ fa' = fa) ∨ m.next ≤ fa')) ∧ Keeps m m1 (if a = none then [f0] else [f0, fa]) := by
  obtain ⟨v1, m1, c1, ⟨a', fa', h1, hf, ha'⟩, k1⟩ := push_run hN h hl hx hd hd2
  have ld := h1.own.load1 (off := 1) rfl
  have cl := len_run (m := m1) (S := S) hN.len (ao := a') (n := (l ++ [x]).length) (c := (l ++ [x]).length)
  have hu : Up (l.length + 1) (ku (l ++ [x])) l.length := up_new (hp_cong hp0 fun c hc => ku_cong (getD_app hc))
  obtain ⟨v2, m2, c2, ⟨l', hp, h2, hh2, _⟩, k2⟩ := up_run hN h1 (j := l.length) (n := l.length + 1) (by omega) (by simp) (by simp; omega) hu
  have e1 : IntKind.i64.wrap (((l ++ [x]).length : Int) - 1) = l.length := by
    have e0 : (l ++ [x]).length = l.length + 1 := by simp
    rw [e0, wrap_i64 (by omega) (by omega)]; omega
  refine fn_w 2 [] k28 hN.hpush rfl ?_
  simp [-Int.natCast_add, -List.length_append, -BitVec.toNat_or, -BitVec.toNat_ofInt, -BitVec.toNat_and, id, inv_ptr mPush, inv_ld mLen, c1, ld, cl, e1, c2]
  refine ⟨⟨a', fa', l', hp, h2, by rw [hp.length_eq]; simpa using hh2, hf⟩, ?_⟩
  split
  · rename_i ha
    rw [if_pos ha] at k1
    refine k1.mono2 (b := fa') (k2.mono (by simp)) ?_
    rcases hf with hf | hf
    · exact absurd ha hf.1
    · exact hf
  · rename_i ha
    rw [if_neg ha] at k1
    rcases hf with hf | hf
    · exact k1.trans (k2.mono (by simp [hf.2]))
    · exact k1.mono2 (b := fa') (k2.mono (by simp)) hf
/-- the last one is taken -/
theorem pop_run (hN : Nh S) {x : Px} (h : HAt m cb f0 x0 x2 a (l ++ [x]) fa) (hl : l.length ≤ 900) :
    ∃ v m1, callw Try.prog TT S 82 [.pointer (some ⟨cb, 1, none⟩)] m = some (v, m1) ∧ v = .iface 64 (ptr x) ∧ HAt m1 cb f0 x0 x2 a l fa ∧ ItAt m1 x ∧ Keeps m m1 [f0] := by
  have ld := h.own.load1 (off := 1) rfl
  obtain ⟨b, rest, rfl, o⟩ := h.sl.own (by simp)
  have lx := o.load1 (off := l.length) (v := ptr x) (by simp)
  have e1 : IntKind.i64.wrap (((l ++ [x]).length : Int) - 1) = l.length := by
    have e0 : (l ++ [x]).length = l.length + 1 := by simp
    rw [e0, wrap_i64 (by omega) (by omega)]; omega
  refine fn_w 5 [] k82 hN.pop rfl ?_
  have hlt : l.length < (l ++ [x]).length := by simp
  have hle : l.length ≤ (l ++ [x]).length := by simp
  have hlt' : (l.length : Int) < (l ++ [x]).length := by omega
  have em : (l.length : Int) ≤ 9223372036854775807 := by omega
  simp [-Int.natCast_add, -List.length_append, -BitVec.toNat_or, -BitVec.toNat_ofInt, -BitVec.toNat_and, load_of ld60, len_slice u60, index_slice u60 sz64, load_of ld64, slice_sl u60 sz64, store_of sz60, mkif_of ni64, ld, e1, lx, hlt, hlt', hle, em]
  generalize hra : storeRow _ _ _ = ra
  obtain ⟨m1, rfl, o1, k1⟩ := store_own hra h.own (by simp) (by simp [one_slice])
  simp [over] at o1
  simp [-Int.natCast_add, -List.length_append, -BitVec.toNat_or, -BitVec.toNat_ofInt, -BitVec.toNat_and, load_of ld60, len_slice u60, index_slice u60 sz64, load_of ld64, slice_sl u60 sz64, store_of sz60, mkif_of ni64, ld, e1, lx, hlt, hlt', hle, em]
  have s1 := h.sl.keep k1 (fun hn => by simpa using h.ne hn)
  have s2 : Sr m1 (some ⟨b, 0, none⟩) l.length (pcs l) 64 1 fa := Sr.cut (more := [ptr x]) (by simpa using s1) (by simp) (fun hn => by simp at hn)
  have it := h.its k1 (by simp)
  exact ⟨⟨o1, s2, h.ne, fun y hy => it y (by simp [hy]), fun y hy => h.df y (by simp [hy])⟩, it x (by simp), k1⟩
theorem take_last {l2 : List Px} {x : Px} {n : Nat} (hn : l2.length = n + 1) (hx : l2.getD n default = x) : l2 = l2.take n ++ [x] := by
  have hlt : n < l2.length := by omega
  have e : l2[n] = x := by simpa [hlt] using hx
  rw [← e]
  exact (List.take_append_getElem hlt).trans (by rw [← hn, List.take_length]) |>.symm
set_option maxHeartbeats 1000000 in
/-- the first one is taken -/
theorem hpop_run (hN : Nh S) (h : HAt m cb f0 x0 x2 a l fa) (hl : l.length ≤ 900) (h0 : 0 < l.length) (hp0 : Hp l.length (ku l)) :
    ∃ v m1, callw Try.prog TT S 26 [hif cb] m = some (v, m1) ∧ (∃ x l', v = .iface 64 (ptr x) ∧ l.Perm (x :: l') ∧ HAt m1 cb f0 x0 x2 a l' fa ∧ ItAt m1 x ∧ Hp l'.length (ku l') ∧ ∀ y ∈ l, x.used ≤ y.used) ∧ Keeps m m1 [f0, fa] := by
  have ld := h.own.load1 (off := 1) rfl
  obtain ⟨n, hn⟩ : ∃ n, n + 1 = l.length := ⟨l.length - 1, by omega⟩
  have cl := len_run (m := m) (S := S) hN.len (ao := a) (n := l.length) (c := l.length)
  have e1 : IntKind.i64.wrap ((l.length : Int) - 1) = n := by rw [wrap_i64 (by omega) (by omega)]; omega
  obtain ⟨v1, m1, c1, s1, k1⟩ := swap_run (m := m) hN.swap h.sl (i := 0) (j := n) (by omega) (by omega) (by omega)
  have h1 := h.swp (by omega) (by omega) s1 k1
  have pm := swp_perm (l := l) (i := 0) (j := n) (by omega) (by omega)
  have hd : Dn n (ku (swp l 0 n)) 0 0 := by
    rw [ku_swp (by omega) (by omega)]
    by_cases hn0 : n = 0
    · subst hn0; exact ⟨fun c h0 hc => by omega, fun c h0 hc => by omega, fun h => absurd rfl h⟩
    · exact dn_of (by rw [hn]; exact hp0) (by omega)
  have ql := swp_len l 0 n
  obtain ⟨v2, m2, c2, ⟨l2, c, rfl, hp2, h2, ht, hff, hr⟩, k2⟩ := down_run hN h1 (i0 := 0) (n := n) (by omega) (by omega) (by omega) hd
  have hh2 : Hp n (ku l2) := by
    cases c with
    | true => exact ht rfl
    | false => exact up_end (hff rfl).2 (Or.inl rfl)
  have hl2 : l2.length = n + 1 := by rw [hp2.length_eq, swp_len]; omega
  have hx : l2.getD n default = l.getD 0 default := by
    rw [hr n (Nat.le_refl _), swp_get (by omega) (by omega), if_pos rfl]
  have e2 := take_last hl2 hx
  obtain ⟨x, hxe⟩ : ∃ x, l.getD 0 default = x := ⟨_, rfl⟩
  obtain ⟨p, hpe⟩ : ∃ p, l2.take n = p := ⟨_, rfl⟩
  rw [hxe, hpe] at e2
  have hpl : p.length = n := by rw [← hpe, List.length_take]; omega
  rw [e2] at h2 hp2
  obtain ⟨v3, m3, c3, rfl, h3, i3, k3⟩ := pop_run hN h2 (by omega)
  refine fn_w 4 [] k26 hN.hpop rfl ?_
  have c1' : callw Try.prog TT S 81 [.slice a l.length l.length, .int .i64 0, .int .i64 n] m = some (v1, m1) := c1
  have c2' : callw Try.prog TT S 38 [hif cb, .int .i64 0, .int .i64 n] m1 = some (.bool c, m2) := c2
  simp [-Int.natCast_add, -List.length_append, -BitVec.toNat_or, -BitVec.toNat_ofInt, -BitVec.toNat_and, id, inv_ptr mPop, inv_ld mLen, inv_ld mSwap, ld, cl, e1, c1', c2', c3]
  refine ⟨⟨x, rfl, p, (pm.symm.trans hp2.symm).trans List.perm_append_comm, h3, i3, ?_, fun y hy => ?_⟩, ((k1.mono (by simp)).trans (k2.mono (by simp))).trans (k3.mono (by simp))⟩
  · rw [hpl]
    exact hp_cong hh2 fun c hc => ku_cong (by rw [e2, getD_app (by omega)])
  · obtain ⟨i, hi, rfl⟩ := List.getElem_of_mem hy
    have g := hp_min hp0 i hi
    have hx0 : ku l 0 = x.used := by simp only [ku, hxe]
    rw [ku_at hi, hx0] at g
    exact g
set_option maxHeartbeats 1000000 in
/-- the one at a place is taken -/
theorem hrem_run (hN : Nh S) (h : HAt m cb f0 x0 x2 a l fa) (hl : l.length ≤ 900) {i : Nat} (hi : i < l.length) (hp0 : Hp l.length (ku l)) :
    ∃ v m1, callw Try.prog TT S 34 [hif cb, .int .i64 i] m = some (v, m1) ∧ (∃ l', l.Perm (l[i] :: l') ∧ HAt m1 cb f0 x0 x2 a l' fa ∧ Hp l'.length (ku l')) ∧ Keeps m m1 [f0, fa] := by
  have ld := h.own.load1 (off := 1) rfl
  obtain ⟨n, hn⟩ : ∃ n, n + 1 = l.length := ⟨l.length - 1, by omega⟩
  have cl := len_run (m := m) (S := S) hN.len (ao := a) (n := l.length) (c := l.length)
  have e1 : IntKind.i64.wrap ((l.length : Int) - 1) = n := by rw [wrap_i64 (by omega) (by omega)]; omega
  have hxg : l.getD i default = l[i] := by simp [hi]
  refine fn_w 6 [11, 20] k34 hN.hrem rfl ?_
  by_cases hni : n = i
  · have hni' : (n : Int) = i := by omega
    have e2 := take_last (l2 := l) (n := n) (x := l[i]) (by omega) (by rw [hni]; exact hxg)
    obtain ⟨p, hpe⟩ : ∃ p, l.take n = p := ⟨_, rfl⟩
    obtain ⟨x, hxe⟩ : ∃ x, l[i] = x := ⟨_, rfl⟩
    rw [hpe, hxe] at e2
    rw [hxe]
    have hpl : p.length = n := by rw [← hpe, List.length_take]; omega
    have h' := h
    rw [e2] at h'
    obtain ⟨v3, m3, c3, rfl, h3, i3, k3⟩ := pop_run hN h' (by omega)
    simp [-Int.natCast_add, -List.length_append, -BitVec.toNat_or, -BitVec.toNat_ofInt, -BitVec.toNat_and, id, inv_ptr mPop, inv_ld mLen, inv_ld mSwap, ld, cl, e1, hni, hni', c3]
    refine ⟨⟨p, by rw [e2]; exact List.perm_append_comm, h3, ?_⟩, k3.mono (by simp)⟩
    rw [hpl]
    exact hp_cong (hp_less hp0 (by omega)) fun c hc => ku_cong (by rw [e2, getD_app (by omega)])
  · have hni' : ¬ (n : Int) = i := by omega
    obtain ⟨v1, m1, c1, s1, k1⟩ := swap_run (m := m) hN.swap h.sl (i := i) (j := n) (by omega) (by omega) (by omega)
    have h1 := h.swp (by omega) (by omega) s1 k1
    have pm := swp_perm (l := l) (i := i) (j := n) (by omega) (by omega)
    have hd : Dn n (ku (swp l i n)) i i := by
      rw [ku_swp (by omega) (by omega)]
      exact dn_of (by rw [hn]; exact hp0) (by omega)
    have ql := swp_len l i n
    obtain ⟨v2, m2, c2, ⟨l2, c, rfl, hp2, h2, ht, hff, hr⟩, k2⟩ := down_run hN h1 (i0 := i) (n := n) (by omega) (by omega) (by omega) hd
    have hl2 : l2.length = n + 1 := by rw [hp2.length_eq, swp_len]; omega
    have hx2 : (swp l i n).getD n default = l[i] := by
      rw [swp_get (by omega) (by omega), if_pos rfl]; exact hxg
    obtain ⟨x, hxe⟩ : ∃ x, l[i] = x := ⟨_, rfl⟩
    rw [hxe] at hx2 ⊢
    have fin : ∀ {m4 : Mem} {l3 : List Px}, l3.Perm l2 → HAt m4 cb f0 x0 x2 a l3 fa → Hp n (ku l3) → l3.getD n default = x → ∃ m5, callw Try.prog TT S 82 [.pointer (some ⟨cb, 1, none⟩)] m4 = some (.iface 64 (ptr x), m5) ∧ (∃ l', l.Perm (x :: l') ∧ HAt m5 cb f0 x0 x2 a l' fa ∧ Hp l'.length (ku l')) ∧ Keeps m4 m5 [f0] := by
      intro m4 l3 hp3 h3 hh3 hx3
      have hl3 : l3.length = n + 1 := by rw [hp3.length_eq]; exact hl2
      have e2 := take_last hl3 hx3
      obtain ⟨p, hpe⟩ : ∃ p, l3.take n = p := ⟨_, rfl⟩
      rw [hpe] at e2
      have hpl : p.length = n := by rw [← hpe, List.length_take]; omega
      rw [e2] at h3 hp3
      obtain ⟨v3, m3, c3, rfl, h4, i4, k3⟩ := pop_run hN h3 (by omega)
      refine ⟨m3, c3, ⟨p, ?_, h4, ?_⟩, k3⟩
      · exact ((pm.symm.trans hp2.symm).trans hp3.symm).trans List.perm_append_comm
      · rw [hpl]
        exact hp_cong hh3 fun c hc => ku_cong (by rw [e2, getD_app (by omega)])
    cases c with
    | true =>
      obtain ⟨m5, c5, hq, k5⟩ := fin (List.Perm.refl _) h2 (ht rfl) ((hr n (Nat.le_refl _)).trans hx2)
      simp [-Int.natCast_add, -List.length_append, -BitVec.toNat_or, -BitVec.toNat_ofInt, -BitVec.toNat_and, id, inv_ptr mPop, inv_ld mLen, inv_ld mSwap, ld, cl, e1, hni, hni', c1, c2, c5]
      exact ⟨hq, ((k1.mono (by simp)).trans (k2.mono (by simp))).trans (k5.mono (by simp))⟩
    | false =>
      obtain ⟨he, hu⟩ := hff rfl
      obtain ⟨v4, m4, c4, ⟨l4, hp4, h4, hh4, hr4⟩, k4⟩ := up_run hN h2 (j := i) (n := n) (by omega) (by omega) (by omega) hu
      obtain ⟨m5, c5, hq, k5⟩ := fin hp4 h4 hh4 ((hr4 n (Nat.le_refl _)).trans ((hr n (Nat.le_refl _)).trans hx2))
      simp [-Int.natCast_add, -List.length_append, -BitVec.toNat_or, -BitVec.toNat_ofInt, -BitVec.toNat_and, id, inv_ptr mPop, inv_ld mLen, inv_ld mSwap, ld, cl, e1, hni, hni', c1, c2, c4, c5]
      exact ⟨hq, (((k1.mono (by simp)).trans (k2.mono (by simp))).trans (k4.mono (by simp))).trans (k5.mono (by simp))⟩
/-- the one at a place is used -/
theorem hfix_run (hN : Nh S) (h : HAt m cb f0 x0 x2 a l fa) (hl : l.length ≤ 900) {i : Nat} (hi : i < l.length) (hd : Dn l.length (ku l) i i) :
    ∃ v m1, callw Try.prog TT S 32 [hif cb, .int .i64 i] m = some (v, m1) ∧ (∃ l', l'.Perm l ∧ HAt m1 cb f0 x0 x2 a l' fa ∧ Hp l'.length (ku l')) ∧ Keeps m m1 [fa] := by
  have ld := h.own.load1 (off := 1) rfl
  have cl := len_run (m := m) (S := S) hN.len (ao := a) (n := l.length) (c := l.length)
  obtain ⟨v2, m2, c2, ⟨l2, c, rfl, hp2, h2, ht, hff, hr⟩, k2⟩ := down_run hN h (i0 := i) (n := l.length) hi (Nat.le_refl _) (by omega) hd
  refine fn_w 2 [9] k32 hN.hfix rfl ?_
  have hl2 := hp2.length_eq
  cases c with
  | true =>
    simp [-Int.natCast_add, -List.length_append, -BitVec.toNat_or, -BitVec.toNat_ofInt, -BitVec.toNat_and, id, inv_ld mLen, ld, cl, c2]
    exact ⟨⟨l2, hp2, h2, by rw [hl2]; exact ht rfl⟩, k2⟩
  | false =>
    obtain ⟨he, hu⟩ := hff rfl
    obtain ⟨v4, m4, c4, ⟨l4, hp4, h4, hh4, hr4⟩, k4⟩ := up_run hN h2 (j := i) (n := l.length) hi (by omega) (by omega) hu
    simp [-Int.natCast_add, -List.length_append, -BitVec.toNat_or, -BitVec.toNat_ofInt, -BitVec.toNat_and, id, inv_ld mLen, ld, cl, c2, c4]
    exact ⟨⟨l4, hp4.trans hp2, h4, by rw [hp4.length_eq, hl2]; exact hh4⟩, k2.trans k4⟩
end Go.Proofs.Ytljklfimdanmlaa.base

