/-
  This text proves what container/heap does over the abstract run with a cache's items: what is used longest ago stands first.
  Condition: nothing is known of the calls ahead ('S f = []').
-/
import Derived.Test.YtljklfimdanmlaaCacP
import Derived.Test.YtljklfimdanmlaaGen
set_option maxRecDepth 100000
set_option linter.unusedSimpArgs false
set_option linter.unusedVariables false
namespace Go.Proofs.Ytljklfimdanmlaa.base
open Go.Sh gen
variable {S : Sums} {m : Mem}
theorem mLen : mthDOk Try.prog 66 "Len" 79 60 = true := by kernel_rfl
theorem mLess : mthDOk Try.prog 66 "Less" 80 60 = true := by kernel_rfl
theorem mSwap : mthDOk Try.prog 66 "Swap" 81 60 = true := by kernel_rfl
theorem mPush : mthOk Try.prog 66 "Push" 83 = true := by kernel_rfl
theorem mPop : mthOk Try.prog 66 "Pop" 82 = true := by kernel_rfl
/-- a slice of numbers' cells -/
abbrev ic (l : List Int) : List Value := l.map (Value.int .i64)
/-- an item, with the places of what it holds -/
structure Px where
  f : Int
  pc : Int
  sz : Nat
  needs : List Int
  used : Nat
  b : Nat
  ca : Option Addr
  cf : Nat
  ea : Option Addr
  na : Option Addr
  nf : Nat
  ga : Option Addr
instance : Inhabited Px := ⟨⟨0, 0, 0, [], 0, 0, none, 0, none, none, 0, none⟩⟩
def Px.row (x : Px) : List Value := [.int .i64 x.f, .int .i64 x.pc, .slice x.ca x.sz x.sz, .slice none 0 0, .slice x.ea 0 0, .slice x.na x.needs.length x.needs.length, .slice x.ga 0 0, .int .u64 x.used]
abbrev ptr (x : Px) : Value := .pointer (some ⟨x.b, 0, none⟩)
abbrev pcs (l : List Px) : List Value := l.map ptr
def ku (l : List Px) (i : Nat) : Nat := (l.getD i default).used
theorem ku_at {l : List Px} {i : Nat} (h : i < l.length) : ku l i = l[i].used := by simp [ku, h]
/-- it lies in a memory -/
structure ItAt (m : Mem) (x : Px) : Prop where
  own : Own m x.b x.row 71 x.b
  code : Rs m x.ca x.sz (List.replicate x.sz (.int .u8 0)) 5 1 x.cf
  needs : Rs m x.na x.needs.length (ic x.needs) 3 1 x.nf
  ez : SpN x.ea
  gz : SpN x.ga
theorem ItAt.keep {x : Px} {m1 : Mem} {fs : List Nat} (h : ItAt m x) (k : Keeps m m1 fs) (hb : x.b ∉ fs) (hc : x.sz ≠ 0 → x.cf ∉ fs) (hn : x.needs ≠ [] → x.nf ∉ fs) : ItAt m1 x :=
  ⟨h.own.keep k hb, h.code.keep0 k hc, h.needs.keep0 k (fun h => hn (by simpa using h)), h.ez, h.gz⟩
/-- two of them change places -/
def swp (l : List Px) (i j : Nat) : List Px := (l.set i (l.getD j default)).set j (l.getD i default)
theorem swp_len (l : List Px) (i j : Nat) : (swp l i j).length = l.length := by simp [swp]
theorem swp_perm {l : List Px} {i j : Nat} (hi : i < l.length) (hj : j < l.length) : (swp l i j).Perm l := by
  have h := List.set_set_perm hi hj
  simpa [swp, List.getD_eq_getElem?_getD, hi, hj] using h
theorem swp_get {l : List Px} {i j : Nat} (hi : i < l.length) (hj : j < l.length) (x : Nat) : (swp l i j).getD x default = if x = j then l.getD i default else if x = i then l.getD j default else l.getD x default := by
  simp only [swp, List.getD_eq_getElem?_getD, List.getElem?_set, List.length_set]
  by_cases e1 : x = j
  · subst e1; simp [hj]
  · by_cases e2 : x = i
    · subst e2; simp [hi, e1, Ne.symm e1]
    · simp [e1, e2, Ne.symm e1, Ne.symm e2]
theorem ku_swp {l : List Px} {i j : Nat} (hi : i < l.length) (hj : j < l.length) : ku (swp l i j) = sw (ku l) i j := by
  funext x
  simp only [ku, swp_get hi hj, sw]
  split
  · rfl
  · split <;> rfl
theorem pc_app {l : List Px} (rest : List Value) {i : Nat} (h : i < l.length) : (pcs l ++ rest)[i]? = some (ptr l[i]) := by
  rw [List.getElem?_append_left (by simpa using h)]; simp [h]
theorem over_set {l : List Px} {rest : List Value} {i : Nat} (hi : i < l.length) (x : Px) : over (pcs l ++ rest) i [ptr x] = pcs (l.set i x) ++ rest := by
  simp only [over, List.length_cons, List.length_nil, List.map_set]
  rw [List.set_eq_take_append_cons_drop, if_pos (by simpa using hi), List.take_append_of_le_length (by simp; omega), List.drop_append_of_le_length (by simp; omega)]
  simp
theorem len_run (hS : S 79 = []) {ao : Option Addr} {n c : Nat} : callw Try.prog TT S 79 [.slice ao n c] m = some (.int .i64 n, m) := by
  refine fn_eq 3 [] k79 hS rfl ?_
  simp [-Int.natCast_add, -BitVec.toNat_or, -BitVec.toNat_ofInt, -BitVec.toNat_and, len_slice u60]
theorem less_run (hS : S 80 = []) {a : Option Addr} {l : List Px} {e fam : Nat} (h : Sr m a l.length (pcs l) e 1 fam) (hit : ∀ x ∈ l, ItAt m x) {i j : Nat} (hi : i < l.length) (hj : j < l.length) (hl : l.length ≤ 1000) :
    callw Try.prog TT S 80 [.slice a l.length l.length, .int .i64 i, .int .i64 j] m = some (.bool (decide (ku l i < ku l j)), m) := by
  obtain ⟨b, rest, rfl, o⟩ := h.own (by omega)
  have l1 := o.load1 (pc_app rest hi)
  have l2 := o.load1 (pc_app rest hj)
  have l3 := (hit _ (List.getElem_mem hi)).own.load1 (off := 7) rfl
  have l4 := (hit _ (List.getElem_mem hj)).own.load1 (off := 7) rfl
  have e1 : (i : Int) ≤ 9223372036854775807 := by omega
  have e2 : (j : Int) ≤ 9223372036854775807 := by omega
  rw [ku_at hi, ku_at hj]
  refine fn_eq 7 [] k80 hS rfl ?_
  simp [-Int.natCast_add, -BitVec.toNat_or, -BitVec.toNat_ofInt, -BitVec.toNat_and, index_slice u60 sz64, load_of ld64, fieldAddr_of fa71_1, load_of ld61, l1, l2, l3, l4, e1, e2, hi, hj]
theorem swap_run (hS : S 81 = []) {a : Option Addr} {l : List Px} {e fam : Nat} (h : Sr m a l.length (pcs l) e 1 fam) {i j : Nat} (hi : i < l.length) (hj : j < l.length) (hl : l.length ≤ 1000) :
    ∃ v m1, callw Try.prog TT S 81 [.slice a l.length l.length, .int .i64 i, .int .i64 j] m = some (v, m1) ∧ Sr m1 a l.length (pcs (swp l i j)) e 1 fam ∧ Keeps m m1 [fam] := by
  obtain ⟨b, rest, rfl, o⟩ := h.own (by omega)
  have l1 := o.load1 (pc_app rest hi)
  have l2 := o.load1 (pc_app rest hj)
  have e1 : (i : Int) ≤ 9223372036854775807 := by omega
  have e2 : (j : Int) ≤ 9223372036854775807 := by omega
  refine fn_w 3 [] k81 hS rfl ?_
  simp [-Int.natCast_add, -BitVec.toNat_or, -BitVec.toNat_ofInt, -BitVec.toNat_and, index_slice u60 sz64, load_of ld64, store_of sz64, l1, l2, e1, e2, hi, hj]
  generalize hra : storeRow _ _ _ = ra
  obtain ⟨m1, rfl, o1, k1⟩ := store_own hra o (by simp; omega) (by simp [one_ptr])
  simp [-Int.natCast_add, -BitVec.toNat_or, -BitVec.toNat_ofInt, -BitVec.toNat_and, index_slice u60 sz64, load_of ld64, store_of sz64, l1, l2, e1, e2, hi, hj]
  generalize hrb : storeRow _ _ _ = rb
  obtain ⟨m2, rfl, o2, k2⟩ := store_own hrb o1 (by simp [over]; omega) (by simp [one_ptr])
  simp [-Int.natCast_add, -BitVec.toNat_or, -BitVec.toNat_ofInt, -BitVec.toNat_and, index_slice u60 sz64, load_of ld64, store_of sz64, l1, l2, e1, e2, hi, hj]
  refine ⟨?_, k1.trans k2⟩
  have e3 : over (over (pcs l ++ rest) i [ptr l[j]]) j [ptr l[i]] = pcs (swp l i j) ++ rest := by
    rw [over_set hi, over_set (by simpa using hj)]
    simp [swp, List.getD_eq_getElem?_getD, hi, hj]
  exact ⟨by simp [swp], Or.inr ⟨b, rest, rfl, e3 ▸ o2⟩⟩
/-- the items of a cache in a memory: they stand in its second field -/
structure HAt (m : Mem) (cb f0 : Nat) (x0 x2 : Value) (a : Option Addr) (l : List Px) (fa : Nat) : Prop where
  own : Own m cb [x0, .slice a l.length l.length, x2] 63 f0
  sl : Sr m a l.length (pcs l) 64 1 fa
  ne : a ≠ none → fa ≠ f0
  it : ∀ x ∈ l, ItAt m x
  df : ∀ x ∈ l, x.b ≠ f0 ∧ x.b ≠ fa ∧ (x.sz ≠ 0 → x.cf ≠ f0 ∧ x.cf ≠ fa) ∧ (x.needs ≠ [] → x.nf ≠ f0 ∧ x.nf ≠ fa)
theorem HAt.its {cb f0 fa : Nat} {x0 x2 : Value} {a : Option Addr} {l : List Px} (h : HAt m cb f0 x0 x2 a l fa) {m1 : Mem} {fs : List Nat} (k : Keeps m m1 fs) (hf : ∀ f ∈ fs, f = f0 ∨ f = fa) : ∀ x ∈ l, ItAt m1 x := by
  intro x hx
  obtain ⟨h1, h2, h3, h4⟩ := h.df x hx
  refine (h.it x hx).keep k (fun hm => ?_) (fun hz hm => ?_) (fun hz hm => ?_)
  · rcases hf _ hm with e | e
    · exact h1 e
    · exact h2 e
  · rcases hf _ hm with e | e
    · exact (h3 hz).1 e
    · exact (h3 hz).2 e
  · rcases hf _ hm with e | e
    · exact (h4 hz).1 e
    · exact (h4 hz).2 e
theorem HAt.swp {cb f0 fa : Nat} {x0 x2 : Value} {a : Option Addr} {l : List Px} (h : HAt m cb f0 x0 x2 a l fa) {m1 : Mem} {i j : Nat} (hi : i < l.length) (hj : j < l.length) (s : Sr m1 a l.length (pcs (swp l i j)) 64 1 fa) (k : Keeps m m1 [fa]) : HAt m1 cb f0 x0 x2 a (swp l i j) fa := by
  have ha : a ≠ none := by
    obtain ⟨b, _, h0, _⟩ := h.sl.own (by omega)
    rw [h0]; simp
  have hp := swp_perm hi hj
  exact ⟨by rw [swp_len]; exact h.own.keep k (by simpa using (h.ne ha).symm), by rw [swp_len]; exact s, h.ne, fun x hx => h.its k (by simp) x (hp.mem_iff.1 hx), fun x hx => h.df x (hp.mem_iff.1 hx)⟩
/-- the items as an interface -/
abbrev hif (cb : Nat) : Value := .iface 66 (.pointer (some ⟨cb, 1, none⟩))
structure Nh (S : Sums) : Prop where
  len : S 79 = []
  less : S 80 = []
  swap : S 81 = []
  push : S 83 = []
  pop : S 82 = []
  up : S 39 = []
  down : S 38 = []
  hpush : S 28 = []
  hpop : S 26 = []
  hfix : S 32 = []
  hrem : S 34 = []
set_option maxHeartbeats 1000000 in
theorem up_run (hN : Nh S) {cb f0 fa n : Nat} {x0 x2 : Value} {a : Option Addr} {l : List Px} (h : HAt m cb f0 x0 x2 a l fa) {j : Nat} (hj : j < n) (hn : n ≤ l.length) (hl : l.length ≤ 1000) (hu : Up n (ku l) j) :
    ∃ v m1, callw Try.prog TT S 39 [hif cb, .int .i64 j] m = some (v, m1) ∧ (∃ l', l'.Perm l ∧ HAt m1 cb f0 x0 x2 a l' fa ∧ Hp n (ku l') ∧ ∀ i, n ≤ i → l'.getD i default = l.getD i default) ∧ Keeps m m1 [fa] := by
  refine fn_w 5 [17] k39 hN.up rfl ?_
  simp [-Int.natCast_add, -BitVec.toNat_or, -BitVec.toNat_ofInt, -BitVec.toNat_and, id]
  refine wsem_loop 5 [17] (fun d E m2 => ∃ (j : Nat) (l' : List Px), j = d ∧ j < n ∧ l'.Perm l ∧ HAt m2 cb f0 x0 x2 a l' fa ∧ Up n (ku l') j ∧ (∀ i, n ≤ i → l'.getD i default = l.getD i default) ∧ Keeps m m2 [fa] ∧ E = [(0, hif cb), (1, .int .i64 j)]) _ ⟨_, ⟨j, l, rfl, hj, List.Perm.refl _, h, hu, fun _ _ => rfl, Keeps.refl _ _, rfl⟩, ⟨by rfl, by rfl, trivial⟩⟩ ?_
  rintro d E m2 ih ⟨j, l', rfl, hj, hp, h2, hu2, hr2, k2, rfl⟩
  have hll := hp.length_eq
  have em : (j : Int) ≤ 9223372036854775807 := by omega
  have ld := h2.own.load1 (off := 1) rfl
  by_cases hj0 : j = 0
  · subst hj0
    have w0 : IntKind.i64.wrap ((IntKind.i64.wrap (-1)).tdiv 2) = 0 := by decide
    simp [-Int.natCast_add, -BitVec.toNat_or, -BitVec.toNat_ofInt, -BitVec.toNat_and, id, w0]
    exact ⟨⟨l', hp, h2, up_end hu2 (Or.inl rfl), hr2⟩, k2⟩
  · obtain ⟨q, hqe, hq, wq⟩ : ∃ q : Nat, (j - 1) / 2 = q ∧ q < j ∧ IntKind.i64.wrap ((IntKind.i64.wrap ((j : Int) - 1)).tdiv 2) = (q : Int) := by
      refine ⟨(j - 1) / 2, rfl, by omega, ?_⟩
      have e1 : IntKind.i64.wrap ((j : Int) - 1) = ((j - 1 : Nat) : Int) := by rw [wrap_i64 (by omega) (by omega)]; omega
      rw [e1, Int.tdiv_eq_ediv_of_nonneg (by omega), wrap_i64 (by omega) (by omega)]; omega
    have q1 : ¬ (q : Int) = j := by omega
    have q2 : ¬ q = j := by omega
    have c1 := less_run (m := m2) hN.less h2.sl h2.it (i := j) (j := q) (by omega) (by omega) (by omega)
    obtain ⟨v3, m3, c3, s3, k3⟩ := swap_run (m := m2) hN.swap h2.sl (i := q) (j := j) (by omega) (by omega) (by omega)
    by_cases hc : ku l' j < ku l' q
    · simp [-Int.natCast_add, -BitVec.toNat_or, -BitVec.toNat_ofInt, -BitVec.toNat_and, id, wq, q1, q2, inv_ld mLess, inv_ld mSwap, ld, c1, hc, c3]
      have s4 := h2.swp (by omega) (by omega) s3 k3
      refine ih _ _ _ _ ⟨q, _, rfl, by omega, (swp_perm (by omega) (by omega)).trans hp, s4, ?_, fun i hi => ?_, k2.trans k3, rfl⟩ (by omega) ⟨by rfl, by rfl, trivial⟩
      · rw [ku_swp (by omega) (by omega)]
        exact up_step hu2 (by omega) (by omega) hqe hc
      · rw [swp_get (by omega) (by omega), if_neg (by omega), if_neg (by omega)]; exact hr2 i hi
    · simp [-Int.natCast_add, -BitVec.toNat_or, -BitVec.toNat_ofInt, -BitVec.toNat_and, id, wq, q1, q2, inv_ld mLess, inv_ld mSwap, ld, c1, hc, c3]
      exact ⟨⟨l', hp, h2, up_end hu2 (Or.inr (by rw [hqe]; omega)), hr2⟩, k2⟩
/-- what 'down' leaves -/
def DnR (m1 : Mem) (cb f0 : Nat) (x0 x2 : Value) (a : Option Addr) (l : List Px) (fa n i0 : Nat) (v : Value) : Prop :=
  ∃ l' c, v = .bool c ∧ l'.Perm l ∧ HAt m1 cb f0 x0 x2 a l' fa ∧ (c = true → Hp n (ku l')) ∧ (c = false → l' = l ∧ Up n (ku l') i0) ∧ ∀ i, n ≤ i → l'.getD i default = l.getD i default
set_option maxHeartbeats 2000000 in
theorem down_run (hN : Nh S) {cb f0 fa n i0 : Nat} {x0 x2 : Value} {a : Option Addr} {l : List Px} (h : HAt m cb f0 x0 x2 a l fa) (hi0 : i0 < l.length) (hn : n ≤ l.length) (hl : l.length ≤ 1000) (hd : Dn n (ku l) i0 i0) :
    ∃ v m1, callw Try.prog TT S 38 [hif cb, .int .i64 i0, .int .i64 n] m = some (v, m1) ∧ DnR m1 cb f0 x0 x2 a l fa n i0 v ∧ Keeps m m1 [fa] := by
  refine fn_w 11 [21, 33, 39] k38 hN.down rfl ?_
  simp [-Int.natCast_add, -BitVec.toNat_or, -BitVec.toNat_ofInt, -BitVec.toNat_and, id]
  refine wsem_loop 11 [21, 33, 39] (fun d E m2 => ∃ (i : Nat) (l' : List Px), l.length - i = d ∧ i0 ≤ i ∧ i < l.length ∧ l'.Perm l ∧ HAt m2 cb f0 x0 x2 a l' fa ∧ Dn n (ku l') i0 i ∧ (i = i0 → l' = l) ∧ (∀ i, n ≤ i → l'.getD i default = l.getD i default) ∧ Keeps m m2 [fa] ∧ E = [(0, hif cb), (1, .int .i64 i0), (2, .int .i64 n), (7, .int .i64 i)]) _ ⟨_, ⟨i0, l, rfl, by omega, by omega, List.Perm.refl _, h, hd, fun _ => rfl, fun _ _ => rfl, Keeps.refl _ _, rfl⟩, ⟨by rfl, by rfl, by rfl, by rfl, trivial⟩⟩ ?_
  rintro d E m2 ih ⟨i, l', rfl, hi0, hi, hp, h2, hd2, he2, hr2, k2, rfl⟩
  have hll := hp.length_eq
  have ld := h2.own.load1 (off := 1) rfl
  obtain ⟨j1, hj1⟩ : ∃ j1, j1 = 2 * i + 1 := ⟨_, rfl⟩
  obtain ⟨j2, hj2⟩ : ∃ j2, j2 = j1 + 1 := ⟨_, rfl⟩
  have w1 : IntKind.i64.wrap (2 * (i : Int)) = 2 * (i : Int) := wrap_i64 (by omega) (by omega)
  have w2 : IntKind.i64.wrap (2 * (i : Int) + 1) = (j1 : Int) := by rw [wrap_i64 (by omega) (by omega)]; omega
  have w3 : IntKind.i64.wrap ((j1 : Int) + 1) = (j2 : Int) := by rw [wrap_i64 (by omega) (by omega)]; omega
  have n0 : ¬ (j1 : Int) < 0 := by omega
  have fin : (∀ c, 0 < c → c < n → (c - 1) / 2 = i → ku l' i ≤ ku l' c) → DnR m2 cb f0 x0 x2 a l fa n i0 (.bool (decide (i0 < i))) := by
    intro he
    have g := dn_end hd2 he
    refine ⟨l', _, rfl, hp, h2, fun hc => g.1 (by have := of_decide_eq_true hc; omega), fun hc => ?_, hr2⟩
    have e : i = i0 := by have := of_decide_eq_false hc; omega
    exact ⟨he2 e, g.2 e⟩
  have step : ∀ {m3 : Mem} (j : Nat), j < n → (j - 1) / 2 = i → 0 < j → (∀ c, 0 < c → c < n → (c - 1) / 2 = i → ku l' j ≤ ku l' c) → ku l' j < ku l' i → Sr m3 a l'.length (pcs (swp l' i j)) 64 1 fa → Keeps m2 m3 [fa] →
      ∃ l1, l.length - j < l.length - i ∧ i0 ≤ j ∧ j < l.length ∧ l1.Perm l ∧ HAt m3 cb f0 x0 x2 a l1 fa ∧ Dn n (ku l1) i0 j ∧ (j = i0 → l1 = l) ∧ (∀ i, n ≤ i → l1.getD i default = l.getD i default) ∧ Keeps m m3 [fa] := by
    intro m3 j hj hje h0j hm hlt s3 k3
    refine ⟨swp l' i j, by omega, by omega, by omega, (swp_perm (by omega) (by omega)).trans hp, h2.swp (by omega) (by omega) s3 k3, ?_, fun e => by omega, fun x hx => ?_, k2.trans k3⟩
    · rw [ku_swp (by omega) (by omega)]
      exact dn_step hd2 h0j hj hje hm hlt hi0
    · rw [swp_get (by omega) (by omega), if_neg (by omega), if_neg (by omega)]; exact hr2 x hx
  by_cases g1 : n ≤ j1
  · simp [-Int.natCast_add, -BitVec.toNat_or, -BitVec.toNat_ofInt, -BitVec.toNat_and, id, w1, w2, w3, g1, n0]
    exact ⟨fin (fun c h0 hc e => by omega), k2⟩
  · by_cases A : j2 < n
    · have cB := less_run (m := m2) hN.less h2.sl h2.it (i := j2) (j := j1) (by omega) (by omega) (by omega)
      by_cases B : ku l' j2 < ku l' j1
      · have cC := less_run (m := m2) hN.less h2.sl h2.it (i := j2) (j := i) (by omega) (by omega) (by omega)
        obtain ⟨v3, m3, c3, s3, k3⟩ := swap_run (m := m2) hN.swap h2.sl (i := i) (j := j2) (by omega) (by omega) (by omega)
        have hm : ∀ c, 0 < c → c < n → (c - 1) / 2 = i → ku l' j2 ≤ ku l' c := fun c h0 hc e => by
          have : c = j1 ∨ c = j2 := by omega
          rcases this with h | h <;> subst h <;> omega
        by_cases C : ku l' j2 < ku l' i
        · simp [-Int.natCast_add, -BitVec.toNat_or, -BitVec.toNat_ofInt, -BitVec.toNat_and, id, w1, w2, w3, n0, g1, A, cB, B, inv_ld mLess, inv_ld mSwap, ld, cC, C, c3]
          obtain ⟨l1, q0, q1, q2, q3, q4, q5, q6, q7, q8⟩ := step j2 A (by omega) (by omega) hm C s3 k3
          exact ih _ _ _ _ ⟨j2, l1, rfl, q1, q2, q3, q4, q5, q6, q7, q8, rfl⟩ q0 ⟨by rfl, by rfl, by rfl, by rfl, trivial⟩
        · simp [-Int.natCast_add, -BitVec.toNat_or, -BitVec.toNat_ofInt, -BitVec.toNat_and, id, w1, w2, w3, n0, g1, A, cB, B, inv_ld mLess, inv_ld mSwap, ld, cC, C, c3]
          exact ⟨fin (fun c h0 hc e => Nat.le_trans (by omega) (hm c h0 hc e)), k2⟩
      · have cC := less_run (m := m2) hN.less h2.sl h2.it (i := j1) (j := i) (by omega) (by omega) (by omega)
        obtain ⟨v3, m3, c3, s3, k3⟩ := swap_run (m := m2) hN.swap h2.sl (i := i) (j := j1) (by omega) (by omega) (by omega)
        have hm : ∀ c, 0 < c → c < n → (c - 1) / 2 = i → ku l' j1 ≤ ku l' c := fun c h0 hc e => by
          have : c = j1 ∨ c = j2 := by omega
          rcases this with h | h <;> subst h <;> omega
        by_cases C : ku l' j1 < ku l' i
        · simp [-Int.natCast_add, -BitVec.toNat_or, -BitVec.toNat_ofInt, -BitVec.toNat_and, id, w1, w2, w3, n0, g1, A, cB, B, inv_ld mLess, inv_ld mSwap, ld, cC, C, c3]
          obtain ⟨l1, q0, q1, q2, q3, q4, q5, q6, q7, q8⟩ := step j1 (by omega) (by omega) (by omega) hm C s3 k3
          exact ih _ _ _ _ ⟨j1, l1, rfl, q1, q2, q3, q4, q5, q6, q7, q8, rfl⟩ q0 ⟨by rfl, by rfl, by rfl, by rfl, trivial⟩
        · simp [-Int.natCast_add, -BitVec.toNat_or, -BitVec.toNat_ofInt, -BitVec.toNat_and, id, w1, w2, w3, n0, g1, A, cB, B, inv_ld mLess, inv_ld mSwap, ld, cC, C, c3]
          exact ⟨fin (fun c h0 hc e => Nat.le_trans (by omega) (hm c h0 hc e)), k2⟩
    · have cC := less_run (m := m2) hN.less h2.sl h2.it (i := j1) (j := i) (by omega) (by omega) (by omega)
      obtain ⟨v3, m3, c3, s3, k3⟩ := swap_run (m := m2) hN.swap h2.sl (i := i) (j := j1) (by omega) (by omega) (by omega)
      have hm : ∀ c, 0 < c → c < n → (c - 1) / 2 = i → ku l' j1 ≤ ku l' c := fun c h0 hc e => by
        have : c = j1 := by omega
        subst this; omega
      by_cases C : ku l' j1 < ku l' i
      · simp [-Int.natCast_add, -BitVec.toNat_or, -BitVec.toNat_ofInt, -BitVec.toNat_and, id, w1, w2, w3, n0, g1, A, inv_ld mLess, inv_ld mSwap, ld, cC, C, c3]
        obtain ⟨l1, q0, q1, q2, q3, q4, q5, q6, q7, q8⟩ := step j1 (by omega) (by omega) (by omega) hm C s3 k3
        exact ih _ _ _ _ ⟨j1, l1, rfl, q1, q2, q3, q4, q5, q6, q7, q8, rfl⟩ q0 ⟨by rfl, by rfl, by rfl, by rfl, trivial⟩
      · simp [-Int.natCast_add, -BitVec.toNat_or, -BitVec.toNat_ofInt, -BitVec.toNat_and, id, w1, w2, w3, n0, g1, A, inv_ld mLess, inv_ld mSwap, ld, cC, C, c3]
        exact ⟨fin (fun c h0 hc e => Nat.le_trans (by omega) (hm c h0 hc e)), k2⟩
end Go.Proofs.Ytljklfimdanmlaa.base

