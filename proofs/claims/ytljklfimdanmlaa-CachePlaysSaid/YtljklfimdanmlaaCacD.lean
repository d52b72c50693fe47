/-
  This text proves what the cache's 'find', 'Has', 'Size' and 'sorted' answer, over the abstract run.
  Condition: nothing is known of the calls ahead ('S f = []').
-/
import Derived.Test.YtljklfimdanmlaaCacC
set_option maxRecDepth 100000
set_option linter.unusedSimpArgs false
set_option linter.unusedVariables false
namespace Go.Proofs.Ytljklfimdanmlaa.base
open Go.Sh gen
variable {S : Sums} {m : Mem} {cb f0 fa : Nat} {x0 x2 : Value} {a : Option Addr} {l : List Px}
structure Nc (S : Sums) : Prop extends Nh S where
  key : S 27 = []
  find1 : S 43 = []
  idx : S 42 = []
  find : S 31 = []
  has : S 14 = []
  size : S 12 = []
  cmp : S 41 = []
  ins : S 47 = []
  pdq : S 45 = []
  len64 : S 56 = []
  blen : S 46 = []
  sort : S 40 = []
  sorted : S 30 = []
  copied : S 29 = []
  drop : S 17 = []
  put : S 10 = []
  get : S 15 = []
  keys : S 13 = []
  inv : S 16 = []
  cont : S 33 = []
  index : S 44 = []
  new : S 8 = []
  entry : S 11 = []
  pick : S 7 = []
theorem key_run (hN : Nc S) {x : Px} (hx : ItAt m x) : ∃ m1, callw Try.prog TT S 27 [ptr x] m = some (.agg #[.int .i64 x.f, .int .i64 x.pc], m1) ∧ Keeps m m1 [] := by
  refine Exists.imp (fun m1 h => ?_) (show ∃ m1, (∃ v, callw Try.prog TT S 27 [ptr x] m = some (v, m1) ∧ v = .agg #[.int .i64 x.f, .int .i64 x.pc] ∧ Keeps m m1 []) from ?_)
  · obtain ⟨v, h1, rfl, h3⟩ := h
    exact ⟨h1, h3⟩
  rw [exists_comm]
  obtain ⟨oZ, kZ, nZ⟩ := new_own (m := m) (cs := [.int .i64 0, .int .i64 0]) (e := 50) rfl
  have h1 := (hx.own.keep kZ (by simp)).load1 (off := 0) rfl
  have h2 := (hx.own.keep kZ (by simp)).load1 (off := 1) rfl
  have g1 := hx.own.load1 (off := 0) rfl
  have g2 := hx.own.load1 (off := 1) rfl
  refine fn_w 3 [] k27 hN.key rfl ?_
  simp [-Int.natCast_add, -BitVec.toNat_or, -BitVec.toNat_ofInt, -BitVec.toNat_and, lres_agg ld50, alloc_of zo50, fieldAddr_of fa71_0, fieldAddr_of fa41_0, fieldAddr_of fa39_0, load_of ld3, fieldAddr_of fa39_1, build_of bo50, store_of sz50, h1, h2, g1, g2]
  generalize hrz : storeRow _ _ _ = rz
  obtain ⟨m2, rfl, o2, k2⟩ := store_own hrz oZ (by simp) (by simp [one_int])
  simp [over] at o2
  have rl : loadRow m2 ⟨m.next, 0, none⟩ 2 = _ := o2.load 2 (by simp)
  simp only [window, List.drop_zero, List.take_succ_cons, List.take_zero] at rl
  simp [-Int.natCast_add, -BitVec.toNat_or, -BitVec.toNat_ofInt, -BitVec.toNat_and, lres_agg ld50, alloc_of zo50, fieldAddr_of fa71_0, fieldAddr_of fa41_0, fieldAddr_of fa39_0, load_of ld3, fieldAddr_of fa39_1, build_of bo50, store_of sz50, h1, h2, rl]
  exact kZ.fresh k2 (by simp)
/-- is it that key's? -/
def mtk (f pc : Int) (x : Px) : Bool := decide (x.f = f) && decide (x.pc = pc)
theorem find1_run (hN : Nc S) {x : Px} (hx : ItAt m x) {f pc : Int} {b1 b2 g1 g2 e1 e2 : Nat} (h1 : Own m b1 [.int .i64 f] e1 g1) (h2 : Own m b2 [.int .i64 pc] e2 g2) :
    ∃ v m1, callw Try.prog TT S 43 [ptr x, .pointer (some ⟨b1, 0, none⟩), .pointer (some ⟨b2, 0, none⟩)] m = some (v, m1) ∧ v = .bool (mtk f pc x) ∧ Keeps m m1 [] := by
  obtain ⟨m1, c1, k1⟩ := key_run (m := m) hN hx
  have l1 := h1.load1 (off := 0) rfl
  have l2 := h2.load1 (off := 0) rfl
  have l3 := (h1.keep k1 (by simp)).load1 (off := 0) rfl
  have l4 := (h2.keep k1 (by simp)).load1 (off := 0) rfl
  refine fn_w 5 [] k43 hN.find1 rfl ?_
  unfold mtk
  by_cases hf : x.f = f <;> by_cases hp : x.pc = pc <;> simp [-Int.natCast_add, -BitVec.toNat_or, -BitVec.toNat_ofInt, -BitVec.toNat_and, load_of ld3, build_of bo50, bin_agg ag50 .eql (Or.inl rfl), scal_int u3, l1, l2, l3, l4, c1, hf, hp] <;> exact k1
/-- what 'find' answers -/
def FindR (f pc : Int) (l : List Px) (v : Value) : Prop := ∃ r : Int, v = .int .i64 r ∧ ((r = -1 ∧ ∀ x ∈ l, mtk f pc x = false) ∨ ∃ i : Nat, r = i ∧ ∃ hi : i < l.length, mtk f pc l[i] = true)
set_option maxHeartbeats 1000000 in
theorem idx_run (hN : Nc S) {e fam : Nat} (h : Sr m a l.length (pcs l) e 1 fam) (hit : ∀ x ∈ l, ItAt m x) (hl : l.length ≤ 1000) {f pc : Int} {b1 b2 g1 g2 e1 e2 : Nat} (h1 : Own m b1 [.int .i64 f] e1 g1) (h2 : Own m b2 [.int .i64 pc] e2 g2) :
    ∃ v m1, callw Try.prog TT S 42 [.slice a l.length l.length, .func (.func 43) #[] #[.pointer (some ⟨b1, 0, none⟩), .pointer (some ⟨b2, 0, none⟩)]] m = some (v, m1) ∧
      FindR f pc l v ∧ Keeps m m1 [] := by
  refine fn_w 9 [9, 16] k42 hN.idx rfl ?_
  simp [-Int.natCast_add, -BitVec.toNat_or, -BitVec.toNat_ofInt, -BitVec.toNat_and, len_slice u60, index_slice u60 sz64, load_of ld64]
  refine wsem_loop 9 [9, 16] (fun d E mF => ∃ (i : Nat), l.length - i = d ∧ i ≤ l.length ∧ Keeps m mF [] ∧ (∀ x ∈ l.take i, mtk f pc x = false) ∧
    E = [(0, .slice a l.length l.length), (1, .func (.func 43) #[] #[.pointer (some ⟨b1, 0, none⟩), .pointer (some ⟨b2, 0, none⟩)]), (7, .int .i64 (l.length : Int)), (8, .int .i64 (i : Int))]) _ ⟨_, ⟨0, rfl, by omega, .refl _ _, by simp, rfl⟩, ⟨by rfl, by rfl, by rfl, by rfl, trivial⟩⟩ ?_
  rintro d E mF ih ⟨i, hd, hi, kF, ha, rfl⟩
  have im : (i : Int) ≤ 9223372036854775807 := by omega
  have h' := h.keep kF (by simp)
  by_cases hlt : i < l.length
  · have hlt' : (i : Int) < l.length := by omega
    obtain ⟨b, rest, rfl, o⟩ := h'.own (by omega)
    have l1 := o.load1 (pc_app rest hlt)
    have wi : IntKind.i64.wrap ((i : Int) + 1) = ((i + 1 : Nat) : Int) := by rw [wrap_i64 (by omega) (by omega)]; omega
    obtain ⟨v1, m1, c1, rfl, k1⟩ := find1_run (m := mF) hN ((hit _ (List.getElem_mem hlt)).keep kF (by simp) (by simp) (by simp)) (h1.keep kF (by simp)) (h2.keep kF (by simp))
    cases hb : mtk f pc l[i] with
    | true =>
      rw [hb] at c1
      simp [-Int.natCast_add, -BitVec.toNat_or, -BitVec.toNat_ofInt, -BitVec.toNat_and, len_slice u60, index_slice u60 sz64, load_of ld64, hlt, hlt', l1, im, c1, wi]
      exact ⟨⟨i, rfl, Or.inr ⟨i, rfl, hlt, hb⟩⟩, kF.trans k1⟩
    | false =>
      rw [hb] at c1
      simp [-Int.natCast_add, -BitVec.toNat_or, -BitVec.toNat_ofInt, -BitVec.toNat_and, len_slice u60, index_slice u60 sz64, load_of ld64, hlt, hlt', l1, im, c1, wi]
      refine ih _ _ _ _ ⟨i + 1, rfl, by omega, kF.trans k1, fun x hx => ?_, rfl⟩ (by omega) ⟨by rfl, by rfl, by rfl, by rfl, trivial⟩
      rw [List.take_succ_eq_append_getElem hlt] at hx
      rcases List.mem_append.1 hx with hx | hx
      · exact ha x hx
      · rw [List.mem_singleton.1 hx]; exact hb
  · have hlt' : ¬ (i : Int) < l.length := by omega
    have e : i = l.length := by omega
    rw [e, List.take_length] at ha
    simp [-Int.natCast_add, -BitVec.toNat_or, -BitVec.toNat_ofInt, -BitVec.toNat_and, len_slice u60, index_slice u60 sz64, load_of ld64, hlt, hlt']
    exact ⟨⟨-1, rfl, Or.inl ⟨rfl, ha⟩⟩, kF⟩
theorem find_run (hN : Nc S) (h : HAt m cb f0 x0 x2 a l fa) (hl : l.length ≤ 1000) {f pc : Int} : ∃ v m1, callw Try.prog TT S 31 [.pointer (some ⟨cb, 0, none⟩), .int .i64 f, .int .i64 pc] m = some (v, m1) ∧ FindR f pc l v ∧ Keeps m m1 [] := by
  refine fn_w 7 [] k31 hN.find rfl ?_
  obtain ⟨o1, k1, n1⟩ := new_own (m := m) (cs := [.int .i64 f]) (e := 3) rfl
  obtain ⟨o2, k2, n2⟩ := new_own (m := m.new [.int .i64 f] 3) (cs := [.int .i64 pc]) (e := 3) rfl
  have o1 := o1.keep k2 (by simp)
  have ld := (h.own.keep (k1.trans k2) (by simp)).load1 (off := 1) rfl
  obtain ⟨v3, m3, c3, ⟨r, rfl, hr⟩, k3⟩ := idx_run hN (h.sl.keep (k1.trans k2) (by simp)) (fun x hx => (h.it x hx).keep (k1.trans k2) (by simp) (by simp) (by simp)) hl o1 o2
  simp [-Int.natCast_add, -BitVec.toNat_or, -BitVec.toNat_ofInt, -BitVec.toNat_and, box_of b3, fieldAddr_of fa63_1, load_of ld60, ld, c3]
  exact ⟨⟨r, rfl, hr⟩, (k1.trans k2).trans k3⟩
theorem has_run (hN : Nc S) (h : HAt m cb f0 x0 x2 a l fa) (hl : l.length ≤ 1000) {f pc : Int} : ∃ v m1, callw Try.prog TT S 14 [.pointer (some ⟨cb, 0, none⟩), .int .i64 f, .int .i64 pc] m = some (v, m1) ∧ v = .bool (l.any (mtk f pc)) ∧ Keeps m m1 [] := by
  obtain ⟨v3, m3, c3, ⟨r, rfl, hr⟩, k3⟩ := find_run hN h hl (f := f) (pc := pc)
  refine fn_w 7 [] k14 hN.has rfl ?_
  have e : decide (0 ≤ r) = l.any (mtk f pc) := by
    rcases hr with ⟨rfl, hr⟩ | ⟨i, rfl, hi, hr⟩
    · have : l.any (mtk f pc) = false := by simpa using hr
      rw [this]; rfl
    · have : l.any (mtk f pc) = true := List.any_eq_true.2 ⟨_, List.getElem_mem hi, hr⟩
      rw [this]; simp
  simp [-Int.natCast_add, -List.any_eq_true, -BitVec.toNat_or, -BitVec.toNat_ofInt, -BitVec.toNat_and, id, c3]
  exact ⟨e, k3⟩
/-- the bytes of all -/
def sizes (l : List Px) : Nat := (l.map (·.sz)).sum
theorem size_run (hN : Nc S) (h : HAt m cb f0 x0 x2 a l fa) (hl : l.length ≤ 1000) (hz : sizes l ≤ 1073741824) : callw Try.prog TT S 12 [.pointer (some ⟨cb, 0, none⟩)] m = some (.int .i64 (sizes l), m) := by
  refine fn_eq 12 [12] k12 hN.size rfl ?_
  have ld := h.own.load1 (off := 1) rfl
  simp [-Int.natCast_add, -BitVec.toNat_or, -BitVec.toNat_ofInt, -BitVec.toNat_and, fieldAddr_of fa63_1, load_of ld60, len_slice u60, index_slice u60 sz64, load_of ld64, fieldAddr_of fa71_0, fieldAddr_of fa41_0, fieldAddr_of fa39_2, load_of ld35, len_slice u35, ld]
  refine wsem_loop 12 [12] (fun d E mF => ∃ (i : Nat), l.length - i = d ∧ i ≤ l.length ∧ mF = m ∧
    E = [(3, .int .i64 (sizes (l.take i) : Nat)), (9, .slice a l.length l.length), (10, .int .i64 (l.length : Int)), (11, .int .i64 (i : Int))]) _ ⟨_, ⟨0, rfl, by omega, rfl, rfl⟩, ⟨by rfl, by rfl, by rfl, by rfl, trivial⟩⟩ ?_
  rintro d E mF ih ⟨i, hd, hi, hm, rfl⟩
  rw [hm]
  have im : (i : Int) ≤ 9223372036854775807 := by omega
  by_cases hlt : i < l.length
  · have hlt' : (i : Int) < l.length := by omega
    obtain ⟨b, rest, rfl, o⟩ := h.sl.own (by omega)
    have l1 := o.load1 (pc_app rest hlt)
    have l2 := (h.it _ (List.getElem_mem hlt)).own.load1 (off := 2) rfl
    have wi : IntKind.i64.wrap ((i : Int) + 1) = ((i + 1 : Nat) : Int) := by rw [wrap_i64 (by omega) (by omega)]; omega
    have es : sizes (l.take (i + 1)) = sizes (l.take i) + l[i].sz := by rw [List.take_succ_eq_append_getElem hlt]; simp only [sizes, List.map_append, List.sum_append, List.map_cons, List.map_nil, List.sum_cons, List.sum_nil, Nat.add_zero]
    have el : sizes (l.take (i + 1)) ≤ sizes l := by
      have : sizes l = sizes (l.take (i + 1)) + sizes (l.drop (i + 1)) := by
        simp only [sizes, ← List.sum_append, ← List.map_append, List.take_append_drop]
      omega
    have ws : IntKind.i64.wrap ((sizes (l.take i) : Int) + (l[i].sz : Int)) = ((sizes (l.take (i + 1)) : Nat) : Int) := by rw [wrap_i64 (by omega) (by omega)]; omega
    simp [-Int.natCast_add, -BitVec.toNat_or, -BitVec.toNat_ofInt, -BitVec.toNat_and, fieldAddr_of fa63_1, load_of ld60, len_slice u60, index_slice u60 sz64, load_of ld64, fieldAddr_of fa71_0, fieldAddr_of fa41_0, fieldAddr_of fa39_2, load_of ld35, len_slice u35, hlt, hlt', l1, l2, im, wi, ws]
    exact ih _ _ _ _ ⟨i + 1, rfl, by omega, rfl, rfl⟩ (by omega) ⟨by rfl, by rfl, by rfl, by rfl, trivial⟩
  · have hlt' : ¬ (i : Int) < l.length := by omega
    have e : i = l.length := by omega
    rw [e, List.take_length]
    simp [-Int.natCast_add, -BitVec.toNat_or, -BitVec.toNat_ofInt, -BitVec.toNat_and, fieldAddr_of fa63_1, load_of ld60, len_slice u60, index_slice u60 sz64, load_of ld64, fieldAddr_of fa71_0, fieldAddr_of fa41_0, fieldAddr_of fa39_2, load_of ld35, len_slice u35, hlt, hlt']
end Go.Proofs.Ytljklfimdanmlaa.base

