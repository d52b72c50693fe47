/-
  This text proves what the document's cache does, over the abstract run: its parts.
  Condition: nothing is known of the calls ahead ('S f = []').
-/
import Derived.Test.YtljklfimdanmlaaCacK
set_option maxRecDepth 100000
set_option linter.unusedSimpArgs false
set_option linter.unusedVariables false
namespace Go.Proofs.Ytljklfimdanmlaa.base
open Go.Sh gen
variable {S : Sums} {m : Mem}
structure Nr (S : Sums) : Prop where
  key : S 37 = []
  size : S 23 = []
  find : S 35 = []
  drop : S 36 = []
  Drop : S 19 = []
  put : S 22 = []
  get : S 18 = []
  inv : S 21 = []
  keys : S 24 = []
  same : S 20 = []
  hask : S 25 = []
/-- the document's entry, with the places of what it holds -/
structure Rx where
  f : Int
  pc : Int
  sz : Nat
  needs : List Int
  ca : Option Addr
  na : Option Addr
  nf : Nat
def Rx.row (x : Rx) : List Value := [.int .i64 x.f, .int .i64 x.pc, .slice x.ca x.sz x.sz, .slice none 0 0, .slice none 0 0, .slice x.na x.needs.length x.needs.length, .slice none 0 0]
abbrev rrows (L : List Rx) : List Value := L.flatMap Rx.row
theorem rrows_len (L : List Rx) : (rrows L).length = L.length * 7 := by
  induction L with
  | nil => rfl
  | cons a l ih => simp only [rrows, List.flatMap_cons, List.length_append, Rx.row, List.length_cons, List.length_nil] at ih ⊢; omega
theorem rrows_drop (L : List Rx) (k : Nat) : (rrows L).drop (k * 7) = rrows (L.drop k) := by
  induction L generalizing k with
  | nil => simp
  | cons a l ih =>
    cases k with
    | zero => simp
    | succ k =>
      have := ih k
      simp only [rrows, List.flatMap_cons, List.drop_succ_cons] at this ⊢
      rw [show (k + 1) * 7 = a.row.length + k * 7 by simp [Rx.row]; omega, List.drop_length_add_append, this]
theorem rrows_take (L : List Rx) (k : Nat) : (rrows L).take (k * 7) = rrows (L.take k) := by
  induction L generalizing k with
  | nil => simp
  | cons a l ih =>
    cases k with
    | zero => simp
    | succ k =>
      have := ih k
      simp only [rrows, List.flatMap_cons, List.take_succ_cons] at this ⊢
      rw [show (k + 1) * 7 = a.row.length + k * 7 by simp [Rx.row]; omega, List.take_length_add_append, this]
theorem rrows_win {L : List Rx} {i : Nat} (h : i < L.length) : window (rrows L) (i * 7) 7 = L[i].row := by
  rw [window, rrows_drop, show (7 : Nat) = 1 * 7 by rfl, rrows_take, List.drop_eq_getElem_cons h]
  simp only [List.take_succ_cons, List.take_zero, rrows, List.flatMap_cons, List.flatMap_nil, List.append_nil]
theorem rrows_at {L : List Rx} {i j : Nat} (h : i < L.length) (hj : j < 7) : (rrows L)[i * 7 + j]? = L[i].row[j]? := by
  have := congrArg (·[j]?) (rrows_win h)
  simpa [window, List.getElem?_take, List.getElem?_drop, hj] using this
theorem ldS_win {b e fam off n z : Nat} {cells : List Value} (h : Rdo m b cells e fam) (hl : off + n * z ≤ cells.length) : ldS m (.slice (some ⟨b, off, none⟩) n n) z = some (window cells off (n * z), n) := by
  by_cases hn : n = 0
  · subst hn; simp [ldS, window]
  · simp only [ldS, if_neg hn]
    rw [h.load (n * z) hl]; rfl
theorem own_elem {b e fam : Nat} {cells : List Value} (h : Own m b cells e fam) : elemIs m b e = true := by simp [elemIs, h.blk]
variable {R : Nat → Prop} {rb room r0 lf : Nat} {la : Option Addr} {L : List Rx}
/-- the document's cache in a memory -/
structure RA (R : Nat → Prop) (m : Mem) (rb room : Nat) (L : List Rx) (r0 : Nat) (la : Option Addr) (lf : Nat) : Prop where
  own : Own m rb [.int .i64 room, .slice la L.length L.length] 56 r0
  sl : Sl m la L.length (rrows L) 41 7 lf
  ne : la ≠ none → lf ≠ r0
  nd : ∀ x ∈ L, Rs m x.na x.needs.length (ic x.needs) 3 1 x.nf
  nn : ∀ x ∈ L, x.needs ≠ [] → x.nf ≠ r0 ∧ x.nf ≠ lf
  q0 : R r0
  ql : la ≠ none → R lf
  qn : ∀ x ∈ L, x.needs ≠ [] → R x.nf
  len : L.length ≤ 9
  sz : ∀ x ∈ L, x.sz ≤ 1048576 ∧ x.needs.length ≤ 1000
def RAt (R : Nat → Prop) (m : Mem) (rb room : Nat) (L : List Rx) : Prop := ∃ r0 la lf, RA R m rb room L r0 la lf
theorem RA.keep (h : RA R m rb room L r0 la lf) {m1 : Mem} {fs : List Nat} (k : Keeps m m1 fs) (hf : ∀ f ∈ fs, ¬ R f) : RA R m1 rb room L r0 la lf := by
  have n : ∀ f, R f → f ∉ fs := fun f hq hm => hf f hm hq
  exact ⟨h.own.keep k (n _ h.q0), h.sl.keepz k (fun ha => n _ (h.ql ha)), h.ne, fun x hx => (h.nd x hx).keep0 k (fun z => n _ (h.qn x hx (by simpa using z))), h.nn, h.q0, h.ql, h.qn, h.len, h.sz⟩
theorem RA.keep0 (h : RA R m rb room L r0 la lf) {m1 : Mem} (k : Keeps m m1 []) : RA R m1 rb room L r0 la lf := h.keep k (by simp)
theorem RA.mono {R' : Nat → Prop} (h : RA R m rb room L r0 la lf) (hq : ∀ f, R f → R' f) : RA R' m rb room L r0 la lf :=
  ⟨h.own, h.sl, h.ne, h.nd, h.nn, hq _ h.q0, fun ha => hq _ (h.ql ha), fun x hx hz => hq _ (h.qn x hx hz), h.len, h.sz⟩
theorem rkey_run (hN : Nr S) (x : Rx) : ∃ m1, callw Try.prog TT S 37 [.agg x.row.toArray] m = some (.agg #[.int .i64 x.f, .int .i64 x.pc], m1) ∧ Keeps m m1 [] := by
  suffices hx : ∃ v m1, callw Try.prog TT S 37 [.agg x.row.toArray] m = some (v, m1) ∧ v = .agg #[.int .i64 x.f, .int .i64 x.pc] ∧ Keeps m m1 [] by
    obtain ⟨v, m1, h1, rfl, h2⟩ := hx
    exact ⟨m1, h1, h2⟩
  unfold Rx.row
  refine fn_w 3 [] k37 hN.key rfl ?_
  simp [-Int.natCast_add, -w37_1, -BitVec.toNat_or, -BitVec.toNat_ofInt, -BitVec.toNat_and, lres_agg ld50, box_of b41, alloc_of zo50, fieldAddr_of fa41_0, fieldAddr_of fa39_0, load_of ld3, fieldAddr_of fa39_1, build_of bo50, store_of sz50]
  generalize hq1 : m.new _ _ = m1
  obtain ⟨o1, k1, n1⟩ := new_own hq1
  generalize hq2 : m1.new _ _ = m2
  obtain ⟨o2, k2, n2⟩ := new_own hq2
  have o1 := o1.keep k2 (by simp)
  have e0 := o1.load1 (off := 0) rfl
  have e1 := o1.load1 (off := 1) rfl
  simp [-Int.natCast_add, -BitVec.toNat_or, -BitVec.toNat_ofInt, -BitVec.toNat_and, lres_agg ld50, box_of b41, alloc_of zo50, fieldAddr_of fa41_0, fieldAddr_of fa39_0, load_of ld3, fieldAddr_of fa39_1, build_of bo50, store_of sz50, e0, e1]
  generalize hra : storeRow _ _ _ = ra
  obtain ⟨m3, rfl, o3, k3⟩ := store_own hra o2 (by simp) (by simp [one_int])
  simp [over] at o3
  have rl : loadRow m3 ⟨m1.next, 0, none⟩ 2 = _ := o3.load 2 (by simp)
  simp only [window, List.drop_zero, List.take_succ_cons, List.take_zero] at rl
  simp [-Int.natCast_add, -BitVec.toNat_or, -BitVec.toNat_ofInt, -BitVec.toNat_and, lres_agg ld50, box_of b41, alloc_of zo50, fieldAddr_of fa41_0, fieldAddr_of fa39_0, load_of ld3, fieldAddr_of fa39_1, build_of bo50, store_of sz50, rl]
  exact (k1.trans k2).fresh k3 (by simp; omega)
/-- the bytes of all -/
def rsizes (l : List Rx) : Nat := (l.map (·.sz)).sum
theorem rsizes_take {i : Nat} (hi : i < L.length) : rsizes (L.take (i + 1)) = rsizes (L.take i) + L[i].sz := by
  rw [List.take_succ_eq_append_getElem hi]; simp only [rsizes, List.map_append, List.sum_append, List.map_cons, List.map_nil, List.sum_cons, List.sum_nil, Nat.add_zero]
theorem rsize_run (hN : Nr S) (h : RA R m rb room L r0 la lf) (hz : rsizes L ≤ 1073741824) : callw Try.prog TT S 23 [.pointer (some ⟨rb, 0, none⟩)] m = some (.int .i64 (rsizes L), m) := by
  refine fn_eq 5 [11] k23 hN.size rfl ?_
  have ld := h.own.load1 (off := 1) rfl
  have l8 := h.len
  simp [-Int.natCast_add, -BitVec.toNat_or, -BitVec.toNat_ofInt, -BitVec.toNat_and, fieldAddr_of fa56_1, load_of ld54, len_slice u54, index_slice u54 sz41, fieldAddr_of fa41_0, fieldAddr_of fa39_2, load_of ld35, len_slice u35, ld]
  refine wsem_loop 5 [11] (fun d E mF => ∃ (i : Nat), L.length - i = d ∧ i ≤ L.length ∧ mF = m ∧
    E = [(0, .pointer (some ⟨rb, 0, none⟩)), (3, .int .i64 (rsizes (L.take i) : Nat)), (4, .int .i64 (i : Int))]) _ ⟨_, ⟨0, rfl, by omega, rfl, rfl⟩, ⟨by rfl, by rfl, by rfl, trivial⟩⟩ ?_
  rintro d E mF ih ⟨i, hd, hi, hm, rfl⟩
  rw [hm]
  have im : (i : Int) ≤ 9223372036854775807 := by omega
  by_cases hlt : i < L.length
  · have hlt' : (i : Int) < L.length := by omega
    obtain ⟨b, hb, o⟩ := h.sl.own (by omega)
    have l2 := o.load1 ((rrows_at hlt (j := 2) (by omega)).trans rfl)
    have wi : IntKind.i64.wrap ((i : Int) + 1) = ((i + 1 : Nat) : Int) := by rw [wrap_i64 (by omega) (by omega)]; omega
    have es := rsizes_take hlt
    have el : rsizes (L.take (i + 1)) ≤ rsizes L := by
      have : rsizes L = rsizes (L.take (i + 1)) + rsizes (L.drop (i + 1)) := by
        simp only [rsizes, ← List.sum_append, ← List.map_append, List.take_append_drop]
      omega
    have ws : IntKind.i64.wrap ((rsizes (L.take i) : Int) + (L[i].sz : Int)) = ((rsizes (L.take (i + 1)) : Nat) : Int) := by rw [wrap_i64 (by omega) (by omega)]; omega
    simp [-Int.natCast_add, -BitVec.toNat_or, -BitVec.toNat_ofInt, -BitVec.toNat_and, fieldAddr_of fa56_1, load_of ld54, len_slice u54, index_slice u54 sz41, fieldAddr_of fa41_0, fieldAddr_of fa39_2, load_of ld35, len_slice u35, ld, hlt, hlt', hb, l2, im, wi, ws]
    exact ih _ _ _ _ ⟨i + 1, rfl, by omega, rfl, rfl⟩ (by omega) ⟨by rfl, by rfl, by rfl, trivial⟩
  · have hlt' : ¬ (i : Int) < L.length := by omega
    have e : i = L.length := by omega
    rw [e, List.take_length]
    simp [-Int.natCast_add, -BitVec.toNat_or, -BitVec.toNat_ofInt, -BitVec.toNat_and, fieldAddr_of fa56_1, load_of ld54, len_slice u54, index_slice u54 sz41, fieldAddr_of fa41_0, fieldAddr_of fa39_2, load_of ld35, len_slice u35, ld, hlt, hlt']
/-- is it that key's? -/
def mtr (f pc : Int) (x : Rx) : Bool := decide (x.f = f) && decide (x.pc = pc)
/-- what 'find' answers -/
def FindX (f pc : Int) (l : List Rx) (v : Value) : Prop := ∃ r : Int, v = .int .i64 r ∧ ((r = -1 ∧ ∀ x ∈ l, mtr f pc x = false) ∨ ∃ i : Nat, r = i ∧ ∃ hi : i < l.length, mtr f pc l[i] = true ∧ ∀ x ∈ l.take i, mtr f pc x = false)
set_option maxHeartbeats 1000000 in
theorem rfind_run (hN : Nr S) (h : RA R m rb room L r0 la lf) (f pc : Int) : ∃ v, callw Try.prog TT S 35 [.pointer (some ⟨rb, 0, none⟩), .int .i64 f, .int .i64 pc] m = some (v, m) ∧ FindX f pc L v := by
  suffices hx : ∃ v m1, callw Try.prog TT S 35 [.pointer (some ⟨rb, 0, none⟩), .int .i64 f, .int .i64 pc] m = some (v, m1) ∧ FindX f pc L v ∧ m1 = m by
    obtain ⟨v, m1, h1, h2, rfl⟩ := hx
    exact ⟨v, h1, h2⟩
  have ld := h.own.load1 (off := 1) rfl
  have l8 := h.len
  refine fn_w 8 [14, 40] k35 hN.find rfl ?_
  simp [-Int.natCast_add, -BitVec.toNat_or, -BitVec.toNat_ofInt, -BitVec.toNat_and, fieldAddr_of fa56_1, load_of ld54, len_slice u54, index_slice u54 sz41, fieldAddr_of fa41_0, fieldAddr_of fa39_0, load_of ld3, fieldAddr_of fa39_1]
  refine wsem_loop 8 [14, 40] (fun d E mF => ∃ (i : Nat), L.length - i = d ∧ i ≤ L.length ∧ mF = m ∧ (∀ x ∈ L.take i, mtr f pc x = false) ∧
    E = [(0, .pointer (some ⟨rb, 0, none⟩)), (1, .int .i64 f), (2, .int .i64 pc), (7, .int .i64 (i : Int))]) _ ⟨_, ⟨0, rfl, by omega, rfl, by simp, rfl⟩, ⟨by rfl, by rfl, by rfl, by rfl, trivial⟩⟩ ?_
  rintro d E mF ih ⟨i, hd, hi, hm, ha, rfl⟩
  rw [hm]
  have im : (i : Int) ≤ 9223372036854775807 := by omega
  by_cases hlt : i < L.length
  · have hlt' : (i : Int) < L.length := by omega
    obtain ⟨b, hb, o⟩ := h.sl.own (by omega)
    have g0 := o.load1 (off := i * 7) (v := .int .i64 L[i].f) ((rrows_at hlt (j := 0) (by omega)).trans rfl)
    have g1 := o.load1 ((rrows_at hlt (j := 1) (by omega)).trans rfl)
    have wi : IntKind.i64.wrap ((i : Int) + 1) = ((i + 1 : Nat) : Int) := by rw [wrap_i64 (by omega) (by omega)]; omega
    have nx : mtr f pc L[i] = false → ∀ x ∈ L.take (i + 1), mtr f pc x = false := fun h x hx => by
      rw [List.take_succ_eq_append_getElem hlt] at hx
      rcases List.mem_append.1 hx with hx | hx
      · exact ha x hx
      · rw [List.mem_singleton.1 hx]; exact h
    by_cases hf : L[i].f = f
    · by_cases hp : L[i].pc = pc
      · have hmt : mtr f pc L[i] = true := by simp [mtr, hf, hp]
        simp [-Int.natCast_add, -BitVec.toNat_or, -BitVec.toNat_ofInt, -BitVec.toNat_and, fieldAddr_of fa56_1, load_of ld54, len_slice u54, index_slice u54 sz41, fieldAddr_of fa41_0, fieldAddr_of fa39_0, load_of ld3, fieldAddr_of fa39_1, ld, hlt, hlt', hb, g0, g1, im, hf, hp]
        exact ⟨i, rfl, Or.inr ⟨i, rfl, hlt, hmt, ha⟩⟩
      · have hmt : mtr f pc L[i] = false := by simp [mtr, hp]
        simp [-Int.natCast_add, -BitVec.toNat_or, -BitVec.toNat_ofInt, -BitVec.toNat_and, fieldAddr_of fa56_1, load_of ld54, len_slice u54, index_slice u54 sz41, fieldAddr_of fa41_0, fieldAddr_of fa39_0, load_of ld3, fieldAddr_of fa39_1, ld, hlt, hlt', hb, g0, g1, im, hf, hp, wi]
        exact ih _ _ _ _ ⟨i + 1, rfl, by omega, rfl, nx hmt, rfl⟩ (by omega) ⟨by rfl, by rfl, by rfl, by rfl, trivial⟩
    · have hmt : mtr f pc L[i] = false := by simp [mtr, hf]
      simp [-Int.natCast_add, -BitVec.toNat_or, -BitVec.toNat_ofInt, -BitVec.toNat_and, fieldAddr_of fa56_1, load_of ld54, len_slice u54, index_slice u54 sz41, fieldAddr_of fa41_0, fieldAddr_of fa39_0, load_of ld3, fieldAddr_of fa39_1, ld, hlt, hlt', hb, g0, g1, im, hf, wi]
      exact ih _ _ _ _ ⟨i + 1, rfl, by omega, rfl, nx hmt, rfl⟩ (by omega) ⟨by rfl, by rfl, by rfl, by rfl, trivial⟩
  · have hlt' : ¬ (i : Int) < L.length := by omega
    have e : i = L.length := by omega
    rw [e, List.take_length] at ha
    simp [-Int.natCast_add, -BitVec.toNat_or, -BitVec.toNat_ofInt, -BitVec.toNat_and, fieldAddr_of fa56_1, load_of ld54, len_slice u54, index_slice u54 sz41, fieldAddr_of fa41_0, fieldAddr_of fa39_0, load_of ld3, fieldAddr_of fa39_1, ld, hlt, hlt']
    exact ⟨-1, rfl, Or.inl ⟨rfl, ha⟩⟩
/-- one more at the end, or other rows: what such a cache then is -/
theorem RA.set (h : RA R m rb room L r0 la lf) {R' : Nat → Prop} {m1 : Mem} {L1 : List Rx} {b f1 : Nat} {fs : List Nat} (k : Keeps m m1 fs) (hfs : ∀ q ∈ fs, q = r0 ∨ q = lf ∨ m.next ≤ q) (o : Own m1 rb [.int .i64 room, .slice (some ⟨b, 0, none⟩) L1.length L1.length] 56 r0) (o1 : Own m1 b (rrows L1) 41 f1)
    (hq : ∀ f, R f → R' f) (h1 : f1 ≠ r0) (h2 : f1 = lf ∨ m.next ≤ f1) (hR : R' f1) (hl : L1.length ≤ 9) (hm : ∀ x ∈ L1, x ∈ L ∨ (Rs m1 x.na x.needs.length (ic x.needs) 3 1 x.nf ∧ (x.needs ≠ [] → x.nf ≠ r0 ∧ x.nf ≠ f1 ∧ R' x.nf) ∧ x.sz ≤ 1048576 ∧ x.needs.length ≤ 1000)) : RA R' m1 rb room L1 r0 (some ⟨b, 0, none⟩) f1 := by
  have nlt : ∀ x ∈ L, x.needs ≠ [] → x.nf < m.next := fun x hx hz => by
    obtain ⟨_, _, r⟩ := (h.nd x hx).rdo (by simpa using hz)
    exact r.flt
  refine ⟨o, Sl.of o1 (by rw [rrows_len]), fun _ => h1, fun x hx => ?_, fun x hx hz => ?_, hq _ h.q0, fun _ => hR, fun x hx hz => ?_, hl, fun x hx => ?_⟩
  · rcases hm x hx with hx | hx
    · refine (h.nd x hx).keep0 k (fun z hmm => ?_)
      have hz : x.needs ≠ [] := by simpa using z
      have := h.nn x hx hz
      have := nlt x hx hz
      rcases hfs _ hmm with e | e | e
      · omega
      · omega
      · omega
    · exact hx.1
  · rcases hm x hx with hx | hx
    · have := h.nn x hx hz
      have := nlt x hx hz
      rcases h2 with e | e
      · exact ⟨by omega, by omega⟩
      · exact ⟨by omega, by omega⟩
    · exact ⟨(hx.2.1 hz).1, (hx.2.1 hz).2.1⟩
  · rcases hm x hx with hx | hx
    · exact hq _ (h.qn x hx hz)
    · exact (hx.2.1 hz).2.2
  · rcases hm x hx with hx | hx
    · exact h.sz x hx
    · exact hx.2.2
set_option maxHeartbeats 4000000 in
/-- the one at a place goes -/
theorem rdrop_run (hN : Nr S) (h : RA R m rb room L r0 la lf) {k : Nat} (hk : k < L.length) :
    ∃ v m1, callw Try.prog TT S 36 [.pointer (some ⟨rb, 0, none⟩), .int .i64 (k : Int)] m = some (v, m1) ∧ (∃ la1 lf1, RA (Qn R m m1) m1 rb room (L.eraseIdx k) r0 la1 lf1 ∧ m.next ≤ lf1) ∧ Keeps m m1 [r0] := by
  obtain ⟨b, hb, o⟩ := h.sl.own (by omega)
  have l8 := h.len
  have ld := h.own.load1 (off := 1) rfl
  have ldn := (h.own.ln [] 41 1 1).trans ld
  have oN := o.keep (keeps_new m [] 41 []) (by simp)
  have el := own_elem o
  have eln := own_elem oN
  have km : (k : Int) ≤ 9223372036854775807 := by omega
  obtain ⟨k1, hk1e⟩ : ∃ k1, k + 1 = k1 := ⟨_, rfl⟩
  have wk : IntKind.i64.wrap ((k : Int) + 1) = (k1 : Int) := by rw [wrap_i64 (by omega) (by omega)]; omega
  have km1 : (k1 : Int) ≤ 9223372036854775807 := by omega
  have hk1 : k ≤ L.length := by omega
  have hk2 : k1 ≤ L.length := by omega
  have q1 := ldS_win (n := k) (off := 0) (z := 7) oN.rdo (by rw [rrows_len]; omega)
  have ew1 : window (rrows L) 0 (k * 7) = rrows (L.take k) := by rw [window, List.drop_zero, rrows_take]
  rw [ew1] at q1
  refine fn_w 2 [] k36 hN.drop rfl ?_
  simp [-Int.natCast_add, -BitVec.toNat_or, -BitVec.toNat_ofInt, -BitVec.toNat_and, buildSlice_of u54 bs41 rfl, fieldAddr_of fa56_1, load_of ld54, slice_sl u54 sz41, append_z u54 sz41, store_of sz54, ld, ldn, hb, el, eln, km, wk, km1, hk1, hk2, q1]
  generalize hra : sappend _ _ _ _ _ _ = ra
  have one1 : ∀ l : List Rx, (rrows l).all one = true := fun l => by
    rw [List.all_eq_true]
    intro v hv
    obtain ⟨x, hx, hv⟩ := List.mem_flatMap.1 hv
    simp only [Rx.row, List.mem_cons, List.not_mem_nil, or_false] at hv
    rcases hv with rfl | rfl | rfl | rfl | rfl | rfl | rfl <;> rfl
  obtain ⟨c, hc⟩ : ∃ c, L.length - k1 = c := ⟨_, rfl⟩
  have ltk : (L.take k).length = k := by rw [List.length_take]; omega
  obtain ⟨m2, b2, rfl, o2, k2⟩ := app_own hra u54 ap41 (Own.new m [] 41) (by simp) (by rw [rrows_len, ltk]) (one1 _) (by omega) (by omega)
  clear hra
  rw [List.nil_append] at o2
  have k02 : Keeps m m2 [] := (keeps_new m [] 41 []).fresh k2 (by simp)
  have ld2 := (h.own.keep k02 (by simp)).load1 (off := 1) rfl
  have o02 := o.keep k02 (by simp)
  have el2 := own_elem o02
  have q2 := ldS_win (n := c) (off := k1 * 7) (z := 7) o02.rdo (by rw [rrows_len]; omega)
  have ew2 : window (rrows L) (k1 * 7) (c * 7) = rrows (L.drop k1) := by
    rw [window, rrows_drop, rrows_take, List.take_of_length_le (by rw [List.length_drop]; omega)]
  rw [ew2] at q2
  simp [-Int.natCast_add, -BitVec.toNat_or, -BitVec.toNat_ofInt, -BitVec.toNat_and, buildSlice_of u54 bs41 rfl, fieldAddr_of fa56_1, load_of ld54, slice_sl u54 sz41, append_z u54 sz41, store_of sz54, ld, ldn, hb, el, eln, km, wk, km1, hk1, hk2, q1, ld2, el2, hc, q2]
  generalize hrb : sappend _ _ _ _ _ _ = rb'
  obtain ⟨m3, b3, rfl, o3, k3⟩ := app_own hrb u54 ap41 o2 (by rw [rrows_len, ltk]) (by rw [rrows_len, List.length_drop, hc]) (one1 _) (by omega) (by omega)
  clear hrb
  have k03 : Keeps m m3 [] := k02.fresh k3 (by simp)
  have own3 := h.own.keep k03 (by simp)
  have ld3 := own3.load1 (off := 1) rfl
  have el3 := own_elem (o.keep k03 (by simp))
  simp [-Int.natCast_add, -BitVec.toNat_or, -BitVec.toNat_ofInt, -BitVec.toNat_and, buildSlice_of u54 bs41 rfl, fieldAddr_of fa56_1, load_of ld54, slice_sl u54 sz41, append_z u54 sz41, store_of sz54, ld, ldn, hb, el, eln, km, wk, km1, hk1, hk2, q1, ld2, el2, hc, q2, ld3, el3]
  generalize hrc : storeRow _ _ _ = rc
  obtain ⟨m4, rfl, o4, k4⟩ := store_own hrc own3 (by simp) (by simp [one_slice])
  simp [over] at o4
  simp [-Int.natCast_add, -BitVec.toNat_or, -BitVec.toNat_ofInt, -BitVec.toNat_and, buildSlice_of u54 bs41 rfl, fieldAddr_of fa56_1, load_of ld54, slice_sl u54 sz41, append_z u54 sz41, store_of sz54, ld, ldn, hb, el, eln, km, wk, km1, hk1, hk2, q1, ld2, el2, hc, q2, ld3, el3]
  have ee : L.take k ++ L.drop k1 = L.eraseIdx k := by rw [List.eraseIdx_eq_take_drop_succ, hk1e]
  have er : rrows (L.take k) ++ rrows (L.drop k1) = rrows (L.eraseIdx k) := by rw [← ee]; simp only [rrows, List.flatMap_append]
  have eln' : (L.eraseIdx k).length = k + c := by rw [List.length_eraseIdx_of_lt hk]; omega
  rw [er] at o3
  have k04 : Keeps m m4 [r0] := k03.nil.trans k4
  have n3 := k3.1
  have n4 := k4.1
  have n2 : m.next < m2.next := Nat.lt_of_lt_of_le (by simp [Mem.new]) k2.1
  have rl := h.own.flt
  have o3' := o3.keep k4 (by simp; omega)
  refine ⟨⟨some ⟨b3, 0, none⟩, m.next, h.set (R' := Qn R m m4) k04 (by simp) (by rw [eln']; exact o4) o3' (fun f hf => Or.inl hf) (by omega) (Or.inr (Nat.le_refl _)) (Or.inr ⟨Nat.le_refl _, by omega⟩) (by omega) (fun x hx => Or.inl ((List.eraseIdx_sublist L k).subset hx)), Nat.le_refl _⟩, k04⟩
end Go.Proofs.Ytljklfimdanmlaa.base

