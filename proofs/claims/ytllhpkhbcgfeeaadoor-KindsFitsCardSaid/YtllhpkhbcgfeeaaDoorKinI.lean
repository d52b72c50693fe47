/-
  This text proves what kinds.Method, Has and Fits answer over the abstract run.
  Condition: nothing is known of their calls ahead ('S f = []').
-/
import Derived.Test.YtllhpkhbcgfeeaaDoorKinH
set_option maxRecDepth 100000
set_option linter.unusedSimpArgs false
set_option linter.unusedVariables false
namespace Go.Proofs.YtllhpkhbcgfeeaaDoor.base
open Go.Sh gen
variable {S : Sums} {m : Mem}
theorem win_sub {l c : List Value} {o n : Nat} (h : window l o n = c) (k z : Nat) (hk : k + z ≤ n) : window l (o + k) z = (c.drop k).take z := by
  subst h
  simp only [window, List.drop_take, List.take_take, List.drop_drop]
  rw [Nat.min_eq_left (by omega)]
/-- methods that can be read -/
structure Ms (m : Mem) (bo : Option Addr) (ms : List MethT.D) : Prop where
  ex : ∃ (css : List (List Value)) (f : Nat), css.length = ms.length ∧ (∀ (i : Nat) d c, ms[i]? = some d → css[i]? = some c → At m MethT d c) ∧ Rs m bo ms.length css.flatten 38 4 f
  le : ms.length ≤ 9223372036854775807
  wf : ∀ x ∈ ms, MethT.wf x
theorem Ms.keep {m1 : Mem} {to : Option Addr} {L : List MethT.D} (h : Ms m to L) (k : Keeps m m1 []) : Ms m1 to L := by
  obtain ⟨css, f, h1, h2, h3⟩ := h.ex
  exact ⟨⟨css, f, h1, fun i d c hd hc => (h2 i d c hd hc).keep k, h3.keep k (by simp)⟩, h.le, h.wf⟩
/-- one of them: its cells, its row of types -/
theorem Ms.one {to : Option Addr} {L : List MethT.D} (h : Ms m to L) {i : Nat} (hi : i < L.length) : ∃ b po pf, to = some ⟨b, 0, none⟩ ∧ Rs m po L[i].2.1.length ((show List Int from L[i].2.1).map (Value.int .i64)) 3 1 pf ∧
    ∀ m', Keeps m m' [] → loadRow m' ⟨b, i * 4, none⟩ 4 = some [.string ⟨L[i].1.toArray⟩, .slice po L[i].2.1.length L[i].2.1.length, .int .i64 L[i].2.2.1, .int .i64 L[i].2.2.2.1] ∧ loadRow m' ⟨b, i * 4, none⟩ 1 = some [.string ⟨L[i].1.toArray⟩] ∧ loadRow m' ⟨b, i * 4 + 1, none⟩ 1 = some [.slice po L[i].2.1.length L[i].2.1.length] ∧ loadRow m' ⟨b, i * 4 + 2, none⟩ 1 = some [.int .i64 L[i].2.2.1] := by
  obtain ⟨css, f, h1, h2, h3⟩ := h.ex
  obtain ⟨b, rfl, hr⟩ := h3.rdo (by omega)
  obtain ⟨c, hc, hw⟩ := At.elem h1 h2 hi
  obtain ⟨po, pf, rfl, hp⟩ := meth_cells hc
  refine ⟨b, po, pf, rfl, hp, fun m' k => ?_⟩
  have hl : css.flatten.length = L.length * 4 := h3.1.symm
  have hw : window css.flatten (i * 4) 4 = _ := hw
  have g := hr.keep k (by simp)
  refine ⟨?_, ?_, ?_, ?_⟩
  · rw [g.load (off := i * 4) 4 (by rw [hl]; omega), hw]
  · rw [g.load (off := i * 4) 1 (by rw [hl]; omega)]
    exact congrArg some (win_sub hw 0 1 (by omega))
  · rw [g.load (off := i * 4 + 1) 1 (by rw [hl]; omega)]
    exact congrArg some (win_sub hw 1 1 (by omega))
  · rw [g.load (off := i * 4 + 2) 1 (by rw [hl]; omega)]
    exact congrArg some (win_sub hw 2 1 (by omega))
/-- a type of the table: its kind, its methods -/
theorem Tb.meths {to : Option Addr} {L : List TypeT.D} (h : Tb m to L) {i : Nat} (hi : i < L.length) : ∃ b bo, to = some ⟨b, 0, none⟩ ∧ Ms m bo L[i].2.2.2.2.1 ∧
    ∀ m', Keeps m m' [] → loadRow m' ⟨b, i * 5, none⟩ 1 = some [.int .i64 L[i].1] ∧ loadRow m' ⟨b, i * 5 + 4, none⟩ 1 = some [.slice bo L[i].2.2.2.2.1.length L[i].2.2.2.2.1.length] := by
  obtain ⟨css, f, h1, h2, h3⟩ := h.ex
  obtain ⟨b, rfl, hr⟩ := h3.rdo (by omega)
  obtain ⟨c, hc, hw⟩ := At.elem h1 h2 hi
  obtain ⟨ao, bo, ca, cb, fa, fb, ty⟩ := type_cells hc
  have hwf := h.wf _ (List.getElem_mem hi)
  refine ⟨b, bo, rfl, ⟨⟨cb, fb, ty.ml, ty.me, ty.mr⟩, hwf.2.2.2.2.1.1, hwf.2.2.2.2.1.2⟩, fun m' k => ?_⟩
  have hl : css.flatten.length = L.length * 5 := h3.1.symm
  have hw : window css.flatten (i * 5) 5 = _ := hw
  rw [ty.c] at hw
  have g := hr.keep k (by simp)
  refine ⟨?_, ?_⟩
  · rw [g.load (off := i * 5) 1 (by rw [hl]; omega)]
    exact congrArg some (win_sub hw 0 1 (by omega))
  · rw [g.load (off := i * 5 + 4) 1 (by rw [hl]; omega)]
    exact congrArg some (win_sub hw 4 1 (by omega))
theorem is_run (hS : S 25 = []) {nb : Nat} {nm : List UInt8} {x : MethT.D} {po : Option Addr} {n1 n2 : Nat} {r f : Int} (hld : ∀ m', Keeps m m' [] → loadRow m' ⟨nb, 0, none⟩ 1 = some [.string ⟨nm.toArray⟩]) {s : List UInt8} :
    ∃ v m1, callw Tryd.prog TT S 25 [.agg #[.string ⟨s.toArray⟩, .slice po n1 n2, .int .i64 r, .int .i64 f], .pointer (some ⟨nb, 0, none⟩)] m = some (v, m1) ∧ v = .bool (decide (s = nm)) ∧ Keeps m m1 [] := by
  refine fn_w 4 [] k25 hS rfl ?_
  obtain ⟨o1, k1, n1'⟩ := new_own (m := m) (cs := [.string ⟨s.toArray⟩, .slice po n1 n2, .int .i64 r, .int .i64 f]) (e := 38) rfl
  have l0 := o1.load1 (off := 0) rfl
  have l1 := hld _ k1
  simp [-Int.natCast_add, -BitVec.toNat_or, -BitVec.toNat_ofInt, -BitVec.toNat_and, box_of b38, fieldAddr_of fa38_0, load_of ld9, l0, l1]
  exact k1
/-- where a method of a name stands -/
def findM (nm : List UInt8) : List MethT.D → Nat → Int
  | [], _ => -1
  | x :: r, i => if x.1 = nm then i else findM nm r (i + 1)
theorem findM_c (nm : List UInt8) (x : MethT.D) (r : List MethT.D) (i : Nat) : findM nm (x :: r) i = if x.1 = nm then (i : Int) else findM nm r (i + 1) := rfl
theorem findM_some (nm : List UInt8) : ∀ (l : List MethT.D) (i : Nat), findM nm l i = -1 ∨ ∃ (j : Nat) (hj : j < l.length), findM nm l i = ((i + j : Nat) : Int)
  | [], _ => Or.inl rfl
  | x :: r, i => by
    unfold findM
    by_cases h : x.1 = nm
    · rw [if_pos h]
      exact Or.inr ⟨0, by simp, rfl⟩
    · rw [if_neg h]
      rcases findM_some nm r (i + 1) with h1 | ⟨j, hj, h1⟩
      · exact Or.inl h1
      · exact Or.inr ⟨j + 1, by simp; omega, by rw [h1]; congr 1; omega⟩
theorem idxF_run (hI : S 24 = []) (hS : S 25 = []) {nb : Nat} {nm : List UInt8} {bo : Option Addr} {ms : List MethT.D} (h : Ms m bo ms) (hld : ∀ m', Keeps m m' [] → loadRow m' ⟨nb, 0, none⟩ 1 = some [.string ⟨nm.toArray⟩]) :
    ∃ v m1, callw Tryd.prog TT S 24 [.slice bo ms.length ms.length, .func (.func 25) #[] #[.pointer (some ⟨nb, 0, none⟩)]] m = some (v, m1) ∧ v = .int .i64 (findM nm ms 0) ∧ Keeps m m1 [] := by
  refine fn_w 9 [9, 16] k24 hI rfl ?_
  simp [-Int.natCast_add, -BitVec.toNat_or, -BitVec.toNat_ofInt, -BitVec.toNat_and, len_slice u23, index_slice u23 sz38, load_agg ld38]
  refine wsem_loop 9 [9, 16] (fun dd E mC => ∃ (i : Nat), ms.length - i = dd ∧ i ≤ ms.length ∧ findM nm ms 0 = findM nm (ms.drop i) i ∧ Keeps m mC [] ∧
    E = [(0, .slice bo ms.length ms.length), (1, .func (.func 25) #[] #[.pointer (some ⟨nb, 0, none⟩)]), (7, .int .i64 ms.length), (8, .int .i64 i)]) _ ⟨_, ⟨0, rfl, by omega, rfl, keeps_refl _, rfl⟩, ⟨by rfl, by rfl, by rfl, by rfl, trivial⟩⟩ ?_
  rintro dd E mC ih ⟨i, hdi, hi, hf, kC, rfl⟩
  by_cases hlt : i < ms.length
  · have i1 : (i : Int) < ms.length := by omega
    have hle := h.le
    have em : (i : Int) ≤ 9223372036854775807 := by omega
    have wi : IntKind.i64.wrap ((i : Int) + 1) = ((i + 1 : Nat) : Int) := by rw [wrap_i64 (by omega) (by omega)]; omega
    obtain ⟨mb, po, pf, rfl, hp, hld1⟩ := (h.keep kC).one hlt
    have l4 := (hld1 _ (keeps_refl _)).1
    rw [List.drop_eq_getElem_cons hlt] at hf
    obtain ⟨x, hx⟩ : ∃ x, ms[i] = x := ⟨_, rfl⟩
    rw [hx] at l4 hf
    obtain ⟨_, mD, hs, rfl, kD⟩ := is_run (m := mC) hS (x := x) (po := po) (n1 := x.2.1.length) (n2 := x.2.1.length) (r := x.2.2.1) (f := x.2.2.2.1) (nm := nm) (s := x.1) (nb := nb) (fun m' k => hld m' (kC.trans k))
    rw [findM_c] at hf
    by_cases he : x.1 = nm
    · rw [decide_eq_true he] at hs
      simp [-Int.natCast_add, -BitVec.toNat_or, -BitVec.toNat_ofInt, -BitVec.toNat_and, len_slice u23, index_slice u23 sz38, load_agg ld38, i1, em, hlt, l4, hs, wi]
      rw [if_pos he] at hf
      exact ⟨hf.symm, kC.trans kD⟩
    · rw [decide_eq_false he] at hs
      simp [-Int.natCast_add, -BitVec.toNat_or, -BitVec.toNat_ofInt, -BitVec.toNat_and, len_slice u23, index_slice u23 sz38, load_agg ld38, i1, em, hlt, l4, hs, wi]
      rw [if_neg he] at hf
      exact ih _ _ _ _ ⟨i + 1, rfl, by omega, hf, kC.trans kD, rfl⟩ (by omega) ⟨by rfl, by rfl, by rfl, by simp [lget], trivial⟩
  · have i1 : ¬ (i : Int) < ms.length := by omega
    rw [List.drop_eq_nil_of_le (by omega)] at hf
    simp [-Int.natCast_add, -BitVec.toNat_or, -BitVec.toNat_ofInt, -BitVec.toNat_and, len_slice u23, index_slice u23 sz38, load_agg ld38, i1, hf, findM]
    exact kC
/-- Method: of a struct or an interface, that is there -/
theorem method1_run (hM : S 11 = []) (hO : S 23 = []) (hI : S 24 = []) (hS : S 25 = []) {to : Option Addr} {L : List TypeT.D} (h : Tb m to L) {i : Nat} (hi : i < L.length) (hk : L[i].1 = 5) (nm : List UInt8) :
    ∃ v m1, callw Tryd.prog TT S 11 [.slice to L.length L.length, .int .i64 i, .string ⟨nm.toArray⟩] m = some (v, m1) ∧ ((∃ (j : Nat), j < L[i].2.2.2.2.1.length ∧ findM nm L[i].2.2.2.2.1 0 = j ∧ v = .tuple #[.int .i64 j, .bool true]) ∨ (findM nm L[i].2.2.2.2.1 0 = -1 ∧ v = .tuple #[.int .i64 0, .bool false])) ∧ Keeps m m1 [] := by
  refine fn_w 11 [24] k11 hM rfl ?_
  obtain ⟨o1, k1, n1⟩ := new_own (m := m) (cs := [.string ⟨nm.toArray⟩]) (e := 9) rfl
  obtain ⟨nb, hnb⟩ : ∃ xb, m.next = xb := ⟨_, rfl⟩
  obtain ⟨m1, hm1⟩ : ∃ m1, m.new [.string ⟨nm.toArray⟩] 9 = m1 := ⟨_, rfl⟩
  rw [hnb] at o1 n1
  rw [hm1] at o1 k1 n1
  obtain ⟨_, m2, hc, hcase, k2⟩ := of_run hO (h.keep k1) (i : Int)
  rcases hcase with ⟨i', c, hii, ⟨hi', hA⟩, rfl⟩ | ⟨hno, rfl⟩
  · obtain rfl : i = i' := by omega
    obtain ⟨ao, bo, ca, cb, f, g, ty⟩ := type_cells hA
    have hwf := h.wf _ (List.getElem_mem hi)
    have hMs : Ms m1 bo L[i].2.2.2.2.1 := ⟨⟨cb, g, ty.ml, ty.me, ty.mr⟩, hwf.2.2.2.2.1.1, hwf.2.2.2.2.1.2⟩
    rw [ty.c] at hc
    obtain ⟨x, hx⟩ : ∃ x, L[i] = x := ⟨_, rfl⟩
    simp only [hx] at hc hMs hk ⊢
    rw [hk] at hc
    obtain ⟨o3, k3, n3⟩ := new_own (m := m2) (cs := [Value.int .i64 0, .string ⟨#[]⟩, .int .i64 0, .slice none 0 0, .slice none 0 0]) (e := 25) rfl
    obtain ⟨xb, hxb⟩ : ∃ xb, m2.next = xb := ⟨_, rfl⟩
    rw [hxb] at o3 n3
    simp [-Int.natCast_add, -BitVec.toNat_or, -BitVec.toNat_ofInt, -BitVec.toNat_and, box_of b9, alloc_of zo25, store_of sz25, fieldAddr_of fa25_0, load_of ld3, fieldAddr_of fa25_4, load_of ld23, hnb, hm1, hc, hxb]
    generalize hra : storeRow _ _ _ = ra
    obtain ⟨m4, rfl, o4, k4⟩ := store_own hra o3 (by simp) (by simp [one_int, one_str, one_slice])
    simp [over] at o4
    have l0 := o4.load1 (off := 0) rfl
    have l4 := o4.load1 (off := 4) rfl
    have k14 : Keeps m1 m4 [] := (k2.trans k3).fresh k4 (by have := k2.1; simp; omega)
    obtain ⟨_, m5, hf, rfl, k5⟩ := idxF_run (m := m4) hI hS (nb := nb) (nm := nm) (hMs.keep k14) (fun m' k => (o1.keep (k14.trans k) (by simp)).load1 (off := 0) rfl)
    have K5 : Keeps m m5 [] := (k1.trans k14).trans k5
    rcases findM_some nm x.2.2.2.2.1 0 with he | ⟨j, hj, he⟩
    · rw [he] at hf ⊢
      simp [-Int.natCast_add, -BitVec.toNat_or, -BitVec.toNat_ofInt, -BitVec.toNat_and, box_of b9, alloc_of zo25, store_of sz25, fieldAddr_of fa25_0, load_of ld3, fieldAddr_of fa25_4, load_of ld23, l0, l4, hf]
      exact K5
    · rw [Nat.zero_add] at he
      rw [he] at hf ⊢
      have j0 : ¬ (j : Int) < 0 := by omega
      have j1 : (0 : Int) ≤ j := by omega
      simp [-Int.natCast_add, -BitVec.toNat_or, -BitVec.toNat_ofInt, -BitVec.toNat_and, box_of b9, alloc_of zo25, store_of sz25, fieldAddr_of fa25_0, load_of ld3, fieldAddr_of fa25_4, load_of ld23, l0, l4, hf, j0, j1]
      exact ⟨⟨j, hj, rfl⟩, K5⟩
  · exact absurd ⟨by omega, by omega⟩ hno
/-- does one have it just so? -/
def okM (A : List MethT.D) (x : MethT.D) : Bool := match A[(findM x.1 A 0).toNat]? with
  | some y => decide (0 ≤ findM x.1 A 0) && decide (y.2.2.1 = x.2.2.1) && decide ((show List Int from y.2.1) = x.2.1)
  | none => false
theorem okM_no {A : List MethT.D} {x : MethT.D} (h : findM x.1 A 0 = -1) : okM A x = false := by
  unfold okM
  rw [h]
  cases A[((-1 : Int)).toNat]? <;> simp
theorem okM_at {A : List MethT.D} {x : MethT.D} {j : Nat} (hj : j < A.length) (h : findM x.1 A 0 = j) : okM A x = (decide (A[j].2.2.1 = x.2.2.1) && decide ((show List Int from A[j].2.1) = x.2.1)) := by
  unfold okM
  rw [h, Int.toNat_natCast, List.getElem?_eq_getElem hj]
  simp
theorem kindF_at {L : List TypeT.D} {i : Nat} (hi : i < L.length) : kindF L (i : Int) = L[i].1 := by
  unfold kindF
  rw [dif_pos ⟨by omega, by omega⟩]
  rfl
theorem all_take {α : Type} {l : List α} {p : α → Bool} {i : Nat} (hi : i < l.length) (h : (l.take i).all p = true) (hp : p l[i] = true) : (l.take (i + 1)).all p = true := by
  rw [List.take_succ_eq_append_getElem hi, List.all_append, h]
  simp [hp]
theorem all_no {α : Type} {l : List α} {p : α → Bool} {i : Nat} (hi : i < l.length) (hp : p l[i] = false) : l.all p = false := by
  rw [List.all_eq_false]
  exact ⟨l[i], List.getElem_mem hi, by simp [hp]⟩
structure Nh (S : Sums) : Prop where
  has : S 27 = []
  kind : S 26 = []
  meth : S 11 = []
  of : S 23 = []
  idx : S 24 = []
  is : S 25 = []
  eqI : S 19 = []
/-- Has: all that is asked for -/
theorem has_run (hN : Nh S) {to : Option Addr} {L : List TypeT.D} (h : Tb m to L) {a b : Nat} (ha : a < L.length) (hb : b < L.length) :
    ∃ v m1, callw Tryd.prog TT S 27 [.slice to L.length L.length, .int .i64 a, .int .i64 b] m = some (v, m1) ∧ v = .bool (decide (L[a].1 = 5) && decide (L[b].1 = 7) && L[b].2.2.2.2.1.all (okM L[a].2.2.2.2.1)) ∧ Keeps m m1 [] := by
  refine fn_w 29 [29, 41, 62] k27 hN.has rfl ?_
  obtain ⟨_, m1, h1, rfl, k1⟩ := kind_run hN.kind hN.of h (a : Int)
  obtain ⟨_, m2, h2, rfl, k2⟩ := kind_run hN.kind hN.of (h.keep k1) (b : Int)
  rw [kindF_at ha] at h1
  rw [kindF_at hb] at h2
  obtain ⟨x, hx⟩ : ∃ x, L[a] = x := ⟨_, rfl⟩
  obtain ⟨y, hy⟩ : ∃ x, L[b] = x := ⟨_, rfl⟩
  simp only [hx, hy] at h1 h2 ⊢
  by_cases e1 : x.1 = 5
  case neg =>
    simp [-Int.natCast_add, -BitVec.toNat_or, -BitVec.toNat_ofInt, -BitVec.toNat_and, index_slice u27 sz25, fieldAddr_of fa25_4, load_of ld23, len_slice u23, index_slice u23 sz38, load_agg ld38, alloc_of zo38, store_of sz38, fieldAddr_of fa38_0, load_of ld9, fieldAddr_of fa38_2, load_of ld3, fieldAddr_of fa38_1, load_of ld36, h1, e1]
    exact k1
  rw [e1] at h1
  by_cases e2 : y.1 = 7
  case neg =>
    simp [-Int.natCast_add, -BitVec.toNat_or, -BitVec.toNat_ofInt, -BitVec.toNat_and, index_slice u27 sz25, fieldAddr_of fa25_4, load_of ld23, len_slice u23, index_slice u23 sz38, load_agg ld38, alloc_of zo38, store_of sz38, fieldAddr_of fa38_0, load_of ld9, fieldAddr_of fa38_2, load_of ld3, fieldAddr_of fa38_1, load_of ld36, h1, h2, e1, e2]
    exact k1.trans k2
  rw [e2] at h2
  have hT := h.keep (k1.trans k2)
  obtain ⟨tb, bo, rfl, hMb, ldb⟩ := hT.meths hb
  obtain ⟨_, ao, het, hMa, lda⟩ := hT.meths ha
  cases het
  rw [hx] at hMa lda
  rw [hy] at hMb ldb
  have lb := (ldb _ (keeps_refl _)).2
  have hLl := h.le
  have em : (b : Int) ≤ 9223372036854775807 := by omega
  have ema : (a : Int) ≤ 9223372036854775807 := by omega
  simp [-Int.natCast_add, -BitVec.toNat_or, -BitVec.toNat_ofInt, -BitVec.toNat_and, index_slice u27 sz25, fieldAddr_of fa25_4, load_of ld23, len_slice u23, index_slice u23 sz38, load_agg ld38, alloc_of zo38, store_of sz38, fieldAddr_of fa38_0, load_of ld9, fieldAddr_of fa38_2, load_of ld3, fieldAddr_of fa38_1, load_of ld36, h1, h2, e1, e2, em, hb, lb]
  obtain ⟨A, hA⟩ : ∃ A, x.2.2.2.2.1 = A := ⟨_, rfl⟩
  obtain ⟨B, hB⟩ : ∃ A, y.2.2.2.2.1 = A := ⟨_, rfl⟩
  simp only [hA, hB] at hMa hMb lda lb ldb ⊢
  refine wsem_loop 29 [29, 41, 62] (fun dd E mC => ∃ (i : Nat), B.length - i = dd ∧ i ≤ B.length ∧ (B.take i).all (okM A) = true ∧ Keeps m2 mC [] ∧
    E = [(0, .slice (some ⟨tb, 0, none⟩) L.length L.length), (1, .int .i64 a), (2, .int .i64 b), (26, .slice bo B.length B.length), (27, .int .i64 B.length), (28, .int .i64 i)]) _ ⟨_, ⟨0, rfl, by omega, rfl, keeps_refl _, rfl⟩, ⟨by rfl, by rfl, by rfl, by rfl, by rfl, by rfl, trivial⟩⟩ ?_
  rintro dd E mC ih ⟨i, hdi, hi, hall, kC, rfl⟩
  by_cases hlt : i < B.length
  · have i1 : (i : Int) < B.length := by omega
    have hle := hMb.le
    have emi : (i : Int) ≤ 9223372036854775807 := by omega
    have wi : IntKind.i64.wrap ((i : Int) + 1) = ((i + 1 : Nat) : Int) := by rw [wrap_i64 (by omega) (by omega)]; omega
    obtain ⟨mb, po, pf, rfl, hp, hld1⟩ := (hMb.keep kC).one hlt
    have l4 := (hld1 _ (keeps_refl _)).1
    obtain ⟨z, hz⟩ : ∃ x, B[i] = x := ⟨_, rfl⟩
    rw [hz] at l4 hp
    obtain ⟨o1, j1, n1⟩ := new_own (m := mC) (cs := [.string ⟨#[]⟩, .slice none 0 0, .int .i64 0, .int .i64 0]) (e := 38) rfl
    obtain ⟨zb, hzb⟩ : ∃ xb, mC.next = xb := ⟨_, rfl⟩
    rw [hzb] at o1 n1
    obtain ⟨mD, hmD⟩ : ∃ mD, mC.new [.string ⟨#[]⟩, .slice none 0 0, .int .i64 0, .int .i64 0] 38 = mD := ⟨_, rfl⟩
    rw [hmD] at o1 j1 n1
    simp [-Int.natCast_add, -BitVec.toNat_or, -BitVec.toNat_ofInt, -BitVec.toNat_and, index_slice u27 sz25, fieldAddr_of fa25_4, load_of ld23, len_slice u23, index_slice u23 sz38, load_agg ld38, alloc_of zo38, store_of sz38, fieldAddr_of fa38_0, load_of ld9, fieldAddr_of fa38_2, load_of ld3, fieldAddr_of fa38_1, load_of ld36, i1, emi, hlt, l4, hzb, hmD]
    generalize hra : storeRow _ _ _ = ra
    obtain ⟨mE, rfl, o2, j2⟩ := store_own hra o1 (by simp) (by simp [one_int, one_str, one_slice])
    simp [over] at o2
    have kE : Keeps mC mE [] := j1.fresh j2 (by simp; omega)
    have l0 := o2.load1 (off := 0) rfl
    have hxk : L[a].1 = 5 := by rw [hx]; exact e1
    obtain ⟨v, mF, hmt, hcase, kF⟩ := method1_run hN.meth hN.of hN.idx hN.is (hT.keep (kC.trans kE)) ha hxk z.1
    rw [hx, hA] at hcase
    have KF := (kC.trans kE).trans kF
    rcases hcase with ⟨j, hj, hfj, rfl⟩ | ⟨hfn, rfl⟩
    case inr =>
      have hno : B.all (okM A) = false := all_no hlt (by rw [hz]; exact okM_no hfn)
      simp [-Int.natCast_add, -BitVec.toNat_or, -BitVec.toNat_ofInt, -BitVec.toNat_and, index_slice u27 sz25, fieldAddr_of fa25_4, load_of ld23, len_slice u23, index_slice u23 sz38, load_agg ld38, alloc_of zo38, store_of sz38, fieldAddr_of fa38_0, load_of ld9, fieldAddr_of fa38_2, load_of ld3, fieldAddr_of fa38_1, load_of ld36, l0, hmt, hno]
      exact (k1.trans k2).trans KF
    have l1F := (o2.keep kF (by simp)).load1 (off := 1) rfl
    have l2F := (o2.keep kF (by simp)).load1 (off := 2) rfl
    have la := (lda _ KF).2
    have emj : (j : Int) ≤ 9223372036854775807 := by have := hMa.le; omega
    obtain ⟨ma, qo, qf, rfl, hq, hld2⟩ := (hMa.keep KF).one hj
    have q4 := (hld2 _ (keeps_refl _)).1
    have hok := okM_at hj hfj
    obtain ⟨u, hu⟩ : ∃ x, A[j] = x := ⟨_, rfl⟩
    rw [hu] at q4 hq hok
    obtain ⟨p1, i2, n2⟩ := new_own (m := mF) (cs := [.string ⟨#[]⟩, .slice none 0 0, .int .i64 0, .int .i64 0]) (e := 38) rfl
    obtain ⟨ub, hub⟩ : ∃ xb, mF.next = xb := ⟨_, rfl⟩
    rw [hub] at p1 n2
    obtain ⟨mG, hmG⟩ : ∃ mD, mF.new [.string ⟨#[]⟩, .slice none 0 0, .int .i64 0, .int .i64 0] 38 = mD := ⟨_, rfl⟩
    rw [hmG] at p1 i2 n2
    simp [-Int.natCast_add, -BitVec.toNat_or, -BitVec.toNat_ofInt, -BitVec.toNat_and, index_slice u27 sz25, fieldAddr_of fa25_4, load_of ld23, len_slice u23, index_slice u23 sz38, load_agg ld38, alloc_of zo38, store_of sz38, fieldAddr_of fa38_0, load_of ld9, fieldAddr_of fa38_2, load_of ld3, fieldAddr_of fa38_1, load_of ld36, l0, hmt, ema, ha, la, emj, hj, q4, hub, hmG]
    generalize hrb : storeRow _ _ _ = rb
    obtain ⟨mH, rfl, p2, i3⟩ := store_own hrb p1 (by simp) (by simp [one_int, one_str, one_slice])
    simp [over] at p2
    have kH : Keeps mF mH [] := i2.fresh i3 (by simp; omega)
    have g2 := p2.load1 (off := 2) rfl
    have g1 := p2.load1 (off := 1) rfl
    have f2 := ((o2.keep kF (by simp)).keep kH (by simp)).load1 (off := 2) rfl
    have f1 := ((o2.keep kF (by simp)).keep kH (by simp)).load1 (off := 1) rfl
    have KH := KF.trans kH
    by_cases er : u.2.2.1 = z.2.2.1
    case neg =>
      have hno : B.all (okM A) = false := all_no hlt (by rw [hz, hok]; simp [er])
      simp [-Int.natCast_add, -BitVec.toNat_or, -BitVec.toNat_ofInt, -BitVec.toNat_and, index_slice u27 sz25, fieldAddr_of fa25_4, load_of ld23, len_slice u23, index_slice u23 sz38, load_agg ld38, alloc_of zo38, store_of sz38, fieldAddr_of fa38_0, load_of ld9, fieldAddr_of fa38_2, load_of ld3, fieldAddr_of fa38_1, load_of ld36, g1, g2, f1, f2, er, hno]
      exact (k1.trans k2).trans KH
    have hwu := (hMa.wf _ (List.getElem_mem hj)).2.1.1
    rw [hu] at hwu
    obtain ⟨_, _, he, rfl, rfl⟩ := eqI_run (m := mH) hN.eqI (hq.keep kH (by simp)) hwu ((hp.keep (kE.trans (kF.trans kH)) (by simp)))
    by_cases ep : (show List Int from u.2.1) = z.2.1
    case neg =>
      have hno : B.all (okM A) = false := all_no hlt (by rw [hz, hok]; simp [ep])
      rw [decide_eq_false ep] at he
      simp [-Int.natCast_add, -BitVec.toNat_or, -BitVec.toNat_ofInt, -BitVec.toNat_and, index_slice u27 sz25, fieldAddr_of fa25_4, load_of ld23, len_slice u23, index_slice u23 sz38, load_agg ld38, alloc_of zo38, store_of sz38, fieldAddr_of fa38_0, load_of ld9, fieldAddr_of fa38_2, load_of ld3, fieldAddr_of fa38_1, load_of ld36, g1, g2, f1, f2, er, he, hno]
      exact (k1.trans k2).trans KH
    have hyes : okM A B[i] = true := by rw [hz, hok]; simp [er, ep]
    rw [decide_eq_true ep] at he
    simp [-Int.natCast_add, -BitVec.toNat_or, -BitVec.toNat_ofInt, -BitVec.toNat_and, index_slice u27 sz25, fieldAddr_of fa25_4, load_of ld23, len_slice u23, index_slice u23 sz38, load_agg ld38, alloc_of zo38, store_of sz38, fieldAddr_of fa38_0, load_of ld9, fieldAddr_of fa38_2, load_of ld3, fieldAddr_of fa38_1, load_of ld36, g1, g2, f1, f2, er, he, wi]
    exact ih _ _ _ _ ⟨i + 1, rfl, by omega, all_take hlt hall hyes, KH, rfl⟩ (by omega) ⟨by rfl, by rfl, by rfl, by rfl, by rfl, by simp [lget], trivial⟩
  · have i1 : ¬ (i : Int) < B.length := by omega
    rw [List.take_of_length_le (by omega)] at hall
    simp [-Int.natCast_add, -BitVec.toNat_or, -BitVec.toNat_ofInt, -BitVec.toNat_and, index_slice u27 sz25, fieldAddr_of fa25_4, load_of ld23, len_slice u23, index_slice u23 sz38, load_agg ld38, alloc_of zo38, store_of sz38, fieldAddr_of fa38_0, load_of ld9, fieldAddr_of fa38_2, load_of ld3, fieldAddr_of fa38_1, load_of ld36, i1, hall]
    exact (k1.trans k2).trans kC
/-- Fits -/
def fitsF (L : List TypeT.D) (a b : Nat) (x y : TypeT.D) : Bool :=
  if a = b then decide (x.1 ≠ 0 ∧ x.1 ≠ 4) else if x.1 = 4 then decide (y.1 = 5 ∨ y.1 = 6 ∨ y.1 = 7) else decide (x.1 = 5) && decide (y.1 = 7) && y.2.2.2.2.1.all (okM x.2.2.2.2.1)
theorem fits_run (hN : Nh S) (hF : S 12 = []) {to : Option Addr} {L : List TypeT.D} (h : Tb m to L) {a b : Nat} (ha : a < L.length) (hb : b < L.length) (pa : (0 : Int) ≤ L[a].1) (pb : (0 : Int) ≤ L[b].1) :
    ∃ v m1, callw Tryd.prog TT S 12 [.slice to L.length L.length, .int .i64 a, .int .i64 b] m = some (v, m1) ∧ v = .bool (fitsF L a b L[a] L[b]) ∧ Keeps m m1 [] := by
  refine fn_w 9 [15, 22, 32] k12 hF rfl ?_
  obtain ⟨_, m1, h1, rfl, k1⟩ := kind_run hN.kind hN.of h (a : Int)
  obtain ⟨_, m2, h2, rfl, k2⟩ := kind_run hN.kind hN.of (h.keep k1) (b : Int)
  obtain ⟨_, m3, h3, rfl, k3⟩ := has_run hN (h.keep (k1.trans k2)) ha hb
  rw [kindF_at ha] at h1
  rw [kindF_at hb] at h2
  obtain ⟨x, hx⟩ : ∃ x, L[a] = x := ⟨_, rfl⟩
  obtain ⟨y, hy⟩ : ∃ x, L[b] = x := ⟨_, rfl⟩
  simp only [hx, hy] at h1 h2 h3 pa pb ⊢
  have q1 : ¬ @LT.lt Int _ x.1 0 := Int.not_lt.2 pa
  have q2 : ¬ @LT.lt Int _ y.1 0 := Int.not_lt.2 pb
  by_cases e1 : a = b
  · subst e1
    by_cases e2 : x.1 = 0 <;> by_cases e3 : x.1 = 4 <;> simp [-Int.natCast_add, -BitVec.toNat_or, -BitVec.toNat_ofInt, -BitVec.toNat_and, id, h1, h2, q1, q2, e2, e3, fitsF] <;> exact k1.trans k2
  · have e1' : ¬ (a : Int) = b := by omega
    by_cases e2 : x.1 = 4
    · rw [e2] at h1
      by_cases e3 : y.1 = 5
      · simp [-Int.natCast_add, -BitVec.toNat_or, -BitVec.toNat_ofInt, -BitVec.toNat_and, id, h1, h2, q2, e1, e1', e2, e3, fitsF]
        exact k1.trans k2
      · by_cases e4 : y.1 = 6
        · simp [-Int.natCast_add, -BitVec.toNat_or, -BitVec.toNat_ofInt, -BitVec.toNat_and, id, h1, h2, q2, e1, e1', e2, e3, e4, fitsF]
          exact k1.trans k2
        · by_cases e5 : y.1 = 7 <;> simp [-Int.natCast_add, -BitVec.toNat_or, -BitVec.toNat_ofInt, -BitVec.toNat_and, id, h1, h2, q2, e1, e1', e2, e3, e4, e5, fitsF] <;> exact k1.trans k2
    · simp [-Int.natCast_add, -BitVec.toNat_or, -BitVec.toNat_ofInt, -BitVec.toNat_and, id, h1, h2, h3, q1, q2, e1, e1', e2, fitsF]
      exact (k1.trans k2).trans k3
end Go.Proofs.YtllhpkhbcgfeeaaDoor.base

