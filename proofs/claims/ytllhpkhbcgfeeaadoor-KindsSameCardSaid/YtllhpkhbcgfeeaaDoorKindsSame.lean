/-
  This text proves 'Rows.KindsSameCardSaid': the law 'KindsSame' returns true at any two types, any table, any numbers, in whatever memory and on every tape, and its input reads as it did.
  The condition is the card's own: the listed package-level variables hold what the program's text lays.
-/
import Derived.Test.YtllhpkhbcgfeeaaDoorCards
import Derived.Test.YtllhpkhbcgfeeaaDoorTie
import Derived.Deep.DeepHandedRow
import Derived.Lib.LaidTab
import Derived.Test.YtllhpkhbcgfeeaaDoorKinD
set_option maxRecDepth 100000
set_option linter.unusedSimpArgs false
set_option linter.unusedVariables false
namespace Go.Proofs.YtllhpkhbcgfeeaaDoor.kindsSame
open Go.Sh gen base
variable {S : Sums} {m : Mem}
theorem sameB_comm {α : Type} (x y : α) : sameB x y = sameB y x := by
  by_cases h : x = y
  · rw [sameB_t h, sameB_t h.symm]
  · rw [sameB_f h, sameB_f (fun e => h e.symm)]
theorem five {x : TypeT.D} {c : List Value} (h : At m TypeT x c) : ∃ c0 c1 c2 c3 c4, c = [c0, c1, c2, c3, c4] := by
  have hl := h.len
  have e5 : TypeT.size = 5 := rfl
  rw [e5] at hl
  match c, hl with
  | [c0, c1, c2, c3, c4], _ => exact ⟨c0, c1, c2, c3, c4, rfl⟩
/-- a row of rows: one of them -/
theorem win_at {z : Nat} : ∀ {css : List (List Value)} {i : Nat} (hi : i < css.length), (∀ c ∈ css, c.length = z) → window css.flatten (i * z) z = css[i]
  | c :: css, 0, _, h => by
    have := h c (List.mem_cons_self ..)
    simp [window, ← this]
  | c :: css, i + 1, hi, h => by
    have h0 := h c (List.mem_cons_self ..)
    have ih := win_at (css := css) (i := i) (by simpa using hi) (fun c' hc => h c' (List.mem_cons_of_mem _ hc))
    simp only [List.getElem_cons_succ]
    rw [← ih]
    simp only [window, List.flatten_cons]
    rw [show (i + 1) * z = c.length + i * z by rw [h0, Nat.add_mul]; omega, ← List.drop_drop, List.drop_left]
/-- a type out of the table -/
theorem pick_ty {Q : Nat → Prop} {L : List TypeT.D} {css : List (List Value)} {bo ob : Nat} (hcl : css.length = L.length) (hat : ∀ (i : Nat) d c, L[i]? = some d → css[i]? = some c → AtQ Q m TypeT d c) (oC : Own m bo css.flatten 25 ob) {q : Nat} (hq : q < L.length) :
    ∃ c, AtQ Q m TypeT L[q] c ∧ loadRow m ⟨bo, q * 5, none⟩ 5 = some c := by
  have hq2 : q < css.length := by omega
  refine ⟨css[q], hat q _ _ (List.getElem?_eq_getElem hq) (List.getElem?_eq_getElem hq2), ?_⟩
  have e5 : TypeT.size = 5 := rfl
  have hl := flat_len hcl hat
  rw [e5] at hl
  rw [oC.load (off := q * 5) 5 (by rw [hl]; omega)]
  refine congrArg some (win_at hq2 ?_)
  intro c hc
  obtain ⟨i, hi, rfl⟩ := List.getElem_of_mem hc
  rw [← e5]
  exact (hat i _ _ (List.getElem?_eq_getElem (by omega)) (List.getElem?_eq_getElem hi)).at_.len
set_option maxHeartbeats 4000000 in
theorem law_run (hN : Ns S) (hK : S 7 = [([], .bool true)]) (hS : S 3 = []) (hT : S 5 = []) (hB : S 13 = []) (hO : S 14 = []) (hP : S 6 = [])
    {x y : TypeT.D} {cx cy : List Value} (wx : TypeT.wf x) (hx : At m TypeT x cx) (wy : TypeT.wf y) (hy : At m TypeT y cy)
    {l : List RawT.D} {cl : List Value} (hl : RawsT.wf l) (ha : At m RawsT l cl) {i k : Int} (hi : (Lit.int .i64 i).wf = true) (hk : (Lit.int .i64 k).wf = true) {near : Bool}
    {e : TypeId} (hg : Rdo m 0 nmsC e 0) :
    ∃ v m', callw Tryd.prog TT S 3 [.agg cx.toArray, .agg cy.toArray, tyVal RawsT cl, .int .i64 i, .int .i64 k, .bool near] m = some (v, m') ∧ v = .bool true := by
  have hkn := fun m' => sum_ok (P := Tryd.prog) (T := TT) (m := m') hK
  obtain ⟨ao, css0, fam0, rfl, hcl0, hce0, hrs⟩ := ha
  obtain ⟨x0, x1, x2, x3, x4, rfl⟩ := five hx
  obtain ⟨y0, y1, y2, y3, y4, rfl⟩ := five hy
  show ∃ v m', callw Tryd.prog TT S 3 [.agg #[x0, x1, x2, x3, x4], .agg #[y0, y1, y2, y3, y4], .slice ao l.length l.length, .int .i64 i, .int .i64 k, .bool near] m = some (v, m') ∧ v = .bool true
  refine fn_w 14 [14] k3 hS rfl ?_
  simp [-Int.natCast_add, -w3_5, -BitVec.toNat_or, -BitVec.toNat_ofInt, -BitVec.toNat_and, box_of b25, len_slice u27, index_slice u27 sz25, load_agg ld25, store_of sz25, bin_bool u4 .eql (Or.inl rfl)]
  obtain ⟨o1, k1, n1⟩ := new_own (m := m) (cs := [x0, x1, x2, x3, x4]) (e := 25) rfl
  generalize m.new [x0, x1, x2, x3, x4] 25 = m1 at *
  obtain ⟨o2, k2, n2⟩ := new_own (m := m1) (cs := [y0, y1, y2, y3, y4]) (e := 25) rfl
  generalize m1.new [y0, y1, y2, y3, y4] 25 = m2 at *
  obtain ⟨ab, hab⟩ : ∃ ab, m.next = ab := ⟨_, rfl⟩
  obtain ⟨bb, hbb⟩ : ∃ bb, m1.next = bb := ⟨_, rfl⟩
  rw [hab] at o1 n1 ⊢
  rw [hbb] at o2 n2 ⊢
  have K2 := k1.trans k2
  have o1 := o1.keep k2 (by simp)
  have ne : ab ≠ bb := by omega
  apply cut1_ (fun (mX : Mem) => ∃ (u v : TypeT.D) (p0 p1 p2 p3 p4 q0 q1 q2 q3 q4 : Value), TypeT.wf u ∧ At mX TypeT u [p0, p1, p2, p3, p4] ∧ TypeT.wf v ∧ At mX TypeT v [q0, q1, q2, q3, q4] ∧ Own mX ab [p0, p1, p2, p3, p4] 25 ab ∧ Own mX bb [q0, q1, q2, q3, q4] 25 bb)
  case main =>
    intro meth
    rcases Bool.eq_false_or_eq_true near with hb | hb
    · obtain ⟨vt, m3, ht, bo, ob, L, css, rfl, hL5, hL13, hLw, hcss, hat, oC, hob, k3⟩ := types_run (m := m2) hT hB hO hP (hg.keep K2 (by simp)) hl.2 hcl0 (fun i d c hd hc => (hce0 i d c hd hc).keep K2) (hrs.keep K2 (by simp))
      have pk1 := fun m' => pick_run (m := m') hP i L.length (by omega) (by omega)
      have pk2 := fun m' => pick_run (m := m') hP k L.length (by omega) (by omega)
      obtain ⟨r1, hr1, hr1b⟩ : ∃ q : Nat, i % (L.length : Int) = q ∧ q < L.length := by
        have h1 := Int.emod_nonneg i (by omega : (L.length : Int) ≠ 0)
        have h2 := Int.emod_lt_of_pos i (by omega : 0 < (L.length : Int))
        exact ⟨(i % (L.length : Int)).toNat, by omega, by omega⟩
      obtain ⟨r2, hr2, hr2b⟩ : ∃ q : Nat, k % (L.length : Int) = q ∧ q < L.length := by
        have h1 := Int.emod_nonneg k (by omega : (L.length : Int) ≠ 0)
        have h2 := Int.emod_lt_of_pos k (by omega : 0 < (L.length : Int))
        exact ⟨(k % (L.length : Int)).toNat, by omega, by omega⟩
      rw [hr1] at pk1
      rw [hr2] at pk2
      have i1 : (r1 : Int) ≤ 9223372036854775807 := by omega
      have i2 : (r2 : Int) ≤ 9223372036854775807 := by omega
      obtain ⟨c1, hc1, ld1⟩ := pick_ty hcss hat oC hr1b
      obtain ⟨p0, p1, p2, p3, p4, rfl⟩ := five hc1.at_
      have o13 := o1.keep k3 (by simp)
      have o23 := o2.keep k3 (by simp)
      simp [-Int.natCast_add, -w3_5, -BitVec.toNat_or, -BitVec.toNat_ofInt, -BitVec.toNat_and, box_of b25, len_slice u27, index_slice u27 sz25, load_agg ld25, store_of sz25, bin_bool u4 .eql (Or.inl rfl), hb, ht, pk1, pk2, i1, i2, hr1b, hr2b, ld1]
      generalize hra : storeRow _ _ _ = ra
      obtain ⟨m4, rfl, o14, k4⟩ := store_own hra o13 (by simp) (At_ones hc1.at_)
      simp [over] at o14
      have o24 := o23.keep k4 (by simpa using ne.symm)
      have fr : ∀ f ∈ [ab], ¬ m2.next ≤ f := by intro f hf; rw [List.mem_singleton.1 hf]; omega
      have hat4 := fun i d c h1 h2 => (hat i d c h1 h2).keep k4 fr
      have oC4 := oC.keep k4 (by simp; omega)
      obtain ⟨c3, hc3, ld2⟩ := pick_ty hcss hat4 oC4 hr2b
      have hc14 := hc1.keep k4 fr
      obtain ⟨q0, q1, q2, q3, q4, rfl⟩ := five hc3.at_
      simp [-Int.natCast_add, -w3_5, -BitVec.toNat_or, -BitVec.toNat_ofInt, -BitVec.toNat_and, box_of b25, len_slice u27, index_slice u27 sz25, load_agg ld25, store_of sz25, bin_bool u4 .eql (Or.inl rfl), ht, pk1, pk2, i1, i2, hr1b, hr2b, ld2]
      generalize hrb : storeRow _ _ _ = rb
      obtain ⟨m5, rfl, o25, k5⟩ := store_own hrb o24 (by simp) (At_ones hc3.at_)
      simp [over] at o25
      simp [-Int.natCast_add, -w3_5, -BitVec.toNat_or, -BitVec.toNat_ofInt, -BitVec.toNat_and, box_of b25, len_slice u27, index_slice u27 sz25, load_agg ld25, store_of sz25, bin_bool u4 .eql (Or.inl rfl)]
      have fr2 : ∀ f ∈ [bb], ¬ m2.next ≤ f := by intro f hf; rw [List.mem_singleton.1 hf]; omega
      exact w_sub (E := [(6, .pointer (some ⟨ab, 0, none⟩)), (7, .pointer (some ⟨bb, 0, none⟩))]) (meth m5 ⟨L[r1], L[r2], p0, p1, p2, p3, p4, q0, q1, q2, q3, q4, hLw _ (List.getElem_mem _), (hc14.keep k5 fr2).at_, hLw _ (List.getElem_mem _), (hc3.keep k5 fr2).at_, o14.keep k5 (by simpa using ne), o25⟩) ⟨by rfl, by rfl, trivial⟩
    · simp [-Int.natCast_add, -w3_5, hb, -BitVec.toNat_or, -BitVec.toNat_ofInt, -BitVec.toNat_and, box_of b25, len_slice u27, index_slice u27 sz25, load_agg ld25, store_of sz25, bin_bool u4 .eql (Or.inl rfl)]
      exact w_sub (E := [(6, .pointer (some ⟨ab, 0, none⟩)), (7, .pointer (some ⟨bb, 0, none⟩))]) (meth m2 ⟨x, y, x0, x1, x2, x3, x4, y0, y1, y2, y3, y4, wx, hx.keep K2, wy, hy.keep K2, o1, o2⟩) ⟨by rfl, by rfl, trivial⟩
  intro mX ⟨u, v, p0, p1, p2, p3, p4, q0, q1, q2, q3, q4, wu, hu, wv, hv, oa, obb⟩
  have la := oa.load (off := 0) 5 (by simp)
  have lb := obb.load (off := 0) 5 (by simp)
  simp [window] at la lb
  have self : ∀ {d : TypeT.D} {c0 c1 c2 c3 c4 : Value}, At mX TypeT d [c0, c1, c2, c3, c4] → eqV c0 c0 = true ∧ eqV c1 c1 = true ∧ eqV c2 c2 = true ∧ eqV c3 c3 = true ∧ eqV c4 c4 = true := by
    intro d c0 c1 c2 c3 c4 h
    obtain ⟨ao, bo, ca, cb, f, g, h⟩ := type_cells h
    have := h.c
    simp at this
    obtain ⟨rfl, rfl, rfl, rfl, rfl⟩ := this
    simp [eqV_int, eqV_str, eqV_slice]
  have eqU := self hu
  have eqW := self hv
  obtain ⟨_, n1, s1, rfl, j1⟩ := same_run hN hu hv wu wv
  have hu1 := hu.keep j1
  have hv1 := hv.keep j1
  obtain ⟨_, n2, s2, rfl, j2⟩ := rsame_run hN hu1 hv1 wu wv
  have hu2 := hu1.keep j2
  have hv2 := hv1.keep j2
  obtain ⟨_, n3, s3, rfl, j3⟩ := same_run hN hu2 hu2 wu wu
  have hu3 := hu2.keep j3
  have hv3 := hv2.keep j3
  obtain ⟨_, n4, s4, rfl, j4⟩ := same_run hN hv3 hu3 wv wu
  have hu4 := hu3.keep j4
  have hv4 := hv3.keep j4
  obtain ⟨_, n5, s5, rfl, j5⟩ := same_run hN hu4 hv4 wu wv
  have la1 := (oa.keep j1 (by simp)).load (off := 0) 5 (by simp)
  have lb1 := (obb.keep j1 (by simp)).load (off := 0) 5 (by simp)
  have la2 := ((oa.keep j1 (by simp)).keep j2 (by simp)).load (off := 0) 5 (by simp)
  have lb2 := ((obb.keep j1 (by simp)).keep j2 (by simp)).load (off := 0) 5 (by simp)
  have la3 := (((oa.keep j1 (by simp)).keep j2 (by simp)).keep j3 (by simp)).load (off := 0) 5 (by simp)
  have lb3 := (((obb.keep j1 (by simp)).keep j2 (by simp)).keep j3 (by simp)).load (off := 0) 5 (by simp)
  have la4 := ((((oa.keep j1 (by simp)).keep j2 (by simp)).keep j3 (by simp)).keep j4 (by simp)).load (off := 0) 5 (by simp)
  have lb4 := ((((obb.keep j1 (by simp)).keep j2 (by simp)).keep j3 (by simp)).keep j4 (by simp)).load (off := 0) 5 (by simp)
  have la5 := (((((oa.keep j1 (by simp)).keep j2 (by simp)).keep j3 (by simp)).keep j4 (by simp)).keep j5 (by simp)).load (off := 0) 5 (by simp)
  have lb5 := (((((obb.keep j1 (by simp)).keep j2 (by simp)).keep j3 (by simp)).keep j4 (by simp)).keep j5 (by simp)).load (off := 0) 5 (by simp)
  simp [window] at la1 lb1 la2 lb2 la3 lb3 la4 lb4 la5 lb5 s1 s2 s3 s4 s5
  rw [sameB_comm v u] at s4
  rw [sameB_t rfl] at s3
  obtain ⟨b, hb⟩ : ∃ b, sameB u v = b := ⟨_, rfl⟩
  rw [hb] at s1 s2 s4 s5
  cases b
  all_goals simp [-Int.natCast_add, -BitVec.toNat_or, -BitVec.toNat_ofInt, -BitVec.toNat_and, box_of b25, len_slice u27, index_slice u27 sz25, load_agg ld25, store_of sz25, bin_bool u4 .eql (Or.inl rfl), hkn, la, lb, la1, lb1, la2, lb2, la3, lb3, la4, lb4, la5, lb5, s1, s2, s3, s4, s5, eqU, eqW]

/- the row -/
open Go.ChangeShapes Go.WideShapes Go.ChangeAt Go.RowKit
theorem own : ownKnob Tryd.prog.godebug = none := by kernel_rfl
theorem mixed : Tryd.prog.follows .mixedOrders = true := by kernel_rfl
theorem tab : Sh.tabCheck Tryd.prog fns = true := by kernel_rfl
theorem known : Sh.isVal (.bool true) (Sh.call Tryd.prog (Sh.tabOf Tryd.prog fns) Sh.noSums 100000 7 [] (Sh.memG Tryd.prog [])) = true := by kernel_rfl
def sums : Sums := fun f => if f = 7 then [([], .bool true)] else []
theorem sumsOk : SumsOk Tryd.prog sums := by
  intro f p hp
  unfold sums at hp
  split at hp
  · rename_i hf
    subst hf
    simp only [List.mem_cons, List.not_mem_nil, or_false] at hp
    subst hp
    exact ⟨rfl, rfl, ⟨Tryd.f7, Tryd.func7, by kernel_rfl, by kernel_rfl⟩, fun w => Sh.closed_val mixed (Sh.tab_ok tab) (Sh.noSums_ok _) 100000 7 Tryd.func7 (by kernel_rfl) (gs := []) (by kernel_rfl) (by kernel_rfl) known w (fun p hp => by simp at hp)⟩
  · simp at hp

theorem tab0 {w : World} (h : laidMetH Tryd.prog Rows.kindsSameRow.laid w) : 0 < w.heap.size ∧ ∀ (i : Nat) v, ((Sh.tabLits (Rows.laid_turnstone_turnstonelaw2_names : DataW Unit)).map Lit.value)[i]? = some v → w.cell? ⟨0, i, none⟩ = some v :=
  Sh.laid_lits (name := "turnstone/turnstonelaw2.names") (t := 47) (e := 9) (n := 8) (by kernel_rfl) h (by
    have e : (("turnstone/turnstonelaw2.names", (.agg ((Sh.tabLits (Rows.laid_turnstone_turnstonelaw2_names : DataW Unit)).map .lit) : DataW Unit)) : String × DataW Unit) = ("turnstone/turnstonelaw2.names", Rows.laid_turnstone_turnstonelaw2_names) := by kernel_rfl
    rw [e]
    simp [Rows.kindsSameRow]) (by kernel_rfl) (by kernel_rfl) Tryd.underlying47 (by first | exact Or.inr (Or.inl Tryd.underlying9) | exact Or.inl ⟨_, Tryd.underlying9⟩ | exact Or.inr (Or.inr Tryd.underlying9)) (by kernel_rfl) (by kernel_rfl) (of_decide_eq_true (by kernel_rfl))
def tables : List (Nat × List Value) := [(0, (Sh.tabLits (Rows.laid_turnstone_turnstonelaw2_names : DataW Unit)).map Lit.value)]
theorem rd0 : Rdo (memG Tryd.prog tables) 0 base.nmsC (gtype Tryd.prog 0) 0 := ⟨by kernel_rfl, ⟨⟨none, 0⟩, by kernel_rfl, Nat.zero_le _⟩, of_decide_eq_true (by kernel_rfl), of_decide_eq_true (by kernel_rfl)⟩
theorem startT (w : World) (h : laidMetH Tryd.prog Rows.kindsSameRow.laid w) : MRel Tryd.prog (inj0 Tryd.prog) (memG Tryd.prog tables) (allF w) w w := by
  refine memG_rel Tryd.prog w tables fun p hp => ?_
  simp only [tables, List.mem_cons, List.not_mem_nil, or_false] at hp
  rcases hp with rfl
  · exact ⟨of_decide_eq_true (by kernel_rfl), (tab0 h).1, by kernel_rfl, by kernel_rfl, (tab0 h).2⟩

theorem walk (w : World) (hL : laidMetH Tryd.prog Rows.kindsSameRow.laid w) {v0 : Value} (h0 : DatArg Tryd.prog w (Ty.pair (Ty.int .i64) (Ty.pair Ty.str (Ty.pair (Ty.int .i64) (Ty.pair (Ty.slice 49 (Ty.pair Ty.str (Ty.pair (Ty.int .i64) Ty.unit))) (Ty.pair (Ty.slice 38 (Ty.pair Ty.str (Ty.pair (Ty.slice 3 (Ty.int .i64)) (Ty.pair (Ty.int .i64) (Ty.pair (Ty.int .i64) Ty.unit))))) Ty.unit))))) v0) {v1 : Value} (h1 : DatArg Tryd.prog w (Ty.pair (Ty.int .i64) (Ty.pair Ty.str (Ty.pair (Ty.int .i64) (Ty.pair (Ty.slice 49 (Ty.pair Ty.str (Ty.pair (Ty.int .i64) Ty.unit))) (Ty.pair (Ty.slice 38 (Ty.pair Ty.str (Ty.pair (Ty.slice 3 (Ty.int .i64)) (Ty.pair (Ty.int .i64) (Ty.pair (Ty.int .i64) Ty.unit))))) Ty.unit))))) v1) {v2 : Value} (h2 : DatArg Tryd.prog w (Ty.slice 46 (Ty.pair (Ty.int .i64) (Ty.pair (Ty.int .i64) (Ty.pair (Ty.int .i64) (Ty.pair (Ty.slice 3 (Ty.int .i64)) (Ty.pair (Ty.slice 36 (Ty.slice 3 (Ty.int .i64))) (Ty.pair (Ty.int .i64) Ty.unit))))))) v2) (x3 : Int) (hx3 : (Lit.int .i64 x3).wf = true) (x4 : Int) (hx4 : (Lit.int .i64 x4).wf = true) (x5 : Bool) :
    Calls Tryd.prog 3 #[v0, v1, v2, .int .i64 x3, .int .i64 x4, .bool x5] w fun e w' => e = .returned (.bool true) ∧ Below w.heap.size w w' := by
  have hM := startT w hL
  obtain ⟨rs0, J0, m0, cs0, hw0, le0, hM0, vr0, hr0, hk0⟩ := h0 _ _ hM
  obtain ⟨rs1, J1, m1, cs1, hw1, le1, hM1, vr1, hr1, hk1⟩ := h1 _ _ hM0
  obtain ⟨rs2, J2, m2, cs2, hw2, le2, hM2, vr2, hr2, hk2⟩ := h2 _ _ hM1
  obtain ⟨v', m', h, rfl⟩ := law_run (S := sums) (m := m2) ⟨rfl, rfl, rfl, rfl, rfl⟩ rfl rfl rfl rfl rfl rfl hw0 ((hr0.keep hk1).keep hk2) hw1 (hr1.keep hk2) hw2 hr2 hx3 hx4 (((rd0.keep hk0 (by simp)).keep hk1 (by simp)).keep hk2 (by simp))
  exact calls_of mixed (Sh.tab_ok tab) sumsOk Tryd.func3 (by kernel_rfl) h rfl hM2 (.cons ((vr0.mono le1).mono le2) (.cons (vr1.mono le2) (.cons vr2 (.cons (.clo _ rfl) (.cons (.clo _ rfl) (.cons (.clo _ rfl) LRel.nil))))))

theorem laidOut : laidOutB Tryd.prog = true := by kernel_rfl
theorem trodAll_many {H : Type} {enc : TypeId × Value → H} {P : Program} {w : World} {base : Nat} {spare : Nat → Bool} {held : Bool} {y0 y1 y2 y3 y4 y5 : TypeId} {args : Array Value} {ds : List (DataW H)} {ps : List MemPlace} (h : DataW.TrodAll enc P w base spare held [y0, y1, y2, y3, y4, y5] args.toList ds ps) :
    ∃ v0 v1 v2 v3 v4 v5 d0 d1 d2 d3 d4 d5 p0 p1 p2 p3 p4 p5, args = #[v0, v1, v2, v3, v4, v5] ∧ ds = [d0, d1, d2, d3, d4, d5] ∧ ps = p0 ++ p1 ++ p2 ++ p3 ++ p4 ++ p5 ∧ DataW.Trod enc P w base spare held y0 v0 d0 p0 ∧ DataW.Trod enc P w base spare held y1 v1 d1 p1 ∧ DataW.Trod enc P w base spare held y2 v2 d2 p2 ∧ DataW.Trod enc P w base spare held y3 v3 d3 p3 ∧ DataW.Trod enc P w base spare held y4 v4 d4 p4 ∧ DataW.Trod enc P w base spare held y5 v5 d5 p5 := by
  obtain ⟨v0, vs0, d0, es0, p0, q0, hargs, rfl, rfl, a0, b0⟩ := trodAll_cons h
  obtain ⟨v1, vs1, d1, es1, p1, q1, rfl, rfl, rfl, a1, b1⟩ := trodAll_cons b0
  obtain ⟨v2, vs2, d2, es2, p2, q2, rfl, rfl, rfl, a2, b2⟩ := trodAll_cons b1
  obtain ⟨v3, vs3, d3, es3, p3, q3, rfl, rfl, rfl, a3, b3⟩ := trodAll_cons b2
  obtain ⟨v4, vs4, d4, es4, p4, q4, rfl, rfl, rfl, a4, b4⟩ := trodAll_cons b3
  obtain ⟨v5, vs5, d5, es5, p5, q5, rfl, rfl, rfl, a5, b5⟩ := trodAll_cons b4
  obtain ⟨rfl, rfl, rfl⟩ := trodAll_nil b5
  exact ⟨v0, v1, v2, v3, v4, v5, d0, d1, d2, d3, d4, d5, p0, p1, p2, p3, p4, p5, by cases args; simp_all, rfl, by simp, a0, a1, a2, a3, a4, a5⟩
theorem trodAll_mkmany {H : Type} {enc : TypeId × Value → H} {P : Program} {w : World} {base : Nat} {spare : Nat → Bool} {held : Bool} {y0 y1 y2 y3 y4 y5 : TypeId} {v0 v1 v2 v3 v4 v5 : Value} {d0 d1 d2 d3 d4 d5 : DataW H} {p0 p1 p2 p3 p4 p5 : List MemPlace} (a0 : DataW.Trod enc P w base spare held y0 v0 d0 p0) (a1 : DataW.Trod enc P w base spare held y1 v1 d1 p1) (a2 : DataW.Trod enc P w base spare held y2 v2 d2 p2) (a3 : DataW.Trod enc P w base spare held y3 v3 d3 p3) (a4 : DataW.Trod enc P w base spare held y4 v4 d4 p4) (a5 : DataW.Trod enc P w base spare held y5 v5 d5 p5) : DataW.TrodAll enc P w base spare held [y0, y1, y2, y3, y4, y5] [v0, v1, v2, v3, v4, v5] [d0, d1, d2, d3, d4, d5] (p0 ++ (p1 ++ (p2 ++ (p3 ++ (p4 ++ (p5 ++ [])))))) := (trodAll_cons_mk a0 (trodAll_cons_mk a1 (trodAll_cons_mk a2 (trodAll_cons_mk a3 (trodAll_cons_mk a4 (trodAll_cons_mk a5 trodAll_mk0))))))

theorem contract (H : Type) (enc : TypeId × Value → H) (W : World) (base : Nat) (args : Array Value) (ds gs : List (DataW H)) (before : List MemPlace)
    (hval : ∀ (j : Nat) t v, Tryd.f3.params[j]? = some t → args[j]? = some v → Value.okWide Tryd.prog W .any base t v)
    (hW : DataW.Whole enc Tryd.prog Tryd.f3.params.toList Rows.kindsSameSpec.vars false W args.toList ds gs before) (hL : laidMetH Tryd.prog Rows.kindsSameRow.laid W) :
    Calls Tryd.prog 3 args W fun e W' => ∃ v, e = .returned v ∧ Rows.kindsSameSpec.post enc Tryd.prog Tryd.f3 false true false false W args v W' := by
  have hW' := hW
  obtain ⟨p, q, hA0, hV, rfl, hfz, hnd⟩ := hW
  have hA : DataW.TrodAll enc Tryd.prog W 0 (fun _ => true) true Tryd.f3.params.toList args.toList ds p := hA0
  rw [Tryd.params3] at hA hval
  obtain ⟨v0, v1, v2, v3, v4, v5, d0, d1, d2, d3, d4, d5, p0, p1, p2, p3, p4, p5, rfl, rfl, rfl, t0, t1, t2, t3, t4, t5⟩ := trodAll_many hA
  obtain ⟨rfl, rfl⟩ := trodVars_none hV
  have hv0 := dat_arg (ty := (Ty.pair (Ty.int .i64) (Ty.pair Ty.str (Ty.pair (Ty.int .i64) (Ty.pair (Ty.slice 49 (Ty.pair Ty.str (Ty.pair (Ty.int .i64) Ty.unit))) (Ty.pair (Ty.slice 38 (Ty.pair Ty.str (Ty.pair (Ty.slice 3 (Ty.int .i64)) (Ty.pair (Ty.int .i64) (Ty.pair (Ty.int .i64) Ty.unit))))) Ty.unit)))))) (t := 25) (by kernel_rfl) (hval 0 _ _ rfl rfl) t0
  have hv1 := dat_arg (ty := (Ty.pair (Ty.int .i64) (Ty.pair Ty.str (Ty.pair (Ty.int .i64) (Ty.pair (Ty.slice 49 (Ty.pair Ty.str (Ty.pair (Ty.int .i64) Ty.unit))) (Ty.pair (Ty.slice 38 (Ty.pair Ty.str (Ty.pair (Ty.slice 3 (Ty.int .i64)) (Ty.pair (Ty.int .i64) (Ty.pair (Ty.int .i64) Ty.unit))))) Ty.unit)))))) (t := 25) (by kernel_rfl) (hval 1 _ _ rfl rfl) t1
  have hv2 := dat_arg (ty := (Ty.slice 46 (Ty.pair (Ty.int .i64) (Ty.pair (Ty.int .i64) (Ty.pair (Ty.int .i64) (Ty.pair (Ty.slice 3 (Ty.int .i64)) (Ty.pair (Ty.slice 36 (Ty.slice 3 (Ty.int .i64))) (Ty.pair (Ty.int .i64) Ty.unit)))))))) (t := 26) (by kernel_rfl) (hval 2 _ _ rfl rfl) t2
  obtain ⟨x3, rfl, rfl, rfl, hx3⟩ := open_int u3 (hval 3 _ _ rfl rfl) t3
  obtain ⟨x4, rfl, rfl, rfl, hx4⟩ := open_int u3 (hval 4 _ _ rfl rfl) t4
  obtain ⟨x5, rfl, rfl, rfl⟩ := open_bool u4 (hval 5 _ _ rfl rfl) t5
  clear hA0
  simp only [List.append_nil, List.nil_append] at hW'
  refine (walk W hL hv0 hv1 hv2 x3 hx3 x4 hx4 x5).mono fun e W' ⟨he, hg⟩ => ?_
  subst he
  have hlt0 : ∀ z ∈ p0, z.block < W.heap.size := fun z hz => hW'.lt z (by simp [hz])
  have hlt1 : ∀ z ∈ p1, z.block < W.heap.size := fun z hz => hW'.lt z (by simp [hz])
  have hlt2 : ∀ z ∈ p2, z.block < W.heap.size := fun z hz => hW'.lt z (by simp [hz])
  exact ⟨_, rfl, Sh.law_post (pa := (p0 ++ (p1 ++ (p2 ++ ([] ++ ([] ++ ([] ++ []))))))) (pv := []) hW' hg (by simp) (fun sp hsp => trodAll_mkmany (WideElems.Trod_stays laidOut (by kernel_rfl) (of_decide_eq_true (by kernel_rfl)) t0 (fun z hz => hg.same (hlt0 z hz)) (fun z hz => hsp z (by simp [hz]))) (WideElems.Trod_stays laidOut (by kernel_rfl) (of_decide_eq_true (by kernel_rfl)) t1 (fun z hz => hg.same (hlt1 z hz)) (fun z hz => hsp z (by simp [hz]))) (WideElems.Trod_stays laidOut (by kernel_rfl) (of_decide_eq_true (by kernel_rfl)) t2 (fun z hz => hg.same (hlt2 z hz)) (fun z hz => hsp z (by simp [hz]))) (shut_int u3 hx3) (shut_int u3 hx4) (shut_bool u4 _)) (fun _ _ => rfl) (fun _ _ _ => (trodAll_cons_mk (shut_bool u4 _) trodAll_mk0))
    (ok_one (by kernel_rfl) rfl (okWide_bool_mk u4 _))⟩
/-- A world for the witness: the settled one, the listed variables holding what is laid. -/
noncomputable def laidWorld (os : Os) : World :=
  { World.holding Tryd.prog os ⟨#[], #[], []⟩ with heap := ((World.holding Tryd.prog os ⟨#[], #[], []⟩).heap).modify 0 (Sh.laidBlock (Rows.laid_turnstone_turnstonelaw2_names : DataW Unit)) }
theorem laid_met (os : Os) : laidMet Tryd.prog Rows.kindsSameRow.laid ((laidWorld os).forCall (fun _ _ => 0) ⟨#[], #[(tyVal (Ty.pair (Ty.int .i64) (Ty.pair Ty.str (Ty.pair (Ty.int .i64) (Ty.pair (Ty.slice 49 (Ty.pair Ty.str (Ty.pair (Ty.int .i64) Ty.unit))) (Ty.pair (Ty.slice 38 (Ty.pair Ty.str (Ty.pair (Ty.slice 3 (Ty.int .i64)) (Ty.pair (Ty.int .i64) (Ty.pair (Ty.int .i64) Ty.unit))))) Ty.unit))))) ((Ty.pair (Ty.int .i64) (Ty.pair Ty.str (Ty.pair (Ty.int .i64) (Ty.pair (Ty.slice 49 (Ty.pair Ty.str (Ty.pair (Ty.int .i64) Ty.unit))) (Ty.pair (Ty.slice 38 (Ty.pair Ty.str (Ty.pair (Ty.slice 3 (Ty.int .i64)) (Ty.pair (Ty.int .i64) (Ty.pair (Ty.int .i64) Ty.unit))))) Ty.unit)))))).zeros), (tyVal (Ty.pair (Ty.int .i64) (Ty.pair Ty.str (Ty.pair (Ty.int .i64) (Ty.pair (Ty.slice 49 (Ty.pair Ty.str (Ty.pair (Ty.int .i64) Ty.unit))) (Ty.pair (Ty.slice 38 (Ty.pair Ty.str (Ty.pair (Ty.slice 3 (Ty.int .i64)) (Ty.pair (Ty.int .i64) (Ty.pair (Ty.int .i64) Ty.unit))))) Ty.unit))))) ((Ty.pair (Ty.int .i64) (Ty.pair Ty.str (Ty.pair (Ty.int .i64) (Ty.pair (Ty.slice 49 (Ty.pair Ty.str (Ty.pair (Ty.int .i64) Ty.unit))) (Ty.pair (Ty.slice 38 (Ty.pair Ty.str (Ty.pair (Ty.slice 3 (Ty.int .i64)) (Ty.pair (Ty.int .i64) (Ty.pair (Ty.int .i64) Ty.unit))))) Ty.unit)))))).zeros), (tyVal (Ty.slice 46 (Ty.pair (Ty.int .i64) (Ty.pair (Ty.int .i64) (Ty.pair (Ty.int .i64) (Ty.pair (Ty.slice 3 (Ty.int .i64)) (Ty.pair (Ty.slice 36 (Ty.slice 3 (Ty.int .i64))) (Ty.pair (Ty.int .i64) Ty.unit))))))) ((Ty.slice 46 (Ty.pair (Ty.int .i64) (Ty.pair (Ty.int .i64) (Ty.pair (Ty.int .i64) (Ty.pair (Ty.slice 3 (Ty.int .i64)) (Ty.pair (Ty.slice 36 (Ty.slice 3 (Ty.int .i64))) (Ty.pair (Ty.int .i64) Ty.unit)))))))).zeros), .int .i64 0, .int .i64 0, .bool false], []⟩).memory :=
  laidMet_of_run' 8 (by kernel_rfl) (by kernel_rfl)
theorem reads (os : Os) {H : Type} (enc : TypeId × Value → H) : ∃ places, DataW.whole enc Tryd.prog ((laidWorld os).forCall (fun _ _ => 0) ⟨#[], #[(tyVal (Ty.pair (Ty.int .i64) (Ty.pair Ty.str (Ty.pair (Ty.int .i64) (Ty.pair (Ty.slice 49 (Ty.pair Ty.str (Ty.pair (Ty.int .i64) Ty.unit))) (Ty.pair (Ty.slice 38 (Ty.pair Ty.str (Ty.pair (Ty.slice 3 (Ty.int .i64)) (Ty.pair (Ty.int .i64) (Ty.pair (Ty.int .i64) Ty.unit))))) Ty.unit))))) ((Ty.pair (Ty.int .i64) (Ty.pair Ty.str (Ty.pair (Ty.int .i64) (Ty.pair (Ty.slice 49 (Ty.pair Ty.str (Ty.pair (Ty.int .i64) Ty.unit))) (Ty.pair (Ty.slice 38 (Ty.pair Ty.str (Ty.pair (Ty.slice 3 (Ty.int .i64)) (Ty.pair (Ty.int .i64) (Ty.pair (Ty.int .i64) Ty.unit))))) Ty.unit)))))).zeros), (tyVal (Ty.pair (Ty.int .i64) (Ty.pair Ty.str (Ty.pair (Ty.int .i64) (Ty.pair (Ty.slice 49 (Ty.pair Ty.str (Ty.pair (Ty.int .i64) Ty.unit))) (Ty.pair (Ty.slice 38 (Ty.pair Ty.str (Ty.pair (Ty.slice 3 (Ty.int .i64)) (Ty.pair (Ty.int .i64) (Ty.pair (Ty.int .i64) Ty.unit))))) Ty.unit))))) ((Ty.pair (Ty.int .i64) (Ty.pair Ty.str (Ty.pair (Ty.int .i64) (Ty.pair (Ty.slice 49 (Ty.pair Ty.str (Ty.pair (Ty.int .i64) Ty.unit))) (Ty.pair (Ty.slice 38 (Ty.pair Ty.str (Ty.pair (Ty.slice 3 (Ty.int .i64)) (Ty.pair (Ty.int .i64) (Ty.pair (Ty.int .i64) Ty.unit))))) Ty.unit)))))).zeros), (tyVal (Ty.slice 46 (Ty.pair (Ty.int .i64) (Ty.pair (Ty.int .i64) (Ty.pair (Ty.int .i64) (Ty.pair (Ty.slice 3 (Ty.int .i64)) (Ty.pair (Ty.slice 36 (Ty.slice 3 (Ty.int .i64))) (Ty.pair (Ty.int .i64) Ty.unit))))))) ((Ty.slice 46 (Ty.pair (Ty.int .i64) (Ty.pair (Ty.int .i64) (Ty.pair (Ty.int .i64) (Ty.pair (Ty.slice 3 (Ty.int .i64)) (Ty.pair (Ty.slice 36 (Ty.slice 3 (Ty.int .i64))) (Ty.pair (Ty.int .i64) Ty.unit)))))))).zeros), .int .i64 0, .int .i64 0, .bool false], []⟩).memory Tryd.f3.params.toList Rows.kindsSameSpec.vars false (#[(tyVal (Ty.pair (Ty.int .i64) (Ty.pair Ty.str (Ty.pair (Ty.int .i64) (Ty.pair (Ty.slice 49 (Ty.pair Ty.str (Ty.pair (Ty.int .i64) Ty.unit))) (Ty.pair (Ty.slice 38 (Ty.pair Ty.str (Ty.pair (Ty.slice 3 (Ty.int .i64)) (Ty.pair (Ty.int .i64) (Ty.pair (Ty.int .i64) Ty.unit))))) Ty.unit))))) ((Ty.pair (Ty.int .i64) (Ty.pair Ty.str (Ty.pair (Ty.int .i64) (Ty.pair (Ty.slice 49 (Ty.pair Ty.str (Ty.pair (Ty.int .i64) Ty.unit))) (Ty.pair (Ty.slice 38 (Ty.pair Ty.str (Ty.pair (Ty.slice 3 (Ty.int .i64)) (Ty.pair (Ty.int .i64) (Ty.pair (Ty.int .i64) Ty.unit))))) Ty.unit)))))).zeros), (tyVal (Ty.pair (Ty.int .i64) (Ty.pair Ty.str (Ty.pair (Ty.int .i64) (Ty.pair (Ty.slice 49 (Ty.pair Ty.str (Ty.pair (Ty.int .i64) Ty.unit))) (Ty.pair (Ty.slice 38 (Ty.pair Ty.str (Ty.pair (Ty.slice 3 (Ty.int .i64)) (Ty.pair (Ty.int .i64) (Ty.pair (Ty.int .i64) Ty.unit))))) Ty.unit))))) ((Ty.pair (Ty.int .i64) (Ty.pair Ty.str (Ty.pair (Ty.int .i64) (Ty.pair (Ty.slice 49 (Ty.pair Ty.str (Ty.pair (Ty.int .i64) Ty.unit))) (Ty.pair (Ty.slice 38 (Ty.pair Ty.str (Ty.pair (Ty.slice 3 (Ty.int .i64)) (Ty.pair (Ty.int .i64) (Ty.pair (Ty.int .i64) Ty.unit))))) Ty.unit)))))).zeros), (tyVal (Ty.slice 46 (Ty.pair (Ty.int .i64) (Ty.pair (Ty.int .i64) (Ty.pair (Ty.int .i64) (Ty.pair (Ty.slice 3 (Ty.int .i64)) (Ty.pair (Ty.slice 36 (Ty.slice 3 (Ty.int .i64))) (Ty.pair (Ty.int .i64) Ty.unit))))))) ((Ty.slice 46 (Ty.pair (Ty.int .i64) (Ty.pair (Ty.int .i64) (Ty.pair (Ty.int .i64) (Ty.pair (Ty.slice 3 (Ty.int .i64)) (Ty.pair (Ty.slice 36 (Ty.slice 3 (Ty.int .i64))) (Ty.pair (Ty.int .i64) Ty.unit)))))))).zeros), .int .i64 0, .int .i64 0, .bool false] : Array Value).toList 8 = some ([(((Ty.pair (Ty.int .i64) (Ty.pair Ty.str (Ty.pair (Ty.int .i64) (Ty.pair (Ty.slice 49 (Ty.pair Ty.str (Ty.pair (Ty.int .i64) Ty.unit))) (Ty.pair (Ty.slice 38 (Ty.pair Ty.str (Ty.pair (Ty.slice 3 (Ty.int .i64)) (Ty.pair (Ty.int .i64) (Ty.pair (Ty.int .i64) Ty.unit))))) Ty.unit)))))).zdata), (((Ty.pair (Ty.int .i64) (Ty.pair Ty.str (Ty.pair (Ty.int .i64) (Ty.pair (Ty.slice 49 (Ty.pair Ty.str (Ty.pair (Ty.int .i64) Ty.unit))) (Ty.pair (Ty.slice 38 (Ty.pair Ty.str (Ty.pair (Ty.slice 3 (Ty.int .i64)) (Ty.pair (Ty.int .i64) (Ty.pair (Ty.int .i64) Ty.unit))))) Ty.unit)))))).zdata), (((Ty.slice 46 (Ty.pair (Ty.int .i64) (Ty.pair (Ty.int .i64) (Ty.pair (Ty.int .i64) (Ty.pair (Ty.slice 3 (Ty.int .i64)) (Ty.pair (Ty.slice 36 (Ty.slice 3 (Ty.int .i64))) (Ty.pair (Ty.int .i64) Ty.unit)))))))).zdata), .lit (.int .i64 0), .lit (.int .i64 0), .lit (.bool false)], [], places) :=
  ⟨[], by kernel_rfl⟩

theorem lifted (os : Os) (started : os.Started) (H : Type) (enc : TypeId × Value → H) (F : Stop.Interp) :
    ReturnsInHanded {} Tryd.checked os 3 .any ((OpenSpec.ofChange Rows.kindsSameSpec).preRow enc Tryd.prog Tryd.f3 Rows.kindsSameRow.domain false Rows.kindsSameRow.laid) (((OpenSpec.ofChange Rows.kindsSameSpec).at F).post enc Tryd.prog Tryd.f3 false true false false) := by
  obtain ⟨places, hx⟩ := reads os enc
  refine returnsInHanded_of_row (C := Tryd.checked) (s := OpenSpec.ofChange Rows.kindsSameSpec) own started (by kernel_rfl) Tryd.func3
    (witness_row_at (enc := enc) (C := Tryd.checked) false (laidWorld os) #[(tyVal (Ty.pair (Ty.int .i64) (Ty.pair Ty.str (Ty.pair (Ty.int .i64) (Ty.pair (Ty.slice 49 (Ty.pair Ty.str (Ty.pair (Ty.int .i64) Ty.unit))) (Ty.pair (Ty.slice 38 (Ty.pair Ty.str (Ty.pair (Ty.slice 3 (Ty.int .i64)) (Ty.pair (Ty.int .i64) (Ty.pair (Ty.int .i64) Ty.unit))))) Ty.unit))))) ((Ty.pair (Ty.int .i64) (Ty.pair Ty.str (Ty.pair (Ty.int .i64) (Ty.pair (Ty.slice 49 (Ty.pair Ty.str (Ty.pair (Ty.int .i64) Ty.unit))) (Ty.pair (Ty.slice 38 (Ty.pair Ty.str (Ty.pair (Ty.slice 3 (Ty.int .i64)) (Ty.pair (Ty.int .i64) (Ty.pair (Ty.int .i64) Ty.unit))))) Ty.unit)))))).zeros), (tyVal (Ty.pair (Ty.int .i64) (Ty.pair Ty.str (Ty.pair (Ty.int .i64) (Ty.pair (Ty.slice 49 (Ty.pair Ty.str (Ty.pair (Ty.int .i64) Ty.unit))) (Ty.pair (Ty.slice 38 (Ty.pair Ty.str (Ty.pair (Ty.slice 3 (Ty.int .i64)) (Ty.pair (Ty.int .i64) (Ty.pair (Ty.int .i64) Ty.unit))))) Ty.unit))))) ((Ty.pair (Ty.int .i64) (Ty.pair Ty.str (Ty.pair (Ty.int .i64) (Ty.pair (Ty.slice 49 (Ty.pair Ty.str (Ty.pair (Ty.int .i64) Ty.unit))) (Ty.pair (Ty.slice 38 (Ty.pair Ty.str (Ty.pair (Ty.slice 3 (Ty.int .i64)) (Ty.pair (Ty.int .i64) (Ty.pair (Ty.int .i64) Ty.unit))))) Ty.unit)))))).zeros), (tyVal (Ty.slice 46 (Ty.pair (Ty.int .i64) (Ty.pair (Ty.int .i64) (Ty.pair (Ty.int .i64) (Ty.pair (Ty.slice 3 (Ty.int .i64)) (Ty.pair (Ty.slice 36 (Ty.slice 3 (Ty.int .i64))) (Ty.pair (Ty.int .i64) Ty.unit))))))) ((Ty.slice 46 (Ty.pair (Ty.int .i64) (Ty.pair (Ty.int .i64) (Ty.pair (Ty.int .i64) (Ty.pair (Ty.slice 3 (Ty.int .i64)) (Ty.pair (Ty.slice 36 (Ty.slice 3 (Ty.int .i64))) (Ty.pair (Ty.int .i64) Ty.unit)))))))).zeros), .int .i64 0, .int .i64 0, .bool false] rfl (by kernel_rfl) (by kernel_rfl) (by kernel_rfl)
      (OpenSpec.preRow_of_cond 8 hx (by kernel_rfl) (fun k hk => by cases hk) (by kernel_rfl) (laid_met os))) ?_
  intro W base args ds gs before hval hW _ _ hwt hL _ _
  exact contract H enc W base args ds gs before hval hW hL

theorem said : Rows.KindsSameSaid :=
  OpenClaim.holds_of_cond 3 Tryd.f3 rfl rfl rfl rfl rfl rfl rfl ⟨rfl, rfl, rfl, rfl, rfl⟩ rfl rfl rfl rfl rfl (by kernel_rfl) Tryd.func3 (by kernel_rfl)
    (of_decide_eq_true (by kernel_rfl)) (by unfold Func.isWrapper; first | (rw [if_pos (by decide +kernel)]; kernel_rfl) | (rw [if_neg (by decide +kernel)]; exact ⟨rfl, rfl⟩))
    (fun os started H enc _ F => by rw [OpenClaim.pre_eq_preRow]; exact lifted os started H enc F)

theorem plain (f : FuncId) (fn : Func) (hf : Tryd.pinned.checked.prog.funcNamed "turnstone/turnstonelaw2.KindsSame" = some f) (hfn : Tryd.pinned.checked.prog.funcs[f]? = some fn) :
    false = Tryd.pinned.checked.prog.looks [] ∧ ∀ (j : Nat) t, fn.params[j]? = some t → Tryd.pinned.checked.prog.wantsStandIn t = false := by
  obtain rfl : f = 3 := Option.some.inj ((show Tryd.prog.funcNamed "turnstone/turnstonelaw2.KindsSame" = some 3 by kernel_rfl).symm.trans hf) |>.symm
  obtain rfl : fn = Tryd.f3 := (Option.some.inj (Tryd.func3.symm.trans hfn)).symm
  refine ⟨by kernel_rfl, fun j t ht => ?_⟩
  rw [Tryd.params3] at ht
  rcases j with _ | _ | _ | _ | _ | _ | _
  all_goals first
    | (simp at ht; done)
    | (obtain rfl := Option.some.inj ht; kernel_rfl)
    | (simp at ht; subst ht; kernel_rfl)

theorem proved : Rows.KindsSameCardSaid :=
  Claim7.holds_tied_plain_at .later [] _ _ _ _ said (fun _ h => by cases h) (by kernel_rfl) (fun _ h => by cases h) kindsSame_row_tie rfl ⟨rfl, rfl⟩ (by kernel_rfl) rfl plain (by kernel_rfl)
#print axioms proved
end Go.Proofs.YtllhpkhbcgfeeaaDoor.kindsSame

