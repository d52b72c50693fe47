/-
  This text proves 'Rows.SsaTellsCardSaid': the law 'SsaTells' returns true at any value, in whatever memory and on every tape, and its input reads as it did.
  The condition is the card's own: the listed package-level variables hold what the program's text lays.
-/
import Derived.Test.YtcgmchechmbmeaaDoorCards
import Derived.Test.YtcgmchechmbmeaaDoorTie
import Derived.Deep.DeepHandedRow
import Derived.Lib.LaidTab
import Derived.Test.YtcgmchechmbmeaaDoorSsaTl
set_option maxRecDepth 100000
set_option linter.unusedSimpArgs false
set_option linter.unusedVariables false
namespace Go.Proofs.YtcgmchechmbmeaaDoor.ssaTells
open Go.Sh gen base
variable {S : Sums} {m : Mem}
set_option maxHeartbeats 4000000 in
theorem law_run (hK : S 9 = [([], .bool true)]) (hS : S 6 = []) (hNm : S 15 = nmL) (hP : S 16 = []) (hU : S 13 = []) (hPa : S 42 = []) (hRU : S 17 = []) (hPu : S 14 = []) (hRP : S 18 = [])
    {x : ValT.D} {c : List Value} (wx : ValT.wf x ∧ ValT.fits Tryd.prog x) (hx : At m ValT x c) {near : Bool} :
    ∃ v m', callw Tryd.prog TT S 6 [tyVal ValT c, .bool near] m = some (v, m') ∧ v = .bool true := by
  have hkn := fun m' => sum_ok (P := Tryd.prog) (T := TT) (m := m') hK
  obtain ⟨ao, f, hc, hr⟩ := val_cells hx
  have hb : Tryd.prog.bytesOf 3 = 8 := by kernel_rfl
  have hfit : x.2.2.2.2.1.length * 8 ≤ 140737488351232 := by
    have := wx.2.2.2.2.2.1.1
    rwa [hb] at this
  obtain ⟨op0, a, b, n, l, st, u⟩ := x
  simp only at hc hr hfit
  subst hc
  show ∃ v m', callw Tryd.prog TT S 6 [.agg #[.int .i64 op0, .int .i64 a, .int .i64 b, .int .i64 n, .slice ao l.length l.length, .int .i64 st], .bool near] m = some (v, m') ∧ v = .bool true
  refine fn_w 8 [8, 21, 31, 35, 46] k6 hS rfl ?_
  simp [-Int.natCast_add, -w6_1, -BitVec.toNat_or, -BitVec.toNat_ofInt, -BitVec.toNat_and, box_of b43, fieldAddr_of fa43_0, load_of ld3, store_of sz3, fieldAddr_of fa43_4, load_of ld22, len_slice u22, load_agg ld43, index_slice u22 sz3, bin_bool u4 .eql (Or.inl rfl)]
  obtain ⟨o1, k1, n1⟩ := new_own (m := m) (cs := [.int .i64 op0, .int .i64 a, .int .i64 b, .int .i64 n, .slice ao l.length l.length, .int .i64 st]) (e := 43) rfl
  generalize m.new _ 43 = m1 at *
  obtain ⟨vb, hvb⟩ : ∃ vb, m.next = vb := ⟨_, rfl⟩
  rw [hvb] at o1 n1 ⊢
  apply cut1_ (fun (mX : Mem) => ∃ op, Own mX vb [.int .i64 op, .int .i64 a, .int .i64 b, .int .i64 n, .slice ao l.length l.length, .int .i64 st] 43 vb ∧ Keeps m mX [])
  case main =>
    have l0 := o1.load1 (off := 0) rfl
    have pk := fun m' => pick_run (m := m') hP op0 25 (by omega) (by omega)
    intro meth
    rcases Bool.eq_false_or_eq_true near with hb | hb
    · simp [-Int.natCast_add, -w6_3, -BitVec.toNat_or, -BitVec.toNat_ofInt, -BitVec.toNat_and, box_of b43, fieldAddr_of fa43_0, load_of ld3, store_of sz3, fieldAddr_of fa43_4, load_of ld22, len_slice u22, load_agg ld43, index_slice u22 sz3, bin_bool u4 .eql (Or.inl rfl), hb, l0, pk]
      generalize hra : storeRow _ _ _ = ra
      obtain ⟨m2, rfl, o2, k2⟩ := store_own hra o1 (by simp) (by simp [one_int])
      simp [over] at o2
      simp [-Int.natCast_add, -w6_3, -BitVec.toNat_or, -BitVec.toNat_ofInt, -BitVec.toNat_and, box_of b43, fieldAddr_of fa43_0, load_of ld3, store_of sz3, fieldAddr_of fa43_4, load_of ld22, len_slice u22, load_agg ld43, index_slice u22 sz3, bin_bool u4 .eql (Or.inl rfl)]
      exact w_sub (E := [(2, .pointer (some ⟨vb, 0, none⟩))]) (meth m2 ⟨_, o2, k1.fresh k2 (by simp; omega)⟩) ⟨by rfl, trivial⟩
    · obtain ⟨m2, hm2, k2⟩ : ∃ m2, m1 = m2 ∧ Keeps m1 m2 [] := ⟨m1, rfl, keeps_refl _⟩
      simp [-Int.natCast_add, -w6_3, -BitVec.toNat_or, -BitVec.toNat_ofInt, -BitVec.toNat_and, box_of b43, fieldAddr_of fa43_0, load_of ld3, store_of sz3, fieldAddr_of fa43_4, load_of ld22, len_slice u22, load_agg ld43, index_slice u22 sz3, bin_bool u4 .eql (Or.inl rfl), hb]
      have o2 := o1.keep k2 (by simp)
      rw [hm2]
      exact w_sub (E := [(2, .pointer (some ⟨vb, 0, none⟩))]) (meth m2 ⟨_, o2, k1.trans k2⟩) ⟨by rfl, trivial⟩
  intro mX ⟨op, oX, kX⟩
  have l0 := oX.load1 (off := 0) rfl
  have l4 := oX.load1 (off := 4) rfl
  have lall := oX.load (off := 0) 6 (by simp)
  simp [window] at lall
  have hrX := hr.keep kX (by simp)
  by_cases hno : op = 20 ∧ l.length = 0
  · obtain ⟨h1, h2⟩ := hno
    have h2' : (l.length : Int) = 0 := by omega
    simp [-Int.natCast_add, -BitVec.toNat_or, -BitVec.toNat_ofInt, -BitVec.toNat_and, box_of b43, fieldAddr_of fa43_0, load_of ld3, store_of sz3, fieldAddr_of fa43_4, load_of ld22, len_slice u22, load_agg ld43, index_slice u22 sz3, bin_bool u4 .eql (Or.inl rfl), l0, l4, h1, h2, h2', hkn]
  · have h20 : op = 20 → 0 < l.length := fun h => by
      by_cases h0 : l.length = 0
      · exact absurd ⟨h, h0⟩ hno
      · omega
    obtain ⟨_, m3, us3, ⟨a3, f3, rfl, r3⟩, k3⟩ := uses_run (m := mX) hU hPa (a := a) (b := b) (n := n) (st := st) hfit hrX h20
    obtain ⟨_, m4, us4, ⟨a4, f4, rfl, r4⟩, k4⟩ := ruses_run (m := m3) hRU (a := a) (b := b) (n := n) (st := st) hfit (hrX.keep k3 (by simp)) h20
    have lall3 := (oX.keep k3 (by simp)).load (off := 0) 6 (by simp)
    simp [window] at lall3
    have ul : (usesF op a b l).length ≤ 17592186044420 := by
      rw [usesF_eq]
      have := partsF_le op
      split
      · simp; omega
      · split
        · simp; omega
        · simp; omega
    obtain ⟨L, hL⟩ : ∃ L, usesF op a b l = L := ⟨_, rfl⟩
    rw [hL] at us3 us4 r3 r4 ul
    have r34 := r3.keep k4 (by simp)
    have o4 := (oX.keep k3 (by simp)).keep k4 (by simp)
    have hcase : ¬ op = 20 ∨ (op = 20 ∧ ¬ l.length = 0) := by
      by_cases h : op = 20
      · exact Or.inr ⟨h, fun h0 => hno ⟨h, h0⟩⟩
      · exact Or.inl h
    apply cut_
    case main =>
      rcases hcase with h1 | ⟨h1, h2⟩
      · intro meth
        simp [-Int.natCast_add, -w6_9, -BitVec.toNat_or, -BitVec.toNat_ofInt, -BitVec.toNat_and, box_of b43, fieldAddr_of fa43_0, load_of ld3, store_of sz3, fieldAddr_of fa43_4, load_of ld22, len_slice u22, load_agg ld43, index_slice u22 sz3, bin_bool u4 .eql (Or.inl rfl), l0, l4, h1, lall, lall3, us3, us4]
        exact w_sub (E := [(2, .pointer (some ⟨vb, 0, none⟩)), (5, .slice a3 L.length L.length), (6, .slice a4 L.length L.length)]) meth ⟨by rfl, by rfl, by rfl, trivial⟩
      · have h2' : ¬ (l.length : Int) = 0 := by omega
        intro meth
        rw [h1] at us3 us4
        simp [-Int.natCast_add, -w6_9, -BitVec.toNat_or, -BitVec.toNat_ofInt, -BitVec.toNat_and, box_of b43, fieldAddr_of fa43_0, load_of ld3, store_of sz3, fieldAddr_of fa43_4, load_of ld22, len_slice u22, load_agg ld43, index_slice u22 sz3, bin_bool u4 .eql (Or.inl rfl), l0, l4, h1, h2, h2', lall, lall3, us3, us4]
        exact w_sub (E := [(2, .pointer (some ⟨vb, 0, none⟩)), (5, .slice a3 L.length L.length), (6, .slice a4 L.length L.length)]) meth ⟨by rfl, by rfl, by rfl, trivial⟩
    simp [-Int.natCast_add, -BitVec.toNat_or, -BitVec.toNat_ofInt, -BitVec.toNat_and, box_of b43, fieldAddr_of fa43_0, load_of ld3, store_of sz3, fieldAddr_of fa43_4, load_of ld22, len_slice u22, load_agg ld43, index_slice u22 sz3, bin_bool u4 .eql (Or.inl rfl)]
    refine wsem_loop 8 [8, 21, 31, 35, 46] (fun d E mC => ∃ i : Nat, L.length - i = d ∧ i ≤ L.length ∧ mC = m4 ∧ E = [(2, .pointer (some ⟨vb, 0, none⟩)), (5, .slice a3 L.length L.length), (6, .slice a4 L.length L.length), (7, .int .i64 i)]) _ ⟨_, ⟨0, rfl, by omega, rfl, rfl⟩, ⟨by rfl, by rfl, by rfl, by rfl, trivial⟩⟩ ?_
    rintro d E mC ih ⟨i, hd, hi, rfl, rfl⟩
    by_cases hlt : i < L.length
    · have i1 : (i : Int) < L.length := by omega
      have em : (i : Int) ≤ 9223372036854775807 := by omega
      have wi : IntKind.i64.wrap ((i : Int) + 1) = ((i + 1 : Nat) : Int) := by rw [wrap_i64 (by omega) (by omega)]; omega
      obtain ⟨ba, rfl, oa⟩ := r34.rdo (by omega)
      obtain ⟨bb, rfl, obb⟩ := r4.rdo (by omega)
      have la : loadRow mC ⟨ba, i, none⟩ 1 = some [.int .i64 L[i]] := by
        rw [oa.load (off := i) 1 (by simp; omega)]
        simp only [window, ← List.map_drop, ← List.map_take]
        rw [List.drop_eq_getElem_cons hlt]
        rfl
      have lb : loadRow mC ⟨bb, i, none⟩ 1 = some [.int .i64 L[i]] := by
        rw [obb.load (off := i) 1 (by simp; omega)]
        simp only [window, ← List.map_drop, ← List.map_take]
        rw [List.drop_eq_getElem_cons hlt]
        rfl
      simp [-Int.natCast_add, -BitVec.toNat_or, -BitVec.toNat_ofInt, -BitVec.toNat_and, box_of b43, fieldAddr_of fa43_0, load_of ld3, store_of sz3, fieldAddr_of fa43_4, load_of ld22, len_slice u22, load_agg ld43, index_slice u22 sz3, bin_bool u4 .eql (Or.inl rfl), i1, em, hlt, la, lb, wi]
      exact ih _ _ _ _ ⟨i + 1, rfl, by omega, rfl, rfl⟩ (by omega) ⟨by rfl, by rfl, by rfl, by simp [lget], trivial⟩
    · have i1 : ¬ (i : Int) < L.length := by omega
      have l0C := o4.load1 (off := 0) rfl
      have p1 := fun m' => pure_run (m := m') hPu op
      have p2 := fun m' => rpure_run (m := m') hRP op
      have p3 := fun m' => name_run (m := m') hNm op
      have ne := nameF_ne op
      obtain ⟨w, hw⟩ : ∃ w, pureF op = w := ⟨_, rfl⟩
      rw [hw] at p1 p2
      obtain ⟨s, hs⟩ : ∃ s, nameF op = s := ⟨_, rfl⟩
      rw [hs] at p3 ne
      by_cases g1 : 1 ≤ op
      · by_cases g2 : op ≤ 23
        · have hs0 : ¬ s = [] := fun h => (ne.1 h) ⟨g1, g2⟩
          simp [-Int.natCast_add, -BitVec.toNat_or, -BitVec.toNat_ofInt, -BitVec.toNat_and, box_of b43, fieldAddr_of fa43_0, load_of ld3, store_of sz3, fieldAddr_of fa43_4, load_of ld22, len_slice u22, load_agg ld43, index_slice u22 sz3, bin_bool u4 .eql (Or.inl rfl), i1, hkn, p1, p2, p3, l0C, g1, g2, hs0]
        · have hs0 : s = [] := ne.2 (fun h => g2 h.2)
          simp [-Int.natCast_add, -BitVec.toNat_or, -BitVec.toNat_ofInt, -BitVec.toNat_and, box_of b43, fieldAddr_of fa43_0, load_of ld3, store_of sz3, fieldAddr_of fa43_4, load_of ld22, len_slice u22, load_agg ld43, index_slice u22 sz3, bin_bool u4 .eql (Or.inl rfl), i1, hkn, p1, p2, p3, l0C, g1, g2, hs0]
      · have hs0 : s = [] := ne.2 (fun h => g1 h.1)
        simp [-Int.natCast_add, -BitVec.toNat_or, -BitVec.toNat_ofInt, -BitVec.toNat_and, box_of b43, fieldAddr_of fa43_0, load_of ld3, store_of sz3, fieldAddr_of fa43_4, load_of ld22, len_slice u22, load_agg ld43, index_slice u22 sz3, bin_bool u4 .eql (Or.inl rfl), i1, hkn, p1, p2, p3, l0C, g1, hs0]

/- the row -/
open Go.ChangeShapes Go.WideShapes Go.ChangeAt Go.RowKit
theorem own : ownKnob Tryd.prog.godebug = none := by kernel_rfl
theorem tab : Sh.tabCheck Tryd.prog fns = true := by kernel_rfl
def tables : List (Nat × List Value) := []
theorem startT (w : World) (h : laidMetH Tryd.prog Rows.ssaTellsRow.laid w) : MRel Tryd.prog (inj0 Tryd.prog) (memG Tryd.prog tables) (allF w) w w := by
  refine memG_rel Tryd.prog w tables fun p hp => ?_
  simp only [tables, List.mem_cons, List.not_mem_nil, or_false] at hp

theorem walk (w : World) (hL : laidMetH Tryd.prog Rows.ssaTellsRow.laid w) {v0 : Value} (h0 : DatArgS Tryd.prog w (Ty.pair (Ty.int .i64) (Ty.pair (Ty.int .i64) (Ty.pair (Ty.int .i64) (Ty.pair (Ty.int .i64) (Ty.pair (Ty.slice 3 (Ty.int .i64)) (Ty.pair (Ty.int .i64) Ty.unit)))))) v0) (x1 : Bool) :
    Calls Tryd.prog 6 #[v0, .bool x1] w fun e w' => e = .returned (.bool true) ∧ Below w.heap.size w w' := by
  have hM := startT w hL
  obtain ⟨rs0, J0, m0, cs0, hw0, le0, hM0, vr0, hr0, hk0⟩ := h0 _ _ hM
  obtain ⟨v', m', h, rfl⟩ := law_run (S := sums) (m := m0) rfl rfl rfl rfl rfl rfl rfl rfl rfl hw0 hr0
  exact calls_of mixed (Sh.tab_ok tab) sumsOk Tryd.func6 (by kernel_rfl) h rfl hM0 (.cons vr0 (.cons (.clo _ rfl) LRel.nil))

theorem laidOut : laidOutB Tryd.prog = true := by kernel_rfl

theorem contract (H : Type) (enc : TypeId × Value → H) (W : World) (base : Nat) (args : Array Value) (ds gs : List (DataW H)) (before : List MemPlace)
    (hval : ∀ (j : Nat) t v, Tryd.f6.params[j]? = some t → args[j]? = some v → Value.okWide Tryd.prog W .any base t v)
    (hW : DataW.Whole enc Tryd.prog Tryd.f6.params.toList Rows.ssaTellsSpec.vars false W args.toList ds gs before) (hwt0 : (DataW.weightsEach Tryd.prog (Tryd.f6.params.toList ++ (OpenSpec.ofChange Rows.ssaTellsSpec).bare.plain.varTypes Tryd.prog) (ds ++ gs)).all (· ≤ reachBytes) = true) (hL : laidMetH Tryd.prog Rows.ssaTellsRow.laid W) :
    Calls Tryd.prog 6 args W fun e W' => ∃ v, e = .returned v ∧ Rows.ssaTellsSpec.post enc Tryd.prog Tryd.f6 false true false false W args v W' := by
  have hW' := hW
  obtain ⟨p, q, hA0, hV, rfl, hfz, hnd⟩ := hW
  have hA : DataW.TrodAll enc Tryd.prog W 0 (fun _ => true) true Tryd.f6.params.toList args.toList ds p := hA0
  rw [Tryd.params6] at hA hval
  have hwt := hwt0
  rw [Tryd.params6] at hwt
  obtain ⟨v0, v1, d0, d1, p0, p1, rfl, rfl, rfl, t0, t1⟩ := trodAll_two hA
  obtain ⟨rfl, rfl⟩ := trodVars_none hV
  simp only [List.toList_toArray, List.cons_append, List.nil_append, DataW.weightsEach, List.all_append, Bool.and_eq_true] at hwt
  have hv0 := dat_arg_s (ty := (Ty.pair (Ty.int .i64) (Ty.pair (Ty.int .i64) (Ty.pair (Ty.int .i64) (Ty.pair (Ty.int .i64) (Ty.pair (Ty.slice 3 (Ty.int .i64)) (Ty.pair (Ty.int .i64) Ty.unit))))))) (t := 43) (by kernel_rfl) (hval 0 _ _ rfl rfl) t0 hwt.1
  obtain ⟨x1, rfl, rfl, rfl⟩ := open_bool u4 (hval 1 _ _ rfl rfl) t1
  clear hA0
  simp only [List.append_nil, List.nil_append] at hW'
  refine (walk W hL hv0 x1).mono fun e W' ⟨he, hg⟩ => ?_
  subst he
  have hlt0 : ∀ z ∈ p0, z.block < W.heap.size := fun z hz => hW'.lt z (by simp [hz])
  exact ⟨_, rfl, Sh.law_post (pa := (p0 ++ [])) (pv := []) hW' hg (by simp) (fun sp hsp => trodAll_mk2 (WideElems.Trod_stays laidOut (by kernel_rfl) (of_decide_eq_true (by kernel_rfl)) t0 (fun z hz => hg.same (hlt0 z hz)) (fun z hz => hsp z (by simp [hz]))) (shut_bool u4 _)) (fun _ _ => rfl) (fun _ _ _ => (trodAll_cons_mk (shut_bool u4 _) trodAll_mk0))
    (ok_one (by kernel_rfl) rfl (okWide_bool_mk u4 _))⟩
/-- A world for the witness: the settled one, the listed variables holding what is laid. -/
noncomputable def laidWorld (os : Os) : World :=
  { World.holding Tryd.prog os ⟨#[], #[], []⟩ with heap := (((World.holding Tryd.prog os ⟨#[], #[], []⟩).heap).modify 2 (Sh.laidBlock (Rows.laid_unicode_utf8_acceptRanges : DataW Unit))).modify 1 (Sh.laidBlock (Rows.laid_unicode_utf8_first : DataW Unit)) }
theorem laid_met (os : Os) : laidMet Tryd.prog Rows.ssaTellsRow.laid ((laidWorld os).forCall (fun _ _ => 0) ⟨#[], #[(tyVal (Ty.pair (Ty.int .i64) (Ty.pair (Ty.int .i64) (Ty.pair (Ty.int .i64) (Ty.pair (Ty.int .i64) (Ty.pair (Ty.slice 3 (Ty.int .i64)) (Ty.pair (Ty.int .i64) Ty.unit)))))) ((Ty.pair (Ty.int .i64) (Ty.pair (Ty.int .i64) (Ty.pair (Ty.int .i64) (Ty.pair (Ty.int .i64) (Ty.pair (Ty.slice 3 (Ty.int .i64)) (Ty.pair (Ty.int .i64) Ty.unit))))))).zeros), .bool false], []⟩).memory :=
  laidMet_of_run' 8 (by kernel_rfl) (by kernel_rfl)
theorem reads (os : Os) {H : Type} (enc : TypeId × Value → H) : ∃ places, DataW.whole enc Tryd.prog ((laidWorld os).forCall (fun _ _ => 0) ⟨#[], #[(tyVal (Ty.pair (Ty.int .i64) (Ty.pair (Ty.int .i64) (Ty.pair (Ty.int .i64) (Ty.pair (Ty.int .i64) (Ty.pair (Ty.slice 3 (Ty.int .i64)) (Ty.pair (Ty.int .i64) Ty.unit)))))) ((Ty.pair (Ty.int .i64) (Ty.pair (Ty.int .i64) (Ty.pair (Ty.int .i64) (Ty.pair (Ty.int .i64) (Ty.pair (Ty.slice 3 (Ty.int .i64)) (Ty.pair (Ty.int .i64) Ty.unit))))))).zeros), .bool false], []⟩).memory Tryd.f6.params.toList Rows.ssaTellsSpec.vars false (#[(tyVal (Ty.pair (Ty.int .i64) (Ty.pair (Ty.int .i64) (Ty.pair (Ty.int .i64) (Ty.pair (Ty.int .i64) (Ty.pair (Ty.slice 3 (Ty.int .i64)) (Ty.pair (Ty.int .i64) Ty.unit)))))) ((Ty.pair (Ty.int .i64) (Ty.pair (Ty.int .i64) (Ty.pair (Ty.int .i64) (Ty.pair (Ty.int .i64) (Ty.pair (Ty.slice 3 (Ty.int .i64)) (Ty.pair (Ty.int .i64) Ty.unit))))))).zeros), .bool false] : Array Value).toList 8 = some ([(((Ty.pair (Ty.int .i64) (Ty.pair (Ty.int .i64) (Ty.pair (Ty.int .i64) (Ty.pair (Ty.int .i64) (Ty.pair (Ty.slice 3 (Ty.int .i64)) (Ty.pair (Ty.int .i64) Ty.unit))))))).zdata), .lit (.bool false)], [], places) :=
  ⟨[], by kernel_rfl⟩

theorem lifted (os : Os) (started : os.Started) (H : Type) (enc : TypeId × Value → H) (F : Stop.Interp) :
    ReturnsInHanded {} Tryd.checked os 6 .any ((OpenSpec.ofChange Rows.ssaTellsSpec).preRow enc Tryd.prog Tryd.f6 Rows.ssaTellsRow.domain false Rows.ssaTellsRow.laid) (((OpenSpec.ofChange Rows.ssaTellsSpec).at F).post enc Tryd.prog Tryd.f6 false true false false) := by
  obtain ⟨places, hx⟩ := reads os enc
  refine returnsInHanded_of_row (C := Tryd.checked) (s := OpenSpec.ofChange Rows.ssaTellsSpec) own started (by kernel_rfl) Tryd.func6
    (witness_row_at (enc := enc) (C := Tryd.checked) false (laidWorld os) #[(tyVal (Ty.pair (Ty.int .i64) (Ty.pair (Ty.int .i64) (Ty.pair (Ty.int .i64) (Ty.pair (Ty.int .i64) (Ty.pair (Ty.slice 3 (Ty.int .i64)) (Ty.pair (Ty.int .i64) Ty.unit)))))) ((Ty.pair (Ty.int .i64) (Ty.pair (Ty.int .i64) (Ty.pair (Ty.int .i64) (Ty.pair (Ty.int .i64) (Ty.pair (Ty.slice 3 (Ty.int .i64)) (Ty.pair (Ty.int .i64) Ty.unit))))))).zeros), .bool false] rfl (by kernel_rfl) (by kernel_rfl) (by kernel_rfl)
      (OpenSpec.preRow_of_cond 8 hx (by kernel_rfl) (fun k hk => by cases hk) (by kernel_rfl) (laid_met os))) ?_
  intro W base args ds gs before hval hW _ _ hwt hL _ _
  exact contract H enc W base args ds gs before hval hW hwt hL

theorem said : Rows.SsaTellsSaid :=
  OpenClaim.holds_of_cond 6 Tryd.f6 rfl rfl rfl rfl rfl rfl rfl ⟨rfl, rfl, rfl, rfl, rfl⟩ rfl rfl rfl rfl rfl (by kernel_rfl) Tryd.func6 (by kernel_rfl)
    (of_decide_eq_true (by kernel_rfl)) (by unfold Func.isWrapper; first | (rw [if_pos (by decide +kernel)]; kernel_rfl) | (rw [if_neg (by decide +kernel)]; exact ⟨rfl, rfl⟩))
    (fun os started H enc _ F => by rw [OpenClaim.pre_eq_preRow]; exact lifted os started H enc F)

theorem plain (f : FuncId) (fn : Func) (hf : Tryd.pinned.checked.prog.funcNamed "turnstone/turnstonelaw15.SsaTells" = some f) (hfn : Tryd.pinned.checked.prog.funcs[f]? = some fn) :
    false = Tryd.pinned.checked.prog.looks [] ∧ ∀ (j : Nat) t, fn.params[j]? = some t → Tryd.pinned.checked.prog.wantsStandIn t = false := by
  obtain rfl : f = 6 := Option.some.inj ((show Tryd.prog.funcNamed "turnstone/turnstonelaw15.SsaTells" = some 6 by kernel_rfl).symm.trans hf) |>.symm
  obtain rfl : fn = Tryd.f6 := (Option.some.inj (Tryd.func6.symm.trans hfn)).symm
  refine ⟨by kernel_rfl, fun j t ht => ?_⟩
  rw [Tryd.params6] at ht
  rcases j with _ | _ | _
  all_goals first
    | (simp at ht; done)
    | (obtain rfl := Option.some.inj ht; kernel_rfl)
    | (simp at ht; subst ht; kernel_rfl)

theorem proved : Rows.SsaTellsCardSaid :=
  Claim7.holds_tied_plain_at .later [] _ _ _ _ said (fun _ h => by cases h) (by kernel_rfl) (fun _ h => by cases h) ssaTells_row_tie rfl ⟨rfl, rfl⟩ (by kernel_rfl) rfl plain (by kernel_rfl)
#print axioms proved
end Go.Proofs.YtcgmchechmbmeaaDoor.ssaTells

