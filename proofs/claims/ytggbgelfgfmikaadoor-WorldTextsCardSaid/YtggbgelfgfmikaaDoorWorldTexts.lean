/-
  This text proves 'Rows.WorldTextsCardSaid': the law 'WorldTexts' returns true at any two texts, in whatever memory and on every tape, and its input reads as it did.
  The condition is the card's own: the listed package-level variables hold what the program's text lays.
-/
import Derived.Test.YtggbgelfgfmikaaDoorCards
import Derived.Test.YtggbgelfgfmikaaDoorTie
import Derived.Deep.DeepHandedRow
import Derived.Lib.LaidTab
import Derived.Test.YtggbgelfgfmikaaDoorWorC
set_option maxRecDepth 100000
set_option linter.unusedSimpArgs false
set_option linter.unusedVariables false
namespace Go.Proofs.YtggbgelfgfmikaaDoor.worldTexts
open Go.Sh gen base
variable {S : Sums} {m : Mem}
theorem say_text (hS : S 44 = []) (hN : Nh S) {b f hb hf wb wf lf nf : Nat} {ws : List Int} {room : Int} {lo no : Option Addr} {lits : List Int} {lines : List (List UInt8)} (h : WAt m b f hb hf wb wf ws room lo no lf nf lits lines) (hw : ws.length ≤ 1000000) (hd : Wd ws) {r : Int} {x : List UInt8} (hr : TxtAt ws r x) :
    ∃ v m1, callw Tryd.prog TT S 44 [.pointer (some ⟨b, 0, none⟩), .int .i64 3, .int .u64 r] m = some (v, m1) ∧ v = .tuple #[.string ⟨x.toArray⟩, .bool true] ∧ Keeps m m1 [] := by
  obtain ⟨ty, io, e1, e2, o⟩ := h.own
  obtain ⟨_, m1, c1, rfl, k1⟩ := str_run hN h hw hd hr
  have l1 := o.load1 (off := 1) rfl
  refine fn_w 9 [9, 14, 19] k44 hS rfl ?_
  simp [-BitVec.toNat_or, -BitVec.toNat_ofInt, -BitVec.toNat_and, conv_i u22 u2, fieldAddr_of fa74_1, load_of ld44, l1, c1]
  exact k1
theorem txt_at {ts : List (List UInt8)} (h5 : ∀ l ∈ ts, l.length ≤ 2000) (hn : ts.length ≤ 30) {j : Nat} {l : List UInt8} (hj : ts[j]? = some l) : ∃ r : Int, (refsT 1 ts)[j]? = some r ∧ TxtAt ((0 : Int) :: flatT ts) r l := by
  obtain ⟨r, h1, h2, h3, h4, h6⟩ := texts_at h5 hn hj
  exact ⟨r, h1, h2, h3, h4, h6⟩
set_option maxHeartbeats 4000000 in
theorem law_run (hN : Nw S) (hS : S 5 = []) (hC : S 16 = []) (hE : S 18 = []) (hL : S 21 = []) {a0 b0 : List UInt8} (ha : a0.length ≤ 9223372036854775807) (hb : b0.length ≤ 9223372036854775807)
    {e : TypeId} (hg : Rdo m 0 powC e 0) :
    ∃ v m', callw Tryd.prog TT S 5 [.string ⟨a0.toArray⟩, .string ⟨b0.toArray⟩] m = some (v, m') ∧ v = .bool true := by
  refine fn_w 10 [40] k5 hS rfl ?_
  obtain ⟨x, hx⟩ : ∃ x, a0.take 300 = x := ⟨_, rfl⟩
  obtain ⟨y, hy⟩ : ∃ y, b0.take 300 = y := ⟨_, rfl⟩
  have hxl : x.length ≤ 300 := by rw [← hx]; simp; omega
  have hyl : y.length ≤ 300 := by rw [← hy]; simp; omega
  obtain ⟨na, hna, hna2⟩ : ∃ n : Nat, (if (300 : Int) < (a0.length : Int) then (300 : Int) else (a0.length : Int)) = n ∧ n ≤ a0.length ∧ n ≤ 300 ∧ a0.take n = x := by
    by_cases h : (300 : Int) < (a0.length : Int)
    · exact ⟨300, by rw [if_pos h]; rfl, by omega, by omega, hx⟩
    · exact ⟨a0.length, by rw [if_neg h], by omega, by omega, by rw [← hx, List.take_length, List.take_of_length_le (by omega)]⟩
  obtain ⟨nb, hnb, hnb2⟩ : ∃ n : Nat, (if (300 : Int) < (b0.length : Int) then (300 : Int) else (b0.length : Int)) = n ∧ n ≤ b0.length ∧ n ≤ 300 ∧ b0.take n = y := by
    by_cases h : (300 : Int) < (b0.length : Int)
    · exact ⟨300, by rw [if_pos h]; rfl, by omega, by omega, hy⟩
    · exact ⟨b0.length, by rw [if_neg h], by omega, by omega, by rw [← hy, List.take_length, List.take_of_length_le (by omega)]⟩
  have i1 : (na : Int) ≤ 9223372036854775807 ∧ (nb : Int) ≤ 9223372036854775807 := by omega
  have i2 : ((x.length + y.length : Nat) : Int) ≤ 9223372036854775807 := by omega
  obtain ⟨z, hz⟩ : ∃ z, x ++ y = z := ⟨_, rfl⟩
  have hzl : z.length = x.length + y.length := by rw [← hz]; simp
  obtain ⟨o0, k0, n0⟩ := new_own (m := m) (cs := strC [x, y, z]) (e := 9) rfl
  obtain ⟨p, m1, m2, xb, hb, wb, wb', lo, lf, c1, c2, W2, g1, g2, g3, g4, k2⟩ := made_run (m := m.new (strC [x, y, z]) 9) hN (ts := [x, y, z]) (room := 65536) (Sl.of (z := 1) (n := 3) o0 (by rfl)).rs (by omega) (by simp) (by simp; omega) (by simp; omega)
  have c1' : callw Tryd.prog TT S 9 [.slice (some ⟨m.next, 0, none⟩) 3 3] (m.new [.string ⟨x.toArray⟩, .string ⟨y.toArray⟩, .string ⟨z.toArray⟩] 9) = some (p, m1) := c1
  obtain ⟨_, m3, ck, rfl, k3⟩ := known_run (m := m2) hN (hg.keep (k0.trans k2) (by simp))
  have W3 := W2.keep0 k3
  have t3 : ∀ l ∈ [x, y, z], l.length ≤ 2000 := by simp; omega
  have t4 : ∀ l ∈ [x, y, z, z], l.length ≤ 2000 := by simp; omega
  have wd3 : Wd ((0 : Int) :: flatT [x, y, z]) := wd_cons.2 ⟨by omega, wd_flatT t3⟩
  have wd4 : Wd ((0 : Int) :: flatT [x, y, z, z]) := wd_cons.2 ⟨by omega, wd_flatT t4⟩
  have lx := txt_len x
  have ly := txt_len y
  have lz := txt_len z
  have len3 : ((0 : Int) :: flatT [x, y, z]).length ≤ 1300 := by simp [flatT]; omega
  have len4 : ((0 : Int) :: flatT [x, y, z, z]).length ≤ 2000 := by simp [flatT]; omega
  have e4 : (0 : Int) :: flatT [x, y, z, z] = (0 :: flatT [x, y, z]) ++ txt z := by simp [flatT]
  obtain ⟨q0, r0, T0⟩ := txt_at (j := 0) (l := x) t3 (by simp) rfl
  obtain ⟨q1, r1, T1⟩ := txt_at (j := 1) (l := y) t3 (by simp) rfl
  obtain ⟨q2, r2, T2⟩ := txt_at (j := 2) (l := z) t3 (by simp) rfl
  obtain ⟨s0, u0, V0⟩ := txt_at (j := 0) (l := x) t4 (by simp) rfl
  obtain ⟨s1, u1, V1⟩ := txt_at (j := 1) (l := y) t4 (by simp) rfl
  obtain ⟨s2, u2, V2⟩ := txt_at (j := 2) (l := z) t4 (by simp) rfl
  obtain ⟨s3, u3', V3⟩ := txt_at (j := 3) (l := z) t4 (by simp) rfl
  have e34 : refsT 1 [x, y, z, z] = refsT 1 [x, y, z] ++ [if z = [] then 0 else (((0 : Int) :: flatT [x, y, z]).length : Int)] := by
    rw [show [x, y, z, z] = [x, y, z] ++ [z] from rfl, refsT_snoc]
    congr 3
    simp only [List.length_cons]
    omega
  have rl : (refsT 1 [x, y, z]).length = 3 := refsT_len _ _
  obtain ⟨rf, hrf⟩ : ∃ rf : Int, (if z = [] then 0 else (((0 : Int) :: flatT [x, y, z]).length : Int)) = rf := ⟨_, rfl⟩
  rw [hrf] at e34
  rw [e34] at u0 u1 u2 u3'
  rw [List.getElem?_append_left (by omega)] at u0 u1 u2
  rw [List.getElem?_append_right (by omega), rl] at u3'
  obtain rfl := Option.some.inj (r0.symm.trans u0)
  obtain rfl := Option.some.inj (r1.symm.trans u1)
  obtain rfl := Option.some.inj (r2.symm.trans u2)
  obtain rfl : rf = s3 := by simpa using u3'
  have g0' : (refsT 1 [x, y, z]).getD 0 0 = q0 := by rw [List.getD_eq_getElem?_getD, r0]; rfl
  have g1' : (refsT 1 [x, y, z]).getD 1 0 = q1 := by rw [List.getD_eq_getElem?_getD, r1]; rfl
  have g2' : (refsT 1 [x, y, z]).getD 2 0 = q2 := by rw [List.getD_eq_getElem?_getD, r2]; rfl
  have li := fun {m' : Mem} {wq : Nat} {ws : List Int} {no : Option Addr} {nf : Nat} {lines : List (List UInt8)} (h : WAt m' xb xb hb hb wq wb ws 65536 lo no lf nf (refsT 1 [x, y, z]) lines) => (⟨(lit_run (k := 0) hN.lit h (by omega) (by omega)).trans (by rw [g0']), (lit_run (k := 1) hN.lit h (by omega) (by omega)).trans (by rw [g1']), (lit_run (k := 2) hN.lit h (by omega) (by omega)).trans (by rw [g2'])⟩ : callw Tryd.prog TT S 17 [.pointer (some ⟨xb, 0, none⟩), .int .i64 ((0 : Nat) : Int)] m' = some (.int .u64 q0, m') ∧ callw Tryd.prog TT S 17 [.pointer (some ⟨xb, 0, none⟩), .int .i64 ((1 : Nat) : Int)] m' = some (.int .u64 q1, m') ∧ callw Tryd.prog TT S 17 [.pointer (some ⟨xb, 0, none⟩), .int .i64 ((2 : Nat) : Int)] m' = some (.int .u64 q2, m'))
  obtain ⟨L30, L31, _⟩ := li W3
  obtain ⟨_, m4, c4, rfl, ⟨wb4, W4⟩, k4⟩ := cat_run hC hN.h W3 (by omega) wd3 T0 T1 (by rw [hz]; omega) (by omega) (by rw [hz]; omega)
  rw [hz] at c4 W4
  rw [hrf] at c4
  rw [← e4] at W4
  obtain ⟨_, m5, c5, rfl, k5⟩ := say_text hN.say hN.h W4 (by omega) wd4 V3
  obtain ⟨_, m6, c6, ⟨no', nf', W6⟩, nq, k6, _⟩ := print_run hN.print hN.full W4 (by simp) c5 k5
  simp at W6
  obtain ⟨_, m7, c7, ⟨tb, rfl, tf, oT, htf⟩, k7⟩ := trace_run hN.trace W6 (by simp)
  have W7 := W6.keep0 k7
  obtain ⟨L70, L71, L72⟩ := li W7
  obtain ⟨_, m8, c8, rfl, k8⟩ := eq_run hE hN.h W7 (by omega) wd4 V3 V2
  have W8 := W7.keep0 k8
  have c9 := heap_run hN.heap W8
  have c10 := len_run hN.h.len hN.h.head hN.h.word W8.heap V3.h0 (by omega) wd4
  rw [V3.hlen] at c10
  obtain ⟨L80, L81, _⟩ := li W8
  obtain ⟨_, m11, c11, rfl, k11⟩ := less_run hL hN.h W8 (by omega) wd4 V0 V1
  have W11 := W8.keep0 k11
  obtain ⟨L110, L111, _⟩ := li W11
  obtain ⟨_, m12, c12, rfl, k12⟩ := eq_run hE hN.h W11 (by omega) wd4 V0 V1
  have t7 := oT.load1 (off := 0) rfl
  have t8 := (oT.keep k8 (by simp)).load1 (off := 0) rfl
  have t11 := ((oT.keep k8 (by simp)).keep k11 (by simp)).load1 (off := 0) rfl
  have t12 := (((oT.keep k8 (by simp)).keep k11 (by simp)).keep k12 (by simp)).load1 (off := 0) rfl
  have hzi : (z.length : Int) = IntKind.i64.wrap ((x.length : Int) + (y.length : Int)) := by rw [wrap_i64 (by omega) (by omega)]; omega
  simp at L30 L31 L70 L71 L72 L80 L81 L110 L111
  simp [-Int.natCast_add, -BitVec.toNat_or, -BitVec.toNat_ofInt, -BitVec.toNat_and, len_string u9, slice_str u9, bin_str u9 .add (Or.inl rfl), buildSlice_of u28 bs9 rfl, bin_ptr u23, len_slice u28, index_slice u28 sz9, load_of ld9, bin_str u9 .lss (Or.inr (Or.inl rfl)), bin_bool u4 .eql (Or.inl rfl), hna, hnb, hna2, hnb2, i1, i2, hz, c1', c2, ck, L30, L31, c4, c6, c7, L72, c8, c9, c10, t7, t8, t11, t12, L80, L81, c11, L110, L111, c12, hzi]

/- the row -/
open Go.ChangeShapes Go.WideShapes Go.ChangeAt Go.RowKit
theorem own : ownKnob Tryd.prog.godebug = none := by kernel_rfl
theorem tab : Sh.tabCheck Tryd.prog fns = true := by kernel_rfl
theorem tab0 {w : World} (h : laidMetH Tryd.prog Rows.worldTextsRow.laid w) : 0 < w.heap.size ∧ ∀ (i : Nat) v, ((Sh.tabLits (Rows.laid_internal_strconv_uint64pow10 : DataW Unit)).map Lit.value)[i]? = some v → w.cell? ⟨0, i, none⟩ = some v :=
  Sh.laid_lits (name := "internal/strconv.uint64pow10") (t := 103) (e := 22) (n := 20) (by kernel_rfl) h (by
    have e : (("internal/strconv.uint64pow10", (.agg ((Sh.tabLits (Rows.laid_internal_strconv_uint64pow10 : DataW Unit)).map .lit) : DataW Unit)) : String × DataW Unit) = ("internal/strconv.uint64pow10", Rows.laid_internal_strconv_uint64pow10) := by kernel_rfl
    rw [e]
    simp [Rows.worldTextsRow]) (by kernel_rfl) (by kernel_rfl) Tryd.underlying103 (by first | exact Or.inr (Or.inl Tryd.underlying22) | exact Or.inl ⟨_, Tryd.underlying22⟩ | exact Or.inr (Or.inr Tryd.underlying22)) (by kernel_rfl) (by kernel_rfl) (of_decide_eq_true (by kernel_rfl))
def tables : List (Nat × List Value) := [(0, (Sh.tabLits (Rows.laid_internal_strconv_uint64pow10 : DataW Unit)).map Lit.value)]
theorem rd0 : Rdo (memG Tryd.prog tables) 0 base.powC (gtype Tryd.prog 0) 0 := ⟨by kernel_rfl, ⟨⟨none, 0⟩, by kernel_rfl, Nat.zero_le _⟩, of_decide_eq_true (by kernel_rfl), of_decide_eq_true (by kernel_rfl)⟩
theorem startT (w : World) (h : laidMetH Tryd.prog Rows.worldTextsRow.laid w) : MRel Tryd.prog (inj0 Tryd.prog) (memG Tryd.prog tables) (allF w) w w := by
  refine memG_rel Tryd.prog w tables fun p hp => ?_
  simp only [tables, List.mem_cons, List.not_mem_nil, or_false] at hp
  rcases hp with rfl
  · exact ⟨of_decide_eq_true (by kernel_rfl), (tab0 h).1, by kernel_rfl, by kernel_rfl, (tab0 h).2⟩

theorem walk (w : World) (hL : laidMetH Tryd.prog Rows.worldTextsRow.laid w) (x0 : List UInt8) (hx0 : x0.length ≤ 9223372036854775807) (x1 : List UInt8) (hx1 : x1.length ≤ 9223372036854775807) :
    Calls Tryd.prog 5 #[.string ⟨x0.toArray⟩, .string ⟨x1.toArray⟩] w fun e w' => e = .returned (.bool true) ∧ Below w.heap.size w w' := by
  have hM := startT w hL
  obtain ⟨v', m', h, rfl⟩ := law_run (S := sums) (m := memG Tryd.prog tables) ⟨⟨rfl, rfl, rfl, rfl, rfl, rfl, rfl, rfl, rfl, rfl, rfl⟩, ⟨rfl, rfl, rfl, rfl, rfl, rfl, rfl, rfl⟩, rfl, rfl, rfl, rfl, rfl, rfl, rfl, rfl, rfl, rfl, rfl⟩ rfl rfl rfl rfl hx0 hx1 rd0
  exact calls_of mixed (Sh.tab_ok tab) sumsOk Tryd.func5 (by kernel_rfl) h rfl hM (.cons (.clo _ rfl) (.cons (.clo _ rfl) LRel.nil))

theorem laidOut : laidOutB Tryd.prog = true := by kernel_rfl

theorem contract (H : Type) (enc : TypeId × Value → H) (W : World) (base : Nat) (args : Array Value) (ds gs : List (DataW H)) (before : List MemPlace)
    (hval : ∀ (j : Nat) t v, Tryd.f5.params[j]? = some t → args[j]? = some v → Value.okWide Tryd.prog W .any base t v)
    (hW : DataW.Whole enc Tryd.prog Tryd.f5.params.toList Rows.worldTextsSpec.vars false W args.toList ds gs before) (hL : laidMetH Tryd.prog Rows.worldTextsRow.laid W) :
    Calls Tryd.prog 5 args W fun e W' => ∃ v, e = .returned v ∧ Rows.worldTextsSpec.post enc Tryd.prog Tryd.f5 false true false false W args v W' := by
  have hW' := hW
  obtain ⟨p, q, hA0, hV, rfl, hfz, hnd⟩ := hW
  have hA : DataW.TrodAll enc Tryd.prog W 0 (fun _ => true) true Tryd.f5.params.toList args.toList ds p := hA0
  rw [Tryd.params5] at hA hval
  obtain ⟨v0, v1, d0, d1, p0, p1, rfl, rfl, rfl, t0, t1⟩ := trodAll_two hA
  obtain ⟨rfl, rfl⟩ := trodVars_none hV
  obtain ⟨⟨⟨x0⟩⟩, rfl, rfl, rfl, hx0⟩ := Go.ChangeMaps.open_string u9 (hval 0 _ _ rfl rfl) t0
  obtain ⟨⟨⟨x1⟩⟩, rfl, rfl, rfl, hx1⟩ := Go.ChangeMaps.open_string u9 (hval 1 _ _ rfl rfl) t1
  clear hA0
  simp only [List.append_nil, List.nil_append] at hW'
  refine (walk W hL x0 hx0 x1 hx1).mono fun e W' ⟨he, hg⟩ => ?_
  subst he
  exact ⟨_, rfl, Sh.law_post (pa := ([] ++ [])) (pv := []) hW' hg (by simp) (fun sp hsp => trodAll_mk2 (Go.ChangeMaps.shut_string u9 hx0) (Go.ChangeMaps.shut_string u9 hx1)) (fun _ _ => rfl) (fun _ _ _ => (trodAll_cons_mk (shut_bool u4 _) trodAll_mk0))
    (ok_one (by kernel_rfl) rfl (okWide_bool_mk u4 _))⟩
/-- A world for the witness: the settled one, the listed variables holding what is laid. -/
noncomputable def laidWorld (os : Os) : World :=
  { World.holding Tryd.prog os ⟨#[], #[], []⟩ with heap := ((((World.holding Tryd.prog os ⟨#[], #[], []⟩).heap).modify 1 (Sh.laidBlock (Rows.laid_math_bits_deBruijn32tab : DataW Unit))).modify 2 (Sh.laidBlock (Rows.laid_math_bits_deBruijn64tab : DataW Unit))).modify 0 (Sh.laidBlock (Rows.laid_internal_strconv_uint64pow10 : DataW Unit)) }
theorem laid_met (os : Os) : laidMet Tryd.prog Rows.worldTextsRow.laid ((laidWorld os).forCall (fun _ _ => 0) ⟨#[], #[.string ⟨#[]⟩, .string ⟨#[]⟩], []⟩).memory :=
  laidMet_of_run' 8 (by kernel_rfl) (by kernel_rfl)
theorem reads (os : Os) {H : Type} (enc : TypeId × Value → H) : ∃ places, DataW.whole enc Tryd.prog ((laidWorld os).forCall (fun _ _ => 0) ⟨#[], #[.string ⟨#[]⟩, .string ⟨#[]⟩], []⟩).memory Tryd.f5.params.toList Rows.worldTextsSpec.vars false (#[.string ⟨#[]⟩, .string ⟨#[]⟩] : Array Value).toList 8 = some ([.lit (.string []), .lit (.string [])], [], places) :=
  ⟨[], by kernel_rfl⟩

theorem lifted (os : Os) (started : os.Started) (H : Type) (enc : TypeId × Value → H) (F : Stop.Interp) :
    ReturnsInHanded {} Tryd.checked os 5 .any ((OpenSpec.ofChange Rows.worldTextsSpec).preRow enc Tryd.prog Tryd.f5 Rows.worldTextsRow.domain false Rows.worldTextsRow.laid) (((OpenSpec.ofChange Rows.worldTextsSpec).at F).post enc Tryd.prog Tryd.f5 false true false false) := by
  obtain ⟨places, hx⟩ := reads os enc
  refine returnsInHanded_of_row (C := Tryd.checked) (s := OpenSpec.ofChange Rows.worldTextsSpec) own started (by kernel_rfl) Tryd.func5
    (witness_row_at (enc := enc) (C := Tryd.checked) false (laidWorld os) #[.string ⟨#[]⟩, .string ⟨#[]⟩] rfl (by kernel_rfl) (by kernel_rfl) (by kernel_rfl)
      (OpenSpec.preRow_of_cond 8 hx (by kernel_rfl) (fun k hk => by cases hk) (by kernel_rfl) (laid_met os))) ?_
  intro W base args ds gs before hval hW _ _ hwt hL _ _
  exact contract H enc W base args ds gs before hval hW hL

theorem said : Rows.WorldTextsSaid :=
  OpenClaim.holds_of_cond 5 Tryd.f5 rfl rfl rfl rfl rfl rfl rfl ⟨rfl, rfl, rfl, rfl, rfl⟩ rfl rfl rfl rfl rfl (by kernel_rfl) Tryd.func5 (by kernel_rfl)
    (of_decide_eq_true (by kernel_rfl)) (by unfold Func.isWrapper; first | (rw [if_pos (by decide +kernel)]; kernel_rfl) | (rw [if_neg (by decide +kernel)]; exact ⟨rfl, rfl⟩))
    (fun os started H enc _ F => by rw [OpenClaim.pre_eq_preRow]; exact lifted os started H enc F)

theorem plain (f : FuncId) (fn : Func) (hf : Tryd.pinned.checked.prog.funcNamed "turnstone/turnstonelaw10.WorldTexts" = some f) (hfn : Tryd.pinned.checked.prog.funcs[f]? = some fn) :
    false = Tryd.pinned.checked.prog.looks [] ∧ ∀ (j : Nat) t, fn.params[j]? = some t → Tryd.pinned.checked.prog.wantsStandIn t = false := by
  obtain rfl : f = 5 := Option.some.inj ((show Tryd.prog.funcNamed "turnstone/turnstonelaw10.WorldTexts" = some 5 by kernel_rfl).symm.trans hf) |>.symm
  obtain rfl : fn = Tryd.f5 := (Option.some.inj (Tryd.func5.symm.trans hfn)).symm
  refine ⟨by kernel_rfl, fun j t ht => ?_⟩
  rw [Tryd.params5] at ht
  rcases j with _ | _ | _
  all_goals first
    | (simp at ht; done)
    | (obtain rfl := Option.some.inj ht; kernel_rfl)
    | (simp at ht; subst ht; kernel_rfl)

theorem proved : Rows.WorldTextsCardSaid :=
  Claim7.holds_tied_plain_at .later [] _ _ _ _ said (fun _ h => by cases h) (by kernel_rfl) (fun _ h => by cases h) worldTexts_row_tie rfl ⟨rfl, rfl⟩ (by kernel_rfl) rfl plain (by kernel_rfl)
#print axioms proved
end Go.Proofs.YtggbgelfgfmikaaDoor.worldTexts

