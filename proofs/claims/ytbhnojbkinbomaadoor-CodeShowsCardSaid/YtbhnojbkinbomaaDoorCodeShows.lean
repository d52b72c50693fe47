/-
  This text proves 'Rows.CodeShowsCardSaid': the law 'CodeShows' returns true at any instructions, in whatever memory and on every tape, and its input reads as it did.
  The condition is the card's own: the listed package-level variables hold what the program's text lays.
-/
import Derived.Test.YtbhnojbkinbomaaDoorCards
import Derived.Test.YtbhnojbkinbomaaDoorTie
import Derived.Deep.DeepHandedRow
import Derived.Lib.LaidTab
import Derived.Test.YtbhnojbkinbomaaDoorCodR
set_option maxRecDepth 100000
set_option linter.unusedSimpArgs false
set_option linter.unusedVariables false
namespace Go.Proofs.YtbhnojbkinbomaaDoor.codeShows
open Go.Sh gen base
variable {S : Sums} {m : Mem}
abbrev InT : Ty := (Ty.pair (Ty.int .i64) (Ty.pair (Ty.int .i64) (Ty.pair (Ty.int .i64) Ty.unit)))
theorem i64_le {n : Int} (h : (Lit.int .i64 n).wf = true) : -9223372036854775808 ≤ n ∧ n ≤ 9223372036854775807 := by
  simp only [Lit.wf, Bool.and_eq_true, decide_eq_true_eq] at h
  have e1 : IntKind.i64.min = -9223372036854775808 := by decide
  have e2 : IntKind.i64.max = 9223372036854775807 := by decide
  omega
def inOf (d : InT.D) : Ix := (d.1, d.2.1, d.2.2.1)
theorem in_rows {l : List InT.D} {css : List (List Value)} (hcl : css.length = l.length) (hce : ∀ (i : Nat) d c, l[i]? = some d → css[i]? = some c → At m InT d c) : css.flatten = ixv (l.map inOf) := by
  induction css generalizing l with
  | nil => cases l with
    | nil => rfl
    | cons a l => simp at hcl
  | cons c css ih => cases l with
    | nil => simp at hcl
    | cons a l =>
      have h0 := hce 0 a c rfl rfl
      obtain ⟨c1, d1, rfl, h1, c2, d2, rfl, h2, c3, d3, rfl, h3, h5⟩ := h0
      simp only [At] at h1 h2 h3 h5
      subst h1 h2 h3 h5
      have := ih (l := l) (by simpa using hcl) (fun i d c hd hc => hce (i + 1) d c (by simpa using hd) (by simpa using hc))
      simp only [List.flatten_cons, this, List.map_cons, ixv, List.flatMap_cons, inOf, List.append_nil, List.cons_append, List.nil_append]
theorem in_arg {l : List InT.D} {cs : List Value} (ha : At m (Ty.slice 26 InT) l cs) : ∃ ao fam, cs = [.slice ao l.length l.length] ∧ Rs m ao (l.map inOf).length (ixv (l.map inOf)) 26 3 fam := by
  obtain ⟨ao, css, fam, rfl, hcl, hce, hrs⟩ := ha
  refine ⟨ao, fam, rfl, ?_⟩
  rw [in_rows hcl hce] at hrs
  rw [List.length_map]
  exact hrs
theorem in_ok {l : List InT.D} (h : (Ty.slice 26 InT).wf l) : ∀ x ∈ l.map inOf, ixOk x := fun x hx => by
  obtain ⟨d, hd, rfl⟩ := List.mem_map.1 hx
  obtain ⟨hw1, hw2, hw3, _⟩ := h.2 d hd
  exact ⟨i64_le hw1, i64_le hw2, i64_le hw3⟩
def pf (near : Bool) (x : Ix) : Ix := if near = true then (x.1 % 44 - 1, x.2) else x
theorem pf_ok {near : Bool} {x : Ix} (h : ixOk x) : ixOk (pf near x) := by
  unfold pf
  split
  · exact ⟨⟨by show _ ≤ x.1 % 44 - 1; omega, by show x.1 % 44 - 1 ≤ _; omega⟩, h.2⟩
  · exact h
set_option maxHeartbeats 4000000 in
theorem law_run (hq : Nq S) (hr : Nr S) (hK : S 12 = [([], .bool true)]) (hS : S 4 = []) (hPk : S 7 = [])
    {l : List InT.D} {cs : List Value} (hl : (Ty.slice 26 InT).wf l) (ha : At m (Ty.slice 26 InT) l cs) (near : Bool)
    {e1 : TypeId} (hg1 : Rdo m 2 powC e1 2) {e2 : TypeId} (hg2 : Rdo m 0 opsC e2 0) :
    ∃ v m', callw Tryd.prog TT S 4 [tyVal (Ty.slice 26 InT) cs, .bool near] m = some (v, m') ∧ v = .bool true := by
  obtain ⟨ao, fam, rfl, hrs⟩ := in_arg ha
  have hok := in_ok hl
  have hll : l.length = (l.map inOf).length := by simp
  show ∃ v m', callw Tryd.prog TT S 4 [.slice ao l.length l.length, .bool near] m = some (v, m') ∧ v = .bool true
  rw [hll]
  generalize l.map inOf = ls at *
  clear hll ha hl
  have hkn := fun m' => sum_ok (P := Tryd.prog) (T := TT) (m := m') hK
  refine fn_w 8 [15, 22] k4 hS rfl ?_
  simp [-Int.natCast_add, -BitVec.toNat_or, -BitVec.toNat_ofInt, -BitVec.toNat_and, len_slice u33, index_slice u33 sz26, load_agg ld26, alloc_of zo26, store_of sz26, fieldAddr_of fa26_0, load_of ld3, store_of sz3, buildSlice_of u33 bs26 rfl, append_s u33 sz26, build_of bo36]
  refine wsem_loop 8 [15, 22] (fun d E mE => ∃ (i : Nat) (co : Option Addr) (cf : Nat), 60 - i = d ∧ i ≤ 60 ∧ i ≤ ls.length ∧ Sl mE co i (ixv ((ls.take i).map (pf near))) 26 3 cf ∧ (co ≠ none → m.next ≤ cf) ∧ Keeps m mE [] ∧
    E = [(0, .slice ao ls.length ls.length), (1, .bool near), (5, .slice co i i), (6, .int .i64 i)]) _ ⟨_, ⟨0, none, 0, rfl, by omega, by omega, Sl.nil _ _ _ _, by simp, .refl _ _, rfl⟩, ⟨by rfl, by rfl, by rfl, by rfl, trivial⟩⟩ ?_
  rintro d E mE ih ⟨i, co, cf, hd, hi6, hil, sC, hcf, kE, rfl⟩
  have i4 : (i : Int) ≤ 9223372036854775807 := by omega
  by_cases hin : i < ls.length ∧ i < 60
  · obtain ⟨h1, h2⟩ := hin
    have i1 : (i : Int) < ls.length := by omega
    have i2 : (i : Int) < 60 := by omega
    have wi : IntKind.i64.wrap ((i : Int) + 1) = ((i + 1 : Nat) : Int) := by rw [wrap_i64 (by omega) (by omega)]; omega
    obtain ⟨lb, hlo, ol⟩ := (hrs.keep kE (by simp)).rdo (by omega)
    obtain ⟨x, hx⟩ : ∃ x, ls[i] = x := ⟨_, rfl⟩
    have hxo := hok x (by rw [← hx]; exact List.getElem_mem h1)
    have ld : loadRow mE ⟨lb, i * 3, none⟩ 3 = some (ixl x) := by rw [ol.load 3 (by rw [ixv_len]; omega), ixv_win h1, hx]
    have htk : ixv ((ls.take (i + 1)).map (pf near)) = ixv ((ls.take i).map (pf near)) ++ ixl (pf near x) := by rw [List.take_succ_eq_append_getElem h1, hx]; simp [ixv]
    obtain ⟨op, A, C⟩ := x
    obtain ⟨hop, hA, hC⟩ := hxo
    dsimp only at hop hA hC
    obtain ⟨oZ, kZ, nZ⟩ := new_own (m := mE) (cs := [.int .i64 0, .int .i64 0, .int .i64 0]) (e := 26) rfl
    obtain ⟨bx, hbx⟩ : ∃ bx, mE.next = bx := ⟨_, rfl⟩
    obtain ⟨m3, e3, oX, kX⟩ := store_own (r := _) rfl oZ (off := 0) (vs := ixl (op, A, C)) (by simp) (by simp [one_int])
    simp [over] at oX
    have k3 := kZ.fresh kX (by simp)
    rw [hbx] at oX nZ e3
    have q0 := oX.load1 (off := 0) rfl
    have pk := fun m' => pick_run (m := m') hPk op 44 (by omega) (by omega)
    have wp : IntKind.i64.wrap (op % 44 - 1) = op % 44 - 1 := wrap_i64 (by omega) (by omega)
    obtain ⟨m4, e4, oY, kY⟩ := store_own (r := _) rfl oX (off := 0) (vs := [.int .i64 (op % 44 - 1)]) (by simp) (by simp [one_int])
    simp [over] at oY
    have k4 := k3.fresh kY (by simp; omega)
    have nfb : co ≠ none → bx ≠ cf := fun hn => by
      rcases sC.2 with ⟨h, _⟩ | ⟨q, _, o⟩
      · exact absurd h hn
      · have := o.flt; omega
    apply cut1_ (fun (mJ : Mem) => Keeps mE mJ [] ∧ Own mJ bx (ixl (pf near (op, A, C))) 26 bx)
    case main =>
      by_cases hne : near = true
      · have en : pf near (op, A, C) = (op % 44 - 1, A, C) := by unfold pf; rw [if_pos hne]
        intro meth
        simp [-Int.natCast_add, -w4_7, -BitVec.toNat_or, -BitVec.toNat_ofInt, -BitVec.toNat_and, len_slice u33, index_slice u33 sz26, load_agg ld26, alloc_of zo26, store_of sz26, fieldAddr_of fa26_0, load_of ld3, store_of sz3, buildSlice_of u33 bs26 rfl, append_s u33 sz26, build_of bo36, h1, h2, i1, i2, i4, hlo, ld, hbx, e3, q0, hne, pk, wp, e4]
        obtain ⟨mX, hX⟩ : ∃ mX, m4 = mX := ⟨_, rfl⟩
        rw [hX]
        exact w_sub (E := [(0, .slice ao ls.length ls.length), (1, .bool near), (5, .slice co i i), (6, .int .i64 i), (7, .pointer (some ⟨bx, 0, none⟩))]) (meth mX ⟨hX ▸ k4, by rw [en, ← hX]; exact oY⟩) ⟨by rw [hlo]; rfl, by rw [hne]; rfl, by rfl, by rfl, by rfl, trivial⟩
      · have hne' : near = false := by simpa using hne
        have en : pf near (op, A, C) = (op, A, C) := by unfold pf; rw [if_neg hne]
        intro meth
        simp [-Int.natCast_add, -w4_7, -BitVec.toNat_or, -BitVec.toNat_ofInt, -BitVec.toNat_and, len_slice u33, index_slice u33 sz26, load_agg ld26, alloc_of zo26, store_of sz26, fieldAddr_of fa26_0, load_of ld3, store_of sz3, buildSlice_of u33 bs26 rfl, append_s u33 sz26, build_of bo36, h1, h2, i1, i2, i4, hlo, ld, hbx, e3, q0, hne', pk, wp, e4]
        obtain ⟨mX, hX⟩ : ∃ mX, m3 = mX := ⟨_, rfl⟩
        rw [hX]
        exact w_sub (E := [(0, .slice ao ls.length ls.length), (1, .bool near), (5, .slice co i i), (6, .int .i64 i), (7, .pointer (some ⟨bx, 0, none⟩))]) (meth mX ⟨hX ▸ k3, by rw [en, ← hX]; exact oX⟩) ⟨by rw [hlo]; rfl, by rw [hne']; rfl, by rfl, by rfl, by rfl, trivial⟩
    rintro mJ ⟨kJ, oJ⟩
    obtain ⟨y, hy⟩ : ∃ y, pf near (op, A, C) = y := ⟨_, rfl⟩
    rw [hy] at oJ htk
    have lj := oJ.load (off := 0) 3 (by simp)
    simp [window] at lj
    have sJ := sC.keepz kJ (by simp)
    simp [-Int.natCast_add, -BitVec.toNat_or, -BitVec.toNat_ofInt, -BitVec.toNat_and, len_slice u33, index_slice u33 sz26, load_agg ld26, alloc_of zo26, store_of sz26, fieldAddr_of fa26_0, load_of ld3, store_of sz3, buildSlice_of u33 bs26 rfl, append_s u33 sz26, build_of bo36, lj]
    generalize hra : sappend _ _ _ _ _ _ = ra
    obtain ⟨m5, nb, nf, rfl, oN, k5, hnf, _⟩ := app_slz hra u33 ap26 sJ (by omega) (by simp) (by simp [one_int]) (by omega) (by omega)
    simp [-Int.natCast_add, -BitVec.toNat_or, -BitVec.toNat_ofInt, -BitVec.toNat_and, len_slice u33, index_slice u33 sz26, load_agg ld26, alloc_of zo26, store_of sz26, fieldAddr_of fa26_0, load_of ld3, store_of sz3, buildSlice_of u33 bs26 rfl, append_s u33 sz26, build_of bo36, wi]
    have sN : Sl m5 (some ⟨nb, 0, none⟩) (i + 1) (ixv ((ls.take (i + 1)).map (pf near))) 26 3 nf := by
      rw [htk]
      exact Sl.of (by simpa using oN) (by rw [List.length_append]; have := sC.1; show (i + 1) * 3 = (ixv ((ls.take i).map (pf near))).length + 3; omega)
    have K5 : Keeps m m5 [] := (kE.trans kJ).fresh k5 (fun g hg => by
      split at hg
      · simp at hg
      · rename_i hn
        simp only [List.mem_singleton] at hg
        rw [hg]; exact hcf hn)
    have fN : m.next ≤ nf := by
      rcases hnf with ⟨a, e⟩ | a
      · rw [e]; exact hcf a
      · have := (kE.trans kJ).1; omega
    exact ih _ _ _ _ ⟨i + 1, some ⟨nb, 0, none⟩, nf, rfl, by omega, by omega, sN, fun _ => fN, K5, rfl⟩ (by omega) ⟨by rfl, by rfl, by rfl, by rfl, trivial⟩
  · clear ih
    obtain ⟨L, hL⟩ : ∃ L, (ls.take i).map (pf near) = L := ⟨_, rfl⟩
    have hLl : L.length = i := by rw [← hL]; simp; omega
    have hLo : ∀ x ∈ L, ixOk x := by
      intro x hx
      rw [← hL] at hx
      obtain ⟨y, hy, rfl⟩ := List.mem_map.1 hx
      exact pf_ok (hok y (List.mem_of_mem_take hy))
    rw [hL] at sC
    clear hL
    subst hLl
    obtain ⟨_, m8, c8, rfl, k8⟩ := show_run (m := mE) hq (hg1.keep kE (by simp)) sC.rs hLo (by omega)
    obtain ⟨_, m9, c9, rfl, k9⟩ := rshow_run (m := m8) hr ((hg2.keep kE (by simp)).keep k8 (by simp)) (sC.rs.keep k8 (by simp)) hLo (by omega)
    by_cases h1 : L.length < ls.length
    · have h2 : ¬ (L.length : Int) < 60 := by omega
      have i1 : (L.length : Int) < ls.length := by omega
      simp [-Int.natCast_add, -BitVec.toNat_or, -BitVec.toNat_ofInt, -BitVec.toNat_and, len_slice u33, index_slice u33 sz26, load_agg ld26, alloc_of zo26, store_of sz26, fieldAddr_of fa26_0, load_of ld3, store_of sz3, buildSlice_of u33 bs26 rfl, append_s u33 sz26, build_of bo36, h1, h2, i1, hkn, c8, c9]
    · have i1 : ¬ (L.length : Int) < ls.length := by omega
      simp [-Int.natCast_add, -BitVec.toNat_or, -BitVec.toNat_ofInt, -BitVec.toNat_and, len_slice u33, index_slice u33 sz26, load_agg ld26, alloc_of zo26, store_of sz26, fieldAddr_of fa26_0, load_of ld3, store_of sz3, buildSlice_of u33 bs26 rfl, append_s u33 sz26, build_of bo36, h1, i1, hkn, c8, c9]

/- the row -/
open Go.ChangeShapes Go.WideShapes Go.ChangeAt Go.RowKit
theorem own : ownKnob Tryd.prog.godebug = none := by kernel_rfl
theorem tab : Sh.tabCheck Tryd.prog fns = true := by kernel_rfl
theorem tab0 {w : World} (h : laidMetH Tryd.prog Rows.codeShowsRow.laid w) : 2 < w.heap.size ∧ ∀ (i : Nat) v, ((Sh.tabLits (Rows.laid_internal_strconv_uint64pow10 : DataW Unit)).map Lit.value)[i]? = some v → w.cell? ⟨2, i, none⟩ = some v :=
  Sh.laid_lits (name := "internal/strconv.uint64pow10") (t := 72) (e := 65) (n := 20) (by kernel_rfl) h (by
    have e : (("internal/strconv.uint64pow10", (.agg ((Sh.tabLits (Rows.laid_internal_strconv_uint64pow10 : DataW Unit)).map .lit) : DataW Unit)) : String × DataW Unit) = ("internal/strconv.uint64pow10", Rows.laid_internal_strconv_uint64pow10) := by kernel_rfl
    rw [e]
    simp [Rows.codeShowsRow]) (by kernel_rfl) (by kernel_rfl) Tryd.underlying72 (by first | exact Or.inr (Or.inl Tryd.underlying65) | exact Or.inl ⟨_, Tryd.underlying65⟩ | exact Or.inr (Or.inr Tryd.underlying65)) (by kernel_rfl) (by kernel_rfl) (of_decide_eq_true (by kernel_rfl))
theorem tab1 {w : World} (h : laidMetH Tryd.prog Rows.codeShowsRow.laid w) : 0 < w.heap.size ∧ ∀ (i : Nat) v, ((Sh.tabLits (Rows.laid_turnstone_turnstoneref9_names : DataW Unit)).map Lit.value)[i]? = some v → w.cell? ⟨0, i, none⟩ = some v :=
  Sh.laid_lits (name := "turnstone/turnstoneref9.names") (t := 41) (e := 9) (n := 42) (by kernel_rfl) h (by
    have e : (("turnstone/turnstoneref9.names", (.agg ((Sh.tabLits (Rows.laid_turnstone_turnstoneref9_names : DataW Unit)).map .lit) : DataW Unit)) : String × DataW Unit) = ("turnstone/turnstoneref9.names", Rows.laid_turnstone_turnstoneref9_names) := by kernel_rfl
    rw [e]
    simp [Rows.codeShowsRow]) (by kernel_rfl) (by kernel_rfl) Tryd.underlying41 (by first | exact Or.inr (Or.inl Tryd.underlying9) | exact Or.inl ⟨_, Tryd.underlying9⟩ | exact Or.inr (Or.inr Tryd.underlying9)) (by kernel_rfl) (by kernel_rfl) (of_decide_eq_true (by kernel_rfl))
def tables : List (Nat × List Value) := [(2, (Sh.tabLits (Rows.laid_internal_strconv_uint64pow10 : DataW Unit)).map Lit.value), (0, (Sh.tabLits (Rows.laid_turnstone_turnstoneref9_names : DataW Unit)).map Lit.value)]
theorem rd0 : Rdo (memG Tryd.prog tables) 2 base.powC (gtype Tryd.prog 2) 2 := ⟨by kernel_rfl, ⟨⟨none, 0⟩, by kernel_rfl, Nat.zero_le _⟩, of_decide_eq_true (by kernel_rfl), of_decide_eq_true (by kernel_rfl)⟩
theorem rd1 : Rdo (memG Tryd.prog tables) 0 base.opsC (gtype Tryd.prog 0) 0 := ⟨by kernel_rfl, ⟨⟨none, 0⟩, by kernel_rfl, Nat.zero_le _⟩, of_decide_eq_true (by kernel_rfl), of_decide_eq_true (by kernel_rfl)⟩
theorem startT (w : World) (h : laidMetH Tryd.prog Rows.codeShowsRow.laid w) : MRel Tryd.prog (inj0 Tryd.prog) (memG Tryd.prog tables) (allF w) w w := by
  refine memG_rel Tryd.prog w tables fun p hp => ?_
  simp only [tables, List.mem_cons, List.not_mem_nil, or_false] at hp
  rcases hp with rfl | rfl
  · exact ⟨of_decide_eq_true (by kernel_rfl), (tab0 h).1, by kernel_rfl, by kernel_rfl, (tab0 h).2⟩
  · exact ⟨of_decide_eq_true (by kernel_rfl), (tab1 h).1, by kernel_rfl, by kernel_rfl, (tab1 h).2⟩

theorem walk (w : World) (hL : laidMetH Tryd.prog Rows.codeShowsRow.laid w) {v0 : Value} (h0 : DatArg Tryd.prog w (Ty.slice 26 (Ty.pair (Ty.int .i64) (Ty.pair (Ty.int .i64) (Ty.pair (Ty.int .i64) Ty.unit)))) v0) (x1 : Bool) :
    Calls Tryd.prog 4 #[v0, .bool x1] w fun e w' => e = .returned (.bool true) ∧ Below w.heap.size w w' := by
  have hM := startT w hL
  obtain ⟨rs0, J0, m0, cs0, hw0, le0, hM0, vr0, hr0, hk0⟩ := h0 _ _ hM
  obtain ⟨v', m', h, rfl⟩ := law_run (S := sums) (m := m0) ⟨⟨rfl, rfl, rfl, rfl, rfl, rfl, rfl⟩, ⟨rfl, rfl, rfl, rfl, rfl⟩, rfl, rfl, rfl, rfl, rfl⟩ ⟨rfl, rfl, rfl, rfl⟩ rfl rfl rfl hw0 hr0 x1 (rd0.keep hk0 (by simp)) (rd1.keep hk0 (by simp))
  exact calls_of mixed (Sh.tab_ok tab) sumsOk Tryd.func4 (by kernel_rfl) h rfl hM0 (.cons vr0 (.cons (.clo _ rfl) LRel.nil))

theorem laidOut : laidOutB Tryd.prog = true := by kernel_rfl

theorem contract (H : Type) (enc : TypeId × Value → H) (W : World) (base : Nat) (args : Array Value) (ds gs : List (DataW H)) (before : List MemPlace)
    (hval : ∀ (j : Nat) t v, Tryd.f4.params[j]? = some t → args[j]? = some v → Value.okWide Tryd.prog W .any base t v)
    (hW : DataW.Whole enc Tryd.prog Tryd.f4.params.toList Rows.codeShowsSpec.vars false W args.toList ds gs before) (hL : laidMetH Tryd.prog Rows.codeShowsRow.laid W) :
    Calls Tryd.prog 4 args W fun e W' => ∃ v, e = .returned v ∧ Rows.codeShowsSpec.post enc Tryd.prog Tryd.f4 false true false false W args v W' := by
  have hW' := hW
  obtain ⟨p, q, hA0, hV, rfl, hfz, hnd⟩ := hW
  have hA : DataW.TrodAll enc Tryd.prog W 0 (fun _ => true) true Tryd.f4.params.toList args.toList ds p := hA0
  rw [Tryd.params4] at hA hval
  obtain ⟨v0, v1, d0, d1, p0, p1, rfl, rfl, rfl, t0, t1⟩ := trodAll_two hA
  obtain ⟨rfl, rfl⟩ := trodVars_none hV
  have hv0 := dat_arg (ty := (Ty.slice 26 (Ty.pair (Ty.int .i64) (Ty.pair (Ty.int .i64) (Ty.pair (Ty.int .i64) Ty.unit))))) (t := 33) (by kernel_rfl) (hval 0 _ _ rfl rfl) t0
  obtain ⟨x1, rfl, rfl, rfl⟩ := open_bool u4 (hval 1 _ _ rfl rfl) t1
  clear hA0
  simp only [List.append_nil, List.nil_append] at hW'
  refine (walk W hL hv0 x1).mono fun e W' ⟨he, hg⟩ => ?_
  subst he
  have hlt0 : ∀ z ∈ p0, z.block < W.heap.size := fun z hz => hW'.lt z (by simp [hz])
  exact ⟨_, rfl, Sh.law_post (pa := (p0 ++ [])) (pv := []) hW' hg (by simp) (fun sp hsp => trodAll_mk2 (WideElems.Trod_stays laidOut (by kernel_rfl) (of_decide_eq_true (by kernel_rfl)) t0 (fun z hz => hg.same (hlt0 z hz)) (fun z hz => hsp z (by simp [hz]))) (shut_bool u4 _)) (fun _ _ => rfl) (fun _ _ _ => (trodAll_cons_mk (shut_bool u4 _) trodAll_mk0))
    (ok_one (by kernel_rfl) rfl (okWide_bool_mk u4 _))⟩
/-- A world for the witness: the settled one, the listed variables holding what is laid. -/
noncomputable def laidWorld (os : Os) : World :=
  { World.holding Tryd.prog os ⟨#[], #[], []⟩ with heap := (((((((World.holding Tryd.prog os ⟨#[], #[], []⟩).heap).modify 5 (Sh.laidBlock (Rows.laid_math_bits_deBruijn32tab : DataW Unit))).modify 6 (Sh.laidBlock (Rows.laid_math_bits_deBruijn64tab : DataW Unit))).modify 2 (Sh.laidBlock (Rows.laid_internal_strconv_uint64pow10 : DataW Unit))).modify 4 (Sh.laidBlock (Rows.laid_unicode_utf8_acceptRanges : DataW Unit))).modify 0 (Sh.laidBlock (Rows.laid_turnstone_turnstoneref9_names : DataW Unit))).modify 3 (Sh.laidBlock (Rows.laid_unicode_utf8_first : DataW Unit)) }
theorem laid_met (os : Os) : laidMet Tryd.prog Rows.codeShowsRow.laid ((laidWorld os).forCall (fun _ _ => 0) ⟨#[], #[(tyVal (Ty.slice 26 (Ty.pair (Ty.int .i64) (Ty.pair (Ty.int .i64) (Ty.pair (Ty.int .i64) Ty.unit)))) ((Ty.slice 26 (Ty.pair (Ty.int .i64) (Ty.pair (Ty.int .i64) (Ty.pair (Ty.int .i64) Ty.unit))))).zeros), .bool false], []⟩).memory :=
  laidMet_of_run' 8 (by kernel_rfl) (by kernel_rfl)
theorem reads (os : Os) {H : Type} (enc : TypeId × Value → H) : ∃ places, DataW.whole enc Tryd.prog ((laidWorld os).forCall (fun _ _ => 0) ⟨#[], #[(tyVal (Ty.slice 26 (Ty.pair (Ty.int .i64) (Ty.pair (Ty.int .i64) (Ty.pair (Ty.int .i64) Ty.unit)))) ((Ty.slice 26 (Ty.pair (Ty.int .i64) (Ty.pair (Ty.int .i64) (Ty.pair (Ty.int .i64) Ty.unit))))).zeros), .bool false], []⟩).memory Tryd.f4.params.toList Rows.codeShowsSpec.vars false (#[(tyVal (Ty.slice 26 (Ty.pair (Ty.int .i64) (Ty.pair (Ty.int .i64) (Ty.pair (Ty.int .i64) Ty.unit)))) ((Ty.slice 26 (Ty.pair (Ty.int .i64) (Ty.pair (Ty.int .i64) (Ty.pair (Ty.int .i64) Ty.unit))))).zeros), .bool false] : Array Value).toList 8 = some ([(((Ty.slice 26 (Ty.pair (Ty.int .i64) (Ty.pair (Ty.int .i64) (Ty.pair (Ty.int .i64) Ty.unit))))).zdata), .lit (.bool false)], [], places) :=
  ⟨[], by kernel_rfl⟩

theorem lifted (os : Os) (started : os.Started) (H : Type) (enc : TypeId × Value → H) (F : Stop.Interp) :
    ReturnsInHanded {} Tryd.checked os 4 .any ((OpenSpec.ofChange Rows.codeShowsSpec).preRow enc Tryd.prog Tryd.f4 Rows.codeShowsRow.domain false Rows.codeShowsRow.laid) (((OpenSpec.ofChange Rows.codeShowsSpec).at F).post enc Tryd.prog Tryd.f4 false true false false) := by
  obtain ⟨places, hx⟩ := reads os enc
  refine returnsInHanded_of_row (C := Tryd.checked) (s := OpenSpec.ofChange Rows.codeShowsSpec) own started (by kernel_rfl) Tryd.func4
    (witness_row_at (enc := enc) (C := Tryd.checked) false (laidWorld os) #[(tyVal (Ty.slice 26 (Ty.pair (Ty.int .i64) (Ty.pair (Ty.int .i64) (Ty.pair (Ty.int .i64) Ty.unit)))) ((Ty.slice 26 (Ty.pair (Ty.int .i64) (Ty.pair (Ty.int .i64) (Ty.pair (Ty.int .i64) Ty.unit))))).zeros), .bool false] rfl (by kernel_rfl) (by kernel_rfl) (by kernel_rfl)
      (OpenSpec.preRow_of_cond 8 hx (by kernel_rfl) (fun k hk => by cases hk) (by kernel_rfl) (laid_met os))) ?_
  intro W base args ds gs before hval hW _ hcd hwt hL _ _
  exact contract H enc W base args ds gs before hval hW hL

theorem said : Rows.CodeShowsSaid :=
  OpenClaim.holds_of_cond 4 Tryd.f4 rfl rfl rfl rfl rfl rfl rfl ⟨rfl, rfl, rfl, rfl, rfl⟩ rfl rfl rfl rfl rfl (by kernel_rfl) Tryd.func4 (by kernel_rfl)
    (of_decide_eq_true (by kernel_rfl)) (by unfold Func.isWrapper; first | (rw [if_pos (by decide +kernel)]; kernel_rfl) | (rw [if_neg (by decide +kernel)]; exact ⟨rfl, rfl⟩))
    (fun os started H enc _ F => by rw [OpenClaim.pre_eq_preRow]; exact lifted os started H enc F)

theorem plain (f : FuncId) (fn : Func) (hf : Tryd.pinned.checked.prog.funcNamed "turnstone/turnstonelaw7.CodeShows" = some f) (hfn : Tryd.pinned.checked.prog.funcs[f]? = some fn) :
    false = Tryd.pinned.checked.prog.looks [] ∧ ∀ (j : Nat) t, fn.params[j]? = some t → Tryd.pinned.checked.prog.wantsStandIn t = false := by
  obtain rfl : f = 4 := Option.some.inj ((show Tryd.prog.funcNamed "turnstone/turnstonelaw7.CodeShows" = some 4 by kernel_rfl).symm.trans hf) |>.symm
  obtain rfl : fn = Tryd.f4 := (Option.some.inj (Tryd.func4.symm.trans hfn)).symm
  refine ⟨by kernel_rfl, fun j t ht => ?_⟩
  rw [Tryd.params4] at ht
  rcases j with _ | _ | _
  all_goals first
    | (simp at ht; done)
    | (obtain rfl := Option.some.inj ht; kernel_rfl)
    | (simp at ht; subst ht; kernel_rfl)

theorem proved : Rows.CodeShowsCardSaid :=
  Claim7.holds_tied_plain_at .later [] _ _ _ _ said (fun _ h => by cases h) (by kernel_rfl) (fun _ h => by cases h) codeShows_row_tie rfl ⟨rfl, rfl⟩ (by kernel_rfl) rfl plain (by kernel_rfl)
#print axioms proved
end Go.Proofs.YtbhnojbkinbomaaDoor.codeShows

