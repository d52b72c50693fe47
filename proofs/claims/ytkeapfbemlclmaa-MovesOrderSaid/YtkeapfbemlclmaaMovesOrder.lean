/-
  This text proves 'Rows.MovesOrderSaid': the law 'MovesOrder' returns true at any moves and numbers, in whatever memory and on every tape, and its input reads as it did.
  No condition.
-/
import Derived.Test.YtkeapfbemlclmaaRows
import Derived.Test.YtkeapfbemlclmaaMovH
set_option maxRecDepth 100000
set_option linter.unusedSimpArgs false
set_option linter.unusedVariables false
namespace Go.Proofs.Ytkeapfbemlclmaa.movesOrder
open Go.Sh gen base
variable {S : Sums} {m : Mem}
set_option maxHeartbeats 4000000 in
theorem law_run (hK : S 8 = [([], .bool true)]) (hS : S 4 = []) (hN : No S) (hP : S 11 = []) (hD : S 12 = []) (hF : S 16 = [])
    (hLi : S 10 = []) (hRM : S 14 = []) (hRi : S 13 = []) (hLe : S 17 = [])
    {l : List MvT.D} {cs : List Value} (hl : (Ty.slice 27 MvT).wf l) (ha : At m (Ty.slice 27 MvT) l cs) {few : Int} (hfw : (Lit.int .i64 few).wf = true) {spare : Int} (hsp : (Lit.int .i64 spare).wf = true) :
    ∃ v m', callw Try.prog TT S 4 [tyVal (Ty.slice 27 MvT) cs, .int .i64 few, .int .i64 spare] m = some (v, m') ∧ v = .bool true := by
  have hkn := fun m' => sum_ok (P := Try.prog) (T := TT) (m := m') hK
  obtain ⟨ao, fam, rfl, hrs⟩ := mv_arg ha
  show ∃ v m', callw Try.prog TT S 4 [.slice ao l.length l.length, .int .i64 few, .int .i64 spare] m = some (v, m') ∧ v = .bool true
  have hll : l.length = (l.map mvOf).length := by simp
  rw [hll]
  generalize l.map mvOf = ls at *
  clear hll hl ha hsp hfw
  have ps := fun m' => pick_run (m := m') hP spare 100 (by omega) (by omega)
  have s1 := Int.emod_nonneg spare (by omega : (100 : Int) ≠ 0)
  have s2 := Int.emod_lt_of_pos spare (by omega : (0 : Int) < 100)
  obtain ⟨sp, hsp⟩ : ∃ sp : Int, 50 + spare % 100 = sp := ⟨_, rfl⟩
  have wsp : IntKind.i64.wrap (50 + spare % 100) = sp := by rw [wrap_i64 (by omega) (by omega)]; omega
  have sp1 : 50 ≤ sp ∧ sp ≤ 149 := by omega
  obtain ⟨_, m1, c1, ⟨oa, w, fo, rfl, hw, hwR, hwl, hw0, hwb⟩, k1⟩ := list_run (m := m) hLi hP hRM hrs few
  have hFr : FreeP w sp := ⟨by omega, by omega, fun p hp => by have := hwb p hp; omega⟩
  refine fn_w 13 [47, 53, 64, 75] k4 hS rfl ?_
  obtain ⟨on, kn, nn⟩ := new_own (m := m1) (cs := []) (e := 27) rfl
  apply cut2_ (fun (mX : Mem) (nX : Nat) => ∃ fX, Own mX nX (mvc w) 27 fX ∧ Keeps m1 mX [])
  case main =>
    by_cases hz : w.length = 0
    · intro meth
      have hwn := List.length_eq_zero_iff.1 hz
      have hoa := hw0 hz
      simp [-Int.natCast_add, -w4_4, -BitVec.toNat_or, -BitVec.toNat_ofInt, -BitVec.toNat_and, buildSlice_of u22 bs27 rfl, append_s u22 sz27, len_slice u22, index_slice u22 sz27, load_agg ld27, bin_agg ag27 .neq (Or.inr rfl), scal_int u3, fieldAddr_of fa27_0, load_of ld3, fieldAddr_of fa27_1, c1, ps, wsp, hoa, hz]
      generalize hra : sappend _ _ _ _ _ _ = ra
      obtain ⟨m5, nb, rfl, o5, k5⟩ := app_own hra u22 ap27 on (by simp) (by simp) (by simp) (by omega) (by omega)
      simp only [List.append_nil] at o5
      rw [show ([] : List Value) = mvc w by rw [hwn]; rfl] at o5
      simp [-Int.natCast_add, -w4_4, -BitVec.toNat_or, -BitVec.toNat_ofInt, -BitVec.toNat_and, buildSlice_of u22 bs27 rfl, append_s u22 sz27, len_slice u22, index_slice u22 sz27, load_agg ld27, bin_agg ag27 .neq (Or.inr rfl), scal_int u3, fieldAddr_of fa27_0, load_of ld3, fieldAddr_of fa27_1]
      exact w_sub (E := [(2, .int .i64 sp), (7, .slice oa w.length w.length), (8, .slice (some ⟨nb, 0, none⟩) w.length w.length)]) (meth m5 nb ⟨_, o5, kn.fresh k5 (by simp)⟩) ⟨by rfl, by simp [lget, hoa, hz], by simp [lget, hz], trivial⟩
    · intro meth
      obtain ⟨wb, hoa, ow⟩ := hw.rdo hz
      have lw := ((ow.keep kn (by simp)).load (off := 0) (w.length * 2) (by rw [mvc_len]; omega))
      have ww : window (mvc w) 0 (w.length * 2) = mvc w := by
        simp only [window, List.drop_zero]
        exact List.take_of_length_le (by rw [mvc_len]; omega)
      rw [ww] at lw
      simp [-Int.natCast_add, -w4_4, -BitVec.toNat_or, -BitVec.toNat_ofInt, -BitVec.toNat_and, buildSlice_of u22 bs27 rfl, append_s u22 sz27, len_slice u22, index_slice u22 sz27, load_agg ld27, bin_agg ag27 .neq (Or.inr rfl), scal_int u3, fieldAddr_of fa27_0, load_of ld3, fieldAddr_of fa27_1, c1, ps, wsp, hoa, hz, lw]
      generalize hra : sappend _ _ _ _ _ _ = ra
      obtain ⟨m5, nb, rfl, o5, k5⟩ := app_own hra u22 ap27 on (by simp) (by rw [mvc_len]) (by simp [one_int]) (by omega) (by omega)
      simp only [List.nil_append] at o5
      simp [-Int.natCast_add, -w4_4, -BitVec.toNat_or, -BitVec.toNat_ofInt, -BitVec.toNat_and, buildSlice_of u22 bs27 rfl, append_s u22 sz27, len_slice u22, index_slice u22 sz27, load_agg ld27, bin_agg ag27 .neq (Or.inr rfl), scal_int u3, fieldAddr_of fa27_0, load_of ld3, fieldAddr_of fa27_1]
      exact w_sub (E := [(2, .int .i64 sp), (7, .slice oa w.length w.length), (8, .slice (some ⟨nb, 0, none⟩) w.length w.length)]) (meth m5 nb ⟨_, o5, kn.fresh k5 (by simp)⟩) ⟨by rfl, by simp [lget, hoa], by simp [lget], trivial⟩
  rintro m5 nb ⟨f5, o5, k5⟩
  have s5 : Rs m5 (some ⟨nb, 0, none⟩) w.length (mvc w) 27 2 f5 := (Sl.of o5 (by rw [mvc_len])).rs
  obtain ⟨v6, m6, c6, hO, k6⟩ := order_run (m := m5) hN s5 (by omega) sp
  rcases hO with ⟨hno, _⟩ | ⟨_, _, ga, out, gf, ms, rfl, s6, b6, hDn⟩
  · exact absurd ⟨hwR, hFr⟩ hno
  have hms : ms.length ≤ w.length := by
    have h1 := sum_sub2 hDn.msn (D := tos w) (fun q hq => by
      obtain ⟨_, _, _, _, h⟩ := hDn.msg q hq
      exact (h 0).1)
    have h2 := tos_len w
    omega
  have hol := hDn.len
  have htl := tos_len w
  obtain ⟨_, m7, c7, rfl, k7⟩ := does_run (m := m6) hD hF ((hw.keep k5 (by simp)).keep k6 (by simp)) (by omega) s6.rs (by omega) (hDn.does hwR hFr)
  have w7 := (((hw.keep k5 (by simp)).keep k6 (by simp)).keep k7 (by simp))
  have o7 := ((s5.keep k6 (by simp)).keep k7 (by simp))
  obtain ⟨n, c8, hgn, hnw⟩ := rings_run (m := m7) hRi hLe w7 hwR
  have hgm := gcount_ms hDn.msn hDn.msg
  simp [-Int.natCast_add, -BitVec.toNat_or, -BitVec.toNat_ofInt, -BitVec.toNat_and, buildSlice_of u22 bs27 rfl, append_s u22 sz27, len_slice u22, index_slice u22 sz27, load_agg ld27, bin_agg ag27 .neq (Or.inr rfl), scal_int u3, fieldAddr_of fa27_0, load_of ld3, fieldAddr_of fa27_1, c6, hkn, c7, c8]
  clear hDn s6 b6 c6 c7 c8 s5
  refine wsem_loop 13 [47, 53, 64, 75] (fun d E m8 => ∃ i : Nat, w.length - i = d ∧ i ≤ w.length ∧ m8 = m7 ∧ E = [(7, .slice oa w.length w.length), (8, .slice (some ⟨nb, 0, none⟩) w.length w.length), (9, .slice ga out.length out.length), (11, .int .i64 ((n + (tos (w.take i)).length : Nat) : Int)), (12, .int .i64 i)]) _ ⟨_, ⟨0, rfl, by omega, rfl, rfl⟩, ⟨by rfl, by rfl, by rfl, by rfl, by rfl, trivial⟩⟩ ?_
  rintro d E m8 ih ⟨i, hd, hi, rfl, rfl⟩
  by_cases hlt : i < w.length
  · have em : (i : Int) ≤ 9223372036854775807 := by omega
    have hlt' : (i : Int) < w.length := by omega
    have wi : IntKind.i64.wrap ((i : Int) + 1) = ((i + 1 : Nat) : Int) := by rw [wrap_i64 (by omega) (by omega)]; omega
    obtain ⟨wb, hoa, ow⟩ := w7.rdo (by omega)
    obtain ⟨wb2, hob, oo⟩ := o7.rdo (by omega)
    have hbb : nb = wb2 := by simpa using hob
    subst hbb
    have et : w.take (i + 1) = w.take i ++ [w[i]] := List.take_succ_eq_append_getElem hlt
    have a0 := ow.load1 (mvc_at0 hlt)
    have a1 := ow.load1 (mvc_at1 hlt)
    have a2 := ow.load (off := i * 2) 2 (by rw [mvc_len]; omega)
    have b2 := oo.load (off := i * 2) 2 (by rw [mvc_len]; omega)
    rw [mvc_win hlt] at a2 b2
    have htk : (tos (w.take i)).length ≤ i := by
      have := tos_len (w.take i)
      simp only [List.length_take] at this
      omega
    obtain ⟨⟨x, y⟩, hxy⟩ : ∃ p, w[i] = p := ⟨_, rfl⟩
    rw [hxy] at a0 a1 a2 b2 et
    simp only at a0 a1 a2 b2
    have hts := tos_snoc (w.take i) x y
    rw [← et] at hts
    obtain ⟨t, ht⟩ : ∃ t, (tos (w.take i)).length = t := ⟨_, rfl⟩
    rw [ht] at htk
    have wn : IntKind.i64.wrap (((n + t : Nat) : Int) + 1) = ((n + t + 1 : Nat) : Int) := by rw [wrap_i64 (by omega) (by omega)]; omega
    rw [ht]
    by_cases c : x = y
    · rw [if_pos c] at hts
      simp [-Int.natCast_add, -BitVec.toNat_or, -BitVec.toNat_ofInt, -BitVec.toNat_and, buildSlice_of u22 bs27 rfl, append_s u22 sz27, len_slice u22, index_slice u22 sz27, load_agg ld27, bin_agg ag27 .neq (Or.inr rfl), scal_int u3, fieldAddr_of fa27_0, load_of ld3, fieldAddr_of fa27_1, hoa, hlt, hlt', em, a0, a1, a2, b2, c, wi]
      have hl1 : (tos (w.take (i + 1))).length = t := by rw [hts, ht]
      exact ih _ _ _ _ ⟨i + 1, rfl, by omega, rfl, rfl⟩ (by omega) ⟨by simp [lget, hoa], by rfl, by rfl, by rw [hl1]; rfl, by rfl, trivial⟩
    · rw [if_neg c] at hts
      simp [-Int.natCast_add, -BitVec.toNat_or, -BitVec.toNat_ofInt, -BitVec.toNat_and, buildSlice_of u22 bs27 rfl, append_s u22 sz27, len_slice u22, index_slice u22 sz27, load_agg ld27, bin_agg ag27 .neq (Or.inr rfl), scal_int u3, fieldAddr_of fa27_0, load_of ld3, fieldAddr_of fa27_1, hoa, hlt, hlt', em, a0, a1, a2, b2, c, wi, wn]
      have hl1 : (tos (w.take (i + 1))).length = t + 1 := by rw [hts, List.length_append, ht]; rfl
      exact ih _ _ _ _ ⟨i + 1, rfl, by omega, rfl, rfl⟩ (by omega) ⟨by simp [lget, hoa], by rfl, by rfl, by rw [hl1]; rfl, by rfl, trivial⟩
  · have hlt' : ¬ (i : Int) < w.length := by omega
    have ei : w.take i = w := List.take_of_length_le (by omega)
    rw [ei]
    have hle : (out.length : Int) ≤ ((n + (tos w).length : Nat) : Int) := by omega
    simp [-Int.natCast_add, -List.length_map, -BitVec.toNat_or, -BitVec.toNat_ofInt, -BitVec.toNat_and, buildSlice_of u22 bs27 rfl, append_s u22 sz27, len_slice u22, index_slice u22 sz27, load_agg ld27, bin_agg ag27 .neq (Or.inr rfl), scal_int u3, fieldAddr_of fa27_0, load_of ld3, fieldAddr_of fa27_1, hlt', hle]

/- the row -/
open Go.ChangeShapes Go.WideShapes Go.ChangeAt Go.RowKit
theorem own : ownKnob Try.prog.godebug = none := by kernel_rfl
theorem mixed : Try.prog.follows .mixedOrders = true := by kernel_rfl
theorem tab : Sh.tabCheck Try.prog fns = true := by kernel_rfl
theorem known : Sh.isVal (.bool true) (Sh.call Try.prog (Sh.tabOf Try.prog fns) Sh.noSums 100000 8 [] (Sh.memG Try.prog [])) = true := by kernel_rfl
def sums : Sums := fun f => if f = 8 then [([], .bool true)] else []
theorem sumsOk : SumsOk Try.prog sums := by
  intro f p hp
  unfold sums at hp
  split at hp
  · rename_i hf
    subst hf
    simp only [List.mem_cons, List.not_mem_nil, or_false] at hp
    subst hp
    exact ⟨rfl, rfl, ⟨Try.f8, Try.func8, by kernel_rfl, by kernel_rfl⟩, fun w => Sh.closed_val mixed (Sh.tab_ok tab) (Sh.noSums_ok _) 100000 8 Try.func8 (by kernel_rfl) (gs := []) (by kernel_rfl) (by kernel_rfl) known w (fun p hp => by simp at hp)⟩
  · simp at hp

theorem walk (w : World) {v0 : Value} (h0 : DatArg Try.prog w (Ty.slice 27 (Ty.pair (Ty.int .i64) (Ty.pair (Ty.int .i64) Ty.unit))) v0) (x1 : Int) (hx1 : (Lit.int .i64 x1).wf = true) (x2 : Int) (hx2 : (Lit.int .i64 x2).wf = true) :
    Calls Try.prog 4 #[v0, .int .i64 x1, .int .i64 x2] w fun e w' => e = .returned (.bool true) ∧ Below w.heap.size w w' := by
  have hM := start_rel Try.prog w
  obtain ⟨rs0, J0, m0, cs0, hw0, le0, hM0, vr0, hr0, hk0⟩ := h0 _ _ hM
  obtain ⟨v', m', h, rfl⟩ := law_run (S := sums) (m := m0) rfl rfl ⟨⟨rfl, rfl, rfl, rfl, rfl, rfl, rfl, rfl, rfl⟩, rfl, rfl, rfl, rfl, rfl⟩ rfl rfl rfl rfl rfl rfl rfl hw0 hr0 hx1 hx2
  exact calls_of mixed (Sh.tab_ok tab) sumsOk Try.func4 (by kernel_rfl) h rfl hM0 (.cons vr0 (.cons (.clo _ rfl) (.cons (.clo _ rfl) LRel.nil)))

theorem laidOut : laidOutB Try.prog = true := by kernel_rfl

theorem lifted (os : Os) (started : os.Started) (H : Type) (enc : TypeId × Value → H) :
    ReturnsInHanded {} Try.checked os 4 .any (Rows.movesOrderSpec.pre6 enc Try.prog Try.f4 Rows.movesOrderRow.domain false) (Rows.movesOrderSpec.post enc Try.prog Try.f4 false true false false) := by
  refine returnsInHanded_of_change (C := Try.checked) own started (by kernel_rfl) Try.func4
    (ChangeSpec.witness6 (enc := enc) (C := Try.checked) false ⟨#[], #[(tyVal (Ty.slice 27 (Ty.pair (Ty.int .i64) (Ty.pair (Ty.int .i64) Ty.unit))) ((Ty.slice 27 (Ty.pair (Ty.int .i64) (Ty.pair (Ty.int .i64) Ty.unit)))).zeros), .int .i64 0, .int .i64 0], []⟩ 8 (by kernel_rfl) (by kernel_rfl) (by kernel_rfl) (by kernel_rfl)) ?_
  intro W base args ds gs before hval0 hW hcnd _
  have hval : ∀ (j : Nat) t v, Try.f4.params[j]? = some t → args[j]? = some v → Value.okWide Try.prog W .any base t v := hval0
  have hW' := hW
  obtain ⟨p, q, hA0, hV, rfl, hfz, hnd⟩ := hW
  have hA : DataW.TrodAll enc Try.prog W 0 (fun _ => true) true Try.f4.params.toList args.toList ds p := hA0
  rw [Try.params4] at hA hval
  obtain ⟨v0, v1, v2, d0, d1, d2, p0, p1, p2, rfl, rfl, rfl, t0, t1, t2⟩ := trodAll_three hA
  obtain ⟨rfl, rfl⟩ := trodVars_none hV
  have hv0 := dat_arg (ty := (Ty.slice 27 (Ty.pair (Ty.int .i64) (Ty.pair (Ty.int .i64) Ty.unit)))) (t := 22) (by kernel_rfl) (hval 0 _ _ rfl rfl) t0
  obtain ⟨x1, rfl, rfl, rfl, hx1⟩ := open_int u3 (hval 1 _ _ rfl rfl) t1
  obtain ⟨x2, rfl, rfl, rfl, hx2⟩ := open_int u3 (hval 2 _ _ rfl rfl) t2
  clear hA0 hval0
  simp only [List.append_nil, List.nil_append] at hW'
  refine (walk W hv0 x1 hx1 x2 hx2).mono fun e W' ⟨he, hg⟩ => ?_
  subst he
  have hlt0 : ∀ z ∈ p0, z.block < W.heap.size := fun z hz => hW'.lt z (by simp [hz])
  exact ⟨_, rfl, Sh.law_post (pa := (p0 ++ ([] ++ []))) (pv := []) hW' hg (by simp) (fun sp hsp => trodAll_mk3 (WideElems.Trod_stays laidOut (by kernel_rfl) (of_decide_eq_true (by kernel_rfl)) t0 (fun z hz => hg.same (hlt0 z hz)) (fun z hz => hsp z (by simp [hz]))) (shut_int u3 hx1) (shut_int u3 hx2)) (fun _ _ => rfl) (fun _ _ _ => (trodAll_cons_mk (shut_bool u4 _) trodAll_mk0))
    (ok_one (by kernel_rfl) rfl (okWide_bool_mk u4 _))⟩

theorem over : Rows.movesOrderRow.holds Try.pinned (OpenSpec.ofChange Rows.movesOrderSpec) :=
  OpenClaim.holds_of_wide 4 Try.f4 rfl rfl rfl rfl rfl rfl rfl ⟨rfl, rfl, rfl, rfl, rfl⟩ rfl rfl rfl rfl rfl (by kernel_rfl) Try.func4 (by kernel_rfl)
    (of_decide_eq_true (by kernel_rfl)) (by unfold Func.isWrapper; first | (rw [if_pos (by decide +kernel)]; kernel_rfl) | (rw [if_neg (by decide +kernel)]; exact ⟨rfl, rfl⟩))
    (fun os started H enc _ => lifted os started H enc)

theorem proved : Rows.MovesOrderSaid :=
  over
#print axioms proved
end Go.Proofs.Ytkeapfbemlclmaa.movesOrder

