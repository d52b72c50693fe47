/-
  This text proves 'Rows.MovesRightSaid': the law 'MovesRight' returns true at any moves, any spare place, in whatever memory and on every tape, and its input reads as it did.
  No condition.
-/
import Derived.Test.YtkeapfbemlclmaaRows
import Derived.Test.YtkeapfbemlclmaaMovF
import Derived.HandedShaped
set_option maxRecDepth 100000
set_option linter.unusedSimpArgs false
set_option linter.unusedVariables false
namespace Go.Proofs.Ytkeapfbemlclmaa.movesRight
open Go.Sh gen base
variable {S : Sums} {m : Mem}
theorem fits_len {l : List MvT.D} (h : (Ty.slice 27 MvT).fits Try.prog l) : l.length * 16 ≤ 140737488351232 := by
  have e : Try.prog.bytesOf 27 = 16 := by kernel_rfl
  have := h.1
  rw [e] at this
  exact this
abbrev nearM (p : Mv) : Mv := (p.1 % 12 - 1, p.2 % 60 - 1)
set_option maxHeartbeats 4000000 in
theorem law_run (hK : S 8 = [([], .bool true)]) (hS : S 5 = []) (hN : No S) (hP : S 11 = []) (hR : S 14 = [])
    {l : List MvT.D} {cs : List Value} (hl : (Ty.slice 27 MvT).wf l ∧ (Ty.slice 27 MvT).fits Try.prog l) (ha : At m (Ty.slice 27 MvT) l cs) {spare : Int} (hsp : (Lit.int .i64 spare).wf = true) {near : Bool} :
    ∃ v m', callw Try.prog TT S 5 [tyVal (Ty.slice 27 MvT) cs, .int .i64 spare, .bool near] m = some (v, m') ∧ v = .bool true := by
  have hkn := fun m' => sum_ok (P := Try.prog) (T := TT) (m := m') hK
  have hlen := fits_len hl.2
  obtain ⟨ao, fam, rfl, hrs⟩ := mv_arg ha
  show ∃ v m', callw Try.prog TT S 5 [.slice ao l.length l.length, .int .i64 spare, .bool near] m = some (v, m') ∧ v = .bool true
  have hll : l.length = (l.map mvOf).length := by simp
  rw [hll] at hlen ⊢
  generalize l.map mvOf = ls at *
  clear hll hl ha hsp
  have hrf2 : ∀ b, ao = some ⟨b, 0, none⟩ → ls.length ≠ 0 → fam < m.next := fun b hb hn => by
    obtain ⟨_, _, o⟩ := hrs.rdo hn
    exact o.flt
  refine fn_w 14 [14, 18, 54] k5 hS rfl ?_
  apply cut5_ (fun (mX : Mem) (aX : Option Addr) (lX : List Mv) (sX : Int) (fX : Nat) => Rs mX aX lX.length (mvc lX) 27 2 fX ∧ lX.length ≤ 4611686018427387904)
  case main =>
    by_cases hnr : near = true
    · intro meth
      have pk0 := fun m' => pick_run (m := m') hP spare 70 (by omega) (by omega)
      have sp1 := Int.emod_nonneg spare (by omega : (70 : Int) ≠ 0)
      have sp2 := Int.emod_lt_of_pos spare (by omega : (0 : Int) < 70)
      obtain ⟨sX, hsX⟩ : ∃ sX, IntKind.i64.wrap (spare % 70 - 1) = sX := ⟨_, rfl⟩
      simp [-Int.natCast_add, hnr, -w5_9, -BitVec.toNat_or, -BitVec.toNat_ofInt, -BitVec.toNat_and, len_slice u22, index_slice u22 sz27, fieldAddr_of fa27_0, load_of ld3, fieldAddr_of fa27_1, build_of bo27, buildSlice_of u22 bs27 rfl, append_s u22 sz27, bin_bool u4 .eql (Or.inl rfl)]
      refine wsem_loop 14 [14, 18, 54] (fun d E m2 => ∃ (i : Nat) (ma : Option Addr) (mf : Nat), ls.length - i = d ∧ i ≤ ls.length ∧ Sl m2 ma i (mvc ((ls.take i).map nearM)) 27 2 mf ∧ (ma ≠ none → m.next ≤ mf) ∧ Keeps m m2 [] ∧ E = [(0, .slice ao ls.length ls.length), (1, .int .i64 spare), (7, .slice ma i i), (8, .int .i64 i)]) _ ⟨_, ⟨0, none, 0, rfl, by omega, Sl.nil _ _ _ _, by simp, Keeps.refl _ _, rfl⟩, ⟨by rfl, by rfl, by rfl, by rfl, trivial⟩⟩ ?_
      rintro d E m2 ih ⟨i, ma, mf, hd, hi, h2, hb, k2, rfl⟩
      by_cases hlt : i < ls.length
      · have em : (i : Int) ≤ 9223372036854775807 := by omega
        have hlt' : (i : Int) < ls.length := by omega
        have wi : IntKind.i64.wrap ((i : Int) + 1) = ((i + 1 : Nat) : Int) := by rw [wrap_i64 (by omega) (by omega)]; omega
        obtain ⟨lb, hao, ol⟩ := (hrs.keep k2 (by simp)).rdo (by omega)
        have et : ls.take (i + 1) = ls.take i ++ [ls[i]] := List.take_succ_eq_append_getElem hlt
        have l0 := ol.load1 (mvc_at0 hlt)
        have l1 := ol.load1 (mvc_at1 hlt)
        obtain ⟨⟨x, y⟩, hxy⟩ : ∃ p, ls[i] = p := ⟨_, rfl⟩
        rw [hxy] at l0 l1 et
        simp only at l0 l1
        have pk1 := fun m' => pick_run (m := m') hP x 12 (by omega) (by omega)
        have pk2 := fun m' => pick_run (m := m') hP y 60 (by omega) (by omega)
        have x1 := Int.emod_nonneg x (by omega : (12 : Int) ≠ 0)
        have x2 := Int.emod_lt_of_pos x (by omega : (0 : Int) < 12)
        have y1 := Int.emod_nonneg y (by omega : (60 : Int) ≠ 0)
        have y2 := Int.emod_lt_of_pos y (by omega : (0 : Int) < 60)
        have wx : IntKind.i64.wrap (x % 12 - 1) = x % 12 - 1 := wrap_i64 (by omega) (by omega)
        have wy : IntKind.i64.wrap (y % 60 - 1) = y % 60 - 1 := wrap_i64 (by omega) (by omega)
        simp [-Int.natCast_add, -w5_9, -BitVec.toNat_or, -BitVec.toNat_ofInt, -BitVec.toNat_and, len_slice u22, index_slice u22 sz27, fieldAddr_of fa27_0, load_of ld3, fieldAddr_of fa27_1, build_of bo27, buildSlice_of u22 bs27 rfl, append_s u22 sz27, bin_bool u4 .eql (Or.inl rfl), hao, hlt, hlt', em, l0, l1, pk1, pk2, wx, wy]
        generalize hra : sappend _ _ _ _ _ _ = ra
        obtain ⟨m3, nb, mf3, rfl, o3, k3, hf3, _, _⟩ := app_slz hra u22 ap27 h2 (by omega) (by simp) (by simp [one_int]) (by omega) (by omega)
        have l03 := (ol.keep k3 (by
          split
          · simp
          · rename_i hn
            have := hrf2 lb hao (by omega)
            have := hb hn
            simp; omega)).load1 (mvc_at0 hlt)
        have l13 := (ol.keep k3 (by
          split
          · simp
          · rename_i hn
            have := hrf2 lb hao (by omega)
            have := hb hn
            simp; omega)).load1 (mvc_at1 hlt)
        rw [hxy] at l03 l13
        simp only at l03 l13
        have l0n := (ol.ln [.int .i64 (x % 12 - 1), .int .i64 (y % 60 - 1)] 27 (i * 2) 1).trans l0
        have l1n := (ol.ln [.int .i64 (x % 12 - 1), .int .i64 (y % 60 - 1)] 27 (i * 2 + 1) 1).trans l1
        simp [-Int.natCast_add, -w5_9, -BitVec.toNat_or, -BitVec.toNat_ofInt, -BitVec.toNat_and, len_slice u22, index_slice u22 sz27, fieldAddr_of fa27_0, load_of ld3, fieldAddr_of fa27_1, build_of bo27, buildSlice_of u22 bs27 rfl, append_s u22 sz27, bin_bool u4 .eql (Or.inl rfl), wi, l0, l1, l03, l13, l0n, l1n]
        have hm : (ls.take (i + 1)).map nearM = (ls.take i).map nearM ++ [nearM (x, y)] := by rw [et]; simp
        have s3 : Sl m3 (some ⟨nb, 0, none⟩) (i + 1) (mvc ((ls.take (i + 1)).map nearM)) 27 2 mf3 := by
          rw [hm]
          exact Sl.of (by simpa [mvc] using o3) (by rw [mvc_len]; simp; omega)
        have hb3 : m.next ≤ mf3 := by
          rcases hf3 with ⟨h, h'⟩ | h
          · rw [h']; exact hb h
          · have := k2.1; omega
        refine ih _ _ _ _ ⟨i + 1, _, mf3, rfl, by omega, s3, fun _ => hb3, k2.fresh k3 ?_, rfl⟩ (by omega) ⟨by simp [lget, hao], by rfl, by rfl, by rfl, trivial⟩
        intro f hf
        split at hf
        · simp at hf
        · rename_i hn
          simp at hf; rw [hf]; exact hb hn
      · have hlt' : ¬ (i : Int) < ls.length := by omega
        have ei : ls.take i = ls := List.take_of_length_le (by omega)
        have eil : i = (ls.map nearM).length := by simp; omega
        rw [ei] at h2
        obtain ⟨lX, hlX⟩ : ∃ lX, ls.map nearM = lX := ⟨_, rfl⟩
        rw [hlX] at h2 eil
        subst eil
        simp [-Int.natCast_add, -w5_9, -BitVec.toNat_or, -BitVec.toNat_ofInt, -BitVec.toNat_and, len_slice u22, index_slice u22 sz27, fieldAddr_of fa27_0, load_of ld3, fieldAddr_of fa27_1, build_of bo27, buildSlice_of u22 bs27 rfl, append_s u22 sz27, bin_bool u4 .eql (Or.inl rfl), hlt', pk0, hsX]
        exact w_sub (E := [(0, .slice ma lX.length lX.length), (1, .int .i64 sX)]) (meth m2 ma lX sX mf ⟨h2.rs, by omega⟩) ⟨by rfl, by rfl, trivial⟩
    · intro meth
      simp [-Int.natCast_add, hnr, -w5_9, -BitVec.toNat_or, -BitVec.toNat_ofInt, -BitVec.toNat_and, len_slice u22, index_slice u22 sz27, fieldAddr_of fa27_0, load_of ld3, fieldAddr_of fa27_1, build_of bo27, buildSlice_of u22 bs27 rfl, append_s u22 sz27, bin_bool u4 .eql (Or.inl rfl)]
      exact w_sub (E := [(0, .slice ao ls.length ls.length), (1, .int .i64 spare)]) (meth m ao ls spare fam ⟨hrs, by omega⟩) ⟨by rfl, by rfl, trivial⟩
  clear hrf2 hrs hlen
  rintro m ao ls spare fam ⟨hrs, hlen⟩
  obtain ⟨b, c9, hb⟩ := refright_run (m := m) hR hrs hlen
  apply cut1_ (fun fr : Bool => (fr = true ↔ 0 ≤ spare ∧ spare ≤ 10001))
  case main =>
    by_cases s1 : 0 ≤ spare
    · by_cases s2 : spare ≤ 10001
      · intro meth
        obtain ⟨fr, hfr⟩ : ∃ fr : Bool, fr = true := ⟨_, rfl⟩
        simp [-Int.natCast_add, -BitVec.toNat_or, -BitVec.toNat_ofInt, -BitVec.toNat_and, len_slice u22, index_slice u22 sz27, fieldAddr_of fa27_0, load_of ld3, fieldAddr_of fa27_1, build_of bo27, buildSlice_of u22 bs27 rfl, append_s u22 sz27, bin_bool u4 .eql (Or.inl rfl), c9, s1, s2]
        exact wsem_sub (E := [(0, .slice ao ls.length ls.length), (1, .int .i64 spare), (9, .bool b), (10, .bool fr), (11, .int .i64 0)]) (meth fr (by simp [hfr, s1, s2])) ⟨by rfl, by rfl, by rfl, by simp [lget, hfr], by rfl, trivial⟩
      · intro meth
        obtain ⟨fr, hfr⟩ : ∃ fr : Bool, fr = false := ⟨_, rfl⟩
        simp [-Int.natCast_add, -BitVec.toNat_or, -BitVec.toNat_ofInt, -BitVec.toNat_and, len_slice u22, index_slice u22 sz27, fieldAddr_of fa27_0, load_of ld3, fieldAddr_of fa27_1, build_of bo27, buildSlice_of u22 bs27 rfl, append_s u22 sz27, bin_bool u4 .eql (Or.inl rfl), c9, s1, s2]
        exact wsem_sub (E := [(0, .slice ao ls.length ls.length), (1, .int .i64 spare), (9, .bool b), (10, .bool fr), (11, .int .i64 0)]) (meth fr (by simp [hfr, s1, s2])) ⟨by rfl, by rfl, by rfl, by simp [lget, hfr], by rfl, trivial⟩
    · intro meth
      obtain ⟨fr, hfr⟩ : ∃ fr : Bool, fr = false := ⟨_, rfl⟩
      simp [-Int.natCast_add, -BitVec.toNat_or, -BitVec.toNat_ofInt, -BitVec.toNat_and, len_slice u22, index_slice u22 sz27, fieldAddr_of fa27_0, load_of ld3, fieldAddr_of fa27_1, build_of bo27, buildSlice_of u22 bs27 rfl, append_s u22 sz27, bin_bool u4 .eql (Or.inl rfl), c9, s1]
      exact wsem_sub (E := [(0, .slice ao ls.length ls.length), (1, .int .i64 spare), (9, .bool b), (10, .bool fr), (11, .int .i64 0)]) (meth fr (by simp [hfr, s1])) ⟨by rfl, by rfl, by rfl, by simp [lget, hfr], by rfl, trivial⟩
  intro fr hfr
  refine wsem_loop 14 [14, 18, 54] (fun d E m2 => ∃ (i : Nat) (f : Bool), ls.length - i = d ∧ i ≤ ls.length ∧ (f = true ↔ 0 ≤ spare ∧ spare ≤ 10001 ∧ ∀ p ∈ ls.take i, p.1 ≠ spare ∧ p.2 ≠ spare) ∧ m2 = m ∧ E = [(0, .slice ao ls.length ls.length), (1, .int .i64 spare), (9, .bool b), (10, .bool f), (11, .int .i64 i)]) _ ⟨_, ⟨0, fr, rfl, by omega, by simpa using hfr, rfl, rfl⟩, ⟨by rfl, by rfl, by rfl, by rfl, by rfl, trivial⟩⟩ ?_
  rintro d E m2 ih ⟨i, f, hd, hi, hf, rfl, rfl⟩
  by_cases hlt : i < ls.length
  · have em : (i : Int) ≤ 9223372036854775807 := by omega
    have hlt' : (i : Int) < ls.length := by omega
    have wi : IntKind.i64.wrap ((i : Int) + 1) = ((i + 1 : Nat) : Int) := by rw [wrap_i64 (by omega) (by omega)]; omega
    obtain ⟨lb, hao, ol⟩ := hrs.rdo (by omega)
    have et : ls.take (i + 1) = ls.take i ++ [ls[i]] := List.take_succ_eq_append_getElem hlt
    have l0 := ol.load1 (mvc_at0 hlt)
    have l1 := ol.load1 (mvc_at1 hlt)
    obtain ⟨⟨x, y⟩, hxy⟩ : ∃ p, ls[i] = p := ⟨_, rfl⟩
    rw [hxy] at l0 l1 et
    simp only at l0 l1
    have hstep : ∀ f2 : Bool, (f2 = true ↔ f = true ∧ x ≠ spare ∧ y ≠ spare) → (f2 = true ↔ 0 ≤ spare ∧ spare ≤ 10001 ∧ ∀ p ∈ ls.take (i + 1), p.1 ≠ spare ∧ p.2 ≠ spare) := by
      intro f2 h2
      rw [h2, hf, et]
      simp only [List.mem_append, List.mem_singleton]
      constructor
      · rintro ⟨⟨a, b, c⟩, d, e⟩
        exact ⟨a, b, fun p hp => hp.elim (c p) (fun h => by subst h; exact ⟨d, e⟩)⟩
      · rintro ⟨a, b, c⟩
        exact ⟨⟨a, b, fun p hp => c p (Or.inl hp)⟩, c (x, y) (Or.inr rfl)⟩
    by_cases hff : f = true
    · by_cases c1 : x = spare
      · simp [-Int.natCast_add, -BitVec.toNat_or, -BitVec.toNat_ofInt, -BitVec.toNat_and, len_slice u22, index_slice u22 sz27, fieldAddr_of fa27_0, load_of ld3, fieldAddr_of fa27_1, build_of bo27, buildSlice_of u22 bs27 rfl, append_s u22 sz27, bin_bool u4 .eql (Or.inl rfl), hao, hlt, hlt', em, l0, l1, hff, c1, wi]
        refine ih _ _ _ _ ⟨i + 1, false, rfl, by omega, hstep _ (by simp [c1]), rfl, rfl⟩ (by omega) ⟨by simp [lget, hao], by rfl, by rfl, by rfl, by rfl, trivial⟩
      by_cases c2 : y = spare
      · simp [-Int.natCast_add, -BitVec.toNat_or, -BitVec.toNat_ofInt, -BitVec.toNat_and, len_slice u22, index_slice u22 sz27, fieldAddr_of fa27_0, load_of ld3, fieldAddr_of fa27_1, build_of bo27, buildSlice_of u22 bs27 rfl, append_s u22 sz27, bin_bool u4 .eql (Or.inl rfl), hao, hlt, hlt', em, l0, l1, hff, c1, c2, wi]
        refine ih _ _ _ _ ⟨i + 1, false, rfl, by omega, hstep _ (by simp [c2]), rfl, rfl⟩ (by omega) ⟨by simp [lget, hao], by rfl, by rfl, by rfl, by rfl, trivial⟩
      simp [-Int.natCast_add, -BitVec.toNat_or, -BitVec.toNat_ofInt, -BitVec.toNat_and, len_slice u22, index_slice u22 sz27, fieldAddr_of fa27_0, load_of ld3, fieldAddr_of fa27_1, build_of bo27, buildSlice_of u22 bs27 rfl, append_s u22 sz27, bin_bool u4 .eql (Or.inl rfl), hao, hlt, hlt', em, l0, l1, hff, c1, c2, wi]
      refine ih _ _ _ _ ⟨i + 1, true, rfl, by omega, hstep _ (by simp [hff, c1, c2]), rfl, rfl⟩ (by omega) ⟨by simp [lget, hao], by rfl, by rfl, by rfl, by rfl, trivial⟩
    · simp [-Int.natCast_add, -BitVec.toNat_or, -BitVec.toNat_ofInt, -BitVec.toNat_and, len_slice u22, index_slice u22 sz27, fieldAddr_of fa27_0, load_of ld3, fieldAddr_of fa27_1, build_of bo27, buildSlice_of u22 bs27 rfl, append_s u22 sz27, bin_bool u4 .eql (Or.inl rfl), hao, hlt, hlt', em, l0, l1, hff, wi]
      refine ih _ _ _ _ ⟨i + 1, false, rfl, by omega, hstep _ (by simp [hff]), rfl, rfl⟩ (by omega) ⟨by simp [lget, hao], by rfl, by rfl, by rfl, by rfl, trivial⟩
  · have hlt' : ¬ (i : Int) < ls.length := by omega
    have ei : ls.take i = ls := List.take_of_length_le (by omega)
    rw [ei] at hf
    have hf' : f = true ↔ FreeP ls spare := hf
    obtain ⟨v3, m3, c3, hO, k3⟩ := order_run (m := m2) hN hrs hlen spare
    obtain ⟨_, m4, c4, ⟨b2, rfl, hb2⟩, k4⟩ := right_run (m := m3) hN.right (hrs.keep k3 (by simp)) hlen
    have hbb : b2 = b := by rw [Bool.eq_iff_iff, hb2, hb]
    subst hbb
    rcases hO with ⟨hno, rfl⟩ | ⟨h1, h2, oa, out, fo, ms, rfl, _⟩
    · rw [← hb, ← hf'] at hno
      cases b2 <;> cases f <;> simp at hno <;> simp [-Int.natCast_add, -BitVec.toNat_or, -BitVec.toNat_ofInt, -BitVec.toNat_and, len_slice u22, index_slice u22 sz27, fieldAddr_of fa27_0, load_of ld3, fieldAddr_of fa27_1, build_of bo27, buildSlice_of u22 bs27 rfl, append_s u22 sz27, bin_bool u4 .eql (Or.inl rfl), hlt', c3, hkn, c4]
    · rw [← hb] at h1
      rw [← hf'] at h2
      subst h1 h2
      simp [-Int.natCast_add, -BitVec.toNat_or, -BitVec.toNat_ofInt, -BitVec.toNat_and, len_slice u22, index_slice u22 sz27, fieldAddr_of fa27_0, load_of ld3, fieldAddr_of fa27_1, build_of bo27, buildSlice_of u22 bs27 rfl, append_s u22 sz27, bin_bool u4 .eql (Or.inl rfl), hlt', c3, hkn, c4]

/- the row -/
open Go.ChangeShapes Go.WideShapes Go.ChangeAt Go.RowKit
theorem own : ownKnob Try.prog.godebug = none := by kernel_rfl
theorem mixed : Try.prog.follows .mixedOrders = true := by kernel_rfl
theorem tab : Sh.tabCheck Try.prog fns = true := by kernel_rfl
theorem known : Sh.isVal (.bool true) (Sh.call Try.prog (Sh.tabOf Try.prog fns) Sh.noSums 100000 8 [] (Sh.memG Try.prog [])) = true := by kernel_rfl
def sums : Sums := fun f => if f = 8 then [([], .bool true)] else []
theorem sumsOk : SumsOk Try.prog sums := by
  intro f p hp
  unfold sums at hp
  split at hp
  · rename_i hf
    subst hf
    simp only [List.mem_cons, List.not_mem_nil, or_false] at hp
    subst hp
    exact ⟨rfl, rfl, ⟨Try.f8, Try.func8, by kernel_rfl, by kernel_rfl⟩, fun w => Sh.closed_val mixed (Sh.tab_ok tab) (Sh.noSums_ok _) 100000 8 Try.func8 (by kernel_rfl) (gs := []) (by kernel_rfl) (by kernel_rfl) known w (fun p hp => by simp at hp)⟩
  · simp at hp

theorem walk (w : World) {v0 : Value} (h0 : DatArgS Try.prog w (Ty.slice 27 (Ty.pair (Ty.int .i64) (Ty.pair (Ty.int .i64) Ty.unit))) v0) (x1 : Int) (hx1 : (Lit.int .i64 x1).wf = true) (x2 : Bool) :
    Calls Try.prog 5 #[v0, .int .i64 x1, .bool x2] w fun e w' => e = .returned (.bool true) ∧ Below w.heap.size w w' := by
  have hM := start_rel Try.prog w
  obtain ⟨rs0, J0, m0, cs0, hw0, le0, hM0, vr0, hr0, hk0⟩ := h0 _ _ hM
  obtain ⟨v', m', h, rfl⟩ := law_run (S := sums) (m := m0) rfl rfl ⟨⟨rfl, rfl, rfl, rfl, rfl, rfl, rfl, rfl, rfl⟩, rfl, rfl, rfl, rfl, rfl⟩ rfl rfl hw0 hr0 hx1
  exact calls_of mixed (Sh.tab_ok tab) sumsOk Try.func5 (by kernel_rfl) h rfl hM0 (.cons vr0 (.cons (.clo _ rfl) (.cons (.clo _ rfl) LRel.nil)))

theorem laidOut : laidOutB Try.prog = true := by kernel_rfl

theorem lifted (os : Os) (started : os.Started) (H : Type) (enc : TypeId × Value → H) :
    ReturnsInHanded {} Try.checked os 5 .any (Rows.movesRightSpec.pre6 enc Try.prog Try.f5 Rows.movesRightRow.domain false) (Rows.movesRightSpec.post enc Try.prog Try.f5 false true false false) := by
  refine returnsInHanded_of_change_shaped (C := Try.checked) own started (by kernel_rfl) Try.func5
    (ChangeSpec.witness6 (enc := enc) (C := Try.checked) false ⟨#[], #[(tyVal (Ty.slice 27 (Ty.pair (Ty.int .i64) (Ty.pair (Ty.int .i64) Ty.unit))) ((Ty.slice 27 (Ty.pair (Ty.int .i64) (Ty.pair (Ty.int .i64) Ty.unit)))).zeros), .int .i64 0, .bool false], []⟩ 8 (by kernel_rfl) (by kernel_rfl) (by kernel_rfl) (by kernel_rfl)) ?_
  intro W base args ds gs before hval0 hW hcnd hwt _ _
  have hval : ∀ (j : Nat) t v, Try.f5.params[j]? = some t → args[j]? = some v → Value.okWide Try.prog W .any base t v := hval0
  have hW' := hW
  obtain ⟨p, q, hA0, hV, rfl, hfz, hnd⟩ := hW
  have hA : DataW.TrodAll enc Try.prog W 0 (fun _ => true) true Try.f5.params.toList args.toList ds p := hA0
  rw [Try.params5] at hA hval hwt
  obtain ⟨v0, v1, v2, d0, d1, d2, p0, p1, p2, rfl, rfl, rfl, t0, t1, t2⟩ := trodAll_three hA
  obtain ⟨rfl, rfl⟩ := trodVars_none hV
  simp only [List.toList_toArray, List.cons_append, List.nil_append, DataW.weightsEach, List.all_append, Bool.and_eq_true] at hwt
  have hv0 := dat_arg_s (ty := (Ty.slice 27 (Ty.pair (Ty.int .i64) (Ty.pair (Ty.int .i64) Ty.unit)))) (t := 22) (by kernel_rfl) (hval 0 _ _ rfl rfl) t0 hwt.1
  obtain ⟨x1, rfl, rfl, rfl, hx1⟩ := open_int u3 (hval 1 _ _ rfl rfl) t1
  obtain ⟨x2, rfl, rfl, rfl⟩ := open_bool u4 (hval 2 _ _ rfl rfl) t2
  clear hA0 hval0
  simp only [List.append_nil, List.nil_append] at hW'
  refine (walk W hv0 x1 hx1 x2).mono fun e W' ⟨he, hg⟩ => ?_
  subst he
  have hlt0 : ∀ z ∈ p0, z.block < W.heap.size := fun z hz => hW'.lt z (by simp [hz])
  exact ⟨_, rfl, Sh.law_post (pa := (p0 ++ ([] ++ []))) (pv := []) hW' hg (by simp) (fun sp hsp => trodAll_mk3 (WideElems.Trod_stays laidOut (by kernel_rfl) (of_decide_eq_true (by kernel_rfl)) t0 (fun z hz => hg.same (hlt0 z hz)) (fun z hz => hsp z (by simp [hz]))) (shut_int u3 hx1) (shut_bool u4 _)) (fun _ _ => rfl) (fun _ _ _ => (trodAll_cons_mk (shut_bool u4 _) trodAll_mk0))
    (ok_one (by kernel_rfl) rfl (okWide_bool_mk u4 _))⟩

theorem over : Rows.movesRightRow.holds Try.pinned (OpenSpec.ofChange Rows.movesRightSpec) :=
  OpenClaim.holds_of_wide 5 Try.f5 rfl rfl rfl rfl rfl rfl rfl ⟨rfl, rfl, rfl, rfl, rfl⟩ rfl rfl rfl rfl rfl (by kernel_rfl) Try.func5 (by kernel_rfl)
    (of_decide_eq_true (by kernel_rfl)) (by unfold Func.isWrapper; first | (rw [if_pos (by decide +kernel)]; kernel_rfl) | (rw [if_neg (by decide +kernel)]; exact ⟨rfl, rfl⟩))
    (fun os started H enc _ => lifted os started H enc)

theorem proved : Rows.MovesRightSaid :=
  over
#print axioms proved
end Go.Proofs.Ytkeapfbemlclmaa.movesRight

