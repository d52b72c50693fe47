/-
  This text proves 'Rows.MovesRingSaid': the law 'MovesRing' returns true at any number, in whatever memory and on every tape.
  No condition.
-/
import Derived.Test.YtkeapfbemlclmaaRows
import Derived.Test.YtkeapfbemlclmaaMovG
set_option maxRecDepth 100000
set_option linter.unusedSimpArgs false
set_option linter.unusedVariables false
namespace Go.Proofs.Ytkeapfbemlclmaa.movesRing
open Go.Sh gen base
variable {S : Sums} {m : Mem}
theorem ringL_take {N i : Nat} {o : Bool} (hi : i < (ringL N o).length) : (ringL N o).take (i + 1) = (ringL N o).take i ++ [((i : Int), (((i + 1) % N : Nat) : Int))] := by
  rw [List.take_succ_eq_append_getElem hi]
  simp [ringL]
set_option maxHeartbeats 4000000 in
theorem law_run (hK : S 8 = [([], .bool true)]) (hS : S 6 = []) (hN : No S) (hP : S 11 = []) (hD : S 12 = []) (hF : S 16 = [])
    {n : Int} (hn : (Lit.int .i64 n).wf = true) {open_ : Bool} :
    ∃ v m', callw Try.prog TT S 6 [.int .i64 n, .bool open_] m = some (v, m') ∧ v = .bool true := by
  have hkn := fun m' => sum_ok (P := Try.prog) (T := TT) (m := m') hK
  have pk := fun m' => pick_run (m := m') hP n 60 (by omega) (by omega)
  have n1 := Int.emod_nonneg n (by omega : (60 : Int) ≠ 0)
  have n2 := Int.emod_lt_of_pos n (by omega : (0 : Int) < 60)
  obtain ⟨N, hN1⟩ : ∃ N : Nat, (N : Int) = 2 + n % 60 := ⟨(2 + n % 60).toNat, by omega⟩
  have wN : IntKind.i64.wrap (2 + n % 60) = (N : Int) := by rw [wrap_i64 (by omega) (by omega)]; omega
  have hN2 : 2 ≤ N := by omega
  have hN3 : N ≤ 61 := by omega
  have hlen : (ringL N open_).length = if open_ then N - 1 else N := by simp [ringL]
  refine fn_w 10 [15, 24, 41] k6 hS rfl ?_
  simp [-Int.natCast_add, -BitVec.toNat_or, -BitVec.toNat_ofInt, -BitVec.toNat_and, build_of bo27, buildSlice_of u22 bs27 rfl, append_s u22 sz27, len_slice u22, pk, wN]
  clear pk wN hN1 n1 n2
  refine wsem_loop 10 [15, 24, 41] (fun d E m2 => ∃ (i : Nat) (na : Option Addr) (nf : Nat), N - i = d ∧ i ≤ (ringL N open_).length ∧ Sl m2 na i (mvc ((ringL N open_).take i)) 27 2 nf ∧ (na ≠ none → m.next ≤ nf) ∧ Keeps m m2 [] ∧ E = [(0, .int .i64 N), (1, .bool open_), (5, .slice na i i), (6, .int .i64 i)]) _ ⟨_, ⟨0, none, 0, rfl, by omega, Sl.nil _ _ _ _, by simp, Keeps.refl _ _, rfl⟩, ⟨by rfl, by rfl, by rfl, by rfl, trivial⟩⟩ ?_
  rintro d E m2 ih ⟨i, na, nf, hd, hi, h2, hb, k2, rfl⟩
  by_cases hlt : i < (ringL N open_).length
  · have hiN : i < N := by rw [hlen] at hlt; split at hlt <;> omega
    have hiN' : (i : Int) < N := by omega
    have em : (i : Int) ≤ 9223372036854775807 := by omega
    have wi : IntKind.i64.wrap ((i : Int) + 1) = ((i + 1 : Nat) : Int) := by rw [wrap_i64 (by omega) (by omega)]; omega
    have wN1 : IntKind.i64.wrap ((N : Int) - 1) = (N : Int) - 1 := wrap_i64 (by omega) (by omega)
    have nN0 : ¬ N = 0 := by omega
    have hq : open_ = true → ¬ (i : Int) = (N : Int) - 1 := fun h => by rw [hlen, if_pos h] at hlt; omega
    have tm : (((i + 1 : Nat) : Int)).tmod (N : Int) = (((i + 1) % N : Nat) : Int) := by
      rw [Int.tmod_eq_emod_of_nonneg (by omega)]; omega
    have et := ringL_take (o := open_) hlt
    have hyb := Nat.mod_lt (i + 1) (by omega : 0 < N)
    generalize (i + 1) % N = y at *
    have wy : IntKind.i64.wrap (y : Int) = (y : Int) := wrap_i64 (by omega) (by omega)
    apply cut_
    case main =>
      by_cases ho : open_ = true
      · intro meth
        have hq := hq ho
        simp [-Int.natCast_add, -w6_6, -BitVec.toNat_or, -BitVec.toNat_ofInt, -BitVec.toNat_and, build_of bo27, buildSlice_of u22 bs27 rfl, append_s u22 sz27, len_slice u22, hiN', hiN, ho, hq, wN1]
        exact w_sub (E := [(0, .int .i64 N), (1, .bool open_), (5, .slice na i i), (6, .int .i64 i)]) meth ⟨by rfl, by simp [lget, ho], by rfl, by rfl, trivial⟩
      · intro meth
        simp [-Int.natCast_add, -w6_6, -BitVec.toNat_or, -BitVec.toNat_ofInt, -BitVec.toNat_and, build_of bo27, buildSlice_of u22 bs27 rfl, append_s u22 sz27, len_slice u22, hiN', hiN, ho, wN1]
        exact w_sub (E := [(0, .int .i64 N), (1, .bool open_), (5, .slice na i i), (6, .int .i64 i)]) meth ⟨by rfl, by simp [lget, ho], by rfl, by rfl, trivial⟩
    simp [-Int.natCast_add, -BitVec.toNat_or, -BitVec.toNat_ofInt, -BitVec.toNat_and, build_of bo27, buildSlice_of u22 bs27 rfl, append_s u22 sz27, len_slice u22, wi, nN0, tm, wy]
    generalize hra : sappend _ _ _ _ _ _ = ra
    have hll : (ringL N open_).length ≤ 61 := by rw [hlen]; split <;> omega
    obtain ⟨m3, nb, nf3, rfl, o3, k3, hf3, _, _⟩ := app_slz hra u22 ap27 h2 (by omega) (by simp) (by simp [one_int]) (by omega) (by omega)
    simp [-Int.natCast_add, -BitVec.toNat_or, -BitVec.toNat_ofInt, -BitVec.toNat_and, build_of bo27, buildSlice_of u22 bs27 rfl, append_s u22 sz27, len_slice u22, wi]
    have s3 : Sl m3 (some ⟨nb, 0, none⟩) (i + 1) (mvc ((ringL N open_).take (i + 1))) 27 2 nf3 := by
      rw [et]
      exact Sl.of (by simpa [mvc] using o3) (by rw [mvc_len]; simp; omega)
    refine ih _ _ _ _ ⟨i + 1, _, nf3, rfl, by omega, s3, fun _ => ?_, k2.fresh k3 ?_, rfl⟩ (by omega) ⟨by rfl, by rfl, by rfl, by rfl, trivial⟩
    · rcases hf3 with ⟨h, h'⟩ | h
      · rw [h']; exact hb h
      · have := k2.1; omega
    · intro f hf
      split at hf
      · simp at hf
      · rename_i hn
        simp at hf; rw [hf]; exact hb hn
  · have eil : i = (ringL N open_).length := by omega
    have ei : (ringL N open_).take i = ringL N open_ := List.take_of_length_le (by omega)
    rw [ei] at h2
    obtain ⟨hR, hFr⟩ := ringL_right (o := open_) hN2 hN3
    have hll : (ringL N open_).length ≤ 61 := by rw [hlen]; split <;> omega
    have hrl := fun out ms => ring_len (o := open_) (out := out) (ms := ms) hN2 hN3
    have hdo := fun out ms => Done.does (out := out) (ms := ms) hR hFr
    have wN1 : IntKind.i64.wrap ((N : Int) - 1) = (N : Int) - 1 := wrap_i64 (by omega) (by omega)
    have wN2 : IntKind.i64.wrap ((N : Int) + 1) = (N : Int) + 1 := wrap_i64 (by omega) (by omega)
    by_cases ho : open_ = true
    · subst ho
      rw [if_pos rfl] at hlen
      generalize ringL N true = ls at *
      subst eil
      have hq : (ls.length : Int) = (N : Int) - 1 := by omega
      have hiN : (ls.length : Int) < N := by omega
      have hx : (N : Int) - 1 < N := by omega
      obtain ⟨v3, m3, c3, hO, k3⟩ := order_run (m := m2) hN h2.rs (by omega) 99
      rcases hO with ⟨hno, _⟩ | ⟨_, _, oa, out, fo, ms, rfl, s3, b3, hDn⟩
      · exact absurd ⟨hR, hFr⟩ hno
      have ho := hrl out ms hDn
      simp only [if_true] at ho
      obtain ⟨_, m4, c4, rfl, k4⟩ := does_run (m := m3) hD hF (h2.rs.keep k3 (by simp)) (by omega) s3.rs (by omega) (hdo out ms hDn)
      have hol : (out.length : Int) = (N : Int) - 1 := by omega
      simp [-Int.natCast_add, -BitVec.toNat_or, -BitVec.toNat_ofInt, -BitVec.toNat_and, build_of bo27, buildSlice_of u22 bs27 rfl, append_s u22 sz27, len_slice u22, hiN, hx, hq, wN1, wN2, c3, hkn, hol, c4]
    · have ho : open_ = false := by simpa using ho
      subst ho
      rw [if_neg (by simp)] at hlen
      generalize ringL N false = ls at *
      subst eil
      have hiN : ¬ (ls.length : Int) < N := by omega
      obtain ⟨v3, m3, c3, hO, k3⟩ := order_run (m := m2) hN h2.rs (by omega) 99
      rcases hO with ⟨hno, _⟩ | ⟨_, _, oa, out, fo, ms, rfl, s3, b3, hDn⟩
      · exact absurd ⟨hR, hFr⟩ hno
      have ho := hrl out ms hDn
      simp only [Bool.false_eq_true, if_false] at ho
      obtain ⟨_, m4, c4, rfl, k4⟩ := does_run (m := m3) hD hF (h2.rs.keep k3 (by simp)) (by omega) s3.rs (by omega) (hdo out ms hDn)
      have hol : (out.length : Int) = (N : Int) + 1 := by omega
      simp [-Int.natCast_add, -BitVec.toNat_or, -BitVec.toNat_ofInt, -BitVec.toNat_and, build_of bo27, buildSlice_of u22 bs27 rfl, append_s u22 sz27, len_slice u22, hiN, wN1, wN2, c3, hkn, hol, c4]

/- the row -/
open Go.ChangeShapes Go.WideShapes Go.ChangeAt Go.RowKit
theorem own : ownKnob Try.prog.godebug = none := by kernel_rfl
theorem mixed : Try.prog.follows .mixedOrders = true := by kernel_rfl
theorem tab : Sh.tabCheck Try.prog fns = true := by kernel_rfl
theorem known : Sh.isVal (.bool true) (Sh.call Try.prog (Sh.tabOf Try.prog fns) Sh.noSums 100000 8 [] (Sh.memG Try.prog [])) = true := by kernel_rfl
def sums : Sums := fun f => if f = 8 then [([], .bool true)] else []
theorem sumsOk : SumsOk Try.prog sums := by
  intro f p hp
  unfold sums at hp
  split at hp
  · rename_i hf
    subst hf
    simp only [List.mem_cons, List.not_mem_nil, or_false] at hp
    subst hp
    exact ⟨rfl, rfl, ⟨Try.f8, Try.func8, by kernel_rfl, by kernel_rfl⟩, fun w => Sh.closed_val mixed (Sh.tab_ok tab) (Sh.noSums_ok _) 100000 8 Try.func8 (by kernel_rfl) (gs := []) (by kernel_rfl) (by kernel_rfl) known w (fun p hp => by simp at hp)⟩
  · simp at hp

theorem walk (w : World) (x0 : Int) (hx0 : (Lit.int .i64 x0).wf = true) (x1 : Bool) :
    Calls Try.prog 6 #[.int .i64 x0, .bool x1] w fun e w' => e = .returned (.bool true) ∧ Below w.heap.size w w' := by
  have hM := start_rel Try.prog w
  obtain ⟨v', m', h, rfl⟩ := law_run (S := sums) (m := mem0 Try.prog) rfl rfl ⟨⟨rfl, rfl, rfl, rfl, rfl, rfl, rfl, rfl, rfl⟩, rfl, rfl, rfl, rfl, rfl⟩ rfl rfl rfl hx0
  exact calls_of mixed (Sh.tab_ok tab) sumsOk Try.func6 (by kernel_rfl) h rfl hM (.cons (.clo _ rfl) (.cons (.clo _ rfl) LRel.nil))

theorem laidOut : laidOutB Try.prog = true := by kernel_rfl

theorem lifted (os : Os) (started : os.Started) (H : Type) (enc : TypeId × Value → H) :
    ReturnsInHanded {} Try.checked os 6 .any (Rows.movesRingSpec.pre6 enc Try.prog Try.f6 Rows.movesRingRow.domain false) (Rows.movesRingSpec.post enc Try.prog Try.f6 false true false false) := by
  refine returnsInHanded_of_change (C := Try.checked) own started (by kernel_rfl) Try.func6
    (ChangeSpec.witness6 (enc := enc) (C := Try.checked) false ⟨#[], #[.int .i64 0, .bool false], []⟩ 8 (by kernel_rfl) (by kernel_rfl) (by kernel_rfl) (by kernel_rfl)) ?_
  intro W base args ds gs before hval0 hW hcnd _
  have hval : ∀ (j : Nat) t v, Try.f6.params[j]? = some t → args[j]? = some v → Value.okWide Try.prog W .any base t v := hval0
  have hW' := hW
  obtain ⟨p, q, hA0, hV, rfl, hfz, hnd⟩ := hW
  have hA : DataW.TrodAll enc Try.prog W 0 (fun _ => true) true Try.f6.params.toList args.toList ds p := hA0
  rw [Try.params6] at hA hval
  obtain ⟨v0, v1, d0, d1, p0, p1, rfl, rfl, rfl, t0, t1⟩ := trodAll_two hA
  obtain ⟨rfl, rfl⟩ := trodVars_none hV
  obtain ⟨x0, rfl, rfl, rfl, hx0⟩ := open_int u3 (hval 0 _ _ rfl rfl) t0
  obtain ⟨x1, rfl, rfl, rfl⟩ := open_bool u4 (hval 1 _ _ rfl rfl) t1
  clear hA0 hval0
  simp only [List.append_nil, List.nil_append] at hW'
  refine (walk W x0 hx0 x1).mono fun e W' ⟨he, hg⟩ => ?_
  subst he
  exact ⟨_, rfl, Sh.law_post (pa := ([] ++ [])) (pv := []) hW' hg (by simp) (fun sp hsp => trodAll_mk2 (shut_int u3 hx0) (shut_bool u4 _)) (fun _ _ => rfl) (fun _ _ _ => (trodAll_cons_mk (shut_bool u4 _) trodAll_mk0))
    (ok_one (by kernel_rfl) rfl (okWide_bool_mk u4 _))⟩

theorem over : Rows.movesRingRow.holds Try.pinned (OpenSpec.ofChange Rows.movesRingSpec) :=
  OpenClaim.holds_of_wide 6 Try.f6 rfl rfl rfl rfl rfl rfl rfl ⟨rfl, rfl, rfl, rfl, rfl⟩ rfl rfl rfl rfl rfl (by kernel_rfl) Try.func6 (by kernel_rfl)
    (of_decide_eq_true (by kernel_rfl)) (by unfold Func.isWrapper; first | (rw [if_pos (by decide +kernel)]; kernel_rfl) | (rw [if_neg (by decide +kernel)]; exact ⟨rfl, rfl⟩))
    (fun os started H enc _ => lifted os started H enc)

theorem proved : Rows.MovesRingSaid :=
  over
#print axioms proved
end Go.Proofs.Ytkeapfbemlclmaa.movesRing

