/-
  This text proves what eval's 'left' answers, over the abstract run: the row of words that a frame's places have, and the frames.
  Condition: nothing is known of the calls ahead ('S f = []').
-/
import Derived.Test.YtlogdohlcdhepaaDoorEvQ
set_option maxRecDepth 100000
set_option linter.unusedSimpArgs false
set_option linter.unusedVariables false
namespace Go.Proofs.YtlogdohlcdhepaaDoor.base
open Go.Sh gen
variable {S : Sums} {m : Mem}
def rowW (ws l : List Int) : List Int := l.map fun i => ws.getD i.toNat 0
theorem rowW_take {ws l : List Int} {j : Nat} (h : j < l.length) : rowW ws (l.take (j + 1)) = rowW ws (l.take j) ++ [ws.getD (l.getD j 0).toNat 0] := by
  unfold rowW
  rw [List.take_succ_eq_append_getElem h, List.map_append, List.getD_eq_getElem?_getD (l := l), List.getElem?_eq_getElem h]
  rfl
theorem rowW_len (ws l : List Int) : (rowW ws l).length = l.length := by simp [rowW]
theorem words_atQ {Q : Nat → Prop} {ao : Option Addr} {l : List Int} {f : Nat} (h : Rs m ao l.length (words l) 45 1 f) (hq : l.length ≠ 0 → Q f) : AtQ Q m (Ty.slice 45 (Ty.int .u64)) l [.slice ao l.length l.length] := by
  refine ⟨ao, l.map fun n => [Value.int .u64 n], f, rfl, by simp, ?_, ?_, hq⟩
  · intro i d c h1 h2
    rw [List.getElem?_map, h1] at h2
    simp only [Option.map_some, Option.some.injEq] at h2
    exact h2.symm
  · have : (l.map fun n => [Value.int .u64 n]).flatten = words l := by
      unfold words
      rw [← List.flatMap_def]
      exact List.map_eq_flatMap.symm
    rw [this]; exact h
set_option maxHeartbeats 8000000 in
theorem row_run (hS : S 57 = []) {Q : Nat → Prop} {u : UnT.D} {K : Kv} {V : Vv} (h : Ev Q m u K V) (hnu : nv u ≤ 1000000) {l : List Int} (hl : l.length ≤ 1000000) (hv : ∀ v ∈ l, (0 : Int) ≤ v ∧ v < (nv u : Int))
    {ao : Option Addr} (hi : IntsAt Q m ao l) {xb xf : Nat} (hx : Own m xb [.pointer (some ⟨K.x, 0, none⟩)] 76 xf) :
    ∃ v m1, callw Tryd.prog TT S 57 [.slice ao l.length l.length, .pointer (some ⟨xb, 0, none⟩)] m = some (v, m1) ∧
      (∃ ro f, v = .slice ro l.length l.length ∧ Rs m1 ro l.length (words (rowW V.ws l)) 45 1 f ∧ (l.length ≠ 0 → m.next ≤ f ∧ f < m1.next)) ∧ Keeps m m1 [] := by
  refine fn_w 10 [10] k57 hS rfl ?_
  simp [-Int.natCast_add, len_slice u36]
  refine wsem_loop 10 [10] (fun d E mF => ∃ (i : Nat) (lo : Option Addr) (lf : Nat), l.length - i = d ∧ i ≤ l.length ∧ Sl mF lo i (words (rowW V.ws (l.take i))) 45 1 lf ∧ (lo ≠ none → m.next ≤ lf ∧ lf < mF.next) ∧ Keeps m mF [] ∧
    E = [(1, .pointer (some ⟨xb, 0, none⟩)), (4, .slice lo i i), (7, .slice ao l.length l.length), (8, .int .i64 l.length), (9, .int .i64 (i : Int))]) _ ⟨_, ⟨0, none, 0, rfl, by omega, Sl.nil _ _ _ _, fun q => absurd rfl q, .refl _ _, rfl⟩, ⟨by rfl, by rfl, by rfl, by rfl, by rfl, trivial⟩⟩ ?_
  rintro d E mF ih ⟨i, lo, lf, hd, hi', sL, hlf, kF, rfl⟩
  have im : (i : Int) ≤ 9223372036854775807 := by omega
  have hF := h.keep0 kF
  by_cases hlt : i < l.length
  · have i1 : (i : Int) < l.length := by omega
    have wi : IntKind.i64.wrap ((i : Int) + 1) = ((i + 1 : Nat) : Int) := by rw [wrap_i64 (by omega) (by omega)]; omega
    have et := rowW_take (ws := V.ws) hlt
    obtain ⟨vb, rfl, li⟩ := (hi.keep kF (by simp)).get hlt
    obtain ⟨v, ev⟩ : ∃ v : Nat, l.getD i 0 = (v : Int) := ⟨(l.getD i 0).toNat, by have := hv _ (getD_mem hlt); omega⟩
    have hvn : v < nv u := by have := hv _ (getD_mem hlt); omega
    rw [ev] at li et
    rw [Int.toNat_natCast] at et
    have v1 : (v : Int) < nv u := by omega
    have v2 : (v : Int) ≤ 9223372036854775807 := by omega
    have x0 := (hx.keep kF (by simp)).load1 (off := 0) rfl
    have w6 := hF.own.load1 (off := 6) rfl
    have lw := hF.wds.load1 (off := v) (words_at (by rw [h.len]; exact hvn))
    simp [-Int.natCast_add, -List.getD_eq_getElem?_getD, index_slice u36 sz3, load_of ld3, load_of ld76, fieldAddr_of fa78_2, load_of ld42, index_slice u42 sz45, load_of ld45, buildSlice_of u42 bs45 rfl, append_s u42 sz45, i1, im, hlt, li, x0, w6, v2, hvn, lw]
    generalize hra : sappend _ _ _ _ _ _ = ra
    obtain ⟨m5, lb5, lf5, rfl, oL5, k5, hlf5, hl5, _⟩ := app_slz hra u42 ap45 sL (by omega) (by simp) (by simp [one_int]) (by omega) (by omega)
    simp [-Int.natCast_add, -List.getD_eq_getElem?_getD, wi]
    have kn1 := kF.1
    have K5 : Keeps m m5 [] := kF.fresh k5 (by
      intro f hf
      split at hf
      · simp at hf
      · rename_i hn
        simp at hf
        rw [hf]; exact (hlf hn).1)
    have lf5' : m.next ≤ lf5 := by
      rcases hlf5 with ⟨q, q2⟩ | q
      · rw [q2]; exact (hlf q).1
      · omega
    exact ih _ _ _ _ ⟨i + 1, some ⟨lb5, 0, none⟩, lf5, rfl, by omega, by rw [et]; exact Sl.of (by simpa [words] using oL5) (by simp [words, rowW]; omega), fun _ => ⟨lf5', hl5⟩, K5, rfl⟩ (by omega) ⟨by rfl, by rfl, by rfl, by rfl, by rfl, trivial⟩
  have i1 : ¬ (i : Int) < l.length := by omega
  have ei : i = l.length := by omega
  subst ei
  rw [List.take_length] at sL
  clear ih
  simp [-Int.natCast_add, i1]
  exact ⟨⟨lf, sL.rs, fun q => hlf (by
    obtain ⟨b, hb, _⟩ := sL.own (fun e => q (List.length_eq_zero_iff.1 e))
    rw [hb]; simp)⟩, kF⟩
end Go.Proofs.YtlogdohlcdhepaaDoor.base

