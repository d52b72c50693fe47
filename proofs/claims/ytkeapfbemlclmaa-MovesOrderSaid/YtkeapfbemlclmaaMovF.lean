/-
  This text proves how chapter 23's laws read their moves.
  Condition: nothing is known of the calls ahead ('S f = []').
-/
import Derived.Test.YtkeapfbemlclmaaMovE
set_option maxRecDepth 100000
set_option linter.unusedSimpArgs false
set_option linter.unusedVariables false
namespace Go.Proofs.Ytkeapfbemlclmaa.base
open Go.Sh gen
variable {S : Sums} {m : Mem}
theorem cut5_ {α β γ δ ε : Type} (H : α → β → γ → δ → ε → Prop) {T : α → β → γ → δ → ε → Prop} {G : Prop} (main : (∀ a b c d e, H a b c d e → T a b c d e) → G) (mp : ∀ a b c d e, H a b c d e → T a b c d e) : G := main mp
abbrev MvT : Ty := (Ty.pair (Ty.int .i64) (Ty.pair (Ty.int .i64) Ty.unit))
def mvOf (d : MvT.D) : Mv := (d.1, d.2.1)
theorem mv_rows {l : List MvT.D} {css : List (List Value)} (hcl : css.length = l.length) (hce : ∀ (i : Nat) d c, l[i]? = some d → css[i]? = some c → At m MvT d c) : css.flatten = mvc (l.map mvOf) := by
  induction css generalizing l with
  | nil => cases l with
    | nil => rfl
    | cons a l => simp at hcl
  | cons c css ih => cases l with
    | nil => simp at hcl
    | cons a l =>
      have h0 := hce 0 a c rfl rfl
      obtain ⟨c1, c2, rfl, h1, c3, c4, rfl, h2, h3⟩ := h0
      simp only [At] at h1 h2 h3
      subst h1 h2 h3
      have := ih (l := l) (by simpa using hcl) (fun i d c hd hc => hce (i + 1) d c (by simpa using hd) (by simpa using hc))
      simp only [List.flatten_cons, this, List.map_cons, mvc, List.flatMap_cons, mvOf, List.append_nil, List.cons_append, List.nil_append]
/-- the law's moves in the memory -/
theorem mv_arg {l : List MvT.D} {cs : List Value} (ha : At m (Ty.slice 27 MvT) l cs) : ∃ ao fam, cs = [.slice ao l.length l.length] ∧ Rs m ao (l.map mvOf).length (mvc (l.map mvOf)) 27 2 fam := by
  obtain ⟨ao, css, fam, rfl, hcl, hce, hrs⟩ := ha
  refine ⟨ao, fam, rfl, ?_⟩
  rw [mv_rows hcl hce] at hrs
  rw [List.length_map]
  exact hrs
theorem Sl.rs {ao : Option Addr} {n : Nat} {cells : List Value} {e z fam : Nat} (h : Sl m ao n cells e z fam) : Rs m ao n cells e z fam := ⟨h.1, h.2.imp (·.2) fun ⟨b, h1, h2⟩ => ⟨b, h1, h2.rdo⟩⟩
theorem emod_tmod (x k : Int) (hk : 0 < k) : x % k = if x.tmod k < 0 then x.tmod k + k else x.tmod k := by
  have hx := Int.emod_nonneg x (by omega : k ≠ 0)
  have hx2 := Int.emod_lt_of_pos x hk
  split
  · rename_i h
    have : (x.tmod k + k) % k = x % k := by
      rw [Int.add_emod_right]
      have h3 := Int.tmod_add_mul_tdiv x k
      have : x.tmod k = x - k * x.tdiv k := by omega
      rw [this, Int.sub_mul_emod_self_left]
    rw [← this]
    have := Int.lt_tmod_of_pos x hk
    exact Int.emod_eq_of_lt (by omega) (by omega)
  · rename_i h
    have : (x.tmod k) % k = x % k := by
      have h3 := Int.tmod_add_mul_tdiv x k
      have : x.tmod k = x - k * x.tdiv k := by omega
      rw [this, Int.sub_mul_emod_self_left]
    rw [← this]
    have := Int.tmod_lt_of_pos x hk
    exact Int.emod_eq_of_lt (by omega) (by omega)
theorem pick_run (hS : S 11 = []) (x k : Int) (hk : 0 < k) (hk2 : k < 1000000) : callw Try.prog TT S 11 [.int .i64 x, .int .i64 k] m = some (.int .i64 (x % k), m) := by
  have hx := Int.emod_nonneg x (by omega : k ≠ 0)
  have hx2 := Int.emod_lt_of_pos x hk
  have hk0 : k ≠ 0 := by omega
  have hw : IntKind.i64.wrap (x % k) = x % k := wrap_i64 (by omega) (by omega)
  have e := emod_tmod x k hk
  refine fn_eq 5 [9] k11 hS rfl ?_
  by_cases h : x.tmod k < 0
  · rw [if_pos h] at e
    rw [e] at hw ⊢
    simp [-BitVec.toNat_or, -BitVec.toNat_ofInt, -BitVec.toNat_and, id, hk0, h, hw]
  · rw [if_neg h] at e
    rw [e]
    simp [-BitVec.toNat_or, -BitVec.toNat_ofInt, -BitVec.toNat_and, id, hk0, h]
end Go.Proofs.Ytkeapfbemlclmaa.base

