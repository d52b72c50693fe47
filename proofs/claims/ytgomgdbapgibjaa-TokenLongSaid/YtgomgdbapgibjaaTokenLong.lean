/-
  This text proves 'Rows.TokenLongSaid': the law 'TokenLong' returns true at any numbers and at either end, in whatever memory and on every tape, and its input reads as it did.
  No condition.
-/
import Derived.Test.YtgomgdbapgibjaaRows
import Derived.Test.YtgomgdbapgibjaaTokO
set_option maxRecDepth 100000
set_option linter.unusedSimpArgs false
set_option linter.unusedVariables false
namespace Go.Proofs.Ytgomgdbapgibjaa.tokenLong
open Go.Sh gen base
variable {S : Sums} {m : Mem}
theorem emod_tmod (x k : Int) (hk : 0 < k) : x % k = if x.tmod k < 0 then x.tmod k + k else x.tmod k := by
  have hx := Int.emod_nonneg x (by omega : k ≠ 0)
  have hx2 := Int.emod_lt_of_pos x hk
  split
  · rename_i h
    have : (x.tmod k + k) % k = x % k := by
      rw [Int.add_emod_right]
      have h3 := Int.tmod_add_mul_tdiv x k
      have : x.tmod k = x - k * x.tdiv k := by omega
      rw [this, Int.sub_mul_emod_self_left]
    rw [← this]
    have := Int.lt_tmod_of_pos x hk
    exact Int.emod_eq_of_lt (by omega) (by omega)
  · rename_i h
    have : (x.tmod k) % k = x % k := by
      have h3 := Int.tmod_add_mul_tdiv x k
      have : x.tmod k = x - k * x.tdiv k := by omega
      rw [this, Int.sub_mul_emod_self_left]
    rw [← this]
    have := Int.tmod_lt_of_pos x hk
    exact Int.emod_eq_of_lt (by omega) (by omega)


theorem pick_run (hS : S 10 = []) (x k : Int) (hk : 0 < k) (hk2 : k < 1000000) : callw Try.prog TT S 10 [.int .i64 x, .int .i64 k] m = some (.int .i64 (x % k), m) := by
  have hx := Int.emod_nonneg x (by omega : k ≠ 0)
  have hx2 := Int.emod_lt_of_pos x hk
  have hk0 : k ≠ 0 := by omega
  have hw : IntKind.i64.wrap (x % k) = x % k := wrap_i64 (by omega) (by omega)
  have e := emod_tmod x k hk
  refine fn_eq 5 [9] k10 hS rfl ?_
  by_cases h : x.tmod k < 0
  · rw [if_pos h] at e
    rw [e] at hw ⊢
    simp [-BitVec.toNat_or, -BitVec.toNat_ofInt, -BitVec.toNat_and, id, hk0, h, hw]
  · rw [if_neg h] at e
    rw [e]
    simp [-BitVec.toNat_or, -BitVec.toNat_ofInt, -BitVec.toNat_and, id, hk0, h]

theorem law_run (hA : Na S) (hK : S 8 = [([], .bool true)]) (hS : S 5 = []) (hP : S 10 = []) {x0 x1 : Int} {x2 : Bool} (hx0 : (Lit.int .i64 x0).wf = true) (hx1 : (Lit.int .i64 x1).wf = true) :
    ∃ v m', callw Try.prog TT S 5 [.int .i64 x0, .int .i64 x1, .bool x2] m = some (v, m') ∧ v = .bool true := by
  have hkn := fun m' => sum_ok (P := Try.prog) (T := TT) (m := m') hK
  have p0 := fun m' => pick_run (m := m') hP x0 7 (by omega) (by omega)
  have p1 := fun m' => pick_run (m := m') hP x1 3 (by omega) (by omega)
  have q0 : 0 ≤ x0 % 7 := Int.emod_nonneg _ (by omega)
  have q0' : x0 % 7 < 7 := Int.emod_lt_of_pos _ (by omega)
  have q1 : 0 ≤ x1 % 3 := Int.emod_nonneg _ (by omega)
  have q1' : x1 % 3 < 3 := Int.emod_lt_of_pos _ (by omega)
  obtain ⟨n, hn⟩ : ∃ n : Nat, x0 % 7 + 3996 = n := ⟨(x0 % 7 + 3996).toNat, by omega⟩
  have hn1 : 3996 ≤ n ∧ n ≤ 4002 := by omega
  have wn : IntKind.i64.wrap (3996 + x0 % 7) = (n : Int) := by rw [wrap_i64 (by omega) (by omega)]; omega
  obtain ⟨c, hc, hc3⟩ : ∃ c : List UInt8, (∀ h, [Value.string ⟨#[44]⟩, Value.string ⟨#[97, 32]⟩, Value.string ⟨#[59]⟩][(x1 % 3).toNat]'h = Value.string ⟨c.toArray⟩) ∧ c.length ≤ 2 := by
    have h3 : x1 % 3 = 0 ∨ x1 % 3 = 1 ∨ x1 % 3 = 2 := by omega
    rcases h3 with h | h | h <;> rw [h]
    · exact ⟨[44], fun _ => rfl, by simp⟩
    · exact ⟨[97, 32], fun _ => rfl, by simp⟩
    · exact ⟨[59], fun _ => rfl, by simp⟩
  have i1 : 0 ≤ x1 % 3 ∧ x1 % 3 ≤ 9223372036854775807 := by omega
  have i2 : x1 % 3 < 3 := q1'
  obtain ⟨k, hk⟩ : ∃ k : Nat, (2 * (n : Int)) = k := ⟨2 * n, by omega⟩
  have w2 : IntKind.i64.wrap (2 * (n : Int)) = (k : Int) := by rw [hk, wrap_i64 (by omega) (by omega)]
  have k1 : (k : Int) ≤ 9223372036854775807 ∧ (k : Int) ≤ 281474976710656 := by omega
  have k2 : k ≤ 281474976710656 ∧ k ≤ 9223372036854775807 := by omega
  have zf : zerosOf Try.prog 5 0 = some [] := by rfl
  refine fn_w 10 [22, 28] k5 hS rfl ?_
  simp [-Int.natCast_add, -BitVec.toNat_or, -BitVec.toNat_ofInt, -BitVec.toNat_and, build_arr u28 sz9 zo28, index_arr u28 sz9, part_one ld9, make_of u22 ap5, append_str u9, buildSlice_of u22 bs5 rfl, append_s u22 sz5, conv_bytes u22 u5 u9, p0, p1, hn, i1, i2, hc, wn, w2, k1, k2, zf]
  have hO0 : Own (m.new [] 5) m.next [] 5 m.next := Own.new _ _ _
  refine wsem_loop 10 [22, 28] (fun d E m2 => ∃ (i b f : Nat) (acc : List UInt8), n - i = d ∧ i ≤ n ∧ acc.length ≤ 2 * i ∧ E = [(0, .int .i64 n), (2, .bool x2), (6, .bool false), (7, .string ⟨c.toArray⟩), (8, .slice (some ⟨b, 0, none⟩) acc.length acc.length), (9, .int .i64 i)] ∧ Own m2 b (acc.map fun x => Value.int .u8 x.toNat) 5 f) _ ⟨_, ⟨0, _, _, [], rfl, by omega, by simp, rfl, hO0⟩, ⟨by rfl, by rfl, by rfl, by rfl, by rfl, by rfl, trivial⟩⟩ ?_
  rintro d E m2 ih ⟨i, b, f, acc, hd, hi, hacc, rfl, ho⟩
  by_cases hlt : i < n
  · have e1 : (i : Int) < n := by omega
    simp [-Int.natCast_add, -BitVec.toNat_or, -BitVec.toNat_ofInt, -BitVec.toNat_and, build_arr u28 sz9 zo28, index_arr u28 sz9, part_one ld9, make_of u22 ap5, append_str u9, buildSlice_of u22 bs5 rfl, append_s u22 sz5, conv_bytes u22 u5 u9, e1, hlt]
    generalize hr : sappend Try.prog 22 m2 _ _ _ = r
    obtain ⟨m3, b3, rfl, o3, k3⟩ := app_own hr u22 ap5 ho (by simp) (by simp) (by simp [one_int]) (by omega) (by omega)
    have w1 : IntKind.i64.wrap ((i : Int) + 1) = ((i + 1 : Nat) : Int) := by rw [wrap_i64 (by omega) (by omega)]; omega
    simp [-Int.natCast_add, -BitVec.toNat_or, -BitVec.toNat_ofInt, -BitVec.toNat_and, build_arr u28 sz9 zo28, index_arr u28 sz9, part_one ld9, make_of u22 ap5, append_str u9, buildSlice_of u22 bs5 rfl, append_s u22 sz5, conv_bytes u22 u5 u9, w1]
    rw [← List.map_append] at o3
    exact ih _ _ _ _ ⟨i + 1, b3, _, acc ++ c, rfl, by omega, by simp; omega, rfl, o3⟩ (by omega) ⟨by rfl, by rfl, by rfl, by rfl, by simp [lget], by rfl, trivial⟩
  · have e1 : ¬ (i : Int) < n := by omega
    cases x2 with
    | true =>
      simp [-Int.natCast_add, -BitVec.toNat_or, -BitVec.toNat_ofInt, -BitVec.toNat_and, build_arr u28 sz9 zo28, index_arr u28 sz9, part_one ld9, make_of u22 ap5, append_str u9, buildSlice_of u22 bs5 rfl, append_s u22 sz5, conv_bytes u22 u5 u9, e1, hlt]
      generalize hr : sappend Try.prog 22 _ _ _ _ = r
      obtain ⟨oz, kz, nz⟩ := new_own (m := m2) (cs := [Value.int .u8 64]) (e := 5) rfl
      have ho2 := ho.keep kz (by simp)
      obtain ⟨m3, b3, rfl, o3, k3⟩ := app_own hr u22 ap5 ho2 (by simp) (by simp) (by simp [one_int]) (by omega) (by omega)
      have eq3 : (acc.map fun x => Value.int .u8 (x.toNat : Int)) ++ [Value.int .u8 64] = (acc ++ [(64 : UInt8)]).map fun x : UInt8 => Value.int .u8 (x.toNat : Int) := by simp
      rw [eq3] at o3
      have hb2 := bToS_sl (m := m3) (ao := some ⟨b3, 0, none⟩) (l := acc ++ [64]) (Sl.of o3 (by simp))
      simp only [List.length_append, List.length_cons, List.length_nil] at hb2
      obtain ⟨v3, m4, c3, rfl, k4⟩ := all_run (m := m3) hA (acc ++ [64]) (by simp; omega)
      simp at c3 hb2
      simp [-Int.natCast_add, -BitVec.toNat_or, -BitVec.toNat_ofInt, -BitVec.toNat_and, build_arr u28 sz9 zo28, index_arr u28 sz9, part_one ld9, make_of u22 ap5, append_str u9, buildSlice_of u22 bs5 rfl, append_s u22 sz5, conv_bytes u22 u5 u9, hkn, hb2, c3]
    | false =>
      have hb2 := bToS_sl (m := m2) (ao := some ⟨b, 0, none⟩) (l := acc) (Sl.of ho (by simp))
      obtain ⟨v3, m3, c3, rfl, k3⟩ := all_run (m := m2) hA acc (by omega)
      simp [-Int.natCast_add, -BitVec.toNat_or, -BitVec.toNat_ofInt, -BitVec.toNat_and, build_arr u28 sz9 zo28, index_arr u28 sz9, part_one ld9, make_of u22 ap5, append_str u9, buildSlice_of u22 bs5 rfl, append_s u22 sz5, conv_bytes u22 u5 u9, e1, hlt, hkn, hb2, c3]

/- the row -/
open Go.ChangeShapes Go.WideShapes Go.ChangeAt Go.RowKit
theorem own : ownKnob Try.prog.godebug = none := by kernel_rfl
theorem mixed : Try.prog.follows .mixedOrders = true := by kernel_rfl
theorem tab : Sh.tabCheck Try.prog fns = true := by kernel_rfl
theorem known : Sh.isVal (.bool true) (Sh.call Try.prog (Sh.tabOf Try.prog fns) Sh.noSums 100000 8 [] (Sh.memG Try.prog [])) = true := by kernel_rfl
def sums : Sums := fun f => if f = 8 then [([], .bool true)] else []
theorem sumsOk : SumsOk Try.prog sums := by
  intro f p hp
  unfold sums at hp
  split at hp
  · rename_i hf
    subst hf
    simp only [List.mem_cons, List.not_mem_nil, or_false] at hp
    subst hp
    exact ⟨rfl, rfl, ⟨Try.f8, Try.func8, by kernel_rfl, by kernel_rfl⟩, fun w => Sh.closed_val mixed (Sh.tab_ok tab) (Sh.noSums_ok _) 100000 8 Try.func8 (by kernel_rfl) (gs := []) (by kernel_rfl) (by kernel_rfl) known w (fun p hp => by simp at hp)⟩
  · simp at hp

theorem walk (w : World) (x0 : Int) (hx0 : (Lit.int .i64 x0).wf = true) (x1 : Int) (hx1 : (Lit.int .i64 x1).wf = true) (x2 : Bool) :
    Calls Try.prog 5 #[.int .i64 x0, .int .i64 x1, .bool x2] w fun e w' => e = .returned (.bool true) ∧ Below w.heap.size w w' := by
  have hM := start_rel Try.prog w
  obtain ⟨v', m', h, rfl⟩ := law_run (S := sums) (m := mem0 Try.prog) ⟨⟨rfl, rfl, rfl, rfl, rfl, rfl, rfl, rfl, rfl, rfl, rfl, rfl, rfl, rfl, rfl, rfl⟩, ⟨rfl, rfl, rfl, rfl, rfl, rfl, rfl⟩, rfl, rfl, rfl, rfl⟩ rfl rfl rfl hx0 hx1
  exact calls_of mixed (Sh.tab_ok tab) sumsOk Try.func5 (by kernel_rfl) h rfl hM (.cons (.clo _ rfl) (.cons (.clo _ rfl) (.cons (.clo _ rfl) LRel.nil)))

theorem laidOut : laidOutB Try.prog = true := by kernel_rfl

theorem lifted (os : Os) (started : os.Started) (H : Type) (enc : TypeId × Value → H) :
    ReturnsInHanded {} Try.checked os 5 .any (Rows.tokenLongSpec.pre6 enc Try.prog Try.f5 Rows.tokenLongRow.domain false) (Rows.tokenLongSpec.post enc Try.prog Try.f5 false true false false) := by
  refine returnsInHanded_of_change (C := Try.checked) own started (by kernel_rfl) Try.func5
    (ChangeSpec.witness6 (enc := enc) (C := Try.checked) false ⟨#[], #[.int .i64 0, .int .i64 0, .bool false], []⟩ 8 (by kernel_rfl) (by kernel_rfl) (by kernel_rfl) (by kernel_rfl)) ?_
  intro W base args ds gs before hval0 hW hcnd _
  have hval : ∀ (j : Nat) t v, Try.f5.params[j]? = some t → args[j]? = some v → Value.okWide Try.prog W .any base t v := hval0
  have hW' := hW
  obtain ⟨p, q, hA0, hV, rfl, hfz, hnd⟩ := hW
  have hA : DataW.TrodAll enc Try.prog W 0 (fun _ => true) true Try.f5.params.toList args.toList ds p := hA0
  rw [Try.params5] at hA hval
  obtain ⟨v0, v1, v2, d0, d1, d2, p0, p1, p2, rfl, rfl, rfl, t0, t1, t2⟩ := trodAll_three hA
  obtain ⟨rfl, rfl⟩ := trodVars_none hV
  obtain ⟨x0, rfl, rfl, rfl, hx0⟩ := open_int u3 (hval 0 _ _ rfl rfl) t0
  obtain ⟨x1, rfl, rfl, rfl, hx1⟩ := open_int u3 (hval 1 _ _ rfl rfl) t1
  obtain ⟨x2, rfl, rfl, rfl⟩ := open_bool u4 (hval 2 _ _ rfl rfl) t2
  clear hA0 hval0
  simp only [List.append_nil, List.nil_append] at hW'
  refine (walk W x0 hx0 x1 hx1 x2).mono fun e W' ⟨he, hg⟩ => ?_
  subst he
  exact ⟨_, rfl, Sh.law_post (pa := ([] ++ ([] ++ []))) (pv := []) hW' hg (by simp) (fun sp hsp => trodAll_mk3 (shut_int u3 hx0) (shut_int u3 hx1) (shut_bool u4 _)) (fun _ _ => rfl) (fun _ _ _ => (trodAll_cons_mk (shut_bool u4 _) trodAll_mk0))
    (ok_one (by kernel_rfl) rfl (okWide_bool_mk u4 _))⟩

theorem over : Rows.tokenLongRow.holds Try.pinned (OpenSpec.ofChange Rows.tokenLongSpec) :=
  OpenClaim.holds_of_wide 5 Try.f5 rfl rfl rfl rfl rfl rfl rfl ⟨rfl, rfl, rfl, rfl, rfl⟩ rfl rfl rfl rfl rfl (by kernel_rfl) Try.func5 (by kernel_rfl)
    (of_decide_eq_true (by kernel_rfl)) (by unfold Func.isWrapper; first | (rw [if_pos (by decide +kernel)]; kernel_rfl) | (rw [if_neg (by decide +kernel)]; exact ⟨rfl, rfl⟩))
    (fun os started H enc _ => lifted os started H enc)

theorem proved : Rows.TokenLongSaid :=
  over
#print axioms proved
end Go.Proofs.Ytgomgdbapgibjaa.tokenLong

