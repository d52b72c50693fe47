/-
  This text proves 'Rows.TokenNumbersSaid': the law 'TokenNumbers' returns true at any number and text, in whatever memory and on every tape, and its input reads as it did.
  No condition.
-/
import Derived.Test.YtgomgdbapgibjaaRows
import Derived.Test.YtgomgdbapgibjaaTokO
set_option maxRecDepth 100000
set_option linter.unusedSimpArgs false
set_option linter.unusedVariables false
namespace Go.Proofs.Ytgomgdbapgibjaa.tokenNumbers
open Go.Sh gen base
variable {S : Sums} {m : Mem}

theorem one_byte (m : Mem) (k : Nat) (hk : k < 256) : bToS (m.new [Value.int .u8 (k : Int)] 5) (.slice (some ⟨m.next, 0, none⟩) 1 1) = some (.string ⟨[UInt8.ofNat k].toArray⟩, m.new [Value.int .u8 (k : Int)] 5) := by
  have h : Sl (m.new [Value.int .u8 (k : Int)] 5) (some ⟨m.next, 0, none⟩) 1 ([UInt8.ofNat k].map fun b => Value.int .u8 b.toNat) 5 1 m.next := by
    refine Sl.of ?_ (by simp)
    have e : ([UInt8.ofNat k].map fun b => Value.int .u8 ((b.toNat : Nat) : Int)) = [Value.int .u8 (k : Int)] := by
      simp
      omega
    rw [e]
    exact Own.new _ _ _
  exact bToS_sl (l := [UInt8.ofNat k]) h

theorem law_run (hA : Na S) (hK : S 8 = [([], .bool true)]) (hS : S 3 = []) {n : Int} (hn : (Lit.int .i64 n).wf = true) {t : List UInt8} (ht : t.length ≤ 9223372036854775807) :
    ∃ v m', callw Try.prog TT S 3 [.int .i64 n, .string ⟨t.toArray⟩] m = some (v, m') ∧ v = .bool true := by
  have hkn := fun m' => sum_ok (P := Try.prog) (T := TT) (m := m') hK
  refine fn_w 7 [14] k3 hS rfl ?_
  simp [-BitVec.toNat_or, -BitVec.toNat_ofInt, -BitVec.toNat_and, len_string u9, index_str u9, buildSlice_of u22 bs5 rfl, conv_bytes u22 u5 u9, bin_str u9 .add (Or.inl rfl)]
  refine wsem_loop 7 [14] (fun d E m2 => ∃ (i : Nat) (acc : List UInt8), 25 - i = d ∧ i ≤ 25 ∧ acc.length = i ∧ E = [(1, .string ⟨t.toArray⟩), (5, .string ⟨acc.toArray⟩), (6, .int .i64 i)]) _ ⟨_, ⟨0, [], rfl, by omega, rfl, rfl⟩, ⟨rfl, rfl, rfl, trivial⟩⟩ ?_
  rintro d E m2 ih ⟨i, acc, hd, hi, hacc, rfl⟩
  by_cases hgo : i < t.length ∧ i < 25
  · obtain ⟨h1, h2⟩ := hgo
    have e1 : (i : Int) < t.length := by omega
    have e2 : (i : Int) < 25 := by omega
    have em : (i : Int) ≤ 9223372036854775807 := by omega
    have w1 : IntKind.i64.wrap ((i : Int) + 1) = ((i + 1 : Nat) : Int) := by rw [wrap_i64 (by omega) (by omega)]; omega
    have hb := (t[i]).toNat_lt
    obtain ⟨k, hk⟩ : ∃ k, k = 48 + (t[i]).toNat % 10 := ⟨_, rfl⟩
    have hk9 : k < 256 := by omega
    have wt : ((t[i]).toNat : Int).tmod 10 = (((t[i]).toNat % 10 : Nat) : Int) := by rw [Int.tmod_eq_emod_of_nonneg (by omega)]; omega
    have wk : IntKind.u8.wrap (48 + (((t[i]).toNat % 10 : Nat) : Int)) = (k : Int) := by rw [wrap_u8 (by omega) (by omega)]; omega
    have wt2 : ((t[i]).toNat : Int) % 10 = (((t[i]).toNat % 10 : Nat) : Int) := by omega
    have hob := one_byte m2 k hk9
    have hsum : ((acc.length + 1 : Nat) : Int) ≤ 9223372036854775807 := by omega
    simp [-Int.natCast_emod, -Int.natCast_add, -BitVec.toNat_or, -BitVec.toNat_ofInt, -BitVec.toNat_and, len_string u9, index_str u9, buildSlice_of u22 bs5 rfl, conv_bytes u22 u5 u9, bin_str u9 .add (Or.inl rfl), e1, e2, em, h1, wt, wt2, wk, hob, hsum, w1]
    exact ih _ _ _ _ ⟨i + 1, acc ++ [UInt8.ofNat k], rfl, by omega, by simp [hacc], rfl⟩ (by omega) ⟨rfl, by simp [lget], by simp [lget], trivial⟩
  · have hal : acc.length ≤ 9223372036854775807 := by omega
    obtain ⟨v3, m3, c3, rfl, k3⟩ := all_run (m := m2) hA acc hal
    obtain ⟨v4, m4, c4, rfl, k4⟩ := all_run (m := m3) hA [57, 50, 50, 51, 51, 55, 50, 48, 51, 54, 56, 53, 52, 55, 55, 53, 56, 48, 55, 32, 57, 50, 50, 51, 51, 55, 50, 48, 51, 54, 56, 53, 52, 55, 55, 53, 56, 48, 54] (by simp)
    obtain ⟨v5, m5, c5, rfl, k5⟩ := all_run (m := m4) hA (acc ++ [32] ++ acc) (by simp; omega)
    have s1 : ((acc.length + 1 : Nat) : Int) ≤ 9223372036854775807 := by omega
    have s2 : ((acc.length + 1 + acc.length : Nat) : Int) ≤ 9223372036854775807 := by omega
    have s3 : ((acc.length + (acc.length + 1) : Nat) : Int) ≤ 9223372036854775807 := by omega
    simp only [List.append_assoc, List.cons_append, List.nil_append] at c5
    by_cases a : i < t.length
    · have e1 : (i : Int) < t.length := by omega
      have e2 : ¬ (i : Int) < 25 := by omega
      simp [-Int.natCast_add, -BitVec.toNat_or, -BitVec.toNat_ofInt, -BitVec.toNat_and, len_string u9, index_str u9, buildSlice_of u22 bs5 rfl, conv_bytes u22 u5 u9, bin_str u9 .add (Or.inl rfl), e1, e2, a, hkn, c3, c4, s1, s2, s3, c5]
    · have e1 : ¬ (i : Int) < t.length := by omega
      simp [-Int.natCast_add, -BitVec.toNat_or, -BitVec.toNat_ofInt, -BitVec.toNat_and, len_string u9, index_str u9, buildSlice_of u22 bs5 rfl, conv_bytes u22 u5 u9, bin_str u9 .add (Or.inl rfl), e1, a, hkn, c3, c4, s1, s2, s3, c5]

/- the row -/
open Go.ChangeShapes Go.WideShapes Go.ChangeAt Go.RowKit
theorem own : ownKnob Try.prog.godebug = none := by kernel_rfl
theorem mixed : Try.prog.follows .mixedOrders = true := by kernel_rfl
theorem tab : Sh.tabCheck Try.prog fns = true := by kernel_rfl
theorem known : Sh.isVal (.bool true) (Sh.call Try.prog (Sh.tabOf Try.prog fns) Sh.noSums 100000 8 [] (Sh.memG Try.prog [])) = true := by kernel_rfl
def sums : Sums := fun f => if f = 8 then [([], .bool true)] else []
theorem sumsOk : SumsOk Try.prog sums := by
  intro f p hp
  unfold sums at hp
  split at hp
  · rename_i hf
    subst hf
    simp only [List.mem_cons, List.not_mem_nil, or_false] at hp
    subst hp
    exact ⟨rfl, rfl, ⟨Try.f8, Try.func8, by kernel_rfl, by kernel_rfl⟩, fun w => Sh.closed_val mixed (Sh.tab_ok tab) (Sh.noSums_ok _) 100000 8 Try.func8 (by kernel_rfl) (gs := []) (by kernel_rfl) (by kernel_rfl) known w (fun p hp => by simp at hp)⟩
  · simp at hp

theorem walk (w : World) (x0 : Int) (hx0 : (Lit.int .i64 x0).wf = true) (x1 : List UInt8) (hx1 : x1.length ≤ 9223372036854775807) :
    Calls Try.prog 3 #[.int .i64 x0, .string ⟨x1.toArray⟩] w fun e w' => e = .returned (.bool true) ∧ Below w.heap.size w w' := by
  have hM := start_rel Try.prog w
  obtain ⟨v', m', h, rfl⟩ := law_run (S := sums) (m := mem0 Try.prog) ⟨⟨rfl, rfl, rfl, rfl, rfl, rfl, rfl, rfl, rfl, rfl, rfl, rfl, rfl, rfl, rfl, rfl⟩, ⟨rfl, rfl, rfl, rfl, rfl, rfl, rfl⟩, rfl, rfl, rfl, rfl⟩ rfl rfl  hx0 hx1
  exact calls_of mixed (Sh.tab_ok tab) sumsOk Try.func3 (by kernel_rfl) h rfl hM (.cons (.clo _ rfl) (.cons (.clo _ rfl) LRel.nil))

theorem laidOut : laidOutB Try.prog = true := by kernel_rfl

theorem lifted (os : Os) (started : os.Started) (H : Type) (enc : TypeId × Value → H) :
    ReturnsInHanded {} Try.checked os 3 .any (Rows.tokenNumbersSpec.pre6 enc Try.prog Try.f3 Rows.tokenNumbersRow.domain false) (Rows.tokenNumbersSpec.post enc Try.prog Try.f3 false true false false) := by
  refine returnsInHanded_of_change (C := Try.checked) own started (by kernel_rfl) Try.func3
    (ChangeSpec.witness6 (enc := enc) (C := Try.checked) false ⟨#[], #[.int .i64 0, .string ⟨#[]⟩], []⟩ 8 (by kernel_rfl) (by kernel_rfl) (by kernel_rfl) (by kernel_rfl)) ?_
  intro W base args ds gs before hval0 hW hcnd _
  have hval : ∀ (j : Nat) t v, Try.f3.params[j]? = some t → args[j]? = some v → Value.okWide Try.prog W .any base t v := hval0
  have hW' := hW
  obtain ⟨p, q, hA0, hV, rfl, hfz, hnd⟩ := hW
  have hA : DataW.TrodAll enc Try.prog W 0 (fun _ => true) true Try.f3.params.toList args.toList ds p := hA0
  rw [Try.params3] at hA hval
  obtain ⟨v0, v1, d0, d1, p0, p1, rfl, rfl, rfl, t0, t1⟩ := trodAll_two hA
  obtain ⟨rfl, rfl⟩ := trodVars_none hV
  obtain ⟨x0, rfl, rfl, rfl, hx0⟩ := open_int u2 (hval 0 _ _ rfl rfl) t0
  obtain ⟨⟨⟨x1⟩⟩, rfl, rfl, rfl, hx1⟩ := Go.ChangeMaps.open_string u9 (hval 1 _ _ rfl rfl) t1
  clear hA0 hval0
  simp only [List.append_nil, List.nil_append] at hW'
  refine (walk W x0 hx0 x1 hx1).mono fun e W' ⟨he, hg⟩ => ?_
  subst he
  exact ⟨_, rfl, Sh.law_post (pa := ([] ++ [])) (pv := []) hW' hg (by simp) (fun sp hsp => trodAll_mk2 (shut_int u2 hx0) (Go.ChangeMaps.shut_string u9 hx1)) (fun _ _ => rfl) (fun _ _ _ => (trodAll_cons_mk (shut_bool u4 _) trodAll_mk0))
    (ok_one (by kernel_rfl) rfl (okWide_bool_mk u4 _))⟩

theorem over : Rows.tokenNumbersRow.holds Try.pinned (OpenSpec.ofChange Rows.tokenNumbersSpec) :=
  OpenClaim.holds_of_wide 3 Try.f3 rfl rfl rfl rfl rfl rfl rfl ⟨rfl, rfl, rfl, rfl, rfl⟩ rfl rfl rfl rfl rfl (by kernel_rfl) Try.func3 (by kernel_rfl)
    (of_decide_eq_true (by kernel_rfl)) (by unfold Func.isWrapper; first | (rw [if_pos (by decide +kernel)]; kernel_rfl) | (rw [if_neg (by decide +kernel)]; exact ⟨rfl, rfl⟩))
    (fun os started H enc _ => lifted os started H enc)

theorem proved : Rows.TokenNumbersSaid :=
  over
#print axioms proved
end Go.Proofs.Ytgomgdbapgibjaa.tokenNumbers

