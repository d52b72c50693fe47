/-
  This text proves 'Rows.TokenTextsSaid': the law 'TokenTexts' returns true at any bytes, in whatever memory and on every tape, and its input reads as it did.
  No condition.
-/
import Derived.Test.YtgomgdbapgibjaaRows
import Derived.Test.YtgomgdbapgibjaaTokO
import Derived.HandedShaped
set_option maxRecDepth 100000
set_option linter.unusedSimpArgs false
set_option linter.unusedVariables false
namespace Go.Proofs.Ytgomgdbapgibjaa.tokenTexts
open Go.Sh gen base
variable {S : Sums} {m : Mem}

/-- no slice takes more bytes than a process may -/
def LenLe (v : Value) : Prop := ∀ a n c, v = .slice a n c → n ≤ 140737488351232
open Go.ChangeShapes Go.WideShapes Go.ChangeAt Go.ChangeShapes in
theorem len_le {H : Type} {enc : TypeId × Value → H} {P : Program} {w : World} {r : Reach} {b0 : Nat} {t e : TypeId} {k : IntKind} {v : Value} {d : DataW H} {ps : List MemPlace} (ht : P.underlying t = some (.slice e)) (he : P.underlying e = some (.int k)) (hc : P.cellsOf e = 1) (hb : P.bytesOf e = 1)
    (hval : Value.okWide P w r b0 t v) (hd : DataW.Trod enc P w 0 (fun _ => true) true t v d ps) (hw : (DataW.weights P t d).all (· ≤ reachBytes) = true) : LenLe v := by
  obtain ⟨a0, l0, c0, rfl⟩ := okWide_slice ht hval
  obtain ⟨fuel, hf⟩ := hd
  intro a n c he2
  cases he2
  rcases open_ints ht he hc hf with ⟨h1, _⟩ | ⟨a, len, cap, zs, h1, h2, h3, h4, h5, h6, h7, h8⟩
  · simp [Value.cells] at h1
    omega
  · simp [Value.cells] at h1
    obtain ⟨rfl, rfl, rfl⟩ := h1
    simp at h5
    have h6' := congrArg Prod.fst h6
    simp only at h6'
    subst h6'
    simp only [DataW.weights, ht, List.all_cons, Bool.and_eq_true, decide_eq_true_eq, hb, lits, List.length_map, List.length_take, List.length_drop, reachBytes] at hw
    have hw1 := of_decide_eq_true hw.1
    omega
theorem bToS_rs {ao : Option Addr} {l : List UInt8} {e fam : Nat} (h : Rs m ao l.length (l.map fun b => Value.int .u8 b.toNat) e 1 fam) : bToS m (.slice ao l.length l.length) = some (.string ⟨l.toArray⟩, m) := by
  by_cases h0 : l.length = 0
  · have := List.length_eq_zero_iff.1 h0
    subst this
    cases ao <;> rfl
  · obtain ⟨b, rfl, ho⟩ := h.rdo h0
    have hl := ho.load (off := 0) l.length (by simp)
    simp only [bToS]
    rw [if_neg h0, hl]
    simp only [window, List.drop_zero]
    rw [List.take_of_length_le (by simp), bytesOf_map]

theorem bytes_of {rs : List Int} (h : ∀ n ∈ rs, (Lit.int .u8 n).wf = true) : ∃ l : List UInt8, l.length = rs.length ∧ rs.flatMap (fun n : Int => [Value.int .u8 n]) = l.map fun b => Value.int .u8 b.toNat := by
  induction rs with
  | nil => exact ⟨[], rfl, rfl⟩
  | cons n r ih =>
    obtain ⟨l, h1, h2⟩ := ih (fun x hx => h x (by simp [hx]))
    have hn := h n (by simp)
    simp [Lit.wf, IntKind.min, IntKind.max, IntKind.signed, IntKind.bits] at hn
    refine ⟨UInt8.ofNat n.toNat :: l, by simp [h1], ?_⟩
    simp only [List.flatMap_cons, List.map_cons, h2, List.cons_append, List.nil_append]
    congr 2
    simp
    omega

theorem law_run (hA : Na S) (hK : S 8 = [([], .bool true)]) (hS : S 4 = []) {rs : List Int} {ao : Option Addr} {fr : Nat} (hr : Rs m ao rs.length (rs.flatMap fun n : Int => [Value.int .u8 n]) 5 1 fr) (hfr : fr < m.next) (hrl : rs.length ≤ 140737488351232) (hw : ∀ n ∈ rs, (Lit.int .u8 n).wf = true) :
    ∃ v m', callw Try.prog TT S 4 [.slice ao rs.length rs.length] m = some (v, m') ∧ v = .bool true := by
  have hkn := fun m' => sum_ok (P := Try.prog) (T := TT) (m := m') hK
  obtain ⟨l, hl, hc⟩ := bytes_of hw
  rw [hc, ← hl] at hr
  rw [← hl] at hrl ⊢
  have hb := fun m' (k : Keeps m m' []) => bToS_rs (hr.keep k (by simp))
  have hb0 := bToS_rs hr
  obtain ⟨v3, m3, c3, rfl, kk3⟩ := all_run (m := m) hA ([34] ++ l ++ [34]) (by simp; omega)
  have hb3 := hb m3 kk3
  obtain ⟨v4, m4, c4, rfl, kk4⟩ := all_run (m := m3) hA ([34] ++ l) (by simp; omega)
  simp at c3 c4
  have s1 : ((l.length + 1 : Nat) : Int) ≤ 9223372036854775807 := by omega
  have s1' : l.length + 1 ≤ 9223372036854775807 := by omega
  have s2 : ((l.length + 1 + 1 : Nat) : Int) ≤ 9223372036854775807 := by omega
  have s2' : l.length + 1 + 1 ≤ 9223372036854775807 := by omega
  have s3 : ((1 + l.length : Nat) : Int) ≤ 9223372036854775807 := by omega
  have s3' : 1 + l.length ≤ 9223372036854775807 := by omega
  refine fn_w 3 [] k4 hS rfl ?_
  simp [-Int.natCast_add, -BitVec.toNat_or, -BitVec.toNat_ofInt, -BitVec.toNat_and, conv_bytes u22 u5 u9, bin_str u9 .add (Or.inl rfl), hkn, hb0, hb3, s1, s1', s2, s2', s3, s3', c3, c4]

/- the row -/
open Go.ChangeShapes Go.WideShapes Go.ChangeAt Go.RowKit
theorem own : ownKnob Try.prog.godebug = none := by kernel_rfl
theorem mixed : Try.prog.follows .mixedOrders = true := by kernel_rfl
theorem tab : Sh.tabCheck Try.prog fns = true := by kernel_rfl
theorem known : Sh.isVal (.bool true) (Sh.call Try.prog (Sh.tabOf Try.prog fns) Sh.noSums 100000 8 [] (Sh.memG Try.prog [])) = true := by kernel_rfl
def sums : Sums := fun f => if f = 8 then [([], .bool true)] else []
theorem sumsOk : SumsOk Try.prog sums := by
  intro f p hp
  unfold sums at hp
  split at hp
  · rename_i hf
    subst hf
    simp only [List.mem_cons, List.not_mem_nil, or_false] at hp
    subst hp
    exact ⟨rfl, rfl, ⟨Try.f8, Try.func8, by kernel_rfl, by kernel_rfl⟩, fun w => Sh.closed_val mixed (Sh.tab_ok tab) (Sh.noSums_ok _) 100000 8 Try.func8 (by kernel_rfl) (gs := []) (by kernel_rfl) (by kernel_rfl) known w (fun p hp => by simp at hp)⟩
  · simp at hp

theorem walk (w : World) {v0 : Value} (h0 : RowArg Try.prog w (fun n : Int => [Value.int .u8 n]) (fun n => (Lit.int .u8 n).wf = true) 5 1 v0) (hs0 : LenLe v0) :
    Calls Try.prog 4 #[v0] w fun e w' => e = .returned (.bool true) ∧ Below w.heap.size w w' := by
  have hM := start_rel Try.prog w
  obtain ⟨rs0, J0, m0, ao0, fr0, le0, hM0, vr0, hr0, hg0, hl0, hk0, hz0, hw0⟩ := row_in hM sz5 (by omega) (fun _ => rfl) h0
  have hz0 : rs0.length ≤ 140737488351232 := by
    cases ao0 with
    | none =>
      rcases hr0.2 with h0 | ⟨_, h0, _⟩
      · omega
      · cases h0
    | some a => obtain ⟨_, _, _, _, e, _⟩ := vr0.wslice_inv; exact hs0 _ _ _ e
  obtain ⟨v', m', h, rfl⟩ := law_run (S := sums) (m := m0) ⟨⟨rfl, rfl, rfl, rfl, rfl, rfl, rfl, rfl, rfl, rfl, rfl, rfl, rfl, rfl, rfl, rfl⟩, ⟨rfl, rfl, rfl, rfl, rfl, rfl, rfl⟩, rfl, rfl, rfl, rfl⟩ rfl rfl  hr0 hl0 hz0 hw0
  exact calls_of mixed (Sh.tab_ok tab) sumsOk Try.func4 (by kernel_rfl) h rfl hM0 (.cons vr0 LRel.nil)

theorem laidOut : laidOutB Try.prog = true := by kernel_rfl

theorem lifted (os : Os) (started : os.Started) (H : Type) (enc : TypeId × Value → H) :
    ReturnsInHanded {} Try.checked os 4 .any (Rows.tokenTextsSpec.pre6 enc Try.prog Try.f4 Rows.tokenTextsRow.domain false) (Rows.tokenTextsSpec.post enc Try.prog Try.f4 false true false false) := by
  refine returnsInHanded_of_change_shaped (C := Try.checked) own started (by kernel_rfl) Try.func4
    (ChangeSpec.witness6 (enc := enc) (C := Try.checked) false ⟨#[], #[.slice none 0 0], []⟩ 8 (by kernel_rfl) (by kernel_rfl) (by kernel_rfl) (by kernel_rfl)) ?_
  intro W base args ds gs before hval0 hW hcnd hwt _ _
  have hval : ∀ (j : Nat) t v, Try.f4.params[j]? = some t → args[j]? = some v → Value.okWide Try.prog W .any base t v := hval0
  have hW' := hW
  obtain ⟨p, q, hA0, hV, rfl, hfz, hnd⟩ := hW
  have hA : DataW.TrodAll enc Try.prog W 0 (fun _ => true) true Try.f4.params.toList args.toList ds p := hA0
  rw [Try.params4] at hA hval hwt
  obtain ⟨v0, d0, rfl, rfl, t0⟩ := trodAll_one hA
  obtain ⟨rfl, rfl⟩ := trodVars_none hV
  simp only [List.toList_toArray, List.cons_append, List.nil_append, DataW.weightsEach, List.all_append, Bool.and_eq_true] at hwt
  have hv0 := ints_row u22 u5 sz5 (hval 0 _ _ rfl rfl) t0
  have hs0 : LenLe v0 := len_le u22 u5 (by kernel_rfl) (by kernel_rfl) (hval 0 _ _ rfl rfl) t0 hwt.1
  clear hA0 hval0
  simp only [List.append_nil, List.nil_append] at hW'
  refine (walk W hv0 hs0).mono fun e W' ⟨he, hg⟩ => ?_
  subst he
  have hlt0 : ∀ z ∈ p, z.block < W.heap.size := fun z hz => hW'.lt z (by simp [hz])
  exact ⟨_, rfl, Sh.law_post (pa := p) (pv := []) hW' hg (by simp) (fun sp hsp => trodAll_mk1 (WideElems.Trod_stays laidOut (by kernel_rfl) (of_decide_eq_true (by kernel_rfl)) t0 (fun z hz => hg.same (hlt0 z hz)) (fun z hz => hsp z (by simp [hz])))) (fun _ _ => rfl) (fun _ _ _ => (trodAll_cons_mk (shut_bool u4 _) trodAll_mk0))
    (ok_one (by kernel_rfl) rfl (okWide_bool_mk u4 _))⟩

theorem over : Rows.tokenTextsRow.holds Try.pinned (OpenSpec.ofChange Rows.tokenTextsSpec) :=
  OpenClaim.holds_of_wide 4 Try.f4 rfl rfl rfl rfl rfl rfl rfl ⟨rfl, rfl, rfl, rfl, rfl⟩ rfl rfl rfl rfl rfl (by kernel_rfl) Try.func4 (by kernel_rfl)
    (of_decide_eq_true (by kernel_rfl)) (by unfold Func.isWrapper; first | (rw [if_pos (by decide +kernel)]; kernel_rfl) | (rw [if_neg (by decide +kernel)]; exact ⟨rfl, rfl⟩))
    (fun os started H enc _ => lifted os started H enc)

theorem proved : Rows.TokenTextsSaid :=
  over
#print axioms proved
end Go.Proofs.Ytgomgdbapgibjaa.tokenTexts

