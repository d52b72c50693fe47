/-
  This text proves, in plain Lean, how two blocks of the dominators' tree meet.
  No condition.
-/
import Derived.Test.YtlogdohlcdhepaaDoorEwT
set_option maxRecDepth 100000
set_option linter.unusedSimpArgs false
set_option linter.unusedVariables false
namespace Go.Proofs.YtlogdohlcdhepaaDoor.base
open Go.Sh gen
inductive Anc (I : List Int) : Nat → Nat → Prop
  | refl (x : Nat) : Anc I x x
  | up {x y : Nat} : Anc I (I.getD x 0).toNat y → Anc I x y
theorem Anc.trans {I : List Int} {x y z : Nat} (h : Anc I x y) (k : Anc I y z) : Anc I x z := by
  induction h with
  | refl => exact k
  | up _ ih => exact .up (ih k)
theorem Rpo.pn {n : Nat} {pd : Nat → List Int} {P T : List Int} (R : Rpo n pd P T) {x : Nat} (hx : x < n) : 0 ≤ P.getD x 0 ∧ P.getD x 0 < n ∧ (x ≠ 0 → 0 < P.getD x 0) := by
  by_cases e : x = 0
  · rw [e, R.p0]
    have := R.pos
    exact ⟨by omega, by omega, fun h => absurd rfl h⟩
  · obtain ⟨j, hj, hT⟩ := R.all x hx e
    obtain ⟨b, h1, h2, h3, h4⟩ := R.t j hj
    have : b = x := by rw [hT] at h1; omega
    rw [this] at h4
    have := R.len
    rw [h4]
    exact ⟨by omega, by omega, fun _ => by omega⟩
theorem Rpo.inj {n : Nat} {pd : Nat → List Int} {P T : List Int} (R : Rpo n pd P T) {x y : Nat} (hx : x < n) (hy : y < n) (h : P.getD x 0 = P.getD y 0) : x = y := by
  by_cases ex : x = 0
  · by_cases ey : y = 0
    · rw [ex, ey]
    · have := (R.pn hy).2.2 ey; rw [ex, R.p0] at h; omega
  · by_cases ey : y = 0
    · have := (R.pn hx).2.2 ex; rw [ey, R.p0] at h; omega
    · obtain ⟨j, hj, h1⟩ := R.all x hx ex
      obtain ⟨b, h2, _, _, h3⟩ := R.t j hj
      obtain ⟨j', hj', h1'⟩ := R.all y hy ey
      obtain ⟨b', h2', _, _, h3'⟩ := R.t j' hj'
      have e1 : b = x := by rw [h1] at h2; omega
      have e2 : b' = y := by rw [h1'] at h2'; omega
      rw [e1] at h3
      rw [e2] at h3'
      have : j = j' := by omega
      rw [this, h1'] at h1
      omega
structure DJ (n : Nat) (P I : List Int) : Prop where
  len : I.length = n
  z : I.getD 0 0 = 0
  rg : ∀ x < n, -1 ≤ I.getD x 0 ∧ I.getD x 0 < n
  up : ∀ x < n, x ≠ 0 → 0 ≤ I.getD x 0 → 0 ≤ I.getD (I.getD x 0).toNat 0 ∧ P.getD (I.getD x 0).toNat 0 < P.getD x 0
theorem DJ.upOk {n : Nat} {P I : List Int} (h : DJ n P I) : UpOk n I := by
  intro x hx h0
  refine ⟨(h.rg x hx).2, ?_⟩
  by_cases e : x = 0
  · rw [e, h.z]; simp only [Int.toNat_zero]; rw [h.z]; omega
  · exact (h.up x hx e h0).1
theorem DJ.anc {n : Nat} {P I : List Int} (h : DJ n P I) {x y : Nat} (ha : Anc I x y) : x < n → 0 ≤ I.getD x 0 → y < n ∧ 0 ≤ I.getD y 0 ∧ P.getD y 0 ≤ P.getD x 0 := by
  induction ha with
  | refl x => exact fun hx h0 => ⟨hx, h0, Int.le_refl _⟩
  | @up x y _ ih =>
    intro hx h0
    have hr := h.upOk x hx h0
    have := ih (by omega) hr.2
    refine ⟨this.1, this.2.1, ?_⟩
    by_cases e : x = 0
    · rw [e, h.z] at this; rw [e]; exact this.2.2
    · have := (h.up x hx e h0).2; omega
theorem DJ.anc0 {n : Nat} {P I : List Int} (h : DJ n P I) {w : Nat} (hw : Anc I 0 w) : w = 0 := by
  have : ∀ a b, Anc I a b → a = 0 → b = 0 := by
    intro a b hab
    induction hab with
    | refl => exact id
    | up _ ih2 => intro e; subst e; rw [h.z] at ih2; exact ih2 rfl
  exact this 0 w hw rfl
theorem meet_ex {n : Nat} {pd : Nat → List Int} {P T I : List Int} (R : Rpo n pd P T) (h : DJ n P I) : ∀ (M a b : Nat), a < n → b < n → 0 ≤ I.getD a 0 → 0 ≤ I.getD b 0 → (P.getD a 0 + P.getD b 0).toNat ≤ M →
    ∃ D c, D ≤ M ∧ meetIt P I D a b = some c ∧ Anc I a c ∧ Anc I b c ∧ ∀ z, Anc I a z → Anc I b z → Anc I c z := by
  intro M
  induction M with
  | zero =>
    intro a b ha hb ha0 hb0 hM
    have h1 := R.pn ha
    have h2 := R.pn hb
    have : a = b := R.inj ha hb (by omega)
    subst this
    exact ⟨0, a, Nat.le_refl _, by rw [meetIt, if_pos rfl], .refl _, .refl _, fun z hz _ => hz⟩
  | succ M ih =>
    intro a b ha hb ha0 hb0 hM
    have h1 := R.pn ha
    have h2 := R.pn hb
    by_cases e : a = b
    · subst e
      exact ⟨0, a, by omega, by rw [meetIt, if_pos rfl], .refl _, .refl _, fun z hz _ => hz⟩
    by_cases hp : P.getD b 0 < P.getD a 0
    · have ane : a ≠ 0 := fun e0 => by rw [e0, R.p0] at hp; omega
      have hu := h.upOk a ha ha0
      have hu2 := (h.up a ha ane ha0).2
      have ha' : (I.getD a 0).toNat < n := by omega
      have hpa := R.pn ha'
      obtain ⟨D, c, g1, g2, g3, g4, g5⟩ := ih (I.getD a 0).toNat b ha' hb hu.2 hb0 (by omega)
      refine ⟨D + 1, c, by omega, by rw [meetIt, if_neg e, if_pos hp]; exact g2, .up g3, g4, fun z hz1 hz2 => g5 z ?_ hz2⟩
      cases hz1 with
      | refl => have := (h.anc hz2 hb hb0).2.2; omega
      | up hz => exact hz
    · have hne : P.getD a 0 ≠ P.getD b 0 := fun e2 => e (R.inj ha hb e2)
      have bne : b ≠ 0 := fun e0 => by rw [e0, R.p0] at hp hne; omega
      have hu := h.upOk b hb hb0
      have hu2 := (h.up b hb bne hb0).2
      have hb' : (I.getD b 0).toNat < n := by omega
      have hpb := R.pn hb'
      obtain ⟨D, c, g1, g2, g3, g4, g5⟩ := ih a (I.getD b 0).toNat ha hb' ha0 hu.2 (by omega)
      refine ⟨D + 1, c, by omega, by rw [meetIt, if_neg e, if_neg hp]; exact g2, g3, .up g4, fun z hz1 hz2 => g5 z hz1 ?_⟩
      cases hz2 with
      | refl => have := (h.anc hz1 ha ha0).2.2; omega
      | up hz => exact hz
theorem meet_go {n : Nat} {pd : Nat → List Int} {P T I : List Int} (R : Rpo n pd P T) (h : DJ n P I) {a b : Nat} (ha : a < n) (hb : b < n) (ha0 : 0 ≤ I.getD a 0) (hb0 : 0 ≤ I.getD b 0) :
    ∃ c, meetGo P I (2 * I.length + 2) a b = c ∧ (∃ D, D ≤ 2 * I.length + 2 ∧ meetIt P I D a b = some c) ∧ Anc I a c ∧ Anc I b c ∧ ∀ z, Anc I a z → Anc I b z → Anc I c z := by
  have h1 := R.pn ha
  have h2 := R.pn hb
  have hl := h.len
  obtain ⟨D, c, g1, g2, g3, g4, g5⟩ := meet_ex R h (2 * I.length + 2) a b ha hb ha0 hb0 (by omega)
  exact ⟨c, meetGo_eq g2 g1, ⟨D, g1, g2⟩, g3, g4, g5⟩
theorem domS_fold {n : Nat} {pd : Nat → List Int} {P T I : List Int} (R : Rpo n pd P T) (h : DJ n P I) : ∀ (l : List Int) (dd : Int), (∀ a ∈ l, (0 : Int) ≤ a ∧ a < n) → -1 ≤ dd → dd < n → (0 ≤ dd → 0 ≤ I.getD dd.toNat 0) →
    -1 ≤ l.foldl (domS P I) dd ∧ l.foldl (domS P I) dd < n ∧ (l.foldl (domS P I) dd < 0 → dd < 0 ∧ ∀ a ∈ l, I.getD a.toNat 0 < 0) ∧
    (0 ≤ l.foldl (domS P I) dd → 0 ≤ I.getD (l.foldl (domS P I) dd).toNat 0 ∧ (0 ≤ dd → Anc I dd.toNat (l.foldl (domS P I) dd).toNat) ∧ (∀ a ∈ l, 0 ≤ I.getD a.toNat 0 → Anc I a.toNat (l.foldl (domS P I) dd).toNat) ∧
      ∀ z, (0 ≤ dd → Anc I dd.toNat z) → (∀ a ∈ l, 0 ≤ I.getD a.toNat 0 → Anc I a.toNat z) → Anc I (l.foldl (domS P I) dd).toNat z) := by
  intro l
  induction l with
  | nil =>
    intro dd _ h1 h2 h3
    exact ⟨h1, h2, fun h => ⟨h, fun a ha => by simp at ha⟩, fun h0 => ⟨h3 h0, fun _ => .refl _, fun a ha => by simp at ha, fun z hz _ => hz h0⟩⟩
  | cons a r ih =>
    intro dd hl h1 h2 h3
    rw [List.foldl_cons]
    have ha := hl a (by simp)
    have hlr : ∀ x ∈ r, (0 : Int) ≤ x ∧ x < n := fun x hx => hl x (by simp [hx])
    by_cases hia : I.getD a.toNat 0 < 0
    · have e : domS P I dd a = dd := by unfold domS; rw [if_pos hia]
      rw [e]
      obtain ⟨g1, g2, g3, g4⟩ := ih dd hlr h1 h2 h3
      refine ⟨g1, g2, fun h => ⟨(g3 h).1, fun x hx => ?_⟩, fun h => ?_⟩
      · rcases List.mem_cons.1 hx with rfl | hx
        · exact hia
        · exact (g3 h).2 x hx
      · obtain ⟨q1, q2, q3, q4⟩ := g4 h
        refine ⟨q1, q2, fun x hx hx0 => ?_, fun z hz hz2 => q4 z hz fun x hx => hz2 x (by simp [hx])⟩
        rcases List.mem_cons.1 hx with rfl | hx
        · omega
        · exact q3 x hx hx0
    · by_cases hdd : dd < 0
      · have e : domS P I dd a = a := by unfold domS; rw [if_neg hia, if_pos hdd]
        rw [e]
        obtain ⟨g1, g2, g3, g4⟩ := ih a hlr (by omega) ha.2 (fun _ => by omega)
        refine ⟨g1, g2, fun h => ?_, fun h => ?_⟩
        · have := (g3 h).1; omega
        · obtain ⟨q1, q2, q3, q4⟩ := g4 h
          refine ⟨q1, fun h => by omega, fun x hx hx0 => ?_, fun z hz hz2 => q4 z (fun _ => hz2 a (by simp) (by omega)) fun x hx => hz2 x (by simp [hx])⟩
          rcases List.mem_cons.1 hx with rfl | hx
          · exact q2 ha.1
          · exact q3 x hx hx0
      · obtain ⟨c, hc, ⟨D, hD, hm⟩, c1, c2, c3⟩ := meet_go R h (a := dd.toNat) (b := a.toNat) (by omega) (by omega) (h3 (by omega)) (by omega)
        have e : domS P I dd a = (c : Int) := by unfold domS; rw [if_neg hia, if_neg hdd, hc]
        rw [e]
        have hcu := h.anc c1 (by omega) (h3 (by omega))
        obtain ⟨g1, g2, g3, g4⟩ := ih (c : Int) hlr (by omega) (by omega) (fun _ => by rw [Int.toNat_natCast]; exact hcu.2.1)
        refine ⟨g1, g2, fun h => ?_, fun h => ?_⟩
        · have := (g3 h).1; omega
        · obtain ⟨q1, q2, q3, q4⟩ := g4 h
          rw [Int.toNat_natCast] at q2 q4
          refine ⟨q1, fun _ => c1.trans (q2 (by omega)), fun x hx hx0 => ?_, fun z hz hz2 => q4 z (fun _ => c3 z (hz (by omega)) (hz2 a (by simp) (by omega))) fun x hx => hz2 x (by simp [hx])⟩
          rcases List.mem_cons.1 hx with rfl | hx
          · exact c2.trans (q2 (by omega))
          · exact q3 x hx hx0
end Go.Proofs.YtlogdohlcdhepaaDoor.base

