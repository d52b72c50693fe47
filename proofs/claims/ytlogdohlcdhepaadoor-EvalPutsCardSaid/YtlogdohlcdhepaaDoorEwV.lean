/-
  This text proves, in plain Lean, that the dominators' rounds only ever go up, so that they come to an end.
  No condition.
-/
import Derived.Test.YtlogdohlcdhepaaDoorEwU
set_option maxRecDepth 100000
set_option linter.unusedSimpArgs false
set_option linter.unusedVariables false
namespace Go.Proofs.YtlogdohlcdhepaaDoor.base
open Go.Sh gen
def FwX (n : Nat) (pd : Nat → List Int) (P I : List Int) (x : Nat) : Prop := ∀ a < n, (a : Int) ∈ pd x → P.getD a 0 < P.getD x 0 → Anc I a (I.getD x 0).toNat
def UpX (n : Nat) (pd : Nat → List Int) (P I : List Int) (x : Nat) : Prop := ∀ z < n, (∀ a < n, (a : Int) ∈ pd x → 0 ≤ I.getD a 0 → Anc I a z) → P.getD z 0 ≤ P.getD (I.getD x 0).toNat 0
structure J1 (n : Nat) (pd : Nat → List Int) (P : List Int) (j : Nat) (I : List Int) : Prop where
  d : DJ n P I
  p : ∀ x < n, 0 ≤ I.getD x 0 ↔ P.getD x 0 ≤ j
  f : ∀ x < n, x ≠ 0 → P.getD x 0 ≤ j → FwX n pd P I x
  u : ∀ x < n, x ≠ 0 → P.getD x 0 ≤ j → UpX n pd P I x
structure J2 (n : Nat) (pd : Nat → List Int) (P : List Int) (j : Nat) (Is I : List Int) : Prop where
  ds : DJ n P Is
  d : DJ n P I
  ps : ∀ x < n, 0 ≤ Is.getD x 0
  p : ∀ x < n, 0 ≤ I.getD x 0
  fs : ∀ x < n, x ≠ 0 → FwX n pd P Is x
  u : ∀ x < n, x ≠ 0 → UpX n pd P I x
  f : ∀ x < n, x ≠ 0 → P.getD x 0 ≤ j → FwX n pd P I x
  q : ∀ y < n, P.getD y 0 ≤ j → ∀ x z, Anc Is y x → Anc I y z → P.getD z 0 ≤ P.getD x 0 → Anc I x z
  w : ∀ y < n, (j : Int) < P.getD y 0 → I.getD y 0 = Is.getD y 0
theorem anc_set {n : Nat} {P I : List Int} (h : DJ n P I) {b : Nat} (hb : b < n) (d : Int) {x y : Nat} (hx : x < n) (h0 : 0 ≤ I.getD x 0) (hp : P.getD x 0 < P.getD b 0) : Anc (I.set b d) x y ↔ Anc I x y := by
  have hl : b < I.length := by rw [h.len]; exact hb
  constructor
  · intro ha
    revert hx h0 hp
    induction ha with
    | refl x => exact fun _ _ _ => .refl x
    | @up x y _ ih =>
      intro hx h0 hp
      have hne : b ≠ x := fun e => by rw [e] at hp; omega
      rw [getD_set _ _ _ _ hl, if_neg hne] at ih
      have hr := h.upOk x hx h0
      have h2 := (h.anc (.up (.refl _)) hx h0 : _ ∧ _ ∧ P.getD (I.getD x 0).toNat 0 ≤ P.getD x 0).2.2
      exact .up (ih (by omega) hr.2 (by omega))
  · intro ha
    revert hx h0 hp
    induction ha with
    | refl x => exact fun _ _ _ => .refl x
    | @up x y _ ih =>
      intro hx h0 hp
      have hne : b ≠ x := fun e => by rw [e] at hp; omega
      have hr := h.upOk x hx h0
      have h2 := (h.anc (.up (.refl _)) hx h0 : _ ∧ _ ∧ P.getD (I.getD x 0).toNat 0 ≤ P.getD x 0).2.2
      refine .up ?_
      rw [getD_set _ _ _ _ hl, if_neg hne]
      exact ih (by omega) hr.2 (by omega)
theorem dj_set {n : Nat} {P I : List Int} (h : DJ n P I) {b d : Nat} (hb : b < n) (hb0 : b ≠ 0) (hd : d < n) (hd0 : 0 ≤ I.getD d 0) (hp : P.getD d 0 < P.getD b 0) : DJ n P (I.set b (d : Int)) := by
  have hl : b < I.length := by rw [h.len]; exact hb
  refine ⟨by simpa using h.len, ?_, fun x hx => ?_, fun x hx hx0 hi => ?_⟩
  · rw [getD_set _ _ _ _ hl, if_neg hb0]; exact h.z
  · rw [getD_set _ _ _ _ hl]
    split
    · omega
    · exact h.rg x hx
  · have hset : ∀ x, (I.set b (d : Int)).getD x 0 = if b = x then (d : Int) else I.getD x 0 := fun x => getD_set _ _ _ _ hl
    rw [hset x] at hi ⊢
    by_cases e : b = x
    · rw [if_pos e, Int.toNat_natCast]
      refine ⟨?_, by rw [← e]; exact hp⟩
      rw [hset]
      split
      · omega
      · exact hd0
    · rw [if_neg e] at hi ⊢
      refine ⟨?_, (h.up x hx hx0 hi).2⟩
      rw [hset]
      split
      · omega
      · exact (h.up x hx hx0 hi).1
theorem domD_spec {u : UnT.D} {P T I : List Int} (R : Rpo (nb u) (fun b => (aheadF u).getD b []) P T) (h : DJ (nb u) P I) {b : Nat} (hb : b < nb u) (hb0 : b ≠ 0) (hfw : ∀ a < nb u, (a : Int) ∈ (aheadF u).getD b [] → P.getD a 0 < P.getD b 0 → 0 ≤ I.getD a 0) :
    ∃ d : Nat, domD u P I b = (d : Int) ∧ d < nb u ∧ 0 ≤ I.getD d 0 ∧ P.getD d 0 < P.getD b 0 ∧ (∀ a < nb u, (a : Int) ∈ (aheadF u).getD b [] → 0 ≤ I.getD a 0 → Anc I a d) ∧
      ∀ z, (∀ a < nb u, (a : Int) ∈ (aheadF u).getD b [] → 0 ≤ I.getD a 0 → Anc I a z) → Anc I d z := by
  have hrow := R.pr b hb
  obtain ⟨g1, g2, g3, g4⟩ := domS_fold R h ((aheadF u).getD b []) (-1) hrow (by omega) (by have := R.pos; omega) (fun h => by omega)
  have hD : domD u P I b = ((aheadF u).getD b []).foldl (domS P I) (-1) := rfl
  rw [← hD] at g1 g2 g3 g4
  obtain ⟨a, ha, ham, hap⟩ := R.fw b hb hb0
  have ha0 := hfw a ha ham hap
  have hnn : 0 ≤ domD u P I b := by
    apply Decidable.byContradiction
    intro hn
    have := (g3 (by omega)).2 _ ham
    rw [Int.toNat_natCast] at this
    omega
  obtain ⟨q1, q2, q3, q4⟩ := g4 hnn
  obtain ⟨d, hd⟩ : ∃ d : Nat, domD u P I b = (d : Int) := ⟨(domD u P I b).toNat, by omega⟩
  rw [hd, Int.toNat_natCast] at q1 q3 q4
  rw [hd] at g2
  have hall : ∀ a < nb u, (a : Int) ∈ (aheadF u).getD b [] → 0 ≤ I.getD a 0 → Anc I a d := fun a _ hm h0 => by have := q3 _ hm (by rw [Int.toNat_natCast]; exact h0); rwa [Int.toNat_natCast] at this
  have h3 := (h.anc (hall a ha ham ha0) ha ha0).2.2
  refine ⟨d, hd, by omega, q1, by omega, hall, fun z hz => q4 z (fun h => by omega) fun x hx h0 => ?_⟩
  have hxr := hrow x hx
  obtain ⟨a', rfl⟩ : ∃ a' : Nat, x = (a' : Int) := ⟨x.toNat, by omega⟩
  rw [Int.toNat_natCast] at h0 ⊢
  exact hz a' (by omega) hx h0
theorem j1_step {u : UnT.D} {P T I : List Int} (R : Rpo (nb u) (fun b => (aheadF u).getD b []) P T) {j : Nat} (h : J1 (nb u) (fun b => (aheadF u).getD b []) P j I) {b : Nat} (hb : b < nb u) (hb0 : b ≠ 0) (hpb : P.getD b 0 = ((j + 1 : Nat) : Int)) :
    J1 (nb u) (fun b => (aheadF u).getD b []) P (j + 1) (I.set b (domD u P I b)) ∧ I.getD b 0 < 0 ∧ 0 ≤ domD u P I b ∧ domD u P I b < nb u := by
  have hl : b < I.length := by rw [h.d.len]; exact hb
  have hIb : I.getD b 0 < 0 := by have := (h.p b hb).1; omega
  obtain ⟨d, hd, d1, d2, d3, d4, d5⟩ := domD_spec R h.d hb hb0 (fun a ha _ hp => (h.p a ha).2 (by omega))
  rw [hd]
  have hDJ := dj_set h.d hb hb0 d1 d2 d3
  have hP : ∀ x < nb u, P.getD x 0 ≤ ((j + 1 : Nat) : Int) → x ≠ b → P.getD x 0 ≤ j := fun x hx h1 h2 => by
    have : P.getD x 0 ≠ P.getD b 0 := fun e => h2 (R.inj hx hb e)
    omega
  have hset : ∀ x, (I.set b (d : Int)).getD x 0 = if b = x then (d : Int) else I.getD x 0 := fun x => getD_set _ _ _ _ hl
  refine ⟨⟨hDJ, fun x hx => ?_, fun x hx hx0 hpx => ?_, fun x hx hx0 hpx => ?_⟩, hIb, by omega, by omega⟩
  · rw [hset]
    split
    · rename_i e; rw [← e, hpb]; constructor <;> intro _ <;> omega
    · rename_i e
      rw [h.p x hx]
      exact ⟨fun h1 => by omega, fun h1 => hP x hx h1 (Ne.symm e)⟩
  · intro a ha ham hap
    rw [hset]
    by_cases e : b = x
    · subst e
      rw [if_pos rfl, Int.toNat_natCast]
      have ha0 := (h.p a ha).2 (by omega)
      exact (anc_set h.d hb _ ha ha0 hap).2 (d4 a ha ham ha0)
    · rw [if_neg e]
      have hpx' := hP x hx hpx (Ne.symm e)
      have ha0 := (h.p a ha).2 (by omega)
      exact (anc_set h.d hb _ ha ha0 (by omega)).2 (h.f x hx hx0 hpx' a ha ham hap)
  · intro z hz hall
    rw [hset]
    have key : ∀ a < nb u, 0 ≤ I.getD a 0 → Anc (I.set b (d : Int)) a z → Anc I a z := fun a ha ha0 hA => (anc_set h.d hb _ ha ha0 (by have := (h.p a ha).1 ha0; omega)).1 hA
    have hp0 : ∀ a < nb u, 0 ≤ I.getD a 0 → 0 ≤ (I.set b (d : Int)).getD a 0 := fun a ha ha0 => by
      rw [hset]; split
      · omega
      · exact ha0
    by_cases e : b = x
    · subst e
      rw [if_pos rfl, Int.toNat_natCast]
      have := d5 z fun a ha ham ha0 => key a ha ha0 (hall a ha ham (hp0 a ha ha0))
      exact (h.d.anc this d1 d2).2.2
    · rw [if_neg e]
      exact h.u x hx hx0 (hP x hx hpx (Ne.symm e)) z hz fun a ha ham ha0 => key a ha ha0 (hall a ha ham (hp0 a ha ha0))
theorem j2_step {u : UnT.D} {P T Is I : List Int} (R : Rpo (nb u) (fun b => (aheadF u).getD b []) P T) {j : Nat} (h : J2 (nb u) (fun b => (aheadF u).getD b []) P j Is I) {b : Nat} (hb : b < nb u) (hb0 : b ≠ 0) (hpb : P.getD b 0 = ((j + 1 : Nat) : Int)) :
    J2 (nb u) (fun b => (aheadF u).getD b []) P (j + 1) Is (I.set b (domD u P I b)) ∧ 0 ≤ domD u P I b ∧ domD u P I b < nb u ∧ P.getD (domD u P I b).toNat 0 ≤ P.getD (I.getD b 0).toNat 0 := by
  have hl : b < I.length := by rw [h.d.len]; exact hb
  obtain ⟨d, hd, d1, d2, d3, d4, d5⟩ := domD_spec R h.d hb hb0 (fun a ha _ _ => h.p a ha)
  rw [hd, Int.toNat_natCast]
  have hDJ := dj_set h.d hb hb0 d1 d2 d3
  have hset : ∀ x, (I.set b (d : Int)).getD x 0 = if b = x then (d : Int) else I.getD x 0 := fun x => getD_set _ _ _ _ hl
  have hP : ∀ x < nb u, P.getD x 0 ≤ ((j + 1 : Nat) : Int) → x ≠ b → P.getD x 0 ≤ j := fun x hx h1 h2 => by
    have : P.getD x 0 ≠ P.getD b 0 := fun e => h2 (R.inj hx hb e)
    omega
  obtain ⟨a, ha, ham, hap⟩ := R.fw b hb hb0
  have haj : P.getD a 0 ≤ j := by omega
  have e0 : I.getD b 0 = Is.getD b 0 := h.w b hb (by omega)
  have hFs := h.fs b hb hb0 a ha ham hap
  have hIsb := h.ds.upOk b hb (h.ps b hb)
  obtain ⟨d0, hd0⟩ : ∃ d0 : Nat, Is.getD b 0 = (d0 : Int) := ⟨(Is.getD b 0).toNat, by have := h.ps b hb; omega⟩
  rw [hd0, Int.toNat_natCast] at hFs
  rw [hd0] at e0 hIsb
  have hd0n : d0 < nb u := by omega
  have hU : P.getD d 0 ≤ P.getD d0 0 := by
    have := h.u b hb hb0 d d1 (fun a ha ham ha0 => d4 a ha ham ha0)
    rwa [e0, Int.toNat_natCast] at this
  have hup : Anc I d0 d := h.q a ha haj d0 d hFs (d4 a ha ham (h.p a ha)) hU
  have shrink : ∀ x y, Anc (I.set b (d : Int)) x y → Anc I x y := by
    intro x y hxy
    induction hxy with
    | refl x => exact .refl x
    | @up x y _ ih =>
      rw [hset] at ih
      by_cases e : b = x
      · subst e
        rw [if_pos rfl, Int.toNat_natCast] at ih
        refine .up ?_
        rw [e0, Int.toNat_natCast]
        exact hup.trans ih
      · rw [if_neg e] at ih
        exact .up ih
  have hd0b : P.getD d0 0 < P.getD b 0 := by have := (h.d.up b hb hb0 (h.p b hb)).2; rwa [e0, Int.toNat_natCast] at this
  refine ⟨⟨h.ds, hDJ, h.ps, fun x hx => ?_, h.fs, fun x hx hx0 => ?_, fun x hx hx0 hpx => ?_, fun y hy hpy x z h1 h2 h3 => ?_, fun y hy hpy => ?_⟩, by omega, by omega, by rw [e0, Int.toNat_natCast]; exact hU⟩
  · rw [hset]
    split
    · omega
    · exact h.p x hx
  · intro z hz hall
    rw [hset]
    have hall2 : ∀ a < nb u, (a : Int) ∈ (aheadF u).getD x [] → 0 ≤ I.getD a 0 → Anc I a z := fun a ha ham ha0 => shrink a z (hall a ha ham (by
      rw [hset]; split
      · omega
      · exact ha0))
    by_cases e : b = x
    · subst e
      rw [if_pos rfl, Int.toNat_natCast]
      exact (h.d.anc (d5 z hall2) d1 d2).2.2
    · rw [if_neg e]
      exact h.u x hx hx0 z hz hall2
  · intro a' ha' ham' hap'
    rw [hset]
    by_cases e : b = x
    · subst e
      rw [if_pos rfl, Int.toNat_natCast]
      exact (anc_set h.d hb _ ha' (h.p a' ha') hap').2 (d4 a' ha' ham' (h.p a' ha'))
    · rw [if_neg e]
      have hpx' := hP x hx hpx (Ne.symm e)
      exact (anc_set h.d hb _ ha' (h.p a' ha') (by omega)).2 (h.f x hx hx0 hpx' a' ha' ham' hap')
  · by_cases e : y = b
    · subst e
      cases h1 with
      | refl => exact h2
      | up h1 =>
        rw [hd0, Int.toNat_natCast] at h1
        have hx := h.ds.anc h1 hd0n (h.ps d0 hd0n)
        have hd0x := hx.2.2
        have hzb : z ≠ y := fun e => by rw [e] at h3; omega
        cases h2 with
        | refl => exact absurd rfl hzb
        | up h2 =>
          rw [hset, if_pos rfl, Int.toNat_natCast] at h2
          have h5 := shrink d z h2
          have h6 := h.q a ha haj x z (hFs.trans h1) ((d4 a ha ham (h.p a ha)).trans h5) h3
          exact (anc_set h.d hb _ hx.1 (h.p x hx.1) (by omega)).2 h6
    · have hpy' := hP y hy hpy e
      have h6 := h.q y hy hpy' x z h1 (shrink y z h2) h3
      have hx := h.ds.anc h1 hy (h.ps y hy)
      exact (anc_set h.d hb _ hx.1 (h.p x hx.1) (by omega)).2 h6
  · rw [hset, if_neg (fun e => by rw [← e, hpb] at hpy; omega)]
    exact h.w y hy (by omega)
end Go.Proofs.YtlogdohlcdhepaaDoor.base

