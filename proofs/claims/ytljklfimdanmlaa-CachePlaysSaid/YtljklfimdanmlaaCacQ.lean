/-
  This text proves, in plain Lean, that the cache and the document's are the same by what they have.
  No condition but what the theorems themselves say.
-/
import Derived.Test.YtljklfimdanmlaaCacO
set_option maxRecDepth 100000
set_option linter.unusedSimpArgs false
set_option linter.unusedVariables false
namespace Go.Proofs.Ytljklfimdanmlaa.base
open Go.Sh gen
abbrev Dt := Int × Int × Nat × List Int
def dx (x : Px) : Dt := (x.f, x.pc, x.sz, x.needs)
def dr (x : Rx) : Dt := (x.f, x.pc, x.sz, x.needs)
/-- they have the same -/
def Cor (A : List Px) (L : List Rx) : Prop := A.map dx = L.map dr
variable {A : List Px} {L : List Rx}
theorem Cor.len (h : Cor A L) : A.length = L.length := by have := congrArg List.length h; simpa using this
theorem Cor.szs (h : Cor A L) : rsizes L = sizes A := by
  have := congrArg (fun l : List Dt => (l.map (fun d => d.2.2.1)).sum) h
  simp only [List.map_map] at this
  exact this.symm
theorem Cor.keys (h : Cor A L) : kyr L = kys A := by
  have := congrArg (fun l : List Dt => l.map (fun d => (d.1, d.2.1))) h
  simp only [List.map_map] at this
  exact this.symm
theorem Cor.filter (h : Cor A L) (p : Px → Bool) (q : Rx → Bool) (P : Dt → Bool) (hp : ∀ x, p x = P (dx x)) (hq : ∀ x, q x = P (dr x)) : Cor (A.filter p) (L.filter q) := by
  have e1 : A.filter p = A.filter (P ∘ dx) := by congr 1; funext x; exact hp x
  have e2 : L.filter q = L.filter (P ∘ dr) := by congr 1; funext x; exact hq x
  unfold Cor
  rw [e1, e2, ← List.filter_map, ← List.filter_map, h]
theorem Cor.any (h : Cor A L) (p : Px → Bool) (q : Rx → Bool) (P : Dt → Bool) (hp : ∀ x, p x = P (dx x)) (hq : ∀ x, q x = P (dr x)) : A.any p = L.any q := by
  have e1 : A.any p = (A.map dx).any P := by rw [List.any_map]; congr 1; funext x; exact hp x
  have e2 : L.any q = (L.map dr).any P := by rw [List.any_map]; congr 1; funext x; exact hq x
  rw [e1, e2, h]
theorem Cor.wos (h : Cor A L) (f pc : Int) : Cor (wo f pc A) (wor f pc L) := h.filter _ _ (fun d => !(decide (d.1 = f) && decide (d.2.1 = pc))) (fun _ => rfl) (fun _ => rfl)
theorem Cor.mts (h : Cor A L) (f pc : Int) : A.any (mtk f pc) = L.any (mtr f pc) := h.any _ _ (fun d => decide (d.1 = f) && decide (d.2.1 = pc)) (fun _ => rfl) (fun _ => rfl)
theorem Cor.hits (h : Cor A L) (f : Int) : Cor (A.filter (hit f)) (L.filter (hitr f)) := h.filter _ _ (fun d => decide (d.1 = f) || isIn f d.2.2.2) (fun _ => rfl) (fun _ => rfl)
theorem Cor.nhits (h : Cor A L) (f : Int) : Cor (A.filter fun x => !hit f x) (L.filter fun x => !hitr f x) := h.filter _ _ (fun d => !(decide (d.1 = f) || isIn f d.2.2.2)) (fun _ => rfl) (fun _ => rfl)
theorem Cor.sheds (room n : Nat) : ∀ {A : List Px} {L : List Rx}, Cor A L → Cor (shed room n A).1 (rshed room n L).1 ∧ Cor (shed room n A).2 (rshed room n L).2 := by
  intro A
  induction A with
  | nil =>
    intro L h
    cases L with
    | nil => exact ⟨rfl, rfl⟩
    | cons y L => simp [Cor] at h
  | cons x A ih =>
    intro L h
    cases L with
    | nil => simp [Cor] at h
    | cons y L =>
      have hs := h.szs
      have hl := h.len
      have h2 : dx x = dr y ∧ Cor A L := by simpa [Cor] using h
      have := ih h2.2
      unfold shed rshed
      rw [hs, ← hl]
      split
      · refine ⟨?_, this.2⟩
        show dx x :: _ = dr y :: _
        rw [h2.1]
        exact congrArg _ this.1
      · exact ⟨rfl, h⟩
theorem Cor.app (h : Cor A L) {x : Px} {y : Rx} (e : dx x = dr y) : Cor (A ++ [x]) (L ++ [y]) := by
  unfold Cor at *
  rw [List.map_append, List.map_append, h, List.map_cons, List.map_cons, e]; rfl
theorem Cor.kd (h : Cor A L) (hA : A.Pairwise (fun x y => ¬ (x.f = y.f ∧ x.pc = y.pc))) : KD L := by
  have h1 : (A.map dx).Pairwise (fun a b => ¬ (a.1 = b.1 ∧ a.2.1 = b.2.1)) := List.pairwise_map.2 hA
  rw [h] at h1
  exact List.pairwise_map.1 h1
theorem Cor.same (h : Cor A L) (hA : A.Pairwise (fun x y => ¬ (x.f = y.f ∧ x.pc = y.pc))) {f pc : Int} {x : Px} {y : Rx} (hx : x ∈ A) (hy : y ∈ L) (mx : mtk f pc x = true) (my : mtr f pc y = true) : dx x = dr y := by
  have hd : dx x ∈ L.map dr := by rw [← h]; exact List.mem_map_of_mem hx
  obtain ⟨z, hz, e⟩ := List.mem_map.1 hd
  have kd := h.kd hA
  have hxk := mtk_iff.1 mx
  have hyk := mtr_iff.1 my
  have ef : z.f = x.f := congrArg (·.1) e
  have ep : z.pc = x.pc := congrArg (·.2.1) e
  have : z = y := by
    obtain ⟨i, hi, rfl⟩ := List.getElem_of_mem hz
    obtain ⟨j, hj, rfl⟩ := List.getElem_of_mem hy
    rw [KD, List.pairwise_iff_getElem] at kd
    have q : L[i].f = L[j].f ∧ L[i].pc = L[j].pc := ⟨by rw [ef, hxk.1, hyk.1], by rw [ep, hxk.2, hyk.2]⟩
    rcases Nat.lt_trichotomy i j with g | g | g
    · exact absurd q (kd i j hi hj g)
    · subst g; rfl
    · exact absurd ⟨q.1.symm, q.2.symm⟩ (kd j i hj hi g)
  rw [← e, this]
/-- the law's steps in the memory, one at a time -/
theorem st_row {m : Mem} {l : List StT.D} {cs : List Value} (ha : At m (Ty.slice 31 StT) l cs) : ∃ ao, cs = [.slice ao l.length l.length] ∧ ∀ (i : Nat) (hi : i < l.length), ∃ b na nf, ao = some ⟨b, 0, none⟩ ∧ ∀ m', Keeps m m' [] →
    loadRow m' ⟨b, i * 5, none⟩ 5 = some [.int .i64 l[i].1, .int .i64 l[i].2.1, .int .i64 l[i].2.2.1, .int .i64 l[i].2.2.2.1, .slice na (stNeeds l[i]).length (stNeeds l[i]).length] ∧ Rs m' na (stNeeds l[i]).length (ic (stNeeds l[i])) 3 1 nf := by
  obtain ⟨ao, css, fam, rfl, hcl, hce, hrs⟩ := ha
  refine ⟨ao, rfl, fun i hi => ?_⟩
  obtain ⟨b, rfl, o⟩ := hrs.rdo (by omega)
  obtain ⟨c, hc, hwin⟩ := At.elem (m := m) hcl hce hi
  obtain ⟨c1, c2, rfl, h1, c3, c4, rfl, h2, c5, c6, rfl, h3, c7, c8, rfl, h4, c9, c10, rfl, h5, h6⟩ := hc
  obtain ⟨na, css2, nf, h5e, h5l, h5c, h5r⟩ := h5
  simp only [At] at h1 h2 h3 h4 h6
  subst h1 h2 h3 h4 h6 h5e
  have hs : StT.size = 5 := rfl
  rw [hs] at hwin
  rw [ints_rows h5l h5c] at h5r
  have hfl : css.flatten.length = l.length * 5 := by have := hrs.1; rw [hs] at this; omega
  refine ⟨b, na, nf, rfl, fun m' k => ⟨?_, h5r.keep k (by simp)⟩⟩
  rw [(o.keep k (by simp)).load 5 (by rw [hfl]; omega), hwin]; rfl
end Go.Proofs.Ytljklfimdanmlaa.base

