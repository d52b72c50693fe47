/-
  This text proves what the cache's 'Drop' and 'Get' do, over the abstract run.
  Condition: nothing is known of the calls ahead ('S f = []').
-/
import Derived.Test.YtljklfimdanmlaaCacF
set_option maxRecDepth 100000
set_option linter.unusedSimpArgs false
set_option linter.unusedVariables false
namespace Go.Proofs.Ytljklfimdanmlaa.base
open Go.Sh gen
variable {S : Sums} {m : Mem} {cb f0 fa : Nat} {x0 x2 : Value} {a : Option Addr} {l A : List Px} {Q : Nat → Prop} {room uses : Nat}
/-- all but that key's -/
def wo (f pc : Int) (A : List Px) : List Px := A.filter fun x => !mtk f pc x
theorem mtk_iff {f pc : Int} {x : Px} : mtk f pc x = true ↔ x.f = f ∧ x.pc = pc := by simp [mtk]
theorem rem_perm {f pc : Int} {x : Px} {l' : List Px} (hA : A.Pairwise (fun x y => ¬ (x.f = y.f ∧ x.pc = y.pc))) (hx : mtk f pc x = true) (hp : A.Perm (x :: l')) : l'.Perm (wo f pc A) := by
  have hk : (x :: l').Pairwise (fun x y => ¬ (x.f = y.f ∧ x.pc = y.pc)) := hA.perm hp (fun h e => h ⟨e.1.symm, e.2.symm⟩)
  have h1 := (List.pairwise_cons.1 hk).1
  have hp2 := hp.filter (fun x => !mtk f pc x)
  rw [List.filter_cons_of_neg (by simp [hx])] at hp2
  have e : l'.filter (fun x => !mtk f pc x) = l' := by
    rw [List.filter_eq_self]
    intro y hy
    have := h1 y hy
    rw [mtk_iff] at hx
    simp only [Bool.not_eq_true', ← Bool.not_eq_true, mtk_iff]
    rw [← hx.1, ← hx.2]
    exact fun e => this ⟨e.1.symm, e.2.symm⟩
  rw [e] at hp2
  exact hp2.symm
theorem wo_none {f pc : Int} (h : ∀ x ∈ A, mtk f pc x = false) : wo f pc A = A := by
  unfold wo
  rw [List.filter_eq_self]
  intro x hx
  rw [h x hx]; rfl
theorem wo_sub (f pc : Int) (A : List Px) : (wo f pc A).Sublist A := List.filter_sublist
theorem wo_not {f pc : Int} {x : Px} (h : x ∈ wo f pc A) : mtk f pc x = false := by simpa [wo] using (List.mem_filter.1 h).2
/-- some of them stay -/
theorem CA.sub (h : CA Q m cb room uses A f0 a l fa) {m1 : Mem} {l' A' : List Px} (hh : HAt m1 cb f0 (.int .i64 room) (.int .u64 uses) a l' fa) (hp : Hp l'.length (ku l')) (pm : l'.Perm A') (hs : A'.Sublist A) : CA Q m1 cb room uses A' f0 a l' fa :=
  ⟨hh, hp, pm, h.srt.sublist hs, h.key.sublist hs, fun x hx => h.le x (hs.subset hx), h.nb.sublist hs, fun x hx y hy => h.df x (hs.subset hx) y (hs.subset hy), h.q0, h.qa, fun x hx => h.qi x (hs.subset hx), fun x hx => h.sz x (hs.subset hx), Nat.le_trans hs.length_le h.len⟩
theorem CA.some (h : CA Q m cb room uses A f0 a l fa) (h0 : l ≠ []) : a ≠ none := by
  obtain ⟨b, _, h0, _⟩ := h.h.sl.own (by simpa using h0)
  rw [h0]; simp
/-- only such families are turned -/
def KP (Q : Nat → Prop) (m m1 : Mem) : Prop := ∃ fs, Keeps m m1 fs ∧ ∀ f ∈ fs, Q f
theorem drop_run (hN : Nc S) (h : CA Q m cb room uses A f0 a l fa) (f pc : Int) :
    ∃ v m1, callw Try.prog TT S 17 [.pointer (some ⟨cb, 0, none⟩), .int .i64 f, .int .i64 pc] m = some (v, m1) ∧ v = .bool (A.any (mtk f pc)) ∧ (∃ l', CA Q m1 cb room uses (wo f pc A) f0 a l' fa) ∧ KP Q m m1 := by
  have ll := h.pm.length_eq
  have l8 := h.len
  obtain ⟨v1, m1, c1, ⟨r, rfl, hr⟩, k1⟩ := find_run hN h.h (by omega) (f := f) (pc := pc)
  have h1 := h.keep0 k1
  refine fn_w 8 [13] k17 hN.drop rfl ?_
  rcases hr with ⟨rfl, hr⟩ | ⟨i, rfl, hi, hr⟩
  · have hA : ∀ x ∈ A, mtk f pc x = false := fun x hx => hr x (h.pm.mem_iff.2 hx)
    have e : A.any (mtk f pc) = false := by simpa using hA
    rw [e, wo_none hA]
    simp [-Int.natCast_add, -BitVec.toNat_or, -BitVec.toNat_ofInt, -BitVec.toNat_and, fieldAddr_of fa63_1, mkif_of ni66, c1]
    exact ⟨⟨l, h1⟩, [], k1, by simp⟩
  · have e : A.any (mtk f pc) = true := List.any_eq_true.2 ⟨_, h.pm.mem_iff.1 (List.getElem_mem hi), hr⟩
    rw [e]
    obtain ⟨v2, m2, c2, ⟨l', hp, h2, hh2⟩, k2⟩ := hrem_run (m := m1) hN.toNh h1.h (by omega) hi h1.hp
    have n0 : ¬ (i : Int) < 0 := by omega
    simp [-Int.natCast_add, -BitVec.toNat_or, -BitVec.toNat_ofInt, -BitVec.toNat_and, fieldAddr_of fa63_1, mkif_of ni66, c1, n0, c2]
    refine ⟨⟨l', h1.sub h2 hh2 (rem_perm h.key hr (h.pm.symm.trans hp)) (wo_sub _ _ _)⟩, _, k1.nil.trans k2, fun q hq => ?_⟩
    have ha := h.some (by intro e; rw [e] at hi; simp at hi)
    simp only [List.mem_cons, List.not_mem_nil, or_false] at hq
    rcases hq with rfl | rfl
    · exact h.q0
    · exact h.qa ha
/-- one is used, or new: it is the last -/
theorem CA.add (h : CA Q m cb room uses A f0 a l fa) {R : Nat → Prop} {m1 : Mem} {l' A1 : List Px} {a' : Option Addr} {fa' uses' : Nat} {x : Px} (hh : HAt m1 cb f0 (.int .i64 room) (.int .u64 uses') a' l' fa') (hp : Hp l'.length (ku l')) (pm : l'.Perm (A1 ++ [x])) (hs : A1.Sublist A) (hq : ∀ f, Q f → R f) (hqa : a' ≠ none → R fa')
    (hu : ∀ y ∈ A1, y.used < x.used) (hu2 : x.used ≤ uses') (hu3 : uses ≤ uses') (hk : ∀ y ∈ A1, ¬ (y.f = x.f ∧ y.pc = x.pc)) (hb : ∀ y ∈ A1, y.b ≠ x.b) (hd1 : ∀ y ∈ A1, (x.sz ≠ 0 → x.cf ≠ y.b) ∧ (x.needs ≠ [] → x.nf ≠ y.b)) (hd2 : ∀ y ∈ A1, (y.sz ≠ 0 → y.cf ≠ x.b) ∧ (y.needs ≠ [] → y.nf ≠ x.b))
    (hd3 : (x.sz ≠ 0 → x.cf ≠ x.b) ∧ (x.needs ≠ [] → x.nf ≠ x.b)) (hr : R x.b ∧ (x.sz ≠ 0 → R x.cf) ∧ (x.needs ≠ [] → R x.nf)) (hz : x.sz ≤ 1048576 ∧ x.needs.length ≤ 1000) (hl : A1.length ≤ 7) : CA R m1 cb room uses' (A1 ++ [x]) f0 a' l' fa' := by
  have mem : ∀ y ∈ A1 ++ [x], (y ∈ A1 ∧ y ∈ A) ∨ y = x := fun y hy => by
    rcases List.mem_append.1 hy with hy | hy
    · exact Or.inl ⟨hy, hs.subset hy⟩
    · exact Or.inr (List.mem_singleton.1 hy)
  refine ⟨hh, hp, pm, ?_, ?_, fun y hy => ?_, ?_, fun y hy z hz => ?_, hq _ h.q0, hqa, fun y hy => ?_, fun y hy => ?_, by simp; omega⟩
  · exact List.pairwise_append.2 ⟨h.srt.sublist hs, by simp, fun y hy z hz => by rw [List.mem_singleton.1 hz]; exact hu y hy⟩
  · exact List.pairwise_append.2 ⟨h.key.sublist hs, by simp, fun y hy z hz => by rw [List.mem_singleton.1 hz]; exact hk y hy⟩
  · rcases mem y hy with hy | rfl
    · exact Nat.le_trans (h.le y hy.2) hu3
    · exact hu2
  · exact List.pairwise_append.2 ⟨h.nb.sublist hs, by simp, fun y hy z hz => by rw [List.mem_singleton.1 hz]; exact hb y hy⟩
  · rcases mem y hy with gy | gy <;> rcases mem z hz with gz | gz
    · exact h.df y gy.2 z gz.2
    · rw [gz]; exact hd2 y gy.1
    · rw [gy]; exact hd1 z gz.1
    · rw [gy, gz]; exact hd3
  · rcases mem y hy with hy | rfl
    · exact ⟨hq _ (h.qi y hy.2).1, fun z => hq _ ((h.qi y hy.2).2.1 z), fun z => hq _ ((h.qi y hy.2).2.2 z)⟩
    · exact hr
  · rcases mem y hy with hy | rfl
    · exact h.sz y hy.2
    · exact hz
end Go.Proofs.Ytljklfimdanmlaa.base

