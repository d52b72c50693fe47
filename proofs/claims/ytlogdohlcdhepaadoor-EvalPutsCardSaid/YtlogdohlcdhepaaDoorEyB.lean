/-
  This text says how a unit is laid out of parts that lie in memory, and that the way of an order and of the rounds is but one.
  No condition.
-/
import Derived.Test.YtlogdohlcdhepaaDoorEyA
set_option maxRecDepth 100000
set_option linter.unusedSimpArgs false
set_option linter.unusedVariables false
namespace Go.Proofs.YtlogdohlcdhepaaDoor.base
open Go.Sh gen
variable {S : Sums} {m : Mem} {Q : Nat → Prop}
theorem IntsAt.atQ {ao : Option Addr} {l : List Int} (h : IntsAt Q m ao l) : AtQ Q m (Ty.slice 3 (Ty.int .i64)) l [.slice ao l.length l.length] := by
  obtain ⟨f, h1, h2⟩ := h
  refine ⟨ao, l.map fun n => [Value.int .i64 n], f, rfl, by simp, fun i d c hd hc => ?_, ?_, h2⟩
  · rw [List.getElem?_map, hd] at hc
    simp only [Option.map_some, Option.some.injEq] at hc
    exact hc.symm
  · rw [← List.flatMap_def, ← List.map_eq_flatMap]
    exact h1
theorem ints_own {b f : Nat} {l : List Int} (h : Own m b (ints l) 3 f) (hq : Q f) : IntsAt Q m (some ⟨b, 0, none⟩) l := ⟨f, (Sl.of h (by simp)).rs, fun _ => hq⟩
theorem ints_nil : IntsAt Q m none [] := ⟨0, ⟨by simp, Or.inl ⟨rfl, .nil⟩⟩, fun h => absurd rfl h⟩
theorem val_atQ {x : ValT.D} {ao : Option Addr} (h : IntsAt Q m ao x.2.2.2.2.1) : AtQ Q m ValT x (valC x ao) :=
  ⟨[.int .i64 x.1], _, rfl, rfl, [.int .i64 x.2.1], _, rfl, rfl, [.int .i64 x.2.2.1], _, rfl, rfl, [.int .i64 x.2.2.2.1], _, rfl, rfl, [.slice ao x.2.2.2.2.1.length x.2.2.2.2.1.length], _, rfl, h.atQ, [.int .i64 x.2.2.2.2.2.1], [], rfl, rfl, rfl⟩
theorem blk_atQ {x : BlkT.D} {vo no po : Option Addr} (h1 : IntsAt Q m vo x.1) (h2 : IntsAt Q m no x.2.2.2.1) (h3 : IntsAt Q m po x.2.2.2.2.1) : AtQ Q m BlkT x (blkC x vo no po) :=
  ⟨[.slice vo x.1.length x.1.length], _, rfl, h1.atQ, [.int .i64 x.2.1], _, rfl, rfl, [.int .i64 x.2.2.1], _, rfl, rfl, [.slice no x.2.2.2.1.length x.2.2.2.1.length], _, rfl, h2.atQ, [.slice po x.2.2.2.2.1.length x.2.2.2.2.1.length], _, rfl, h3.atQ, [.int .i64 x.2.2.2.2.2.1], [], rfl, rfl, rfl⟩
theorem frm_atQ {x : FrmT.D} {lo so : Option Addr} (h1 : IntsAt Q m lo x.2.2.1) (h2 : IntsAt Q m so x.2.2.2.1) : AtQ Q m FrmT x (frC x lo so) :=
  ⟨[.int .i64 x.1], _, rfl, rfl, [.int .i64 x.2.1], _, rfl, rfl, [.slice lo x.2.2.1.length x.2.2.1.length], _, rfl, h1.atQ, [.slice so x.2.2.2.1.length x.2.2.2.1.length], [], rfl, h2.atQ, rfl⟩
theorem st_atQ {x : StT.D} {fo : Option Addr} (h : AtQ Q m (Ty.slice 64 (Ty.pair (Ty.int .i64) (Ty.pair (Ty.int .i64) (Ty.pair (Ty.slice 3 (Ty.int .i64)) (Ty.pair (Ty.slice 3 (Ty.int .i64)) Ty.unit))))) x.1 [.slice fo x.1.length x.1.length]) : AtQ Q m StT x [.slice fo x.1.length x.1.length] :=
  ⟨[.slice fo x.1.length x.1.length], [], rfl, h, rfl⟩
theorem row_atQ {e : TypeId} {t : Ty} {l : List t.D} {css : List (List Value)} {ao : Option Addr} {f : Nat} (hl : css.length = l.length) (h : ∀ (i : Nat) d c, l[i]? = some d → css[i]? = some c → AtQ Q m t d c) (hr : Rs m ao l.length css.flatten e t.size f) (hq : l.length ≠ 0 → Q f) : AtQ Q m (Ty.slice e t) l [.slice ao l.length l.length] :=
  ⟨ao, css, f, rfl, hl, h, hr, hq⟩
theorem words_cells {l : List Int} {e : TypeId} {css : List (List Value)} (h2 : css.length = l.length) (h3 : ∀ (i : Nat) (d : (Ty.int .u64).D) c, l[i]? = some d → css[i]? = some c → At m (Ty.int .u64) d c) : css.flatten = words l := by
  have : css = l.map fun n => [Value.int .u64 n] := by
    apply List.ext_getElem?
    intro i
    by_cases hi : i < l.length
    · have hc : i < css.length := by omega
      have := h3 i l[i] css[i] (List.getElem?_eq_getElem hi) (List.getElem?_eq_getElem hc)
      simp only [At] at this
      simp [hi, hc, this]
    · rw [List.getElem?_eq_none (by omega), List.getElem?_eq_none (by simp; omega)]
  rw [this, ← List.flatMap_def]
  exact List.map_eq_flatMap.symm
theorem words_of {l : List Int} {c : List Value} (h : AtQ Q m (Ty.slice 45 (Ty.int .u64)) l c) : ∃ ao f, c = [.slice ao l.length l.length] ∧ Rs m ao l.length (words l) 45 1 f := by
  obtain ⟨ao, css, fam, h1, h2, h3, h4, h5⟩ := h
  have := words_cells (e := 45) h2 (fun i d c h6 h7 => (h3 i d c h6 h7).at_)
  rw [this] at h4
  exact ⟨ao, fam, h1, h4⟩
theorem aframe_at {fs : List AFrT.D} {fo : Option Addr} (h : AtQ Q m (Ty.slice 44 (Ty.pair (Ty.int .i64) (Ty.pair (Ty.int .i64) (Ty.pair (Ty.slice 45 (Ty.int .u64)) (Ty.pair (Ty.slice 45 (Ty.int .u64)) Ty.unit))))) fs [.slice fo fs.length fs.length]) {i : Nat} (hi : i < fs.length) :
    ∃ (b : Nat) (lo so : Option Addr) (f1 f2 : Nat), fo = some ⟨b, 0, none⟩ ∧ loadRow m ⟨b, i * 4, none⟩ 4 = some [.int .i64 (fs[i]).1, .int .i64 (fs[i]).2.1, .slice lo (fs[i]).2.2.1.length (fs[i]).2.2.1.length, .slice so (fs[i]).2.2.2.1.length (fs[i]).2.2.2.1.length] ∧
      Rs m lo (fs[i]).2.2.1.length (words (show List Int from (fs[i]).2.2.1)) 45 1 f1 ∧ Rs m so (fs[i]).2.2.2.1.length (words (show List Int from (fs[i]).2.2.2.1)) 45 1 f2 := by
  obtain ⟨vb, c, fam, e, hc, hl, hq, _⟩ := slice_elem h hi
  obtain ⟨_, _, e1, rfl, _, _, e2, rfl, _, _, e3, h3, _, _, e4, h4, h5⟩ := hc
  simp only [AtQ] at h5
  subst h5
  obtain ⟨lo, f1, rfl, r1⟩ := words_of h3
  obtain ⟨so, f2, rfl, r2⟩ := words_of h4
  refine ⟨vb, lo, so, f1, f2, e, ?_, r1, r2⟩
  rw [e1, e2, e3, e4] at hl
  exact hl
def At2 (Q : Nat → Prop) (m : Mem) (t : Ty) : List t.D → List (List Value) → Prop
  | [], [] => True
  | d :: r, c :: s => AtQ Q m t d c ∧ At2 Q m t r s
  | _, _ => False
theorem At2.len {t : Ty} : ∀ {l : List t.D} {css : List (List Value)}, At2 Q m t l css → css.length = l.length
  | [], [], _ => rfl
  | _ :: _, _ :: _, h => by rw [List.length_cons, List.length_cons, At2.len h.2]
  | [], _ :: _, h => h.elim
  | _ :: _, [], h => h.elim
theorem At2.get {t : Ty} : ∀ {l : List t.D} {css : List (List Value)}, At2 Q m t l css → ∀ (i : Nat) d c, l[i]? = some d → css[i]? = some c → AtQ Q m t d c
  | [], [], _, i, d, c, h1, _ => by simp at h1
  | a :: r, b :: s, h, 0, d, c, h1, h2 => by simp at h1 h2; rw [← h1, ← h2]; exact h.1
  | a :: r, b :: s, h, i + 1, d, c, h1, h2 => At2.get h.2 i d c (by simpa using h1) (by simpa using h2)
  | [], _ :: _, h, _, _, _, _, _ => h.elim
  | _ :: _, [], h, _, _, _, _, _ => h.elim
theorem row_own {e : TypeId} {t : Ty} {l : List t.D} {css : List (List Value)} {b f : Nat} (h : At2 Q m t l css) (ho : Own m b css.flatten e f) (hz : l.length * t.size = css.flatten.length) (hq : Q f) : AtQ Q m (Ty.slice e t) l [.slice (some ⟨b, 0, none⟩) l.length l.length] :=
  row_atQ h.len h.get (Sl.of ho hz).rs fun _ => hq
theorem ordIt_uniq {u : UnT.D} : ∀ {D D' : Nat} {s : OSt} {a b : List Int}, ordIt u D s = some a → ordIt u D' s = some b → a = b
  | 0, 0, (_, _, []), a, b, h1, h2 => by rw [ordIt] at h1 h2; rw [h1] at h2; simpa using h2
  | 0, 0, (_, _, _ :: _), a, b, h1, h2 => by rw [ordIt] at h1; cases h1
  | 0, _ + 1, (_, _, []), a, b, h1, h2 => by rw [ordIt] at h2; cases h2
  | 0, _ + 1, (_, _, _ :: _), a, b, h1, h2 => by rw [ordIt] at h1; cases h1
  | _ + 1, 0, (_, _, []), a, b, h1, h2 => by rw [ordIt] at h1; cases h1
  | _ + 1, 0, (_, _, _ :: _), a, b, h1, h2 => by rw [ordIt] at h2; cases h2
  | _ + 1, _ + 1, (_, _, []), a, b, h1, h2 => by rw [ordIt] at h1; cases h1
  | _ + 1, _ + 1, (_, _, _ :: _), a, b, h1, h2 => by rw [ordIt] at h1 h2; exact ordIt_uniq h1 h2
theorem domIt_uniq {u : UnT.D} {P T : List Int} : ∀ {D D' : Nat} {s : List Int × Bool} {a b : List Int}, domIt u P T D s = some a → domIt u P T D' s = some b → a = b
  | 0, 0, (I, c), a, b, h1, h2 => by rw [domIt] at h1 h2; rw [h1] at h2; simpa using h2
  | 0, _ + 1, (I, c), a, b, h1, h2 => by cases c <;> simp [domIt] at h1 h2
  | _ + 1, 0, (I, c), a, b, h1, h2 => by cases c <;> simp [domIt] at h1 h2
  | _ + 1, _ + 1, (I, c), a, b, h1, h2 => by
    rw [domIt] at h1 h2
    cases c
    · simp at h1
    · rw [if_pos rfl] at h1 h2; exact domIt_uniq h1 h2
theorem checkP_of {u : UnT.D} {O I : List Int} {s : StS} (hp : preF u = some s) (hT : TermH u O I) {D D2 : Nat} {O1 I1 : List Int} (hO : ordIt u D (ord0 u) = some O1) (hl : O1.reverse.length = nb u) (hD : domIt u (placeF (nb u) O1.reverse) (O1.reverse.drop 1) D2 ((List.replicate (nb u) (-1)).set 0 0, true) = some I1) :
    checkP u O I = allF (takenF u s.1 s.2.1 (I1.set 0 (-1))) 0 (nb u) := by
  obtain ⟨D', O', h1, h2⟩ := hT.ord
  have e := ordIt_uniq hO h1
  subst e
  subst h2
  obtain ⟨J, D3, I', _, _, h3, h4⟩ := hT.dom hl
  have e2 := domIt_uniq hD h3
  subst e2
  subst h4
  unfold checkP
  rw [hp, decide_eq_true hl]
  rfl
end Go.Proofs.YtlogdohlcdhepaaDoor.base

