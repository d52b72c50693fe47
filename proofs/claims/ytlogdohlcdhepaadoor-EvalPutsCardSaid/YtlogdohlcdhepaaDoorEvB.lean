/-
  This text holds small facts of rows (zeros, numbers), for what follows.
  No condition.
-/
import Derived.Test.YtlogdohlcdhepaaDoorEvV
set_option maxRecDepth 100000
set_option linter.unusedSimpArgs false
set_option linter.unusedVariables false
namespace Go.Proofs.YtlogdohlcdhepaaDoor.base
open Go.Sh gen
variable {S : Sums} {m : Mem}
def zchk (P : Program) (e bt : Nat) (l : List Value) : Bool := match P.info? e with
  | some i => match i.zero with
    | some z => closedA z.cells && (z.cells.size == i.size) && (i.bytes == bt) && eqL z.cells.toList l
    | none => false
  | none => false
theorem zeros_of {P : Program} {e bt : Nat} {v : Value} (h : zchk P e bt [v] = true) (k : Nat) (hk : k * bt ≤ 281474976710656) : zerosOf P e k = some (List.replicate k v) := by
  unfold zchk at h
  unfold zerosOf
  cases hi : P.info? e with
  | none => rw [hi] at h; cases h
  | some i =>
    rw [hi] at h
    dsimp only at h ⊢
    cases hz : i.zero with
    | none => rw [hz] at h; cases h
    | some z =>
      rw [hz] at h
      dsimp only at h ⊢
      simp only [Bool.and_eq_true, beq_iff_eq] at h
      obtain ⟨⟨⟨h1, h2⟩, h3⟩, h4⟩ := h
      rw [h1, h2, h3, eqL_eq _ _ h4]
      simp [hk]
theorem zeros_i64 (k : Nat) (hk : k ≤ 1000000) : zerosOf Tryd.prog 3 k = some (List.replicate k (Value.int .i64 0)) := zeros_of (bt := 8) (by kernel_rfl) k (by omega)
theorem zeros_bool (k : Nat) (hk : k ≤ 1000000) : zerosOf Tryd.prog 4 k = some (List.replicate k (Value.bool false)) := zeros_of (bt := 1) (by kernel_rfl) k (by omega)
abbrev blkD (u : UnT.D) (at_ : Nat) : BlkT.D := (show List BlkT.D from u.2.2.2.1).getD at_ (([] : List Int), (0 : Int), (0 : Int), ([] : List Int), ([] : List Int), (0 : Int), ())
theorem blkD_eq {u : UnT.D} {i : Nat} (h : i < nb u) : blkD u i = u.2.2.2.1[i] := by
  unfold blkD
  rw [List.getD_eq_getElem?_getD, List.getElem?_eq_getElem h]; rfl
abbrev uCells (u : UnT.D) (vo bo so : Option Addr) : List Value := [.int .i64 u.1, .int .i64 u.2.1, .slice vo (nv u) (nv u), .slice bo (nb u) (nb u), .slice so (ns u) (ns u)]
abbrev stD (u : UnT.D) (st : Nat) : List FrmT.D := (show List StT.D from u.2.2.2.2.1).getD st (([] : List FrmT.D), ()) |>.1
theorem stD_eq {u : UnT.D} {i : Nat} (h : i < ns u) : stD u i = (u.2.2.2.2.1[i]).1 := by
  unfold stD
  rw [List.getD_eq_getElem?_getD, List.getElem?_eq_getElem h]; rfl
abbrev ints (l : List Int) : List Value := l.map (Value.int .i64)
abbrev bools (l : List Bool) : List Value := l.map Value.bool
theorem ints_zero (n : Nat) : List.replicate n (Value.int .i64 0) = ints (List.replicate n 0) := by simp
theorem bools_zero (n : Nat) : List.replicate n (Value.bool false) = bools (List.replicate n false) := by simp
theorem over_ints {l : List Int} {i : Nat} (v : Int) (h : i < l.length) : over (ints l) i [.int .i64 v] = ints (l.set i v) := by
  simp [over, List.set_eq_take_append_cons_drop, h, List.map_take, List.map_drop]
theorem over_bools {l : List Bool} {i : Nat} (v : Bool) (h : i < l.length) : over (bools l) i [.bool v] = bools (l.set i v) := by
  simp [over, List.set_eq_take_append_cons_drop, h, List.map_take, List.map_drop]
theorem bools_at {l : List Bool} {i : Nat} (h : i < l.length) : (bools l)[i]? = some (.bool (l.getD i false)) := by
  rw [List.getElem?_map, List.getElem?_eq_getElem h, List.getD_eq_getElem?_getD, List.getElem?_eq_getElem h]; rfl
theorem keeps_mix {m m1 m2 : Mem} {fs gs : List Nat} (h : Keeps m m1 fs) (k : Keeps m1 m2 gs) (hg : ∀ g : Nat, g < m.next → g ∈ gs → g ∈ fs) : Keeps m m2 fs :=
  ⟨Nat.le_trans h.1 k.1, fun l bl hl hb hq hf => k.2.1 l bl (Nat.lt_of_lt_of_le hl h.1) (h.2.1 l bl hl hb hq hf) (Nat.lt_of_lt_of_le hq h.1) (fun hx => hf (hg _ hq hx)), fun f hl hf => by rw [k.2.2.1 f (Nat.lt_of_lt_of_le hl h.1) (fun hx => hf (hg _ hl hx)), h.2.2.1 f hl hf], fun f hl hf => by rw [k.2.2.2 f (Nat.lt_of_lt_of_le hl h.1) (fun hx => hf (hg _ hl hx)), h.2.2.2 f hl hf]⟩
theorem fill_set (n i : Nat) (a b : Int) (h : i < n) : (List.replicate i b ++ List.replicate (n - i) a).set i b = List.replicate (i + 1) b ++ List.replicate (n - (i + 1)) a := by
  rw [List.set_append_right _ _ (by simp)]
  simp only [List.length_replicate, Nat.sub_self]
  obtain ⟨k, hk⟩ : ∃ k, n - i = k + 1 := ⟨n - i - 1, by omega⟩
  rw [hk, List.replicate_succ, List.set_cons_zero, List.replicate_succ', show n - (i + 1) = k by omega]
  simp
theorem own_seti {b f : Nat} {l : List Int} (h : Own m b (ints l) 3 f) {i : Nat} (hi : i < l.length) (v : Int) :
    ∃ m1, storeRow m ⟨b, i, none⟩ [.int .i64 v] = some m1 ∧ Own m1 b (ints (l.set i v)) 3 f ∧ Keeps m m1 [f] := by
  obtain ⟨m1, e1, o1, k1⟩ := store_own (r := _) rfl h (off := i) (vs := [.int .i64 v]) (by simp; omega) (by simp [one_int])
  rw [over_ints v hi] at o1
  exact ⟨m1, e1, o1, k1⟩
theorem own_setb {b f : Nat} {l : List Bool} (h : Own m b (bools l) 4 f) {i : Nat} (hi : i < l.length) (v : Bool) :
    ∃ m1, storeRow m ⟨b, i, none⟩ [.bool v] = some m1 ∧ Own m1 b (bools (l.set i v)) 4 f ∧ Keeps m m1 [f] := by
  obtain ⟨m1, e1, o1, k1⟩ := store_own (r := _) rfl h (off := i) (vs := [.bool v]) (by simp; omega) (by simp)
  rw [over_bools v hi] at o1
  exact ⟨m1, e1, o1, k1⟩
end Go.Proofs.YtlogdohlcdhepaaDoor.base

