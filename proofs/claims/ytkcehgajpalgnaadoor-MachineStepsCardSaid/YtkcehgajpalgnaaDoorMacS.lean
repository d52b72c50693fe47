/-
  This text names a machine's cells and what is read and written there.
  No condition but what the theorems themselves say.
-/
import Derived.Test.YtkcehgajpalgnaaDoorMacQ
set_option maxRecDepth 100000
set_option linter.unusedSimpArgs false
set_option linter.unusedVariables false
namespace Go.Proofs.YtkcehgajpalgnaaDoor.base
open Go.Sh gen
variable {S : Sums} {m : Mem}
structure Ms where
  R : List Int
  T : List Int
  pc : Int
  steps : Int
  polls : Int
  state : Int
  exit : Int
def Ms.tail (M : Ms) : List Value := [.int .i64 M.pc, .int .i64 M.steps, .int .i64 M.polls, .int .i64 M.state, .int .i64 M.exit]
def Ms.cells (M : Ms) : List Value := words M.R ++ (words M.T ++ M.tail)
structure Ms.ok (M : Ms) : Prop where
  r : M.R.length = 16
  t : M.T.length = 400
  wr : Wd M.R
  wt : Wd M.T
theorem Ms.len {M : Ms} (h : M.ok) : M.cells.length = 421 := by simp [Ms.cells, Ms.tail, words, h.r, h.t]
theorem Ms.reg {M : Ms} (h : M.ok) {i : Nat} (hi : i < 16) : M.cells[i]? = some (.int .u64 (M.R.getD i 0)) := by
  rw [Ms.cells, List.getElem?_append_left (by rw [words_len, h.r]; exact hi)]
  exact words_at (by rw [h.r]; exact hi)
theorem Ms.slot {M : Ms} (h : M.ok) {i : Nat} (hi : i < 400) : M.cells[16 + i]? = some (.int .u64 (M.T.getD i 0)) := by
  rw [Ms.cells, List.getElem?_append_right (by rw [words_len, h.r]; omega), words_len, h.r, show 16 + i - 16 = i by omega, List.getElem?_append_left (by rw [words_len, h.t]; exact hi)]
  exact words_at (by rw [h.t]; exact hi)
theorem Ms.scal {M : Ms} (h : M.ok) (i : Nat) : M.cells[416 + i]? = M.tail[i]? := by
  rw [Ms.cells, List.getElem?_append_right (by rw [words_len, h.r]; omega), words_len, h.r, show 416 + i - 16 = 400 + i by omega, List.getElem?_append_right (by rw [words_len, h.t]; omega), words_len, h.t, show 400 + i - 400 = i by omega]
theorem over_eq_set {l : List Value} {i : Nat} {v : Value} (hi : i < l.length) : over l i [v] = l.set i v := by
  simp only [over, List.length_cons, List.length_nil, List.set_eq_take_append_cons_drop, if_pos hi, List.append_assoc, List.cons_append, List.nil_append]
theorem words_set (l : List Int) (i : Nat) (v : Int) : (words l).set i (.int .u64 v) = words (l.set i v) := by simp [words, List.map_set]
theorem Ms.oreg {M : Ms} (h : M.ok) {i : Nat} (hi : i < 16) (v : Int) : over M.cells i [.int .u64 v] = ({ M with R := M.R.set i v } : Ms).cells := by
  rw [over_eq_set (by rw [Ms.len h]; omega), Ms.cells, List.set_append_left _ _ (by rw [words_len, h.r]; exact hi), words_set]
  rfl
theorem Ms.oslot {M : Ms} (h : M.ok) {i : Nat} (hi : i < 400) (v : Int) : over M.cells (16 + i) [.int .u64 v] = ({ M with T := M.T.set i v } : Ms).cells := by
  rw [over_eq_set (by rw [Ms.len h]; omega), Ms.cells, List.set_append_right _ _ (by rw [words_len, h.r]; omega), words_len, h.r, show 16 + i - 16 = i by omega, List.set_append_left _ _ (by rw [words_len, h.t]; exact hi), words_set]
  rfl
theorem Ms.oscal {M : Ms} (h : M.ok) {i : Nat} (hi : i < 5) (v : Value) : over M.cells (416 + i) [v] = words M.R ++ (words M.T ++ M.tail.set i v) := by
  rw [over_eq_set (by rw [Ms.len h]; omega), Ms.cells, List.set_append_right _ _ (by rw [words_len, h.r]; omega), words_len, h.r, show 416 + i - 16 = 400 + i by omega, List.set_append_right _ _ (by rw [words_len, h.t]; omega), words_len, h.t, show 400 + i - 400 = i by omega]
theorem Ms.opc {M : Ms} (h : M.ok) (v : Int) : over M.cells 416 [.int .i64 v] = ({ M with pc := v } : Ms).cells := M.oscal h (i := 0) (by omega) _
theorem Ms.osteps {M : Ms} (h : M.ok) (v : Int) : over M.cells 417 [.int .i64 v] = ({ M with steps := v } : Ms).cells := M.oscal h (i := 1) (by omega) _
theorem Ms.opolls {M : Ms} (h : M.ok) (v : Int) : over M.cells 418 [.int .i64 v] = ({ M with polls := v } : Ms).cells := M.oscal h (i := 2) (by omega) _
theorem Ms.ostate {M : Ms} (h : M.ok) (v : Int) : over M.cells 419 [.int .i64 v] = ({ M with state := v } : Ms).cells := M.oscal h (i := 3) (by omega) _
theorem Ms.oexit {M : Ms} (h : M.ok) (v : Int) : over M.cells 420 [.int .i64 v] = ({ M with exit := v } : Ms).cells := M.oscal h (i := 4) (by omega) _
theorem Ms.ok_reg {M : Ms} (h : M.ok) (i : Nat) {v : Int} (hv : wd v) : ({ M with R := M.R.set i v } : Ms).ok := ⟨by simp [h.r], h.t, wd_set h.wr i hv, h.wt⟩
theorem Ms.ok_slot {M : Ms} (h : M.ok) (i : Nat) {v : Int} (hv : wd v) : ({ M with T := M.T.set i v } : Ms).ok := ⟨h.r, by simp [h.t], h.wr, wd_set h.wt i hv⟩
theorem Ms.ok_pc {M : Ms} (h : M.ok) (v : Int) : ({ M with pc := v } : Ms).ok := ⟨h.r, h.t, h.wr, h.wt⟩
theorem Ms.ok_steps {M : Ms} (h : M.ok) (v : Int) : ({ M with steps := v } : Ms).ok := ⟨h.r, h.t, h.wr, h.wt⟩
theorem Ms.ok_polls {M : Ms} (h : M.ok) (v : Int) : ({ M with polls := v } : Ms).ok := ⟨h.r, h.t, h.wr, h.wt⟩
theorem Ms.ok_state {M : Ms} (h : M.ok) (v : Int) : ({ M with state := v } : Ms).ok := ⟨h.r, h.t, h.wr, h.wt⟩
theorem Ms.ok_exit {M : Ms} (h : M.ok) (v : Int) : ({ M with exit := v } : Ms).ok := ⟨h.r, h.t, h.wr, h.wt⟩
abbrev MaAt (m : Mem) (b f : Nat) (M : Ms) : Prop := Own m b M.cells 37 f
end Go.Proofs.YtkcehgajpalgnaaDoor.base

