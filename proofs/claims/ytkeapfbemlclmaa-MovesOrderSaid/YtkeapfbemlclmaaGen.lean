/-
  This text names the regions of the functions that are walked, with the slots that they read and set, and the facts of the types.
  No condition.
-/
import Derived.Test.YtkeapfbemlclmaaProg
import Derived.Test.YtkeapfbemlclmaaShD
set_option maxRecDepth 100000
set_option linter.unusedSimpArgs false
set_option linter.unusedVariables false
namespace Go.Proofs.Ytkeapfbemlclmaa.gen
open Go.Sh
def fns : List FuncId := [3, 4, 5, 6, 7, 8, 9, 10, 11, 12, 13, 14, 15, 16, 17, 18, 19, 20, 21, 22, 23, 40, 41, 42, 43, 44]
noncomputable def TT : FuncId → Option Func := Sh.tabOf Try.prog fns
variable {S : Sums} {m : Mem} {k : List Fr} {E : LEnv} {Q : Post}
/-- a region's stripped operations -/
abbrev Lt (c : Code) := {l : List Oper // (opsOf c).map strip = l}
abbrev Lc (c : Code) := {l : List Oper // (canonOps (opsOf c)).map strip = l}
/-- what a region comes to -/
abbrev Wp (c : Code) (nv : Nat) (C ups cs nd : List Nat) (ds : List (Option Nat)) (l : List Oper) : Prop := ∀ {S : Sums} {m : Mem} {k : List Fr} {E : LEnv} {Q : Post}, W Try.prog TT S nv C c k E m Q ↔ Rg Try.prog TT S nv C ups cs (lgo E nd (lops Try.prog (callw Try.prog TT S) ds l E m)) k E Q
abbrev Wd (c : Code) (nv : Nat) (C ups cs nd : List Nat) (ds : List (Option Nat)) (l : List Oper) (places : List (Nat × List Nat)) : Prop := ∀ {S : Sums} {m : Mem} {k : List Fr} {E : LEnv} {Q : Post}, W Try.prog TT S nv C c k E m Q ↔ Rg Try.prog TT S nv C ups cs (lgo E nd (lloud Try.prog (callw Try.prog TT S) ds l places (lstates Try.prog (callw Try.prog TT S) ds l E m))) k E Q
theorem ag27 : aggOk Try.prog 27 [(3, 0), (3, 1)] = true := by kernel_rfl
theorem ap27 : apOk Try.prog 27 2 16 = true := by kernel_rfl
theorem ap3 : apOk Try.prog 3 1 8 = true := by kernel_rfl
theorem b44 : (Try.prog.info? 44).isSome = true := by kernel_rfl
theorem bo27 : buildOk Try.prog 27 [.int .i64 0, .int .i64 0] [(0, 1), (1, 1)] = true := by kernel_rfl
theorem bo44 : buildOk Try.prog 44 [.map none, .map none, .slice none 0 0, .slice none 0 0] [(0, 1), (1, 1), (2, 1), (3, 1)] = true := by kernel_rfl
theorem bs27 : bsOk Try.prog 27 [.int .i64 0, .int .i64 0] = true := by kernel_rfl
theorem bs3 : bsOk Try.prog 3 [.int .i64 0] = true := by kernel_rfl
theorem fa27_0 : faOk Try.prog 27 0 0 = true := by kernel_rfl
theorem fa27_1 : faOk Try.prog 27 1 1 = true := by kernel_rfl
theorem fa44_0 : faOk Try.prog 44 0 0 = true := by kernel_rfl
theorem fa44_1 : faOk Try.prog 44 1 1 = true := by kernel_rfl
theorem fa44_2 : faOk Try.prog 44 2 2 = true := by kernel_rfl
theorem fa44_3 : faOk Try.prog 44 3 3 = true := by kernel_rfl
theorem ld22 : ldOk Try.prog 22 = true := by kernel_rfl
theorem ld27 : agOk Try.prog 27 2 = true := by kernel_rfl
theorem ld3 : ldOk Try.prog 3 = true := by kernel_rfl
theorem ld40 : ldOk Try.prog 40 = true := by kernel_rfl
theorem ld42 : ldOk Try.prog 42 = true := by kernel_rfl
theorem ni3 : noIf Try.prog 3 = true := by kernel_rfl
theorem ni46 : noIf Try.prog 46 = true := by kernel_rfl
theorem sz10 : sizeOfT Try.prog 10 = some 1 := by kernel_rfl
theorem sz11 : sizeOfT Try.prog 11 = some 1 := by kernel_rfl
theorem sz12 : sizeOfT Try.prog 12 = some 1 := by kernel_rfl
theorem sz2 : sizeOfT Try.prog 2 = some 1 := by kernel_rfl
theorem sz21 : sizeOfT Try.prog 21 = some 1 := by kernel_rfl
theorem sz22 : sizeOfT Try.prog 22 = some 1 := by kernel_rfl
theorem sz23 : sizeOfT Try.prog 23 = some 1 := by kernel_rfl
theorem sz27 : sizeOfT Try.prog 27 = some 2 := by kernel_rfl
theorem sz3 : sizeOfT Try.prog 3 = some 1 := by kernel_rfl
theorem sz4 : sizeOfT Try.prog 4 = some 1 := by kernel_rfl
theorem sz41 : sizeOfT Try.prog 41 = some 1 := by kernel_rfl
theorem sz42 : sizeOfT Try.prog 42 = some 1 := by kernel_rfl
theorem sz5 : sizeOfT Try.prog 5 = some 1 := by kernel_rfl
theorem sz6 : sizeOfT Try.prog 6 = some 1 := by kernel_rfl
theorem sz64 : sizeOfT Try.prog 64 = some 1 := by kernel_rfl
theorem sz65 : sizeOfT Try.prog 65 = some 1 := by kernel_rfl
theorem sz66 : sizeOfT Try.prog 66 = some 1 := by kernel_rfl
theorem sz69 : sizeOfT Try.prog 69 = some 1 := by kernel_rfl
theorem sz70 : sizeOfT Try.prog 70 = some 1 := by kernel_rfl
theorem sz9 : sizeOfT Try.prog 9 = some 1 := by kernel_rfl
theorem u10 : Try.prog.underlying 10 = some .string := by kernel_rfl
theorem u11 : Try.prog.underlying 11 = some .string := by kernel_rfl
theorem u12 : Try.prog.underlying 12 = some (.int .u64) := by kernel_rfl
theorem u2 : Try.prog.underlying 2 = some (.int .i64) := by kernel_rfl
theorem u21 : Try.prog.underlying 21 = some (.int .i32) := by kernel_rfl
theorem u22 : Try.prog.underlying 22 = some (.slice 27) := by kernel_rfl
theorem u23 : Try.prog.underlying 23 = some (.int .i64) := by kernel_rfl
theorem u3 : Try.prog.underlying 3 = some (.int .i64) := by kernel_rfl
theorem u37 : Try.prog.underlying 37 = some (.map 3 4) := by kernel_rfl
theorem u4 : Try.prog.underlying 4 = some .bool := by kernel_rfl
theorem u40 : Try.prog.underlying 40 = some (.map 3 3) := by kernel_rfl
theorem u41 : Try.prog.underlying 41 = some (.slice 3) := by kernel_rfl
theorem u42 : Try.prog.underlying 42 = some (.slice 3) := by kernel_rfl
theorem u5 : Try.prog.underlying 5 = some (.int .u8) := by kernel_rfl
theorem u6 : Try.prog.underlying 6 = some (.int .u8) := by kernel_rfl
theorem u64 : Try.prog.underlying 64 = some (.int .u32) := by kernel_rfl
theorem u65 : Try.prog.underlying 65 = some (.int .u8) := by kernel_rfl
theorem u66 : Try.prog.underlying 66 = some (.int .u8) := by kernel_rfl
theorem u69 : Try.prog.underlying 69 = some (.int .i32) := by kernel_rfl
theorem u70 : Try.prog.underlying 70 = some (.int .i32) := by kernel_rfl
theorem u9 : Try.prog.underlying 9 = some .string := by kernel_rfl
theorem zo27 : zeroOk Try.prog 27 [.int .i64 0, .int .i64 0] = true := by kernel_rfl
theorem zv3 : zvOk Try.prog 3 (.int .i64 0) = true := by kernel_rfl
theorem zv4 : zvOk Try.prog 4 (.bool false) = true := by kernel_rfl

/- turnstonelaw23.MovesOrder -/
noncomputable def c4 : Code := bodyOf Try.f4
noncomputable def r4_0 : Code := Code.sub [0] c4
noncomputable def r4_1 : Code := Code.sub [1, 0] c4
noncomputable def r4_2 : Code := Code.sub [1, 1, 0] c4
noncomputable def r4_3 : Code := Code.sub [1, 1, 1, 0] c4
noncomputable def r4_4 : Code := Code.sub [1, 1, 1, 1, 0] c4
noncomputable def r4_5 : Code := Code.sub [1, 1, 1, 1, 1, 0, 0] c4
noncomputable def r4_6 : Code := Code.sub [1, 1, 1, 1, 1, 0, 1, 0, 0] c4
noncomputable def r4_7 : Code := Code.sub [1, 1, 1, 1, 1, 1, 0] c4
noncomputable def r4_8 : Code := Code.sub [1, 1, 1, 1, 1, 1, 1, 0, 0] c4
noncomputable def r4_9 : Code := Code.sub [1, 1, 1, 1, 1, 1, 1, 0, 1, 0, 0, 0, 0] c4
noncomputable def r4_10 : Code := Code.sub [1, 1, 1, 1, 1, 1, 1, 0, 1, 0, 0, 1, 0, 0, 0, 0] c4
noncomputable def r4_11 : Code := Code.sub [1, 1, 1, 1, 1, 1, 1, 0, 1, 0, 0, 1, 0, 0, 0, 1, 0, 0] c4
noncomputable def r4_12 : Code := Code.sub [1, 1, 1, 1, 1, 1, 1, 0, 1, 0, 0, 1, 0, 0, 1, 0] c4
noncomputable def r4_13 : Code := Code.sub [1, 1, 1, 1, 1, 1, 1, 0, 1, 0, 0, 1, 0, 0, 1, 1, 0] c4
noncomputable def r4_14 : Code := Code.sub [1, 1, 1, 1, 1, 1, 1, 0, 1, 0, 0, 1, 1] c4
noncomputable def r4_15 : Code := Code.sub [1, 1, 1, 1, 1, 1, 1, 1, 0] c4
theorem body4 : c4 = (.seq r4_0 (.seq r4_1 (.seq r4_2 (.seq r4_3 (.seq r4_4 (.seq (.seq r4_5 (.cond (.tmp 47) (.seq r4_6 .ret) .skip)) (.seq r4_7 (.seq (.seq r4_8 (.block 0 (.loop (.seq (.seq r4_9 (.cond (.tmp 53) .skip (.exit 0))) (.seq (.block 1 (.seq (.seq r4_10 (.cond (.tmp 64) (.seq r4_11 .ret) .skip)) (.seq r4_12 (.cond (.tmp 75) r4_13 .skip)))) r4_14))))) (.seq r4_15 .ret))))))))) := by kernel_rfl
noncomputable def L4_0 : Lt r4_0 := by refine ⟨?l, ?h⟩; case h => simp only [r4_0, c4, bodyOf, Try.f4, Code.sub, opsOf, List.map_cons, List.map_nil, strip]; rfl
theorem w4_0 : Wp r4_0 13 [47, 53, 64, 75] [6] [] [] [some 6] (L4_0).1 := w_plain (by kernel_rfl) (L4_0).2
noncomputable def L4_1 : Lt r4_1 := by refine ⟨?l, ?h⟩; case h => simp only [r4_1, c4, bodyOf, Try.f4, Code.sub, opsOf, List.map_cons, List.map_nil, strip]; rfl
theorem w4_1 : Wp r4_1 13 [47, 53, 64, 75] [7] [] [0, 1] [some 13, some 14, some 15, some 7] (L4_1).1 := w_plain (by kernel_rfl) (L4_1).2
noncomputable def L4_2 : Lt r4_2 := by refine ⟨?l, ?h⟩; case h => simp only [r4_2, c4, bodyOf, Try.f4, Code.sub, opsOf, List.map_cons, List.map_nil, strip]; rfl
theorem w4_2 : Wp r4_2 13 [47, 53, 64, 75] [2] [] [2] [some 16, some 17, some 18, some 2] (L4_2).1 := w_plain (by kernel_rfl) (L4_2).2
noncomputable def L4_3 : Lt r4_3 := by refine ⟨?l, ?h⟩; case h => simp only [r4_3, c4, bodyOf, Try.f4, Code.sub, opsOf, List.map_cons, List.map_nil, strip]; rfl
theorem w4_3 : Wp r4_3 13 [47, 53, 64, 75] [8] [] [7] [some 19, some 20, some 21, some 8] (L4_3).1 := w_plain (by kernel_rfl) (L4_3).2
noncomputable def L4_4 : Lt r4_4 := by refine ⟨?l, ?h⟩; case h => simp only [r4_4, c4, bodyOf, Try.f4, Code.sub, opsOf, List.map_cons, List.map_nil, strip]; rfl
theorem w4_4 : Wp r4_4 13 [47, 53, 64, 75] [9, 10] [] [8, 2] [some 23, some 24, some 25, some 22, some 26, some 27, some 9, some 10] (L4_4).1 := w_plain (by kernel_rfl) (L4_4).2
noncomputable def L4_5 : Lt r4_5 := by refine ⟨?l, ?h⟩; case h => simp only [r4_5, c4, bodyOf, Try.f4, Code.sub, opsOf, List.map_cons, List.map_nil, strip]; rfl
theorem w4_5 : Wp r4_5 13 [47, 53, 64, 75] [] [47] [10, 9, 2, 8, 7] [some 28, some 29, some 30, some 31, some 32, some 33, some 34, some 35, some 36, some 37, some 38, some 39, some 40, some 41, some 42, some 43, some 44, some 45, some 46, some 47] (L4_5).1 := w_plain (by kernel_rfl) (L4_5).2
noncomputable def L4_6 : Lt r4_6 := by refine ⟨?l, ?h⟩; case h => simp only [r4_6, c4, bodyOf, Try.f4, Code.sub, opsOf, List.map_cons, List.map_nil, strip]; rfl
theorem w4_6 : Wp r4_6 13 [47, 53, 64, 75] [6] [] [] [some 6] (L4_6).1 := w_plain (by kernel_rfl) (L4_6).2
noncomputable def L4_7 : Lt r4_7 := by refine ⟨?l, ?h⟩; case h => simp only [r4_7, c4, bodyOf, Try.f4, Code.sub, opsOf, List.map_cons, List.map_nil, strip]; rfl
theorem w4_7 : Wp r4_7 13 [47, 53, 64, 75] [11] [] [7] [some 48, some 49, some 11] (L4_7).1 := w_plain (by kernel_rfl) (L4_7).2
noncomputable def L4_8 : Lt r4_8 := by refine ⟨?l, ?h⟩; case h => simp only [r4_8, c4, bodyOf, Try.f4, Code.sub, opsOf, List.map_cons, List.map_nil, strip]; rfl
theorem w4_8 : Wp r4_8 13 [47, 53, 64, 75] [12] [] [] [some 12] (L4_8).1 := w_plain (by kernel_rfl) (L4_8).2
noncomputable def L4_9 : Lt r4_9 := by refine ⟨?l, ?h⟩; case h => simp only [r4_9, c4, bodyOf, Try.f4, Code.sub, opsOf, List.map_cons, List.map_nil, strip]; rfl
theorem w4_9 : Wp r4_9 13 [47, 53, 64, 75] [] [53] [12, 7] [some 50, some 51, some 52, some 53] (L4_9).1 := w_plain (by kernel_rfl) (L4_9).2
noncomputable def L4_10 : Lt r4_10 := by refine ⟨?l, ?h⟩; case h => simp only [r4_10, c4, bodyOf, Try.f4, Code.sub, opsOf, List.map_cons, List.map_nil, strip]; rfl
theorem w4_10 : Wp r4_10 13 [47, 53, 64, 75] [] [64] [8, 7, 12] [some 56, some 57, some 58, some 59, some 60, some 61, some 62, some 63, some 64] (L4_10).1 := w_plain (by kernel_rfl) (L4_10).2
noncomputable def L4_11 : Lt r4_11 := by refine ⟨?l, ?h⟩; case h => simp only [r4_11, c4, bodyOf, Try.f4, Code.sub, opsOf, List.map_cons, List.map_nil, strip]; rfl
theorem w4_11 : Wp r4_11 13 [47, 53, 64, 75] [6] [] [] [some 6] (L4_11).1 := w_plain (by kernel_rfl) (L4_11).2
noncomputable def L4_12 : Lt r4_12 := by refine ⟨?l, ?h⟩; case h => simp only [r4_12, c4, bodyOf, Try.f4, Code.sub, opsOf, List.map_cons, List.map_nil, strip]; rfl
theorem w4_12 : Wp r4_12 13 [47, 53, 64, 75] [] [75] [7, 12] [some 65, some 66, some 67, some 68, some 69, some 70, some 71, some 72, some 73, some 74, some 75] (L4_12).1 := w_plain (by kernel_rfl) (L4_12).2
noncomputable def L4_13 : Lt r4_13 := by refine ⟨?l, ?h⟩; case h => simp only [r4_13, c4, bodyOf, Try.f4, Code.sub, opsOf, List.map_cons, List.map_nil, strip]; rfl
theorem w4_13 : Wp r4_13 13 [47, 53, 64, 75] [11] [] [11] [some 76, some 77, some 11] (L4_13).1 := w_plain (by kernel_rfl) (L4_13).2
noncomputable def L4_14 : Lt r4_14 := by refine ⟨?l, ?h⟩; case h => simp only [r4_14, c4, bodyOf, Try.f4, Code.sub, opsOf, List.map_cons, List.map_nil, strip]; rfl
theorem w4_14 : Wp r4_14 13 [47, 53, 64, 75] [12] [] [12] [some 54, some 55, some 12] (L4_14).1 := w_plain (by kernel_rfl) (L4_14).2
noncomputable def L4_15 : Lt r4_15 := by refine ⟨?l, ?h⟩; case h => simp only [r4_15, c4, bodyOf, Try.f4, Code.sub, opsOf, List.map_cons, List.map_nil, strip]; rfl
theorem w4_15 : Wp r4_15 13 [47, 53, 64, 75] [6] [] [9, 11] [some 78, some 79, some 80, some 81, some 6] (L4_15).1 := w_plain (by kernel_rfl) (L4_15).2
theorem k4 : FnIs TT 4 c4 [.tmp 6] 3 := ⟨Try.f4, by kernel_rfl, by simp only [Try.f4, c4, bodyOf], by kernel_rfl, of_decide_eq_true (by kernel_rfl)⟩

/- turnstonelaw23.MovesRight -/
noncomputable def c5 : Code := bodyOf Try.f5
noncomputable def r5_0 : Code := Code.sub [0] c5
noncomputable def r5_1 : Code := Code.sub [1, 0, 0] c5
noncomputable def r5_2 : Code := Code.sub [1, 0, 1, 0, 0] c5
noncomputable def r5_3 : Code := Code.sub [1, 0, 1, 0, 1, 0, 0] c5
noncomputable def r5_4 : Code := Code.sub [1, 0, 1, 0, 1, 0, 1, 0, 0, 0, 0] c5
noncomputable def r5_5 : Code := Code.sub [1, 0, 1, 0, 1, 0, 1, 0, 0, 1, 0, 0] c5
noncomputable def r5_6 : Code := Code.sub [1, 0, 1, 0, 1, 0, 1, 0, 0, 1, 1] c5
noncomputable def r5_7 : Code := Code.sub [1, 0, 1, 0, 1, 1, 0] c5
noncomputable def r5_8 : Code := Code.sub [1, 0, 1, 0, 1, 1, 1] c5
noncomputable def r5_9 : Code := Code.sub [1, 1, 0] c5
noncomputable def r5_10 : Code := Code.sub [1, 1, 1, 0] c5
noncomputable def r5_11 : Code := Code.sub [1, 1, 1, 1, 0, 0] c5
noncomputable def r5_12 : Code := Code.sub [1, 1, 1, 1, 0, 1, 0, 0, 0, 0] c5
noncomputable def r5_13 : Code := Code.sub [1, 1, 1, 1, 0, 1, 0, 0, 1, 0, 0] c5
noncomputable def r5_14 : Code := Code.sub [1, 1, 1, 1, 0, 1, 0, 0, 1, 1] c5
noncomputable def r5_15 : Code := Code.sub [1, 1, 1, 1, 1, 0] c5
noncomputable def r5_16 : Code := Code.sub [1, 1, 1, 1, 1, 1, 0] c5
theorem body5 : c5 = (.seq r5_0 (.seq (.seq r5_1 (.cond (.tmp 14) (.seq r5_2 (.seq (.seq r5_3 (.block 0 (.loop (.seq (.seq r5_4 (.cond (.tmp 18) .skip (.exit 0))) (.seq (.block 1 r5_5) r5_6))))) (.seq r5_7 r5_8))) .skip)) (.seq r5_9 (.seq r5_10 (.seq (.seq r5_11 (.block 2 (.loop (.seq (.seq r5_12 (.cond (.tmp 54) .skip (.exit 2))) (.seq (.block 3 r5_13) r5_14))))) (.seq r5_15 (.seq r5_16 .ret))))))) := by kernel_rfl
noncomputable def L5_0 : Lt r5_0 := by refine ⟨?l, ?h⟩; case h => simp only [r5_0, c5, bodyOf, Try.f5, Code.sub, opsOf, List.map_cons, List.map_nil, strip]; rfl
theorem w5_0 : Wp r5_0 14 [14, 18, 54] [6] [] [] [some 6] (L5_0).1 := w_plain (by kernel_rfl) (L5_0).2
noncomputable def L5_1 : Lt r5_1 := by refine ⟨?l, ?h⟩; case h => simp only [r5_1, c5, bodyOf, Try.f5, Code.sub, opsOf, List.map_cons, List.map_nil, strip]; rfl
theorem w5_1 : Wp r5_1 14 [14, 18, 54] [] [14] [2] [some 14] (L5_1).1 := w_plain (by kernel_rfl) (L5_1).2
noncomputable def L5_2 : Lt r5_2 := by refine ⟨?l, ?h⟩; case h => simp only [r5_2, c5, bodyOf, Try.f5, Code.sub, opsOf, List.map_cons, List.map_nil, strip]; rfl
theorem w5_2 : Wp r5_2 14 [14, 18, 54] [7] [] [] [some 7] (L5_2).1 := w_plain (by kernel_rfl) (L5_2).2
noncomputable def L5_3 : Lt r5_3 := by refine ⟨?l, ?h⟩; case h => simp only [r5_3, c5, bodyOf, Try.f5, Code.sub, opsOf, List.map_cons, List.map_nil, strip]; rfl
theorem w5_3 : Wp r5_3 14 [14, 18, 54] [8] [] [] [some 8] (L5_3).1 := w_plain (by kernel_rfl) (L5_3).2
noncomputable def L5_4 : Lt r5_4 := by refine ⟨?l, ?h⟩; case h => simp only [r5_4, c5, bodyOf, Try.f5, Code.sub, opsOf, List.map_cons, List.map_nil, strip]; rfl
theorem w5_4 : Wp r5_4 14 [14, 18, 54] [] [18] [8, 0] [some 15, some 16, some 17, some 18] (L5_4).1 := w_plain (by kernel_rfl) (L5_4).2
theorem can5_5 : canonOps (opsOf r5_5) = List.filterMap (fun i => ((opsOf r5_5)[i]?).map (renum [0, 1, 2, 3, 4, 5, 6, 7, 8, 9, 10, 11, 12, 13, 14, 15, 16, 17, 18])) [0, 1, 2, 3, 4, 5, 6, 7, 8, 9, 10, 11, 12, 13, 14, 15, 16, 17, 18] := by kernel_rfl
noncomputable def L5_5 : Lc r5_5 := by refine ⟨?l, (congrArg (List.map strip) can5_5).trans ?h⟩; case h => simp only [r5_5, c5, bodyOf, Try.f5, Code.sub, opsOf, List.filterMap_cons, List.filterMap_nil, List.getElem?_cons_succ, List.getElem?_cons_zero, Option.map_some, renum, List.map_cons, List.map_nil, strip]; rfl
theorem w5_5 : Wd r5_5 14 [14, 18, 54] [7] [] [7, 0, 8] [some 21, some 22, some 23, some 24, some 25, some 26, some 27, some 28, some 29, some 30, some 31, some 32, some 33, some 34, some 35, some 36, some 37, some 38, some 7] (L5_5).1 [(5, [6]), (12, [6, 13])] := w_loud (by kernel_rfl) (L5_5).2
noncomputable def L5_6 : Lt r5_6 := by refine ⟨?l, ?h⟩; case h => simp only [r5_6, c5, bodyOf, Try.f5, Code.sub, opsOf, List.map_cons, List.map_nil, strip]; rfl
theorem w5_6 : Wp r5_6 14 [14, 18, 54] [8] [] [8] [some 19, some 20, some 8] (L5_6).1 := w_plain (by kernel_rfl) (L5_6).2
noncomputable def L5_7 : Lt r5_7 := by refine ⟨?l, ?h⟩; case h => simp only [r5_7, c5, bodyOf, Try.f5, Code.sub, opsOf, List.map_cons, List.map_nil, strip]; rfl
theorem w5_7 : Wp r5_7 14 [14, 18, 54] [0] [] [7] [some 39, some 0] (L5_7).1 := w_plain (by kernel_rfl) (L5_7).2
noncomputable def L5_8 : Lt r5_8 := by refine ⟨?l, ?h⟩; case h => simp only [r5_8, c5, bodyOf, Try.f5, Code.sub, opsOf, List.map_cons, List.map_nil, strip]; rfl
theorem w5_8 : Wp r5_8 14 [14, 18, 54] [1] [] [1] [some 40, some 41, some 42, some 1] (L5_8).1 := w_plain (by kernel_rfl) (L5_8).2
noncomputable def L5_9 : Lt r5_9 := by refine ⟨?l, ?h⟩; case h => simp only [r5_9, c5, bodyOf, Try.f5, Code.sub, opsOf, List.map_cons, List.map_nil, strip]; rfl
theorem w5_9 : Wp r5_9 14 [14, 18, 54] [9] [] [0] [some 43, some 44, some 9] (L5_9).1 := w_plain (by kernel_rfl) (L5_9).2
noncomputable def L5_10 : Lt r5_10 := by refine ⟨?l, ?h⟩; case h => simp only [r5_10, c5, bodyOf, Try.f5, Code.sub, opsOf, List.map_cons, List.map_nil, strip]; rfl
theorem w5_10 : Wp r5_10 14 [14, 18, 54] [10] [] [1] [some 45, some 46, some 47, some 48, some 49, some 50, some 10] (L5_10).1 := w_plain (by kernel_rfl) (L5_10).2
noncomputable def L5_11 : Lt r5_11 := by refine ⟨?l, ?h⟩; case h => simp only [r5_11, c5, bodyOf, Try.f5, Code.sub, opsOf, List.map_cons, List.map_nil, strip]; rfl
theorem w5_11 : Wp r5_11 14 [14, 18, 54] [11] [] [] [some 11] (L5_11).1 := w_plain (by kernel_rfl) (L5_11).2
noncomputable def L5_12 : Lt r5_12 := by refine ⟨?l, ?h⟩; case h => simp only [r5_12, c5, bodyOf, Try.f5, Code.sub, opsOf, List.map_cons, List.map_nil, strip]; rfl
theorem w5_12 : Wp r5_12 14 [14, 18, 54] [] [54] [11, 0] [some 51, some 52, some 53, some 54] (L5_12).1 := w_plain (by kernel_rfl) (L5_12).2
noncomputable def L5_13 : Lt r5_13 := by refine ⟨?l, ?h⟩; case h => simp only [r5_13, c5, bodyOf, Try.f5, Code.sub, opsOf, List.map_cons, List.map_nil, strip]; rfl
theorem w5_13 : Wp r5_13 14 [14, 18, 54] [10] [] [10, 0, 11, 1] [some 57, some 58, some 59, some 60, some 61, some 62, some 63, some 64, some 65, some 66, some 67, some 68, some 69, some 70, some 71, some 72, some 73, some 74, some 75, some 10] (L5_13).1 := w_plain (by kernel_rfl) (L5_13).2
noncomputable def L5_14 : Lt r5_14 := by refine ⟨?l, ?h⟩; case h => simp only [r5_14, c5, bodyOf, Try.f5, Code.sub, opsOf, List.map_cons, List.map_nil, strip]; rfl
theorem w5_14 : Wp r5_14 14 [14, 18, 54] [11] [] [11] [some 55, some 56, some 11] (L5_14).1 := w_plain (by kernel_rfl) (L5_14).2
noncomputable def L5_15 : Lt r5_15 := by refine ⟨?l, ?h⟩; case h => simp only [r5_15, c5, bodyOf, Try.f5, Code.sub, opsOf, List.map_cons, List.map_nil, strip]; rfl
theorem w5_15 : Wp r5_15 14 [14, 18, 54] [12, 13] [] [0, 1] [some 77, some 78, some 79, some 76, some 80, some 81, some 12, some 13] (L5_15).1 := w_plain (by kernel_rfl) (L5_15).2
noncomputable def L5_16 : Lt r5_16 := by refine ⟨?l, ?h⟩; case h => simp only [r5_16, c5, bodyOf, Try.f5, Code.sub, opsOf, List.map_cons, List.map_nil, strip]; rfl
theorem w5_16 : Wp r5_16 14 [14, 18, 54] [6] [] [0, 9, 10, 13, 12] [some 82, some 83, some 84, some 85, some 86, some 87, some 88, some 89, some 90, some 91, some 92, some 93, some 94, some 95, some 96, some 97, some 98, some 99, some 100, some 101, some 102, some 103, some 104, some 105, some 106, some 107, some 108, some 109, some 110, some 6] (L5_16).1 := w_plain (by kernel_rfl) (L5_16).2
theorem k5 : FnIs TT 5 c5 [.tmp 6] 3 := ⟨Try.f5, by kernel_rfl, by simp only [Try.f5, c5, bodyOf], by kernel_rfl, of_decide_eq_true (by kernel_rfl)⟩

/- turnstonelaw23.MovesRing -/
noncomputable def c6 : Code := bodyOf Try.f6
noncomputable def r6_0 : Code := Code.sub [0] c6
noncomputable def r6_1 : Code := Code.sub [1, 0] c6
noncomputable def r6_2 : Code := Code.sub [1, 1, 0] c6
noncomputable def r6_3 : Code := Code.sub [1, 1, 1, 0, 0] c6
noncomputable def r6_4 : Code := Code.sub [1, 1, 1, 0, 1, 0, 0, 0, 0] c6
noncomputable def r6_5 : Code := Code.sub [1, 1, 1, 0, 1, 0, 0, 1, 0, 0, 0, 0] c6
noncomputable def r6_6 : Code := Code.sub [1, 1, 1, 0, 1, 0, 0, 1, 0, 0, 1] c6
noncomputable def r6_7 : Code := Code.sub [1, 1, 1, 0, 1, 0, 0, 1, 1] c6
noncomputable def r6_8 : Code := Code.sub [1, 1, 1, 1, 0] c6
noncomputable def r6_9 : Code := Code.sub [1, 1, 1, 1, 1, 0] c6
noncomputable def r6_10 : Code := Code.sub [1, 1, 1, 1, 1, 1, 0, 0] c6
noncomputable def r6_11 : Code := Code.sub [1, 1, 1, 1, 1, 1, 0, 1, 0] c6
noncomputable def r6_12 : Code := Code.sub [1, 1, 1, 1, 1, 1, 1, 0] c6
theorem body6 : c6 = (.seq r6_0 (.seq r6_1 (.seq r6_2 (.seq (.seq r6_3 (.block 0 (.loop (.seq (.seq r6_4 (.cond (.tmp 15) .skip (.exit 0))) (.seq (.block 1 (.seq (.seq r6_5 (.cond (.tmp 24) (.exit 0) .skip)) r6_6)) r6_7))))) (.seq r6_8 (.seq r6_9 (.seq (.seq r6_10 (.cond (.tmp 41) r6_11 .skip)) (.seq r6_12 .ret)))))))) := by kernel_rfl
noncomputable def L6_0 : Lt r6_0 := by refine ⟨?l, ?h⟩; case h => simp only [r6_0, c6, bodyOf, Try.f6, Code.sub, opsOf, List.map_cons, List.map_nil, strip]; rfl
theorem w6_0 : Wp r6_0 10 [15, 24, 41] [4] [] [] [some 4] (L6_0).1 := w_plain (by kernel_rfl) (L6_0).2
noncomputable def L6_1 : Lt r6_1 := by refine ⟨?l, ?h⟩; case h => simp only [r6_1, c6, bodyOf, Try.f6, Code.sub, opsOf, List.map_cons, List.map_nil, strip]; rfl
theorem w6_1 : Wp r6_1 10 [15, 24, 41] [0] [] [0] [some 10, some 11, some 12, some 0] (L6_1).1 := w_plain (by kernel_rfl) (L6_1).2
noncomputable def L6_2 : Lt r6_2 := by refine ⟨?l, ?h⟩; case h => simp only [r6_2, c6, bodyOf, Try.f6, Code.sub, opsOf, List.map_cons, List.map_nil, strip]; rfl
theorem w6_2 : Wp r6_2 10 [15, 24, 41] [5] [] [] [some 5] (L6_2).1 := w_plain (by kernel_rfl) (L6_2).2
noncomputable def L6_3 : Lt r6_3 := by refine ⟨?l, ?h⟩; case h => simp only [r6_3, c6, bodyOf, Try.f6, Code.sub, opsOf, List.map_cons, List.map_nil, strip]; rfl
theorem w6_3 : Wp r6_3 10 [15, 24, 41] [6] [] [] [some 6] (L6_3).1 := w_plain (by kernel_rfl) (L6_3).2
noncomputable def L6_4 : Lt r6_4 := by refine ⟨?l, ?h⟩; case h => simp only [r6_4, c6, bodyOf, Try.f6, Code.sub, opsOf, List.map_cons, List.map_nil, strip]; rfl
theorem w6_4 : Wp r6_4 10 [15, 24, 41] [] [15] [6, 0] [some 13, some 14, some 15] (L6_4).1 := w_plain (by kernel_rfl) (L6_4).2
noncomputable def L6_5 : Lt r6_5 := by refine ⟨?l, ?h⟩; case h => simp only [r6_5, c6, bodyOf, Try.f6, Code.sub, opsOf, List.map_cons, List.map_nil, strip]; rfl
theorem w6_5 : Wp r6_5 10 [15, 24, 41] [] [24] [1, 6, 0] [some 18, some 19, some 20, some 21, some 22, some 23, some 24] (L6_5).1 := w_plain (by kernel_rfl) (L6_5).2
noncomputable def L6_6 : Lt r6_6 := by refine ⟨?l, ?h⟩; case h => simp only [r6_6, c6, bodyOf, Try.f6, Code.sub, opsOf, List.map_cons, List.map_nil, strip]; rfl
theorem w6_6 : Wp r6_6 10 [15, 24, 41] [5] [] [5, 6, 0] [some 25, some 26, some 27, some 28, some 29, some 30, some 31, some 32, some 33, some 5] (L6_6).1 := w_plain (by kernel_rfl) (L6_6).2
noncomputable def L6_7 : Lt r6_7 := by refine ⟨?l, ?h⟩; case h => simp only [r6_7, c6, bodyOf, Try.f6, Code.sub, opsOf, List.map_cons, List.map_nil, strip]; rfl
theorem w6_7 : Wp r6_7 10 [15, 24, 41] [6] [] [6] [some 16, some 17, some 6] (L6_7).1 := w_plain (by kernel_rfl) (L6_7).2
noncomputable def L6_8 : Lt r6_8 := by refine ⟨?l, ?h⟩; case h => simp only [r6_8, c6, bodyOf, Try.f6, Code.sub, opsOf, List.map_cons, List.map_nil, strip]; rfl
theorem w6_8 : Wp r6_8 10 [15, 24, 41] [7, 8] [] [5] [some 35, some 36, some 34, some 37, some 38, some 7, some 8] (L6_8).1 := w_plain (by kernel_rfl) (L6_8).2
noncomputable def L6_9 : Lt r6_9 := by refine ⟨?l, ?h⟩; case h => simp only [r6_9, c6, bodyOf, Try.f6, Code.sub, opsOf, List.map_cons, List.map_nil, strip]; rfl
theorem w6_9 : Wp r6_9 10 [15, 24, 41] [9] [] [0] [some 39, some 40, some 9] (L6_9).1 := w_plain (by kernel_rfl) (L6_9).2
noncomputable def L6_10 : Lt r6_10 := by refine ⟨?l, ?h⟩; case h => simp only [r6_10, c6, bodyOf, Try.f6, Code.sub, opsOf, List.map_cons, List.map_nil, strip]; rfl
theorem w6_10 : Wp r6_10 10 [15, 24, 41] [] [41] [1] [some 41] (L6_10).1 := w_plain (by kernel_rfl) (L6_10).2
noncomputable def L6_11 : Lt r6_11 := by refine ⟨?l, ?h⟩; case h => simp only [r6_11, c6, bodyOf, Try.f6, Code.sub, opsOf, List.map_cons, List.map_nil, strip]; rfl
theorem w6_11 : Wp r6_11 10 [15, 24, 41] [9] [] [0] [some 42, some 43, some 9] (L6_11).1 := w_plain (by kernel_rfl) (L6_11).2
noncomputable def L6_12 : Lt r6_12 := by refine ⟨?l, ?h⟩; case h => simp only [r6_12, c6, bodyOf, Try.f6, Code.sub, opsOf, List.map_cons, List.map_nil, strip]; rfl
theorem w6_12 : Wp r6_12 10 [15, 24, 41] [4] [] [8, 9, 5, 7] [some 44, some 45, some 46, some 47, some 48, some 49, some 50, some 51, some 52, some 53, some 54, some 55, some 56, some 57, some 58, some 59, some 4] (L6_12).1 := w_plain (by kernel_rfl) (L6_12).2
theorem k6 : FnIs TT 6 c6 [.tmp 4] 2 := ⟨Try.f6, by kernel_rfl, by simp only [Try.f6, c6, bodyOf], by kernel_rfl, of_decide_eq_true (by kernel_rfl)⟩

/- moves.Order -/
noncomputable def c7 : Code := bodyOf Try.f7
noncomputable def r7_0 : Code := Code.sub [0] c7
noncomputable def r7_1 : Code := Code.sub [1, 0, 0] c7
noncomputable def r7_2 : Code := Code.sub [1, 0, 1, 0, 0] c7
noncomputable def r7_3 : Code := Code.sub [1, 1, 0, 0] c7
noncomputable def r7_4 : Code := Code.sub [1, 1, 0, 1, 0, 0, 0] c7
noncomputable def r7_5 : Code := Code.sub [1, 1, 0, 1, 0, 0, 1, 1, 0, 0, 0] c7
noncomputable def r7_6 : Code := Code.sub [1, 1, 0, 1, 0, 0, 1, 1, 0, 0, 1, 0] c7
noncomputable def r7_7 : Code := Code.sub [1, 1, 0, 1, 0, 0, 1, 1, 0, 0, 1, 1, 0, 0] c7
noncomputable def r7_8 : Code := Code.sub [1, 1, 0, 1, 0, 0, 1, 1, 1] c7
noncomputable def r7_9 : Code := Code.sub [1, 1, 1, 0] c7
theorem body7 : c7 = (.seq r7_0 (.seq (.seq r7_1 (.cond (.tmp 18) (.seq r7_2 .ret) .skip)) (.seq (.seq r7_3 (.block 0 (.loop (.seq r7_4 (.seq (.cond (.tmp 22) .skip (.exit 0)) (.seq (.block 1 (.seq r7_5 (.seq r7_6 (.cond (.tmp 34) (.seq r7_7 .ret) .skip)))) r7_8)))))) (.seq r7_9 .ret)))) := by kernel_rfl
noncomputable def L7_0 : Lt r7_0 := by refine ⟨?l, ?h⟩; case h => simp only [r7_0, c7, bodyOf, Try.f7, Code.sub, opsOf, List.map_cons, List.map_nil, strip]; rfl
theorem w7_0 : Wp r7_0 22 [22, 34] [4, 5] [] [] [some 4, some 5] (L7_0).1 := w_plain (by kernel_rfl) (L7_0).2
noncomputable def L7_1 : Lt r7_1 := by refine ⟨?l, ?h⟩; case h => simp only [r7_1, c7, bodyOf, Try.f7, Code.sub, opsOf, List.map_cons, List.map_nil, strip]; rfl
theorem w7_1 : Wp r7_1 22 [22, 34] [8, 9, 10, 11, 12, 13, 14, 15, 16, 17, 18] [] [0, 1] [some 8, some 9, some 10, some 11, some 12, some 13, some 14, some 15, some 16, some 17, some 18] (L7_1).1 := w_plain (by kernel_rfl) (L7_1).2
noncomputable def L7_2 : Lt r7_2 := by refine ⟨?l, ?h⟩; case h => simp only [r7_2, c7, bodyOf, Try.f7, Code.sub, opsOf, List.map_cons, List.map_nil, strip]; rfl
theorem w7_2 : Wp r7_2 22 [22, 34] [4, 5] [] [] [some 4, some 5] (L7_2).1 := w_plain (by kernel_rfl) (L7_2).2
noncomputable def L7_3 : Lt r7_3 := by refine ⟨?l, ?h⟩; case h => simp only [r7_3, c7, bodyOf, Try.f7, Code.sub, opsOf, List.map_cons, List.map_nil, strip]; rfl
theorem w7_3 : Wp r7_3 22 [22, 34] [19, 20, 21] [] [0] [some 19, some 20, some 21] (L7_3).1 := w_plain (by kernel_rfl) (L7_3).2
noncomputable def L7_4 : Lt r7_4 := by refine ⟨?l, ?h⟩; case h => simp only [r7_4, c7, bodyOf, Try.f7, Code.sub, opsOf, List.map_cons, List.map_nil, strip]; rfl
theorem w7_4 : Wp r7_4 22 [22, 34] [] [22] [21, 20] [some 22] (L7_4).1 := w_plain (by kernel_rfl) (L7_4).2
noncomputable def L7_5 : Lt r7_5 := by refine ⟨?l, ?h⟩; case h => simp only [r7_5, c7, bodyOf, Try.f7, Code.sub, opsOf, List.map_cons, List.map_nil, strip]; rfl
theorem w7_5 : Wp r7_5 22 [22, 34] [7] [] [19, 21] [some 23, some 24, some 7, none] (L7_5).1 := w_plain (by kernel_rfl) (L7_5).2
noncomputable def L7_6 : Lt r7_6 := by refine ⟨?l, ?h⟩; case h => simp only [r7_6, c7, bodyOf, Try.f7, Code.sub, opsOf, List.map_cons, List.map_nil, strip]; rfl
theorem w7_6 : Wp r7_6 22 [22, 34] [] [34] [7, 1] [some 25, some 26, some 27, some 28, some 29, some 30, some 31, some 32, some 33, some 34] (L7_6).1 := w_plain (by kernel_rfl) (L7_6).2
noncomputable def L7_7 : Lt r7_7 := by refine ⟨?l, ?h⟩; case h => simp only [r7_7, c7, bodyOf, Try.f7, Code.sub, opsOf, List.map_cons, List.map_nil, strip]; rfl
theorem w7_7 : Wp r7_7 22 [22, 34] [4, 5] [] [] [some 4, some 5] (L7_7).1 := w_plain (by kernel_rfl) (L7_7).2
noncomputable def L7_8 : Lt r7_8 := by refine ⟨?l, ?h⟩; case h => simp only [r7_8, c7, bodyOf, Try.f7, Code.sub, opsOf, List.map_cons, List.map_nil, strip]; rfl
theorem w7_8 : Wp r7_8 22 [22, 34] [21] [] [21] [some 35, some 21] (L7_8).1 := w_plain (by kernel_rfl) (L7_8).2
noncomputable def L7_9 : Lt r7_9 := by refine ⟨?l, ?h⟩; case h => simp only [r7_9, c7, bodyOf, Try.f7, Code.sub, opsOf, List.map_cons, List.map_nil, strip]; rfl
theorem w7_9 : Wp r7_9 22 [22, 34] [4, 5] [] [0, 1] [some 36, some 37, some 38, some 4, some 5] (L7_9).1 := w_plain (by kernel_rfl) (L7_9).2
theorem k7 : FnIs TT 7 c7 [.tmp 4, .tmp 5] 2 := ⟨Try.f7, by kernel_rfl, by simp only [Try.f7, c7, bodyOf], by kernel_rfl, of_decide_eq_true (by kernel_rfl)⟩

/- moves.Right -/
noncomputable def c9 : Code := bodyOf Try.f9
noncomputable def r9_0 : Code := Code.sub [0] c9
noncomputable def r9_1 : Code := Code.sub [1, 0, 0] c9
noncomputable def r9_2 : Code := Code.sub [1, 0, 1, 0, 0] c9
noncomputable def r9_3 : Code := Code.sub [1, 1, 0] c9
noncomputable def r9_4 : Code := Code.sub [1, 1, 1, 0, 0] c9
noncomputable def r9_5 : Code := Code.sub [1, 1, 1, 0, 1, 0, 0, 0] c9
noncomputable def r9_6 : Code := Code.sub [1, 1, 1, 0, 1, 0, 0, 1, 1, 0, 0, 0] c9
noncomputable def r9_7 : Code := Code.sub [1, 1, 1, 0, 1, 0, 0, 1, 1, 0, 0, 1, 0, 0] c9
noncomputable def r9_8 : Code := Code.sub [1, 1, 1, 0, 1, 0, 0, 1, 1, 0, 0, 1, 0, 1, 0, 0] c9
noncomputable def r9_9 : Code := Code.sub [1, 1, 1, 0, 1, 0, 0, 1, 1, 0, 0, 1, 1] c9
noncomputable def r9_10 : Code := Code.sub [1, 1, 1, 0, 1, 0, 0, 1, 1, 1] c9
noncomputable def r9_11 : Code := Code.sub [1, 1, 1, 1, 0] c9
theorem body9 : c9 = (.seq r9_0 (.seq (.seq r9_1 (.cond (.tmp 8) (.seq r9_2 .ret) .skip)) (.seq r9_3 (.seq (.seq r9_4 (.block 0 (.loop (.seq r9_5 (.seq (.cond (.tmp 13) .skip (.exit 0)) (.seq (.block 1 (.seq r9_6 (.seq (.seq r9_7 (.cond (.tmp 39) (.seq r9_8 .ret) .skip)) r9_9))) r9_10)))))) (.seq r9_11 .ret))))) := by kernel_rfl
noncomputable def L9_0 : Lt r9_0 := by refine ⟨?l, ?h⟩; case h => simp only [r9_0, c9, bodyOf, Try.f9, Code.sub, opsOf, List.map_cons, List.map_nil, strip]; rfl
theorem w9_0 : Wp r9_0 13 [13, 39] [2] [] [] [some 2] (L9_0).1 := w_plain (by kernel_rfl) (L9_0).2
noncomputable def L9_1 : Lt r9_1 := by refine ⟨?l, ?h⟩; case h => simp only [r9_1, c9, bodyOf, Try.f9, Code.sub, opsOf, List.map_cons, List.map_nil, strip]; rfl
theorem w9_1 : Wp r9_1 13 [13, 39] [6, 7, 8] [] [0] [some 6, some 7, some 8] (L9_1).1 := w_plain (by kernel_rfl) (L9_1).2
noncomputable def L9_2 : Lt r9_2 := by refine ⟨?l, ?h⟩; case h => simp only [r9_2, c9, bodyOf, Try.f9, Code.sub, opsOf, List.map_cons, List.map_nil, strip]; rfl
theorem w9_2 : Wp r9_2 13 [13, 39] [2] [] [] [some 2] (L9_2).1 := w_plain (by kernel_rfl) (L9_2).2
noncomputable def L9_3 : Lt r9_3 := by refine ⟨?l, ?h⟩; case h => simp only [r9_3, c9, bodyOf, Try.f9, Code.sub, opsOf, List.map_cons, List.map_nil, strip]; rfl
theorem w9_3 : Wp r9_3 13 [13, 39] [9, 3] [] [] [some 9, some 3] (L9_3).1 := w_plain (by kernel_rfl) (L9_3).2
noncomputable def L9_4 : Lt r9_4 := by refine ⟨?l, ?h⟩; case h => simp only [r9_4, c9, bodyOf, Try.f9, Code.sub, opsOf, List.map_cons, List.map_nil, strip]; rfl
theorem w9_4 : Wp r9_4 13 [13, 39] [10, 11, 12] [] [0] [some 10, some 11, some 12] (L9_4).1 := w_plain (by kernel_rfl) (L9_4).2
noncomputable def L9_5 : Lt r9_5 := by refine ⟨?l, ?h⟩; case h => simp only [r9_5, c9, bodyOf, Try.f9, Code.sub, opsOf, List.map_cons, List.map_nil, strip]; rfl
theorem w9_5 : Wp r9_5 13 [13, 39] [] [13] [12, 11] [some 13] (L9_5).1 := w_plain (by kernel_rfl) (L9_5).2
noncomputable def L9_6 : Lt r9_6 := by refine ⟨?l, ?h⟩; case h => simp only [r9_6, c9, bodyOf, Try.f9, Code.sub, opsOf, List.map_cons, List.map_nil, strip]; rfl
theorem w9_6 : Wp r9_6 13 [13, 39] [5] [] [10, 12] [some 14, some 15, some 5, none] (L9_6).1 := w_plain (by kernel_rfl) (L9_6).2
noncomputable def L9_7 : Lt r9_7 := by refine ⟨?l, ?h⟩; case h => simp only [r9_7, c9, bodyOf, Try.f9, Code.sub, opsOf, List.map_cons, List.map_nil, strip]; rfl
theorem w9_7 : Wp r9_7 13 [13, 39] [] [39] [3, 5] [some 16, some 17, some 18, some 19, some 20, some 21, some 22, some 23, some 24, some 25, some 26, some 27, some 28, some 29, some 30, some 31, some 32, some 33, some 34, some 35, some 36, some 37, some 38, some 39] (L9_7).1 := w_plain (by kernel_rfl) (L9_7).2
noncomputable def L9_8 : Lt r9_8 := by refine ⟨?l, ?h⟩; case h => simp only [r9_8, c9, bodyOf, Try.f9, Code.sub, opsOf, List.map_cons, List.map_nil, strip]; rfl
theorem w9_8 : Wp r9_8 13 [13, 39] [2] [] [] [some 2] (L9_8).1 := w_plain (by kernel_rfl) (L9_8).2
noncomputable def L9_9 : Lt r9_9 := by refine ⟨?l, ?h⟩; case h => simp only [r9_9, c9, bodyOf, Try.f9, Code.sub, opsOf, List.map_cons, List.map_nil, strip]; rfl
theorem w9_9 : Wp r9_9 13 [13, 39] [] [] [3, 5] [some 40, some 41, some 42, none] (L9_9).1 := w_plain (by kernel_rfl) (L9_9).2
noncomputable def L9_10 : Lt r9_10 := by refine ⟨?l, ?h⟩; case h => simp only [r9_10, c9, bodyOf, Try.f9, Code.sub, opsOf, List.map_cons, List.map_nil, strip]; rfl
theorem w9_10 : Wp r9_10 13 [13, 39] [12] [] [12] [some 43, some 12] (L9_10).1 := w_plain (by kernel_rfl) (L9_10).2
noncomputable def L9_11 : Lt r9_11 := by refine ⟨?l, ?h⟩; case h => simp only [r9_11, c9, bodyOf, Try.f9, Code.sub, opsOf, List.map_cons, List.map_nil, strip]; rfl
theorem w9_11 : Wp r9_11 13 [13, 39] [2] [] [] [some 2] (L9_11).1 := w_plain (by kernel_rfl) (L9_11).2
theorem k9 : FnIs TT 9 c9 [.tmp 2] 1 := ⟨Try.f9, by kernel_rfl, by simp only [Try.f9, c9, bodyOf], by kernel_rfl, of_decide_eq_true (by kernel_rfl)⟩

/- turnstonelaw23.list -/
noncomputable def c10 : Code := bodyOf Try.f10
noncomputable def r10_0 : Code := Code.sub [0] c10
noncomputable def r10_1 : Code := Code.sub [1, 0] c10
noncomputable def r10_2 : Code := Code.sub [1, 1, 0] c10
noncomputable def r10_3 : Code := Code.sub [1, 1, 1, 0, 0] c10
noncomputable def r10_4 : Code := Code.sub [1, 1, 1, 0, 1, 0, 0, 0, 0] c10
noncomputable def r10_5 : Code := Code.sub [1, 1, 1, 0, 1, 0, 0, 1, 0, 0, 0] c10
noncomputable def r10_6 : Code := Code.sub [1, 1, 1, 0, 1, 0, 0, 1, 0, 0, 1, 0] c10
noncomputable def r10_7 : Code := Code.sub [1, 1, 1, 0, 1, 0, 0, 1, 0, 0, 1, 1, 0] c10
noncomputable def r10_8 : Code := Code.sub [1, 1, 1, 0, 1, 0, 0, 1, 0, 0, 1, 1, 1, 0] c10
noncomputable def r10_9 : Code := Code.sub [1, 1, 1, 0, 1, 0, 0, 1, 1] c10
noncomputable def r10_10 : Code := Code.sub [1, 1, 1, 1, 0] c10
theorem body10 : c10 = (.seq r10_0 (.seq r10_1 (.seq r10_2 (.seq (.seq r10_3 (.block 0 (.loop (.seq (.seq r10_4 (.cond (.tmp 19) .skip (.exit 0))) (.seq (.block 1 (.seq r10_5 (.seq r10_6 (.seq r10_7 (.cond (.tmp 44) r10_8 .skip))))) r10_9))))) (.seq r10_10 .ret))))) := by kernel_rfl
noncomputable def L10_0 : Lt r10_0 := by refine ⟨?l, ?h⟩; case h => simp only [r10_0, c10, bodyOf, Try.f10, Code.sub, opsOf, List.map_cons, List.map_nil, strip]; rfl
theorem w10_0 : Wp r10_0 9 [19, 44] [4] [] [] [some 4] (L10_0).1 := w_plain (by kernel_rfl) (L10_0).2
noncomputable def L10_1 : Lt r10_1 := by refine ⟨?l, ?h⟩; case h => simp only [r10_1, c10, bodyOf, Try.f10, Code.sub, opsOf, List.map_cons, List.map_nil, strip]; rfl
theorem w10_1 : Wp r10_1 9 [19, 44] [1] [] [1] [some 9, some 10, some 11, some 1] (L10_1).1 := w_plain (by kernel_rfl) (L10_1).2
noncomputable def L10_2 : Lt r10_2 := by refine ⟨?l, ?h⟩; case h => simp only [r10_2, c10, bodyOf, Try.f10, Code.sub, opsOf, List.map_cons, List.map_nil, strip]; rfl
theorem w10_2 : Wp r10_2 9 [19, 44] [5] [] [] [some 5] (L10_2).1 := w_plain (by kernel_rfl) (L10_2).2
noncomputable def L10_3 : Lt r10_3 := by refine ⟨?l, ?h⟩; case h => simp only [r10_3, c10, bodyOf, Try.f10, Code.sub, opsOf, List.map_cons, List.map_nil, strip]; rfl
theorem w10_3 : Wp r10_3 9 [19, 44] [6] [] [] [some 6] (L10_3).1 := w_plain (by kernel_rfl) (L10_3).2
noncomputable def L10_4 : Lt r10_4 := by refine ⟨?l, ?h⟩; case h => simp only [r10_4, c10, bodyOf, Try.f10, Code.sub, opsOf, List.map_cons, List.map_nil, strip]; rfl
theorem w10_4 : Wp r10_4 9 [19, 44] [] [19] [0, 6] [some 12, some 13, some 14, some 15, some 16, some 17, some 18, some 19] (L10_4).1 := w_plain (by kernel_rfl) (L10_4).2
theorem can10_5 : canonOps (opsOf r10_5) = List.filterMap (fun i => ((opsOf r10_5)[i]?).map (renum [0, 1, 2, 3, 4, 5, 6, 7, 8, 9, 10, 11, 12, 13, 14, 15, 16])) [0, 1, 2, 3, 4, 5, 6, 7, 8, 9, 10, 11, 12, 13, 14, 15, 16] := by kernel_rfl
noncomputable def L10_5 : Lc r10_5 := by refine ⟨?l, (congrArg (List.map strip) can10_5).trans ?h⟩; case h => simp only [r10_5, c10, bodyOf, Try.f10, Code.sub, opsOf, List.filterMap_cons, List.filterMap_nil, List.getElem?_cons_succ, List.getElem?_cons_zero, Option.map_some, renum, List.map_cons, List.map_nil, strip]; rfl
theorem w10_5 : Wd r10_5 9 [19, 44] [7] [] [0, 6, 1] [some 22, some 23, some 24, some 25, some 26, some 27, some 28, some 29, some 30, some 31, some 32, some 33, some 34, some 35, some 36, some 7, none] (L10_5).1 [(4, [6]), (11, [6, 13])] := w_loud (by kernel_rfl) (L10_5).2
theorem can10_6 : canonOps (opsOf r10_6) = List.filterMap (fun i => ((opsOf r10_6)[i]?).map (renum [1, 0, 2, 3, 4, 5, 6])) [1, 0, 2, 3, 4, 5, 6] := by kernel_rfl
noncomputable def L10_6 : Lc r10_6 := by refine ⟨?l, (congrArg (List.map strip) can10_6).trans ?h⟩; case h => simp only [r10_6, c10, bodyOf, Try.f10, Code.sub, opsOf, List.filterMap_cons, List.filterMap_nil, List.getElem?_cons_succ, List.getElem?_cons_zero, Option.map_some, renum, List.map_cons, List.map_nil, strip]; rfl
theorem w10_6 : Wd r10_6 9 [19, 44] [8] [] [5, 7] [some 38, some 37, some 39, some 40, some 41, some 42, some 8] (L10_6).1 [(3, [1, 2, 4])] := w_loud (by kernel_rfl) (L10_6).2
noncomputable def L10_7 : Lt r10_7 := by refine ⟨?l, ?h⟩; case h => simp only [r10_7, c10, bodyOf, Try.f10, Code.sub, opsOf, List.map_cons, List.map_nil, strip]; rfl
theorem w10_7 : Wp r10_7 9 [19, 44] [] [44] [8] [some 43, some 44] (L10_7).1 := w_plain (by kernel_rfl) (L10_7).2
noncomputable def L10_8 : Lt r10_8 := by refine ⟨?l, ?h⟩; case h => simp only [r10_8, c10, bodyOf, Try.f10, Code.sub, opsOf, List.map_cons, List.map_nil, strip]; rfl
theorem w10_8 : Wp r10_8 9 [19, 44] [5] [] [8] [some 45, some 5] (L10_8).1 := w_plain (by kernel_rfl) (L10_8).2
noncomputable def L10_9 : Lt r10_9 := by refine ⟨?l, ?h⟩; case h => simp only [r10_9, c10, bodyOf, Try.f10, Code.sub, opsOf, List.map_cons, List.map_nil, strip]; rfl
theorem w10_9 : Wp r10_9 9 [19, 44] [6] [] [6] [some 20, some 21, some 6] (L10_9).1 := w_plain (by kernel_rfl) (L10_9).2
noncomputable def L10_10 : Lt r10_10 := by refine ⟨?l, ?h⟩; case h => simp only [r10_10, c10, bodyOf, Try.f10, Code.sub, opsOf, List.map_cons, List.map_nil, strip]; rfl
theorem w10_10 : Wp r10_10 9 [19, 44] [4] [] [5] [some 46, some 4] (L10_10).1 := w_plain (by kernel_rfl) (L10_10).2
theorem k10 : FnIs TT 10 c10 [.tmp 4] 2 := ⟨Try.f10, by kernel_rfl, by simp only [Try.f10, c10, bodyOf], by kernel_rfl, of_decide_eq_true (by kernel_rfl)⟩

/- turnstonehand.Pick -/
noncomputable def c11 : Code := bodyOf Try.f11
noncomputable def r11_0 : Code := Code.sub [0] c11
noncomputable def r11_1 : Code := Code.sub [1, 0] c11
noncomputable def r11_2 : Code := Code.sub [1, 1, 0, 0] c11
noncomputable def r11_3 : Code := Code.sub [1, 1, 0, 1, 0] c11
noncomputable def r11_4 : Code := Code.sub [1, 1, 1, 0] c11
theorem body11 : c11 = (.seq r11_0 (.seq r11_1 (.seq (.seq r11_2 (.cond (.tmp 9) r11_3 .skip)) (.seq r11_4 .ret)))) := by kernel_rfl
noncomputable def L11_0 : Lt r11_0 := by refine ⟨?l, ?h⟩; case h => simp only [r11_0, c11, bodyOf, Try.f11, Code.sub, opsOf, List.map_cons, List.map_nil, strip]; rfl
theorem w11_0 : Wp r11_0 5 [9] [4] [] [] [some 4] (L11_0).1 := w_plain (by kernel_rfl) (L11_0).2
noncomputable def L11_1 : Lt r11_1 := by refine ⟨?l, ?h⟩; case h => simp only [r11_1, c11, bodyOf, Try.f11, Code.sub, opsOf, List.map_cons, List.map_nil, strip]; rfl
theorem w11_1 : Wp r11_1 5 [9] [0] [] [0, 1] [some 5, some 6, some 7, some 0] (L11_1).1 := w_plain (by kernel_rfl) (L11_1).2
noncomputable def L11_2 : Lt r11_2 := by refine ⟨?l, ?h⟩; case h => simp only [r11_2, c11, bodyOf, Try.f11, Code.sub, opsOf, List.map_cons, List.map_nil, strip]; rfl
theorem w11_2 : Wp r11_2 5 [9] [] [9] [0] [some 8, some 9] (L11_2).1 := w_plain (by kernel_rfl) (L11_2).2
noncomputable def L11_3 : Lt r11_3 := by refine ⟨?l, ?h⟩; case h => simp only [r11_3, c11, bodyOf, Try.f11, Code.sub, opsOf, List.map_cons, List.map_nil, strip]; rfl
theorem w11_3 : Wp r11_3 5 [9] [0] [] [0, 1] [some 10, some 11, some 12, some 0] (L11_3).1 := w_plain (by kernel_rfl) (L11_3).2
noncomputable def L11_4 : Lt r11_4 := by refine ⟨?l, ?h⟩; case h => simp only [r11_4, c11, bodyOf, Try.f11, Code.sub, opsOf, List.map_cons, List.map_nil, strip]; rfl
theorem w11_4 : Wp r11_4 5 [9] [4] [] [0] [some 13, some 4] (L11_4).1 := w_plain (by kernel_rfl) (L11_4).2
theorem k11 : FnIs TT 11 c11 [.tmp 4] 2 := ⟨Try.f11, by kernel_rfl, by simp only [Try.f11, c11, bodyOf], by kernel_rfl, of_decide_eq_true (by kernel_rfl)⟩

/- turnstonelaw23.does -/
noncomputable def c12 : Code := bodyOf Try.f12
noncomputable def r12_0 : Code := Code.sub [0] c12
noncomputable def r12_1 : Code := Code.sub [1, 0] c12
noncomputable def r12_2 : Code := Code.sub [1, 1, 0, 0] c12
noncomputable def r12_3 : Code := Code.sub [1, 1, 0, 1, 0, 0, 0, 0] c12
noncomputable def r12_4 : Code := Code.sub [1, 1, 0, 1, 0, 0, 1, 0, 0, 0, 0] c12
noncomputable def r12_5 : Code := Code.sub [1, 1, 0, 1, 0, 0, 1, 0, 0, 0, 1, 0, 0] c12
noncomputable def r12_6 : Code := Code.sub [1, 1, 0, 1, 0, 0, 1, 0, 0, 1] c12
noncomputable def r12_7 : Code := Code.sub [1, 1, 0, 1, 0, 0, 1, 1] c12
noncomputable def r12_8 : Code := Code.sub [1, 1, 1, 0, 0] c12
noncomputable def r12_9 : Code := Code.sub [1, 1, 1, 0, 1, 0, 0, 0, 0] c12
noncomputable def r12_10 : Code := Code.sub [1, 1, 1, 0, 1, 0, 0, 1, 0, 0, 0] c12
noncomputable def r12_11 : Code := Code.sub [1, 1, 1, 0, 1, 0, 0, 1, 0, 0, 1, 0, 0] c12
noncomputable def r12_12 : Code := Code.sub [1, 1, 1, 0, 1, 0, 0, 1, 1] c12
noncomputable def r12_13 : Code := Code.sub [1, 1, 1, 1, 0, 0] c12
noncomputable def r12_14 : Code := Code.sub [1, 1, 1, 1, 0, 1, 0, 0, 0, 0] c12
noncomputable def r12_15 : Code := Code.sub [1, 1, 1, 1, 0, 1, 0, 0, 1, 0, 0, 0] c12
noncomputable def r12_16 : Code := Code.sub [1, 1, 1, 1, 0, 1, 0, 0, 1, 0, 0, 1, 0, 0] c12
noncomputable def r12_17 : Code := Code.sub [1, 1, 1, 1, 0, 1, 0, 0, 1, 0, 0, 1, 1, 0] c12
noncomputable def r12_18 : Code := Code.sub [1, 1, 1, 1, 0, 1, 0, 0, 1, 0, 0, 1, 1, 1, 0, 0] c12
noncomputable def r12_19 : Code := Code.sub [1, 1, 1, 1, 0, 1, 0, 0, 1, 0, 0, 1, 1, 1, 0, 1, 0, 0, 0, 0] c12
noncomputable def r12_20 : Code := Code.sub [1, 1, 1, 1, 0, 1, 0, 0, 1, 0, 0, 1, 1, 1, 0, 1, 0, 0, 1, 0, 0] c12
noncomputable def r12_21 : Code := Code.sub [1, 1, 1, 1, 0, 1, 0, 0, 1, 0, 0, 1, 1, 1, 0, 1, 0, 0, 1, 1] c12
noncomputable def r12_22 : Code := Code.sub [1, 1, 1, 1, 0, 1, 0, 0, 1, 0, 0, 1, 1, 1, 1, 0] c12
noncomputable def r12_23 : Code := Code.sub [1, 1, 1, 1, 0, 1, 0, 0, 1, 0, 0, 1, 1, 1, 1, 1, 0, 0] c12
noncomputable def r12_24 : Code := Code.sub [1, 1, 1, 1, 0, 1, 0, 0, 1, 1] c12
noncomputable def r12_25 : Code := Code.sub [1, 1, 1, 1, 1, 0] c12
theorem body12 : c12 = (.seq r12_0 (.seq r12_1 (.seq (.seq r12_2 (.block 0 (.loop (.seq (.seq r12_3 (.cond (.tmp 17) .skip (.exit 0))) (.seq (.block 1 (.seq (.seq r12_4 (.cond (.tmp 30) (.seq r12_5 .ret) .skip)) r12_6)) r12_7))))) (.seq (.seq r12_8 (.block 2 (.loop (.seq (.seq r12_9 (.cond (.tmp 50) .skip (.exit 2))) (.seq (.block 3 (.seq r12_10 (.cond (.tmp 65) (.seq r12_11 .ret) .skip))) r12_12))))) (.seq (.seq r12_13 (.block 4 (.loop (.seq (.seq r12_14 (.cond (.tmp 69) .skip (.exit 4))) (.seq (.block 5 (.seq r12_15 (.seq (.seq r12_16 (.cond (.tmp 79) (.exit 5) .skip)) (.seq r12_17 (.seq (.seq r12_18 (.block 6 (.loop (.seq (.seq r12_19 (.cond (.tmp 83) .skip (.exit 6))) (.seq (.block 7 r12_20) r12_21))))) (.seq r12_22 (.cond (.tmp 104) (.seq r12_23 .ret) .skip))))))) r12_24))))) (.seq r12_25 .ret)))))) := by kernel_rfl
noncomputable def L12_0 : Lt r12_0 := by refine ⟨?l, ?h⟩; case h => simp only [r12_0, c12, bodyOf, Try.f12, Code.sub, opsOf, List.map_cons, List.map_nil, strip]; rfl
theorem w12_0 : Wp r12_0 14 [17, 30, 50, 65, 69, 79, 83, 104] [6] [] [] [some 6] (L12_0).1 := w_plain (by kernel_rfl) (L12_0).2
noncomputable def L12_1 : Lt r12_1 := by refine ⟨?l, ?h⟩; case h => simp only [r12_1, c12, bodyOf, Try.f12, Code.sub, opsOf, List.map_cons, List.map_nil, strip]; rfl
theorem w12_1 : Wp r12_1 14 [17, 30, 50, 65, 69, 79, 83, 104] [7] [] [] [some 7] (L12_1).1 := w_plain (by kernel_rfl) (L12_1).2
noncomputable def L12_2 : Lt r12_2 := by refine ⟨?l, ?h⟩; case h => simp only [r12_2, c12, bodyOf, Try.f12, Code.sub, opsOf, List.map_cons, List.map_nil, strip]; rfl
theorem w12_2 : Wp r12_2 14 [17, 30, 50, 65, 69, 79, 83, 104] [8] [] [] [some 8] (L12_2).1 := w_plain (by kernel_rfl) (L12_2).2
noncomputable def L12_3 : Lt r12_3 := by refine ⟨?l, ?h⟩; case h => simp only [r12_3, c12, bodyOf, Try.f12, Code.sub, opsOf, List.map_cons, List.map_nil, strip]; rfl
theorem w12_3 : Wp r12_3 14 [17, 30, 50, 65, 69, 79, 83, 104] [] [17] [8, 1] [some 14, some 15, some 16, some 17] (L12_3).1 := w_plain (by kernel_rfl) (L12_3).2
noncomputable def L12_4 : Lt r12_4 := by refine ⟨?l, ?h⟩; case h => simp only [r12_4, c12, bodyOf, Try.f12, Code.sub, opsOf, List.map_cons, List.map_nil, strip]; rfl
theorem w12_4 : Wp r12_4 14 [17, 30, 50, 65, 69, 79, 83, 104] [] [30] [1, 8] [some 20, some 21, some 22, some 23, some 24, some 25, some 26, some 27, some 28, some 29, some 30] (L12_4).1 := w_plain (by kernel_rfl) (L12_4).2
noncomputable def L12_5 : Lt r12_5 := by refine ⟨?l, ?h⟩; case h => simp only [r12_5, c12, bodyOf, Try.f12, Code.sub, opsOf, List.map_cons, List.map_nil, strip]; rfl
theorem w12_5 : Wp r12_5 14 [17, 30, 50, 65, 69, 79, 83, 104] [6] [] [] [some 6] (L12_5).1 := w_plain (by kernel_rfl) (L12_5).2
theorem can12_6 : canonOps (opsOf r12_6) = List.filterMap (fun i => ((opsOf r12_6)[i]?).map (renum [0, 1, 2, 3, 4, 5, 6, 7, 8, 9, 10, 11, 12, 13, 14, 15, 16])) [0, 1, 2, 3, 4, 5, 6, 7, 8, 9, 10, 11, 12, 13, 14, 15, 16] := by kernel_rfl
noncomputable def L12_6 : Lc r12_6 := by refine ⟨?l, (congrArg (List.map strip) can12_6).trans ?h⟩; case h => simp only [r12_6, c12, bodyOf, Try.f12, Code.sub, opsOf, List.filterMap_cons, List.filterMap_nil, List.getElem?_cons_succ, List.getElem?_cons_zero, Option.map_some, renum, List.map_cons, List.map_nil, strip]; rfl
theorem w12_6 : Wd r12_6 14 [17, 30, 50, 65, 69, 79, 83, 104] [7] [] [7, 1, 8] [some 31, some 32, some 33, some 34, some 35, some 36, some 37, some 38, some 39, some 40, some 41, some 42, some 43, some 44, some 45, some 46, some 7] (L12_6).1 [(6, [7]), (12, [7, 14])] := w_loud (by kernel_rfl) (L12_6).2
noncomputable def L12_7 : Lt r12_7 := by refine ⟨?l, ?h⟩; case h => simp only [r12_7, c12, bodyOf, Try.f12, Code.sub, opsOf, List.map_cons, List.map_nil, strip]; rfl
theorem w12_7 : Wp r12_7 14 [17, 30, 50, 65, 69, 79, 83, 104] [8] [] [8] [some 18, some 19, some 8] (L12_7).1 := w_plain (by kernel_rfl) (L12_7).2
noncomputable def L12_8 : Lt r12_8 := by refine ⟨?l, ?h⟩; case h => simp only [r12_8, c12, bodyOf, Try.f12, Code.sub, opsOf, List.map_cons, List.map_nil, strip]; rfl
theorem w12_8 : Wp r12_8 14 [17, 30, 50, 65, 69, 79, 83, 104] [9] [] [] [some 9] (L12_8).1 := w_plain (by kernel_rfl) (L12_8).2
noncomputable def L12_9 : Lt r12_9 := by refine ⟨?l, ?h⟩; case h => simp only [r12_9, c12, bodyOf, Try.f12, Code.sub, opsOf, List.map_cons, List.map_nil, strip]; rfl
theorem w12_9 : Wp r12_9 14 [17, 30, 50, 65, 69, 79, 83, 104] [] [50] [9, 0] [some 47, some 48, some 49, some 50] (L12_9).1 := w_plain (by kernel_rfl) (L12_9).2
theorem can12_10 : canonOps (opsOf r12_10) = opsOf r12_10 := by kernel_rfl
noncomputable def L12_10 : Lc r12_10 := by refine ⟨?l, (congrArg (List.map strip) can12_10).trans ?h⟩; case h => simp only [r12_10, c12, bodyOf, Try.f12, Code.sub, opsOf, List.map_cons, List.map_nil, strip]; rfl
theorem w12_10 : Wd r12_10 14 [17, 30, 50, 65, 69, 79, 83, 104] [] [65] [7, 0, 9] [some 53, some 54, some 55, some 56, some 57, some 58, some 59, some 60, some 61, some 62, some 63, some 64, some 65] (L12_10).1 [(5, [6]), (11, [6, 13])] := w_loud (by kernel_rfl) (L12_10).2
noncomputable def L12_11 : Lt r12_11 := by refine ⟨?l, ?h⟩; case h => simp only [r12_11, c12, bodyOf, Try.f12, Code.sub, opsOf, List.map_cons, List.map_nil, strip]; rfl
theorem w12_11 : Wp r12_11 14 [17, 30, 50, 65, 69, 79, 83, 104] [6] [] [] [some 6] (L12_11).1 := w_plain (by kernel_rfl) (L12_11).2
noncomputable def L12_12 : Lt r12_12 := by refine ⟨?l, ?h⟩; case h => simp only [r12_12, c12, bodyOf, Try.f12, Code.sub, opsOf, List.map_cons, List.map_nil, strip]; rfl
theorem w12_12 : Wp r12_12 14 [17, 30, 50, 65, 69, 79, 83, 104] [9] [] [9] [some 51, some 52, some 9] (L12_12).1 := w_plain (by kernel_rfl) (L12_12).2
noncomputable def L12_13 : Lt r12_13 := by refine ⟨?l, ?h⟩; case h => simp only [r12_13, c12, bodyOf, Try.f12, Code.sub, opsOf, List.map_cons, List.map_nil, strip]; rfl
theorem w12_13 : Wp r12_13 14 [17, 30, 50, 65, 69, 79, 83, 104] [10] [] [] [some 10] (L12_13).1 := w_plain (by kernel_rfl) (L12_13).2
noncomputable def L12_14 : Lt r12_14 := by refine ⟨?l, ?h⟩; case h => simp only [r12_14, c12, bodyOf, Try.f12, Code.sub, opsOf, List.map_cons, List.map_nil, strip]; rfl
theorem w12_14 : Wp r12_14 14 [17, 30, 50, 65, 69, 79, 83, 104] [] [69] [10, 7] [some 66, some 67, some 68, some 69] (L12_14).1 := w_plain (by kernel_rfl) (L12_14).2
noncomputable def L12_15 : Lt r12_15 := by refine ⟨?l, ?h⟩; case h => simp only [r12_15, c12, bodyOf, Try.f12, Code.sub, opsOf, List.map_cons, List.map_nil, strip]; rfl
theorem w12_15 : Wp r12_15 14 [17, 30, 50, 65, 69, 79, 83, 104] [11] [] [7, 10] [some 72, some 73, some 74, some 75, some 76, some 11] (L12_15).1 := w_plain (by kernel_rfl) (L12_15).2
noncomputable def L12_16 : Lt r12_16 := by refine ⟨?l, ?h⟩; case h => simp only [r12_16, c12, bodyOf, Try.f12, Code.sub, opsOf, List.map_cons, List.map_nil, strip]; rfl
theorem w12_16 : Wp r12_16 14 [17, 30, 50, 65, 69, 79, 83, 104] [] [79] [11, 2] [some 77, some 78, some 79] (L12_16).1 := w_plain (by kernel_rfl) (L12_16).2
noncomputable def L12_17 : Lt r12_17 := by refine ⟨?l, ?h⟩; case h => simp only [r12_17, c12, bodyOf, Try.f12, Code.sub, opsOf, List.map_cons, List.map_nil, strip]; rfl
theorem w12_17 : Wp r12_17 14 [17, 30, 50, 65, 69, 79, 83, 104] [12] [] [] [some 12] (L12_17).1 := w_plain (by kernel_rfl) (L12_17).2
noncomputable def L12_18 : Lt r12_18 := by refine ⟨?l, ?h⟩; case h => simp only [r12_18, c12, bodyOf, Try.f12, Code.sub, opsOf, List.map_cons, List.map_nil, strip]; rfl
theorem w12_18 : Wp r12_18 14 [17, 30, 50, 65, 69, 79, 83, 104] [13] [] [] [some 13] (L12_18).1 := w_plain (by kernel_rfl) (L12_18).2
noncomputable def L12_19 : Lt r12_19 := by refine ⟨?l, ?h⟩; case h => simp only [r12_19, c12, bodyOf, Try.f12, Code.sub, opsOf, List.map_cons, List.map_nil, strip]; rfl
theorem w12_19 : Wp r12_19 14 [17, 30, 50, 65, 69, 79, 83, 104] [] [83] [13, 0] [some 80, some 81, some 82, some 83] (L12_19).1 := w_plain (by kernel_rfl) (L12_19).2
noncomputable def L12_20 : Lt r12_20 := by refine ⟨?l, ?h⟩; case h => simp only [r12_20, c12, bodyOf, Try.f12, Code.sub, opsOf, List.map_cons, List.map_nil, strip]; rfl
theorem w12_20 : Wp r12_20 14 [17, 30, 50, 65, 69, 79, 83, 104] [12] [] [12, 0, 13, 11] [some 86, some 87, some 88, some 89, some 90, some 91, some 92, some 93, some 94, some 95, some 12] (L12_20).1 := w_plain (by kernel_rfl) (L12_20).2
noncomputable def L12_21 : Lt r12_21 := by refine ⟨?l, ?h⟩; case h => simp only [r12_21, c12, bodyOf, Try.f12, Code.sub, opsOf, List.map_cons, List.map_nil, strip]; rfl
theorem w12_21 : Wp r12_21 14 [17, 30, 50, 65, 69, 79, 83, 104] [13] [] [13] [some 84, some 85, some 13] (L12_21).1 := w_plain (by kernel_rfl) (L12_21).2
noncomputable def L12_22 : Lt r12_22 := by refine ⟨?l, ?h⟩; case h => simp only [r12_22, c12, bodyOf, Try.f12, Code.sub, opsOf, List.map_cons, List.map_nil, strip]; rfl
theorem w12_22 : Wp r12_22 14 [17, 30, 50, 65, 69, 79, 83, 104] [] [104] [12, 7, 11] [some 96, some 97, some 98, some 99, some 100, some 101, some 102, some 103, some 104] (L12_22).1 := w_plain (by kernel_rfl) (L12_22).2
noncomputable def L12_23 : Lt r12_23 := by refine ⟨?l, ?h⟩; case h => simp only [r12_23, c12, bodyOf, Try.f12, Code.sub, opsOf, List.map_cons, List.map_nil, strip]; rfl
theorem w12_23 : Wp r12_23 14 [17, 30, 50, 65, 69, 79, 83, 104] [6] [] [] [some 6] (L12_23).1 := w_plain (by kernel_rfl) (L12_23).2
noncomputable def L12_24 : Lt r12_24 := by refine ⟨?l, ?h⟩; case h => simp only [r12_24, c12, bodyOf, Try.f12, Code.sub, opsOf, List.map_cons, List.map_nil, strip]; rfl
theorem w12_24 : Wp r12_24 14 [17, 30, 50, 65, 69, 79, 83, 104] [10] [] [10] [some 70, some 71, some 10] (L12_24).1 := w_plain (by kernel_rfl) (L12_24).2
noncomputable def L12_25 : Lt r12_25 := by refine ⟨?l, ?h⟩; case h => simp only [r12_25, c12, bodyOf, Try.f12, Code.sub, opsOf, List.map_cons, List.map_nil, strip]; rfl
theorem w12_25 : Wp r12_25 14 [17, 30, 50, 65, 69, 79, 83, 104] [6] [] [] [some 6] (L12_25).1 := w_plain (by kernel_rfl) (L12_25).2
theorem k12 : FnIs TT 12 c12 [.tmp 6] 3 := ⟨Try.f12, by kernel_rfl, by simp only [Try.f12, c12, bodyOf], by kernel_rfl, of_decide_eq_true (by kernel_rfl)⟩

/- turnstoneref25.Rings -/
noncomputable def c13 : Code := bodyOf Try.f13
noncomputable def r13_0 : Code := Code.sub [0] c13
noncomputable def r13_1 : Code := Code.sub [1, 0] c13
noncomputable def r13_2 : Code := Code.sub [1, 1, 0, 0] c13
noncomputable def r13_3 : Code := Code.sub [1, 1, 0, 1, 0, 0, 0, 0] c13
noncomputable def r13_4 : Code := Code.sub [1, 1, 0, 1, 0, 0, 1, 0, 0, 0] c13
noncomputable def r13_5 : Code := Code.sub [1, 1, 0, 1, 0, 0, 1, 0, 0, 1, 0] c13
noncomputable def r13_6 : Code := Code.sub [1, 1, 0, 1, 0, 0, 1, 0, 0, 1, 1, 0] c13
noncomputable def r13_7 : Code := Code.sub [1, 1, 0, 1, 0, 0, 1, 0, 0, 1, 1, 1, 0, 0] c13
noncomputable def r13_8 : Code := Code.sub [1, 1, 0, 1, 0, 0, 1, 0, 0, 1, 1, 1, 0, 1, 0, 0, 0, 0] c13
noncomputable def r13_9 : Code := Code.sub [1, 1, 0, 1, 0, 0, 1, 0, 0, 1, 1, 1, 0, 1, 0, 0, 1, 0, 0, 0] c13
noncomputable def r13_10 : Code := Code.sub [1, 1, 0, 1, 0, 0, 1, 0, 0, 1, 1, 1, 0, 1, 0, 0, 1, 0, 0, 1, 0, 0] c13
noncomputable def r13_11 : Code := Code.sub [1, 1, 0, 1, 0, 0, 1, 0, 0, 1, 1, 1, 0, 1, 0, 0, 1, 0, 0, 1, 0, 1, 0, 0, 0, 0] c13
noncomputable def r13_12 : Code := Code.sub [1, 1, 0, 1, 0, 0, 1, 0, 0, 1, 1, 1, 0, 1, 0, 0, 1, 0, 0, 1, 0, 1, 0, 0, 1, 0, 0, 0] c13
noncomputable def r13_13 : Code := Code.sub [1, 1, 0, 1, 0, 0, 1, 0, 0, 1, 1, 1, 0, 1, 0, 0, 1, 0, 0, 1, 0, 1, 0, 0, 1, 0, 0, 1, 0] c13
noncomputable def r13_14 : Code := Code.sub [1, 1, 0, 1, 0, 0, 1, 0, 0, 1, 1, 1, 0, 1, 0, 0, 1, 0, 0, 1, 0, 1, 0, 0, 1, 1] c13
noncomputable def r13_15 : Code := Code.sub [1, 1, 0, 1, 0, 0, 1, 0, 0, 1, 1, 1, 0, 1, 0, 0, 1, 0, 0, 1, 1, 0, 0] c13
noncomputable def r13_16 : Code := Code.sub [1, 1, 0, 1, 0, 0, 1, 0, 0, 1, 1, 1, 0, 1, 0, 0, 1, 0, 0, 1, 1, 1, 0] c13
noncomputable def r13_17 : Code := Code.sub [1, 1, 0, 1, 0, 0, 1, 0, 0, 1, 1, 1, 0, 1, 0, 0, 1, 0, 0, 1, 1, 1, 1, 0] c13
noncomputable def r13_18 : Code := Code.sub [1, 1, 0, 1, 0, 0, 1, 0, 0, 1, 1, 1, 0, 1, 0, 0, 1, 0, 0, 1, 1, 1, 1, 1] c13
noncomputable def r13_19 : Code := Code.sub [1, 1, 0, 1, 0, 0, 1, 0, 0, 1, 1, 1, 0, 1, 0, 0, 1, 1] c13
noncomputable def r13_20 : Code := Code.sub [1, 1, 0, 1, 0, 0, 1, 0, 0, 1, 1, 1, 1, 0] c13
noncomputable def r13_21 : Code := Code.sub [1, 1, 0, 1, 0, 0, 1, 0, 0, 1, 1, 1, 1, 1, 0] c13
noncomputable def r13_22 : Code := Code.sub [1, 1, 0, 1, 0, 0, 1, 1] c13
noncomputable def r13_23 : Code := Code.sub [1, 1, 1, 0] c13
theorem body13 : c13 = (.seq r13_0 (.seq r13_1 (.seq (.seq r13_2 (.block 0 (.loop (.seq (.seq r13_3 (.cond (.tmp 14) .skip (.exit 0))) (.seq (.block 1 (.seq r13_4 (.seq r13_5 (.seq r13_6 (.seq (.seq r13_7 (.block 2 (.loop (.seq (.seq r13_8 (.cond (.tmp 30) .skip (.exit 2))) (.seq (.block 3 (.seq r13_9 (.seq (.seq r13_10 (.block 4 (.loop (.seq (.seq r13_11 (.cond (.tmp 36) .skip (.exit 4))) (.seq (.block 5 (.seq r13_12 (.cond (.tmp 59) r13_13 .skip))) r13_14))))) (.seq (.seq r13_15 (.cond (.tmp 66) (.exit 2) .skip)) (.seq r13_16 (.seq r13_17 r13_18)))))) r13_19))))) (.seq r13_20 (.cond (.tmp 101) r13_21 .skip))))))) r13_22))))) (.seq r13_23 .ret)))) := by kernel_rfl
noncomputable def L13_0 : Lt r13_0 := by refine ⟨?l, ?h⟩; case h => simp only [r13_0, c13, bodyOf, Try.f13, Code.sub, opsOf, List.map_cons, List.map_nil, strip]; rfl
theorem w13_0 : Wp r13_0 11 [14, 30, 36, 59, 66, 101] [2] [] [] [some 2] (L13_0).1 := w_plain (by kernel_rfl) (L13_0).2
noncomputable def L13_1 : Lt r13_1 := by refine ⟨?l, ?h⟩; case h => simp only [r13_1, c13, bodyOf, Try.f13, Code.sub, opsOf, List.map_cons, List.map_nil, strip]; rfl
theorem w13_1 : Wp r13_1 11 [14, 30, 36, 59, 66, 101] [3] [] [] [some 3] (L13_1).1 := w_plain (by kernel_rfl) (L13_1).2
noncomputable def L13_2 : Lt r13_2 := by refine ⟨?l, ?h⟩; case h => simp only [r13_2, c13, bodyOf, Try.f13, Code.sub, opsOf, List.map_cons, List.map_nil, strip]; rfl
theorem w13_2 : Wp r13_2 11 [14, 30, 36, 59, 66, 101] [4] [] [] [some 4] (L13_2).1 := w_plain (by kernel_rfl) (L13_2).2
noncomputable def L13_3 : Lt r13_3 := by refine ⟨?l, ?h⟩; case h => simp only [r13_3, c13, bodyOf, Try.f13, Code.sub, opsOf, List.map_cons, List.map_nil, strip]; rfl
theorem w13_3 : Wp r13_3 11 [14, 30, 36, 59, 66, 101] [] [14] [4, 0] [some 11, some 12, some 13, some 14] (L13_3).1 := w_plain (by kernel_rfl) (L13_3).2
noncomputable def L13_4 : Lt r13_4 := by refine ⟨?l, ?h⟩; case h => simp only [r13_4, c13, bodyOf, Try.f13, Code.sub, opsOf, List.map_cons, List.map_nil, strip]; rfl
theorem w13_4 : Wp r13_4 11 [14, 30, 36, 59, 66, 101] [5] [] [0, 4] [some 17, some 18, some 19, some 20, some 21, some 5] (L13_4).1 := w_plain (by kernel_rfl) (L13_4).2
noncomputable def L13_5 : Lt r13_5 := by refine ⟨?l, ?h⟩; case h => simp only [r13_5, c13, bodyOf, Try.f13, Code.sub, opsOf, List.map_cons, List.map_nil, strip]; rfl
theorem w13_5 : Wp r13_5 11 [14, 30, 36, 59, 66, 101] [6] [] [5] [some 22, some 6] (L13_5).1 := w_plain (by kernel_rfl) (L13_5).2
noncomputable def L13_6 : Lt r13_6 := by refine ⟨?l, ?h⟩; case h => simp only [r13_6, c13, bodyOf, Try.f13, Code.sub, opsOf, List.map_cons, List.map_nil, strip]; rfl
theorem w13_6 : Wp r13_6 11 [14, 30, 36, 59, 66, 101] [7] [] [] [some 7] (L13_6).1 := w_plain (by kernel_rfl) (L13_6).2
noncomputable def L13_7 : Lt r13_7 := by refine ⟨?l, ?h⟩; case h => simp only [r13_7, c13, bodyOf, Try.f13, Code.sub, opsOf, List.map_cons, List.map_nil, strip]; rfl
theorem w13_7 : Wp r13_7 11 [14, 30, 36, 59, 66, 101] [8] [] [] [some 8] (L13_7).1 := w_plain (by kernel_rfl) (L13_7).2
noncomputable def L13_8 : Lt r13_8 := by refine ⟨?l, ?h⟩; case h => simp only [r13_8, c13, bodyOf, Try.f13, Code.sub, opsOf, List.map_cons, List.map_nil, strip]; rfl
theorem w13_8 : Wp r13_8 11 [14, 30, 36, 59, 66, 101] [] [30] [8, 0, 7] [some 23, some 24, some 25, some 26, some 27, some 28, some 29, some 30] (L13_8).1 := w_plain (by kernel_rfl) (L13_8).2
noncomputable def L13_9 : Lt r13_9 := by refine ⟨?l, ?h⟩; case h => simp only [r13_9, c13, bodyOf, Try.f13, Code.sub, opsOf, List.map_cons, List.map_nil, strip]; rfl
theorem w13_9 : Wp r13_9 11 [14, 30, 36, 59, 66, 101] [9] [] [] [some 9] (L13_9).1 := w_plain (by kernel_rfl) (L13_9).2
noncomputable def L13_10 : Lt r13_10 := by refine ⟨?l, ?h⟩; case h => simp only [r13_10, c13, bodyOf, Try.f13, Code.sub, opsOf, List.map_cons, List.map_nil, strip]; rfl
theorem w13_10 : Wp r13_10 11 [14, 30, 36, 59, 66, 101] [10] [] [] [some 10] (L13_10).1 := w_plain (by kernel_rfl) (L13_10).2
noncomputable def L13_11 : Lt r13_11 := by refine ⟨?l, ?h⟩; case h => simp only [r13_11, c13, bodyOf, Try.f13, Code.sub, opsOf, List.map_cons, List.map_nil, strip]; rfl
theorem w13_11 : Wp r13_11 11 [14, 30, 36, 59, 66, 101] [] [36] [10, 0] [some 33, some 34, some 35, some 36] (L13_11).1 := w_plain (by kernel_rfl) (L13_11).2
theorem can13_12 : canonOps (opsOf r13_12) = opsOf r13_12 := by kernel_rfl
noncomputable def L13_12 : Lc r13_12 := by refine ⟨?l, (congrArg (List.map strip) can13_12).trans ?h⟩; case h => simp only [r13_12, c13, bodyOf, Try.f13, Code.sub, opsOf, List.map_cons, List.map_nil, strip]; rfl
theorem w13_12 : Wd r13_12 11 [14, 30, 36, 59, 66, 101] [] [59] [5, 10, 0, 4] [some 39, some 40, some 41, some 42, some 43, some 44, some 45, some 46, some 47, some 48, some 49, some 50, some 51, some 52, some 53, some 54, some 55, some 56, some 57, some 58, some 59] (L13_12).1 [(4, [19]), (13, [19]), (18, [19])] := w_loud (by kernel_rfl) (L13_12).2
noncomputable def L13_13 : Lt r13_13 := by refine ⟨?l, ?h⟩; case h => simp only [r13_13, c13, bodyOf, Try.f13, Code.sub, opsOf, List.map_cons, List.map_nil, strip]; rfl
theorem w13_13 : Wp r13_13 11 [14, 30, 36, 59, 66, 101] [9] [] [0, 10] [some 60, some 61, some 62, some 63, some 64, some 9] (L13_13).1 := w_plain (by kernel_rfl) (L13_13).2
noncomputable def L13_14 : Lt r13_14 := by refine ⟨?l, ?h⟩; case h => simp only [r13_14, c13, bodyOf, Try.f13, Code.sub, opsOf, List.map_cons, List.map_nil, strip]; rfl
theorem w13_14 : Wp r13_14 11 [14, 30, 36, 59, 66, 101] [10] [] [10] [some 37, some 38, some 10] (L13_14).1 := w_plain (by kernel_rfl) (L13_14).2
noncomputable def L13_15 : Lt r13_15 := by refine ⟨?l, ?h⟩; case h => simp only [r13_15, c13, bodyOf, Try.f13, Code.sub, opsOf, List.map_cons, List.map_nil, strip]; rfl
theorem w13_15 : Wp r13_15 11 [14, 30, 36, 59, 66, 101] [] [66] [9] [some 65, some 66] (L13_15).1 := w_plain (by kernel_rfl) (L13_15).2
noncomputable def L13_16 : Lt r13_16 := by refine ⟨?l, ?h⟩; case h => simp only [r13_16, c13, bodyOf, Try.f13, Code.sub, opsOf, List.map_cons, List.map_nil, strip]; rfl
theorem w13_16 : Wp r13_16 11 [14, 30, 36, 59, 66, 101] [5] [] [9] [some 67, some 5] (L13_16).1 := w_plain (by kernel_rfl) (L13_16).2
noncomputable def L13_17 : Lt r13_17 := by refine ⟨?l, ?h⟩; case h => simp only [r13_17, c13, bodyOf, Try.f13, Code.sub, opsOf, List.map_cons, List.map_nil, strip]; rfl
theorem w13_17 : Wp r13_17 11 [14, 30, 36, 59, 66, 101] [6] [] [6, 5] [some 68, some 69, some 70, some 6] (L13_17).1 := w_plain (by kernel_rfl) (L13_17).2
noncomputable def L13_18 : Lt r13_18 := by refine ⟨?l, ?h⟩; case h => simp only [r13_18, c13, bodyOf, Try.f13, Code.sub, opsOf, List.map_cons, List.map_nil, strip]; rfl
theorem w13_18 : Wp r13_18 11 [14, 30, 36, 59, 66, 101] [7] [] [5, 0, 4] [some 71, some 72, some 73, some 74, some 75, some 76, some 77, some 7] (L13_18).1 := w_plain (by kernel_rfl) (L13_18).2
noncomputable def L13_19 : Lt r13_19 := by refine ⟨?l, ?h⟩; case h => simp only [r13_19, c13, bodyOf, Try.f13, Code.sub, opsOf, List.map_cons, List.map_nil, strip]; rfl
theorem w13_19 : Wp r13_19 11 [14, 30, 36, 59, 66, 101] [8] [] [8] [some 31, some 32, some 8] (L13_19).1 := w_plain (by kernel_rfl) (L13_19).2
noncomputable def L13_20 : Lt r13_20 := by refine ⟨?l, ?h⟩; case h => simp only [r13_20, c13, bodyOf, Try.f13, Code.sub, opsOf, List.map_cons, List.map_nil, strip]; rfl
theorem w13_20 : Wp r13_20 11 [14, 30, 36, 59, 66, 101] [] [101] [7, 6, 0, 4] [some 78, some 79, some 80, some 81, some 82, some 83, some 84, some 85, some 86, some 87, some 88, some 89, some 90, some 91, some 92, some 93, some 94, some 95, some 96, some 97, some 98, some 99, some 100, some 101] (L13_20).1 := w_plain (by kernel_rfl) (L13_20).2
noncomputable def L13_21 : Lt r13_21 := by refine ⟨?l, ?h⟩; case h => simp only [r13_21, c13, bodyOf, Try.f13, Code.sub, opsOf, List.map_cons, List.map_nil, strip]; rfl
theorem w13_21 : Wp r13_21 11 [14, 30, 36, 59, 66, 101] [3] [] [3] [some 102, some 103, some 3] (L13_21).1 := w_plain (by kernel_rfl) (L13_21).2
noncomputable def L13_22 : Lt r13_22 := by refine ⟨?l, ?h⟩; case h => simp only [r13_22, c13, bodyOf, Try.f13, Code.sub, opsOf, List.map_cons, List.map_nil, strip]; rfl
theorem w13_22 : Wp r13_22 11 [14, 30, 36, 59, 66, 101] [4] [] [4] [some 15, some 16, some 4] (L13_22).1 := w_plain (by kernel_rfl) (L13_22).2
noncomputable def L13_23 : Lt r13_23 := by refine ⟨?l, ?h⟩; case h => simp only [r13_23, c13, bodyOf, Try.f13, Code.sub, opsOf, List.map_cons, List.map_nil, strip]; rfl
theorem w13_23 : Wp r13_23 11 [14, 30, 36, 59, 66, 101] [2] [] [3] [some 104, some 2] (L13_23).1 := w_plain (by kernel_rfl) (L13_23).2
theorem k13 : FnIs TT 13 c13 [.tmp 2] 1 := ⟨Try.f13, by kernel_rfl, by simp only [Try.f13, c13, bodyOf], by kernel_rfl, of_decide_eq_true (by kernel_rfl)⟩

/- turnstoneref25.RightMoves -/
noncomputable def c14 : Code := bodyOf Try.f14
noncomputable def r14_0 : Code := Code.sub [0] c14
noncomputable def r14_1 : Code := Code.sub [1, 0, 0] c14
noncomputable def r14_2 : Code := Code.sub [1, 0, 1, 0, 0] c14
noncomputable def r14_3 : Code := Code.sub [1, 1, 0, 0] c14
noncomputable def r14_4 : Code := Code.sub [1, 1, 0, 1, 0, 0, 0, 0] c14
noncomputable def r14_5 : Code := Code.sub [1, 1, 0, 1, 0, 0, 1, 0, 0, 0, 0] c14
noncomputable def r14_6 : Code := Code.sub [1, 1, 0, 1, 0, 0, 1, 0, 0, 0, 1, 0, 0] c14
noncomputable def r14_7 : Code := Code.sub [1, 1, 0, 1, 0, 0, 1, 0, 0, 1, 0] c14
noncomputable def r14_8 : Code := Code.sub [1, 1, 0, 1, 0, 0, 1, 0, 0, 1, 1, 0, 0, 0, 0] c14
noncomputable def r14_9 : Code := Code.sub [1, 1, 0, 1, 0, 0, 1, 0, 0, 1, 1, 0, 0, 1, 0, 0, 0] c14
noncomputable def r14_10 : Code := Code.sub [1, 1, 0, 1, 0, 0, 1, 0, 0, 1, 1, 0, 0, 1, 0, 0, 1, 0, 0] c14
noncomputable def r14_11 : Code := Code.sub [1, 1, 0, 1, 0, 0, 1, 0, 0, 1, 1, 0, 0, 1, 1] c14
noncomputable def r14_12 : Code := Code.sub [1, 1, 0, 1, 0, 0, 1, 1] c14
noncomputable def r14_13 : Code := Code.sub [1, 1, 1, 0] c14
theorem body14 : c14 = (.seq r14_0 (.seq (.seq r14_1 (.cond (.tmp 7) (.seq r14_2 .ret) .skip)) (.seq (.seq r14_3 (.block 0 (.loop (.seq (.seq r14_4 (.cond (.tmp 11) .skip (.exit 0))) (.seq (.block 1 (.seq (.seq r14_5 (.cond (.tmp 43) (.seq r14_6 .ret) .skip)) (.seq r14_7 (.block 2 (.loop (.seq (.seq r14_8 (.cond (.tmp 46) .skip (.exit 2))) (.seq (.block 3 (.seq r14_9 (.cond (.tmp 59) (.seq r14_10 .ret) .skip))) r14_11))))))) r14_12))))) (.seq r14_13 .ret)))) := by kernel_rfl
noncomputable def L14_0 : Lt r14_0 := by refine ⟨?l, ?h⟩; case h => simp only [r14_0, c14, bodyOf, Try.f14, Code.sub, opsOf, List.map_cons, List.map_nil, strip]; rfl
theorem w14_0 : Wp r14_0 5 [7, 11, 43, 46, 59] [2] [] [] [some 2] (L14_0).1 := w_plain (by kernel_rfl) (L14_0).2
noncomputable def L14_1 : Lt r14_1 := by refine ⟨?l, ?h⟩; case h => simp only [r14_1, c14, bodyOf, Try.f14, Code.sub, opsOf, List.map_cons, List.map_nil, strip]; rfl
theorem w14_1 : Wp r14_1 5 [7, 11, 43, 46, 59] [] [7] [0] [some 5, some 6, some 7] (L14_1).1 := w_plain (by kernel_rfl) (L14_1).2
noncomputable def L14_2 : Lt r14_2 := by refine ⟨?l, ?h⟩; case h => simp only [r14_2, c14, bodyOf, Try.f14, Code.sub, opsOf, List.map_cons, List.map_nil, strip]; rfl
theorem w14_2 : Wp r14_2 5 [7, 11, 43, 46, 59] [2] [] [] [some 2] (L14_2).1 := w_plain (by kernel_rfl) (L14_2).2
noncomputable def L14_3 : Lt r14_3 := by refine ⟨?l, ?h⟩; case h => simp only [r14_3, c14, bodyOf, Try.f14, Code.sub, opsOf, List.map_cons, List.map_nil, strip]; rfl
theorem w14_3 : Wp r14_3 5 [7, 11, 43, 46, 59] [3] [] [] [some 3] (L14_3).1 := w_plain (by kernel_rfl) (L14_3).2
noncomputable def L14_4 : Lt r14_4 := by refine ⟨?l, ?h⟩; case h => simp only [r14_4, c14, bodyOf, Try.f14, Code.sub, opsOf, List.map_cons, List.map_nil, strip]; rfl
theorem w14_4 : Wp r14_4 5 [7, 11, 43, 46, 59] [] [11] [3, 0] [some 8, some 9, some 10, some 11] (L14_4).1 := w_plain (by kernel_rfl) (L14_4).2
noncomputable def L14_5 : Lt r14_5 := by refine ⟨?l, ?h⟩; case h => simp only [r14_5, c14, bodyOf, Try.f14, Code.sub, opsOf, List.map_cons, List.map_nil, strip]; rfl
theorem w14_5 : Wp r14_5 5 [7, 11, 43, 46, 59] [] [43] [0, 3] [some 14, some 15, some 16, some 17, some 18, some 19, some 20, some 21, some 22, some 23, some 24, some 25, some 26, some 27, some 28, some 29, some 30, some 31, some 32, some 33, some 34, some 35, some 36, some 37, some 38, some 39, some 40, some 41, some 42, some 43] (L14_5).1 := w_plain (by kernel_rfl) (L14_5).2
noncomputable def L14_6 : Lt r14_6 := by refine ⟨?l, ?h⟩; case h => simp only [r14_6, c14, bodyOf, Try.f14, Code.sub, opsOf, List.map_cons, List.map_nil, strip]; rfl
theorem w14_6 : Wp r14_6 5 [7, 11, 43, 46, 59] [2] [] [] [some 2] (L14_6).1 := w_plain (by kernel_rfl) (L14_6).2
noncomputable def L14_7 : Lt r14_7 := by refine ⟨?l, ?h⟩; case h => simp only [r14_7, c14, bodyOf, Try.f14, Code.sub, opsOf, List.map_cons, List.map_nil, strip]; rfl
theorem w14_7 : Wp r14_7 5 [7, 11, 43, 46, 59] [4] [] [] [some 4] (L14_7).1 := w_plain (by kernel_rfl) (L14_7).2
noncomputable def L14_8 : Lt r14_8 := by refine ⟨?l, ?h⟩; case h => simp only [r14_8, c14, bodyOf, Try.f14, Code.sub, opsOf, List.map_cons, List.map_nil, strip]; rfl
theorem w14_8 : Wp r14_8 5 [7, 11, 43, 46, 59] [] [46] [4, 3] [some 44, some 45, some 46] (L14_8).1 := w_plain (by kernel_rfl) (L14_8).2
noncomputable def L14_9 : Lt r14_9 := by refine ⟨?l, ?h⟩; case h => simp only [r14_9, c14, bodyOf, Try.f14, Code.sub, opsOf, List.map_cons, List.map_nil, strip]; rfl
theorem w14_9 : Wp r14_9 5 [7, 11, 43, 46, 59] [] [59] [3, 0, 4] [some 49, some 50, some 51, some 52, some 53, some 54, some 55, some 56, some 57, some 58, some 59] (L14_9).1 := w_plain (by kernel_rfl) (L14_9).2
noncomputable def L14_10 : Lt r14_10 := by refine ⟨?l, ?h⟩; case h => simp only [r14_10, c14, bodyOf, Try.f14, Code.sub, opsOf, List.map_cons, List.map_nil, strip]; rfl
theorem w14_10 : Wp r14_10 5 [7, 11, 43, 46, 59] [2] [] [] [some 2] (L14_10).1 := w_plain (by kernel_rfl) (L14_10).2
noncomputable def L14_11 : Lt r14_11 := by refine ⟨?l, ?h⟩; case h => simp only [r14_11, c14, bodyOf, Try.f14, Code.sub, opsOf, List.map_cons, List.map_nil, strip]; rfl
theorem w14_11 : Wp r14_11 5 [7, 11, 43, 46, 59] [4] [] [4] [some 47, some 48, some 4] (L14_11).1 := w_plain (by kernel_rfl) (L14_11).2
noncomputable def L14_12 : Lt r14_12 := by refine ⟨?l, ?h⟩; case h => simp only [r14_12, c14, bodyOf, Try.f14, Code.sub, opsOf, List.map_cons, List.map_nil, strip]; rfl
theorem w14_12 : Wp r14_12 5 [7, 11, 43, 46, 59] [3] [] [3] [some 12, some 13, some 3] (L14_12).1 := w_plain (by kernel_rfl) (L14_12).2
noncomputable def L14_13 : Lt r14_13 := by refine ⟨?l, ?h⟩; case h => simp only [r14_13, c14, bodyOf, Try.f14, Code.sub, opsOf, List.map_cons, List.map_nil, strip]; rfl
theorem w14_13 : Wp r14_13 5 [7, 11, 43, 46, 59] [2] [] [] [some 2] (L14_13).1 := w_plain (by kernel_rfl) (L14_13).2
theorem k14 : FnIs TT 14 c14 [.tmp 2] 1 := ⟨Try.f14, by kernel_rfl, by simp only [Try.f14, c14, bodyOf], by kernel_rfl, of_decide_eq_true (by kernel_rfl)⟩

/- moves.One -/
noncomputable def c15 : Code := bodyOf Try.f15
noncomputable def r15_0 : Code := Code.sub [0] c15
noncomputable def r15_1 : Code := Code.sub [1, 0] c15
noncomputable def r15_2 : Code := Code.sub [1, 1, 0] c15
noncomputable def r15_3 : Code := Code.sub [1, 1, 1, 0, 0] c15
noncomputable def r15_4 : Code := Code.sub [1, 1, 1, 0, 1, 0, 0, 0] c15
noncomputable def r15_5 : Code := Code.sub [1, 1, 1, 0, 1, 0, 0, 1, 1, 0, 0, 0] c15
noncomputable def r15_6 : Code := Code.sub [1, 1, 1, 0, 1, 0, 0, 1, 1, 0, 0, 1, 0] c15
noncomputable def r15_7 : Code := Code.sub [1, 1, 1, 0, 1, 0, 0, 1, 1, 0, 0, 1, 1, 0, 0] c15
noncomputable def r15_8 : Code := Code.sub [1, 1, 1, 0, 1, 0, 0, 1, 1, 0, 0, 1, 1, 0, 1, 0] c15
noncomputable def r15_9 : Code := Code.sub [1, 1, 1, 0, 1, 0, 0, 1, 1, 0, 0, 1, 1, 0, 1, 1] c15
noncomputable def r15_10 : Code := Code.sub [1, 1, 1, 0, 1, 0, 0, 1, 1, 1] c15
noncomputable def r15_11 : Code := Code.sub [1, 1, 1, 1, 0, 0] c15
noncomputable def r15_12 : Code := Code.sub [1, 1, 1, 1, 0, 1, 0, 0, 0] c15
noncomputable def r15_13 : Code := Code.sub [1, 1, 1, 1, 0, 1, 0, 0, 1, 1, 0, 0, 0] c15
noncomputable def r15_14 : Code := Code.sub [1, 1, 1, 1, 0, 1, 0, 0, 1, 1, 0, 0, 1, 0] c15
noncomputable def r15_15 : Code := Code.sub [1, 1, 1, 1, 0, 1, 0, 0, 1, 1, 0, 0, 1, 1, 0] c15
noncomputable def r15_16 : Code := Code.sub [1, 1, 1, 1, 0, 1, 0, 0, 1, 1, 1] c15
noncomputable def r15_17 : Code := Code.sub [1, 1, 1, 1, 1, 0] c15
noncomputable def r15_18 : Code := Code.sub [1, 1, 1, 1, 1, 1, 0, 0] c15
noncomputable def r15_19 : Code := Code.sub [1, 1, 1, 1, 1, 1, 0, 1, 0, 0, 0] c15
noncomputable def r15_20 : Code := Code.sub [1, 1, 1, 1, 1, 1, 0, 1, 0, 0, 1, 1, 0, 0, 0] c15
noncomputable def r15_21 : Code := Code.sub [1, 1, 1, 1, 1, 1, 0, 1, 0, 0, 1, 1, 0, 0, 1, 0] c15
noncomputable def r15_22 : Code := Code.sub [1, 1, 1, 1, 1, 1, 0, 1, 0, 0, 1, 1, 0, 0, 1, 1, 0] c15
noncomputable def r15_23 : Code := Code.sub [1, 1, 1, 1, 1, 1, 0, 1, 0, 0, 1, 1, 0, 0, 1, 1, 1, 0, 0] c15
noncomputable def r15_24 : Code := Code.sub [1, 1, 1, 1, 1, 1, 0, 1, 0, 0, 1, 1, 0, 0, 1, 1, 1, 0, 1] c15
noncomputable def r15_25 : Code := Code.sub [1, 1, 1, 1, 1, 1, 0, 1, 0, 0, 1, 1, 1] c15
noncomputable def r15_26 : Code := Code.sub [1, 1, 1, 1, 1, 1, 1, 0] c15
theorem body15 : c15 = (.seq r15_0 (.seq r15_1 (.seq r15_2 (.seq (.seq r15_3 (.block 0 (.loop (.seq r15_4 (.seq (.cond (.tmp 22) .skip (.exit 0)) (.seq (.block 1 (.seq r15_5 (.seq r15_6 (.cond (.tmp 29) (.seq r15_7 (.seq r15_8 r15_9)) .skip)))) r15_10)))))) (.seq (.seq r15_11 (.block 2 (.loop (.seq r15_12 (.seq (.cond (.tmp 55) .skip (.exit 2)) (.seq (.block 3 (.seq r15_13 (.seq r15_14 (.cond (.tmp 64) r15_15 .skip)))) r15_16)))))) (.seq r15_17 (.seq (.seq r15_18 (.block 4 (.loop (.seq r15_19 (.seq (.cond (.tmp 78) .skip (.exit 4)) (.seq (.block 5 (.seq r15_20 (.seq r15_21 (.seq r15_22 (.cond (.tmp 90) (.seq r15_23 r15_24) .skip))))) r15_25)))))) (.seq r15_26 .ret)))))))) := by kernel_rfl
noncomputable def L15_0 : Lt r15_0 := by refine ⟨?l, ?h⟩; case h => simp only [r15_0, c15, bodyOf, Try.f15, Code.sub, opsOf, List.map_cons, List.map_nil, strip]; rfl
theorem w15_0 : Wp r15_0 78 [78, 90] [4] [] [] [some 4] (L15_0).1 := w_plain (by kernel_rfl) (L15_0).2
noncomputable def L15_1 : Lt r15_1 := by refine ⟨?l, ?h⟩; case h => simp only [r15_1, c15, bodyOf, Try.f15, Code.sub, opsOf, List.map_cons, List.map_nil, strip]; rfl
theorem w15_1 : Wp r15_1 78 [78, 90] [15, 16, 17, 18, 5] [] [] [some 15, some 16, some 17, some 18, some 5] (L15_1).1 := w_plain (by kernel_rfl) (L15_1).2
noncomputable def L15_2 : Lt r15_2 := by refine ⟨?l, ?h⟩; case h => simp only [r15_2, c15, bodyOf, Try.f15, Code.sub, opsOf, List.map_cons, List.map_nil, strip]; rfl
theorem w15_2 : Wp r15_2 78 [78, 90] [6] [] [] [some 6] (L15_2).1 := w_plain (by kernel_rfl) (L15_2).2
noncomputable def L15_3 : Lt r15_3 := by refine ⟨?l, ?h⟩; case h => simp only [r15_3, c15, bodyOf, Try.f15, Code.sub, opsOf, List.map_cons, List.map_nil, strip]; rfl
theorem w15_3 : Wp r15_3 78 [78, 90] [19, 20, 21] [] [0] [some 19, some 20, some 21] (L15_3).1 := w_plain (by kernel_rfl) (L15_3).2
noncomputable def L15_4 : Lt r15_4 := by refine ⟨?l, ?h⟩; case h => simp only [r15_4, c15, bodyOf, Try.f15, Code.sub, opsOf, List.map_cons, List.map_nil, strip]; rfl
theorem w15_4 : Wp r15_4 78 [78, 90] [22] [] [21, 20] [some 22] (L15_4).1 := w_plain (by kernel_rfl) (L15_4).2
noncomputable def L15_5 : Lt r15_5 := by refine ⟨?l, ?h⟩; case h => simp only [r15_5, c15, bodyOf, Try.f15, Code.sub, opsOf, List.map_cons, List.map_nil, strip]; rfl
theorem w15_5 : Wp r15_5 78 [78, 90] [23, 24, 8] [] [19, 21] [some 23, some 24, some 8, none] (L15_5).1 := w_plain (by kernel_rfl) (L15_5).2
noncomputable def L15_6 : Lt r15_6 := by refine ⟨?l, ?h⟩; case h => simp only [r15_6, c15, bodyOf, Try.f15, Code.sub, opsOf, List.map_cons, List.map_nil, strip]; rfl
theorem w15_6 : Wp r15_6 78 [78, 90] [25, 26, 27, 28, 29] [] [8] [some 25, some 26, some 27, some 28, some 29] (L15_6).1 := w_plain (by kernel_rfl) (L15_6).2
theorem can15_7 : canonOps (opsOf r15_7) = opsOf r15_7 := by kernel_rfl
noncomputable def L15_7 : Lc r15_7 := by refine ⟨?l, (congrArg (List.map strip) can15_7).trans ?h⟩; case h => simp only [r15_7, c15, bodyOf, Try.f15, Code.sub, opsOf, List.map_cons, List.map_nil, strip]; rfl
theorem w15_7 : Wd r15_7 78 [78, 90] [30, 31, 32, 33, 34, 35, 36, 37] [] [5, 8] [some 30, some 31, some 32, some 33, some 34, some 35, some 36, some 37, none] (L15_7).1 [(3, [8]), (5, [8]), (7, [8])] := w_loud (by kernel_rfl) (L15_7).2
theorem can15_8 : canonOps (opsOf r15_8) = opsOf r15_8 := by kernel_rfl
noncomputable def L15_8 : Lc r15_8 := by refine ⟨?l, (congrArg (List.map strip) can15_8).trans ?h⟩; case h => simp only [r15_8, c15, bodyOf, Try.f15, Code.sub, opsOf, List.map_cons, List.map_nil, strip]; rfl
theorem w15_8 : Wd r15_8 78 [78, 90] [38, 39, 40, 41, 42, 43, 44, 45] [] [5, 8] [some 38, some 39, some 40, some 41, some 42, some 43, some 44, some 45, none] (L15_8).1 [(3, [8]), (5, [8]), (6, [8])] := w_loud (by kernel_rfl) (L15_8).2
noncomputable def L15_9 : Lt r15_9 := by refine ⟨?l, ?h⟩; case h => simp only [r15_9, c15, bodyOf, Try.f15, Code.sub, opsOf, List.map_cons, List.map_nil, strip]; rfl
theorem w15_9 : Wp r15_9 78 [78, 90] [46, 47, 48, 49, 50, 6] [] [6, 8] [some 46, some 47, some 48, some 49, some 50, some 6] (L15_9).1 := w_plain (by kernel_rfl) (L15_9).2
noncomputable def L15_10 : Lt r15_10 := by refine ⟨?l, ?h⟩; case h => simp only [r15_10, c15, bodyOf, Try.f15, Code.sub, opsOf, List.map_cons, List.map_nil, strip]; rfl
theorem w15_10 : Wp r15_10 78 [78, 90] [51, 21] [] [21] [some 51, some 21] (L15_10).1 := w_plain (by kernel_rfl) (L15_10).2
noncomputable def L15_11 : Lt r15_11 := by refine ⟨?l, ?h⟩; case h => simp only [r15_11, c15, bodyOf, Try.f15, Code.sub, opsOf, List.map_cons, List.map_nil, strip]; rfl
theorem w15_11 : Wp r15_11 78 [78, 90] [52, 53, 54] [] [6] [some 52, some 53, some 54] (L15_11).1 := w_plain (by kernel_rfl) (L15_11).2
noncomputable def L15_12 : Lt r15_12 := by refine ⟨?l, ?h⟩; case h => simp only [r15_12, c15, bodyOf, Try.f15, Code.sub, opsOf, List.map_cons, List.map_nil, strip]; rfl
theorem w15_12 : Wp r15_12 78 [78, 90] [55] [] [54, 53] [some 55] (L15_12).1 := w_plain (by kernel_rfl) (L15_12).2
noncomputable def L15_13 : Lt r15_13 := by refine ⟨?l, ?h⟩; case h => simp only [r15_13, c15, bodyOf, Try.f15, Code.sub, opsOf, List.map_cons, List.map_nil, strip]; rfl
theorem w15_13 : Wp r15_13 78 [78, 90] [56, 57, 10] [] [52, 54] [some 56, some 57, some 10] (L15_13).1 := w_plain (by kernel_rfl) (L15_13).2
noncomputable def L15_14 : Lt r15_14 := by refine ⟨?l, ?h⟩; case h => simp only [r15_14, c15, bodyOf, Try.f15, Code.sub, opsOf, List.map_cons, List.map_nil, strip]; rfl
theorem w15_14 : Wp r15_14 78 [78, 90] [58, 59, 60, 61, 62, 63, 64] [] [5, 10] [some 58, some 59, some 60, some 61, some 62, some 63, some 64] (L15_14).1 := w_plain (by kernel_rfl) (L15_14).2
noncomputable def L15_15 : Lt r15_15 := by refine ⟨?l, ?h⟩; case h => simp only [r15_15, c15, bodyOf, Try.f15, Code.sub, opsOf, List.map_cons, List.map_nil, strip]; rfl
theorem w15_15 : Wp r15_15 78 [78, 90] [65, 66, 67, 68, 69, 70, 71] [] [5, 10] [some 65, some 66, some 67, some 68, some 69, some 70, some 71] (L15_15).1 := w_plain (by kernel_rfl) (L15_15).2
noncomputable def L15_16 : Lt r15_16 := by refine ⟨?l, ?h⟩; case h => simp only [r15_16, c15, bodyOf, Try.f15, Code.sub, opsOf, List.map_cons, List.map_nil, strip]; rfl
theorem w15_16 : Wp r15_16 78 [78, 90] [72, 54] [] [54] [some 72, some 54] (L15_16).1 := w_plain (by kernel_rfl) (L15_16).2
noncomputable def L15_17 : Lt r15_17 := by refine ⟨?l, ?h⟩; case h => simp only [r15_17, c15, bodyOf, Try.f15, Code.sub, opsOf, List.map_cons, List.map_nil, strip]; rfl
theorem w15_17 : Wp r15_17 78 [78, 90] [73, 74] [] [5] [some 73, some 74] (L15_17).1 := w_plain (by kernel_rfl) (L15_17).2
noncomputable def L15_18 : Lt r15_18 := by refine ⟨?l, ?h⟩; case h => simp only [r15_18, c15, bodyOf, Try.f15, Code.sub, opsOf, List.map_cons, List.map_nil, strip]; rfl
theorem w15_18 : Wp r15_18 78 [78, 90] [75, 76, 77] [] [6] [some 75, some 76, some 77] (L15_18).1 := w_plain (by kernel_rfl) (L15_18).2
noncomputable def L15_19 : Lt r15_19 := by refine ⟨?l, ?h⟩; case h => simp only [r15_19, c15, bodyOf, Try.f15, Code.sub, opsOf, List.map_cons, List.map_nil, strip]; rfl
theorem w15_19 : Wp r15_19 78 [78, 90] [] [78] [77, 76] [some 78] (L15_19).1 := w_plain (by kernel_rfl) (L15_19).2
noncomputable def L15_20 : Lt r15_20 := by refine ⟨?l, ?h⟩; case h => simp only [r15_20, c15, bodyOf, Try.f15, Code.sub, opsOf, List.map_cons, List.map_nil, strip]; rfl
theorem w15_20 : Wp r15_20 78 [78, 90] [12] [] [75, 77] [some 79, some 80, some 12] (L15_20).1 := w_plain (by kernel_rfl) (L15_20).2
noncomputable def L15_21 : Lt r15_21 := by refine ⟨?l, ?h⟩; case h => simp only [r15_21, c15, bodyOf, Try.f15, Code.sub, opsOf, List.map_cons, List.map_nil, strip]; rfl
theorem w15_21 : Wp r15_21 78 [78, 90] [13, 14] [] [5, 12] [some 82, some 83, some 84, some 85, some 86, some 87, some 81, some 88, some 89, some 13, some 14] (L15_21).1 := w_plain (by kernel_rfl) (L15_21).2
noncomputable def L15_22 : Lt r15_22 := by refine ⟨?l, ?h⟩; case h => simp only [r15_22, c15, bodyOf, Try.f15, Code.sub, opsOf, List.map_cons, List.map_nil, strip]; rfl
theorem w15_22 : Wp r15_22 78 [78, 90] [] [90] [14] [some 90] (L15_22).1 := w_plain (by kernel_rfl) (L15_22).2
noncomputable def L15_23 : Lt r15_23 := by refine ⟨?l, ?h⟩; case h => simp only [r15_23, c15, bodyOf, Try.f15, Code.sub, opsOf, List.map_cons, List.map_nil, strip]; rfl
theorem w15_23 : Wp r15_23 78 [78, 90] [] [] [5, 12, 1] [some 91, some 92, some 93, some 94, some 95, some 96, some 97, some 98, some 99, some 100, some 101, some 102, none] (L15_23).1 := w_plain (by kernel_rfl) (L15_23).2
noncomputable def L15_24 : Lt r15_24 := by refine ⟨?l, ?h⟩; case h => simp only [r15_24, c15, bodyOf, Try.f15, Code.sub, opsOf, List.map_cons, List.map_nil, strip]; rfl
theorem w15_24 : Wp r15_24 78 [78, 90] [] [] [5, 12, 1] [some 103, some 104, some 105, some 106] (L15_24).1 := w_plain (by kernel_rfl) (L15_24).2
noncomputable def L15_25 : Lt r15_25 := by refine ⟨?l, ?h⟩; case h => simp only [r15_25, c15, bodyOf, Try.f15, Code.sub, opsOf, List.map_cons, List.map_nil, strip]; rfl
theorem w15_25 : Wp r15_25 78 [78, 90] [77] [] [77] [some 107, some 77] (L15_25).1 := w_plain (by kernel_rfl) (L15_25).2
noncomputable def L15_26 : Lt r15_26 := by refine ⟨?l, ?h⟩; case h => simp only [r15_26, c15, bodyOf, Try.f15, Code.sub, opsOf, List.map_cons, List.map_nil, strip]; rfl
theorem w15_26 : Wp r15_26 78 [78, 90] [4] [] [5] [some 108, some 109, some 110, some 111, some 4] (L15_26).1 := w_plain (by kernel_rfl) (L15_26).2
theorem k15 : FnIs TT 15 c15 [.tmp 4] 2 := ⟨Try.f15, by kernel_rfl, by simp only [Try.f15, c15, bodyOf], by kernel_rfl, of_decide_eq_true (by kernel_rfl)⟩

/- turnstonelaw23.find -/
noncomputable def c16 : Code := bodyOf Try.f16
noncomputable def r16_0 : Code := Code.sub [0] c16
noncomputable def r16_1 : Code := Code.sub [1, 0, 0] c16
noncomputable def r16_2 : Code := Code.sub [1, 0, 1, 0, 0, 0, 0] c16
noncomputable def r16_3 : Code := Code.sub [1, 0, 1, 0, 0, 1, 0, 0, 0] c16
noncomputable def r16_4 : Code := Code.sub [1, 0, 1, 0, 0, 1, 0, 0, 1, 0, 0] c16
noncomputable def r16_5 : Code := Code.sub [1, 0, 1, 0, 0, 1, 1] c16
noncomputable def r16_6 : Code := Code.sub [1, 1, 0] c16
theorem body16 : c16 = (.seq r16_0 (.seq (.seq r16_1 (.block 0 (.loop (.seq (.seq r16_2 (.cond (.tmp 10) .skip (.exit 0))) (.seq (.block 1 (.seq r16_3 (.cond (.tmp 19) (.seq r16_4 .ret) .skip))) r16_5))))) (.seq r16_6 .ret))) := by kernel_rfl
noncomputable def L16_0 : Lt r16_0 := by refine ⟨?l, ?h⟩; case h => simp only [r16_0, c16, bodyOf, Try.f16, Code.sub, opsOf, List.map_cons, List.map_nil, strip]; rfl
theorem w16_0 : Wp r16_0 6 [10, 19] [4] [] [] [some 4] (L16_0).1 := w_plain (by kernel_rfl) (L16_0).2
noncomputable def L16_1 : Lt r16_1 := by refine ⟨?l, ?h⟩; case h => simp only [r16_1, c16, bodyOf, Try.f16, Code.sub, opsOf, List.map_cons, List.map_nil, strip]; rfl
theorem w16_1 : Wp r16_1 6 [10, 19] [5] [] [0] [some 6, some 7, some 8, some 5] (L16_1).1 := w_plain (by kernel_rfl) (L16_1).2
noncomputable def L16_2 : Lt r16_2 := by refine ⟨?l, ?h⟩; case h => simp only [r16_2, c16, bodyOf, Try.f16, Code.sub, opsOf, List.map_cons, List.map_nil, strip]; rfl
theorem w16_2 : Wp r16_2 6 [10, 19] [] [10] [5] [some 9, some 10] (L16_2).1 := w_plain (by kernel_rfl) (L16_2).2
noncomputable def L16_3 : Lt r16_3 := by refine ⟨?l, ?h⟩; case h => simp only [r16_3, c16, bodyOf, Try.f16, Code.sub, opsOf, List.map_cons, List.map_nil, strip]; rfl
theorem w16_3 : Wp r16_3 6 [10, 19] [] [19] [0, 5, 1] [some 13, some 14, some 15, some 16, some 17, some 18, some 19] (L16_3).1 := w_plain (by kernel_rfl) (L16_3).2
noncomputable def L16_4 : Lt r16_4 := by refine ⟨?l, ?h⟩; case h => simp only [r16_4, c16, bodyOf, Try.f16, Code.sub, opsOf, List.map_cons, List.map_nil, strip]; rfl
theorem w16_4 : Wp r16_4 6 [10, 19] [4] [] [0, 5] [some 20, some 21, some 22, some 23, some 24, some 4] (L16_4).1 := w_plain (by kernel_rfl) (L16_4).2
noncomputable def L16_5 : Lt r16_5 := by refine ⟨?l, ?h⟩; case h => simp only [r16_5, c16, bodyOf, Try.f16, Code.sub, opsOf, List.map_cons, List.map_nil, strip]; rfl
theorem w16_5 : Wp r16_5 6 [10, 19] [5] [] [5] [some 11, some 12, some 5] (L16_5).1 := w_plain (by kernel_rfl) (L16_5).2
noncomputable def L16_6 : Lt r16_6 := by refine ⟨?l, ?h⟩; case h => simp only [r16_6, c16, bodyOf, Try.f16, Code.sub, opsOf, List.map_cons, List.map_nil, strip]; rfl
theorem w16_6 : Wp r16_6 6 [10, 19] [4] [] [1] [some 25, some 4] (L16_6).1 := w_plain (by kernel_rfl) (L16_6).2
theorem k16 : FnIs TT 16 c16 [.tmp 4] 2 := ⟨Try.f16, by kernel_rfl, by simp only [Try.f16, c16, bodyOf], by kernel_rfl, of_decide_eq_true (by kernel_rfl)⟩

/- turnstoneref25.leads -/
noncomputable def c17 : Code := bodyOf Try.f17
noncomputable def r17_0 : Code := Code.sub [0] c17
noncomputable def r17_1 : Code := Code.sub [1, 0] c17
noncomputable def r17_2 : Code := Code.sub [1, 1, 0, 0] c17
noncomputable def r17_3 : Code := Code.sub [1, 1, 0, 1, 0, 0, 0, 0] c17
noncomputable def r17_4 : Code := Code.sub [1, 1, 0, 1, 0, 0, 1, 0, 0, 0, 0] c17
noncomputable def r17_5 : Code := Code.sub [1, 1, 0, 1, 0, 0, 1, 0, 0, 0, 1, 0, 0] c17
noncomputable def r17_6 : Code := Code.sub [1, 1, 0, 1, 0, 0, 1, 0, 0, 1, 0] c17
noncomputable def r17_7 : Code := Code.sub [1, 1, 0, 1, 0, 0, 1, 0, 0, 1, 1, 0, 0, 0, 0, 0] c17
noncomputable def r17_8 : Code := Code.sub [1, 1, 0, 1, 0, 0, 1, 0, 0, 1, 1, 0, 0, 0, 1, 0] c17
noncomputable def r17_9 : Code := Code.sub [1, 1, 0, 1, 0, 0, 1, 0, 0, 1, 1, 1, 0, 0] c17
noncomputable def r17_10 : Code := Code.sub [1, 1, 0, 1, 0, 0, 1, 0, 0, 1, 1, 1, 0, 1, 0, 0] c17
noncomputable def r17_11 : Code := Code.sub [1, 1, 0, 1, 0, 0, 1, 0, 0, 1, 1, 1, 1] c17
noncomputable def r17_12 : Code := Code.sub [1, 1, 0, 1, 0, 0, 1, 1] c17
noncomputable def r17_13 : Code := Code.sub [1, 1, 1, 0] c17
theorem body17 : c17 = (.seq r17_0 (.seq r17_1 (.seq (.seq r17_2 (.block 0 (.loop (.seq (.seq r17_3 (.cond (.tmp 14) .skip (.exit 0))) (.seq (.block 1 (.seq (.seq r17_4 (.cond (.tmp 19) (.seq r17_5 .ret) .skip)) (.seq r17_6 (.seq (.block 2 (.loop (.seq (.seq r17_7 (.cond (.tmp 32) .skip (.exit 2))) (.block 3 r17_8)))) (.seq (.seq r17_9 (.cond (.tmp 38) (.seq r17_10 .ret) .skip)) r17_11))))) r17_12))))) (.seq r17_13 .ret)))) := by kernel_rfl
noncomputable def L17_0 : Lt r17_0 := by refine ⟨?l, ?h⟩; case h => simp only [r17_0, c17, bodyOf, Try.f17, Code.sub, opsOf, List.map_cons, List.map_nil, strip]; rfl
theorem w17_0 : Wp r17_0 10 [14, 19, 32, 38] [6] [] [] [some 6] (L17_0).1 := w_plain (by kernel_rfl) (L17_0).2
noncomputable def L17_1 : Lt r17_1 := by refine ⟨?l, ?h⟩; case h => simp only [r17_1, c17, bodyOf, Try.f17, Code.sub, opsOf, List.map_cons, List.map_nil, strip]; rfl
theorem w17_1 : Wp r17_1 10 [14, 19, 32, 38] [7] [] [2] [some 10, some 7] (L17_1).1 := w_plain (by kernel_rfl) (L17_1).2
noncomputable def L17_2 : Lt r17_2 := by refine ⟨?l, ?h⟩; case h => simp only [r17_2, c17, bodyOf, Try.f17, Code.sub, opsOf, List.map_cons, List.map_nil, strip]; rfl
theorem w17_2 : Wp r17_2 10 [14, 19, 32, 38] [8] [] [] [some 8] (L17_2).1 := w_plain (by kernel_rfl) (L17_2).2
noncomputable def L17_3 : Lt r17_3 := by refine ⟨?l, ?h⟩; case h => simp only [r17_3, c17, bodyOf, Try.f17, Code.sub, opsOf, List.map_cons, List.map_nil, strip]; rfl
theorem w17_3 : Wp r17_3 10 [14, 19, 32, 38] [] [14] [8, 0] [some 11, some 12, some 13, some 14] (L17_3).1 := w_plain (by kernel_rfl) (L17_3).2
noncomputable def L17_4 : Lt r17_4 := by refine ⟨?l, ?h⟩; case h => simp only [r17_4, c17, bodyOf, Try.f17, Code.sub, opsOf, List.map_cons, List.map_nil, strip]; rfl
theorem w17_4 : Wp r17_4 10 [14, 19, 32, 38] [] [19] [7, 1] [some 17, some 18, some 19] (L17_4).1 := w_plain (by kernel_rfl) (L17_4).2
noncomputable def L17_5 : Lt r17_5 := by refine ⟨?l, ?h⟩; case h => simp only [r17_5, c17, bodyOf, Try.f17, Code.sub, opsOf, List.map_cons, List.map_nil, strip]; rfl
theorem w17_5 : Wp r17_5 10 [14, 19, 32, 38] [6] [] [] [some 6] (L17_5).1 := w_plain (by kernel_rfl) (L17_5).2
noncomputable def L17_6 : Lt r17_6 := by refine ⟨?l, ?h⟩; case h => simp only [r17_6, c17, bodyOf, Try.f17, Code.sub, opsOf, List.map_cons, List.map_nil, strip]; rfl
theorem w17_6 : Wp r17_6 10 [14, 19, 32, 38] [9] [] [] [some 9] (L17_6).1 := w_plain (by kernel_rfl) (L17_6).2
noncomputable def L17_7 : Lt r17_7 := by refine ⟨?l, ?h⟩; case h => simp only [r17_7, c17, bodyOf, Try.f17, Code.sub, opsOf, List.map_cons, List.map_nil, strip]; rfl
theorem w17_7 : Wp r17_7 10 [14, 19, 32, 38] [] [32] [0, 9, 7] [some 20, some 21, some 22, some 23, some 24, some 25, some 26, some 27, some 28, some 29, some 30, some 31, some 32] (L17_7).1 := w_plain (by kernel_rfl) (L17_7).2
noncomputable def L17_8 : Lt r17_8 := by refine ⟨?l, ?h⟩; case h => simp only [r17_8, c17, bodyOf, Try.f17, Code.sub, opsOf, List.map_cons, List.map_nil, strip]; rfl
theorem w17_8 : Wp r17_8 10 [14, 19, 32, 38] [9] [] [9] [some 33, some 34, some 9] (L17_8).1 := w_plain (by kernel_rfl) (L17_8).2
noncomputable def L17_9 : Lt r17_9 := by refine ⟨?l, ?h⟩; case h => simp only [r17_9, c17, bodyOf, Try.f17, Code.sub, opsOf, List.map_cons, List.map_nil, strip]; rfl
theorem w17_9 : Wp r17_9 10 [14, 19, 32, 38] [] [38] [9, 0] [some 35, some 36, some 37, some 38] (L17_9).1 := w_plain (by kernel_rfl) (L17_9).2
noncomputable def L17_10 : Lt r17_10 := by refine ⟨?l, ?h⟩; case h => simp only [r17_10, c17, bodyOf, Try.f17, Code.sub, opsOf, List.map_cons, List.map_nil, strip]; rfl
theorem w17_10 : Wp r17_10 10 [14, 19, 32, 38] [6] [] [] [some 6] (L17_10).1 := w_plain (by kernel_rfl) (L17_10).2
noncomputable def L17_11 : Lt r17_11 := by refine ⟨?l, ?h⟩; case h => simp only [r17_11, c17, bodyOf, Try.f17, Code.sub, opsOf, List.map_cons, List.map_nil, strip]; rfl
theorem w17_11 : Wp r17_11 10 [14, 19, 32, 38] [7] [] [0, 9] [some 39, some 40, some 41, some 42, some 43, some 7] (L17_11).1 := w_plain (by kernel_rfl) (L17_11).2
noncomputable def L17_12 : Lt r17_12 := by refine ⟨?l, ?h⟩; case h => simp only [r17_12, c17, bodyOf, Try.f17, Code.sub, opsOf, List.map_cons, List.map_nil, strip]; rfl
theorem w17_12 : Wp r17_12 10 [14, 19, 32, 38] [8] [] [8] [some 15, some 16, some 8] (L17_12).1 := w_plain (by kernel_rfl) (L17_12).2
noncomputable def L17_13 : Lt r17_13 := by refine ⟨?l, ?h⟩; case h => simp only [r17_13, c17, bodyOf, Try.f17, Code.sub, opsOf, List.map_cons, List.map_nil, strip]; rfl
theorem w17_13 : Wp r17_13 10 [14, 19, 32, 38] [6] [] [] [some 6] (L17_13).1 := w_plain (by kernel_rfl) (L17_13).2
theorem k17 : FnIs TT 17 c17 [.tmp 6] 3 := ⟨Try.f17, by kernel_rfl, by simp only [Try.f17, c17, bodyOf], by kernel_rfl, of_decide_eq_true (by kernel_rfl)⟩

/- container/heap.Push -/
noncomputable def c18 : Code := bodyOf Try.f18
noncomputable def r18_0 : Code := Code.sub [0] c18
noncomputable def r18_1 : Code := Code.sub [1] c18
theorem body18 : c18 = (.seq r18_0 r18_1) := by kernel_rfl
noncomputable def L18_0 : Lt r18_0 := by refine ⟨?l, ?h⟩; case h => simp only [r18_0, c18, bodyOf, Try.f18, Code.sub, opsOf, List.map_cons, List.map_nil, strip]; rfl
theorem w18_0 : Wp r18_0 2 [] [] [] [0, 1] [some 4, some 5, some 6] (L18_0).1 := w_plain (by kernel_rfl) (L18_0).2
noncomputable def L18_1 : Lt r18_1 := by refine ⟨?l, ?h⟩; case h => simp only [r18_1, c18, bodyOf, Try.f18, Code.sub, opsOf, List.map_cons, List.map_nil, strip]; rfl
theorem w18_1 : Wp r18_1 2 [] [] [] [0] [some 7, some 8, some 9, some 10, some 11] (L18_1).1 := w_plain (by kernel_rfl) (L18_1).2
theorem k18 : FnIs TT 18 c18 [] 2 := ⟨Try.f18, by kernel_rfl, by simp only [Try.f18, c18, bodyOf], by kernel_rfl, of_decide_eq_true (by kernel_rfl)⟩

/- (*moves.orderer).flow -/
noncomputable def c19 : Code := bodyOf Try.f19
noncomputable def r19_0 : Code := Code.sub [0, 0, 0, 0] c19
noncomputable def r19_1 : Code := Code.sub [0, 0, 1, 0, 0] c19
noncomputable def r19_2 : Code := Code.sub [0, 0, 1, 0, 1, 0] c19
noncomputable def r19_3 : Code := Code.sub [0, 0, 1, 0, 1, 1, 0] c19
noncomputable def r19_4 : Code := Code.sub [0, 0, 1, 0, 1, 1, 1, 0] c19
noncomputable def r19_5 : Code := Code.sub [0, 0, 1, 0, 1, 1, 1, 1, 0] c19
noncomputable def r19_6 : Code := Code.sub [0, 0, 1, 0, 1, 1, 1, 1, 1, 0] c19
noncomputable def r19_7 : Code := Code.sub [0, 0, 1, 0, 1, 1, 1, 1, 1, 1, 0] c19
noncomputable def r19_8 : Code := Code.sub [0, 0, 1, 0, 1, 1, 1, 1, 1, 1, 1, 0] c19
theorem body19 : c19 = (.block 0 (.loop (.seq (.seq r19_0 (.cond (.tmp 11) .skip (.exit 0))) (.block 1 (.seq r19_1 (.seq r19_2 (.seq r19_3 (.seq r19_4 (.seq r19_5 (.seq r19_6 (.seq r19_7 (.cond (.tmp 66) r19_8 .skip)))))))))))) := by kernel_rfl
noncomputable def L19_0 : Lt r19_0 := by refine ⟨?l, ?h⟩; case h => simp only [r19_0, c19, bodyOf, Try.f19, Code.sub, opsOf, List.map_cons, List.map_nil, strip]; rfl
theorem w19_0 : Wp r19_0 6 [11, 66] [] [11] [0] [some 6, some 7, some 8, some 9, some 10, some 11] (L19_0).1 := w_plain (by kernel_rfl) (L19_0).2
noncomputable def L19_1 : Lt r19_1 := by refine ⟨?l, ?h⟩; case h => simp only [r19_1, c19, bodyOf, Try.f19, Code.sub, opsOf, List.map_cons, List.map_nil, strip]; rfl
theorem w19_1 : Wp r19_1 6 [11, 66] [2] [] [0] [some 12, some 13, some 14, some 15, some 16, some 17, some 2] (L19_1).1 := w_plain (by kernel_rfl) (L19_1).2
noncomputable def L19_2 : Lt r19_2 := by refine ⟨?l, ?h⟩; case h => simp only [r19_2, c19, bodyOf, Try.f19, Code.sub, opsOf, List.map_cons, List.map_nil, strip]; rfl
theorem w19_2 : Wp r19_2 6 [11, 66] [3] [] [0, 2] [some 18, some 19, some 20, some 21, some 22, some 23, some 3] (L19_2).1 := w_plain (by kernel_rfl) (L19_2).2
noncomputable def L19_3 : Lt r19_3 := by refine ⟨?l, ?h⟩; case h => simp only [r19_3, c19, bodyOf, Try.f19, Code.sub, opsOf, List.map_cons, List.map_nil, strip]; rfl
theorem w19_3 : Wp r19_3 6 [11, 66] [] [] [0, 3, 2] [some 24, some 25, some 26, some 27, some 28, some 29, some 30, some 31, some 32, some 33, some 34, some 35, none] (L19_3).1 := w_plain (by kernel_rfl) (L19_3).2
noncomputable def L19_4 : Lt r19_4 := by refine ⟨?l, ?h⟩; case h => simp only [r19_4, c19, bodyOf, Try.f19, Code.sub, opsOf, List.map_cons, List.map_nil, strip]; rfl
theorem w19_4 : Wp r19_4 6 [11, 66] [] [] [0, 2] [some 36, some 37, some 38, some 39, some 40, none] (L19_4).1 := w_plain (by kernel_rfl) (L19_4).2
noncomputable def L19_5 : Lt r19_5 := by refine ⟨?l, ?h⟩; case h => simp only [r19_5, c19, bodyOf, Try.f19, Code.sub, opsOf, List.map_cons, List.map_nil, strip]; rfl
theorem w19_5 : Wp r19_5 6 [11, 66] [] [] [0, 3] [some 41, some 42, some 43, some 44, some 45, some 46, some 47, none] (L19_5).1 := w_plain (by kernel_rfl) (L19_5).2
noncomputable def L19_6 : Lt r19_6 := by refine ⟨?l, ?h⟩; case h => simp only [r19_6, c19, bodyOf, Try.f19, Code.sub, opsOf, List.map_cons, List.map_nil, strip]; rfl
theorem w19_6 : Wp r19_6 6 [11, 66] [4, 5] [] [0, 3] [some 49, some 50, some 51, some 52, some 53, some 54, some 48, some 55, some 56, some 4, some 5] (L19_6).1 := w_plain (by kernel_rfl) (L19_6).2
noncomputable def L19_7 : Lt r19_7 := by refine ⟨?l, ?h⟩; case h => simp only [r19_7, c19, bodyOf, Try.f19, Code.sub, opsOf, List.map_cons, List.map_nil, strip]; rfl
theorem w19_7 : Wp r19_7 6 [11, 66] [] [66] [5, 0, 3] [some 57, some 58, some 59, some 60, some 61, some 62, some 63, some 64, some 65, some 66] (L19_7).1 := w_plain (by kernel_rfl) (L19_7).2
noncomputable def L19_8 : Lt r19_8 := by refine ⟨?l, ?h⟩; case h => simp only [r19_8, c19, bodyOf, Try.f19, Code.sub, opsOf, List.map_cons, List.map_nil, strip]; rfl
theorem w19_8 : Wp r19_8 6 [11, 66] [] [] [0, 3] [some 67, some 68, some 69, some 70, some 71, some 72, some 73] (L19_8).1 := w_plain (by kernel_rfl) (L19_8).2
theorem k19 : FnIs TT 19 c19 [] 1 := ⟨Try.f19, by kernel_rfl, by simp only [Try.f19, c19, bodyOf], by kernel_rfl, of_decide_eq_true (by kernel_rfl)⟩

/- (*moves.orderer).ring -/
noncomputable def c20 : Code := bodyOf Try.f20
noncomputable def r20_0 : Code := Code.sub [0] c20
noncomputable def r20_1 : Code := Code.sub [1, 0, 0, 0, 0] c20
noncomputable def r20_2 : Code := Code.sub [1, 0, 0, 0, 1, 0] c20
noncomputable def r20_3 : Code := Code.sub [1, 0, 0, 0, 1, 1, 0, 0] c20
noncomputable def r20_4 : Code := Code.sub [1, 0, 0, 0, 1, 1, 0, 1, 0, 0] c20
noncomputable def r20_5 : Code := Code.sub [1, 0, 0, 0, 1, 1, 1, 0] c20
noncomputable def r20_6 : Code := Code.sub [1, 0, 0, 0, 1, 1, 1, 1] c20
theorem body20 : c20 = (.seq r20_0 (.block 0 (.loop (.block 1 (.seq r20_1 (.seq r20_2 (.seq (.seq r20_3 (.cond (.tmp 22) (.seq r20_4 .ret) .skip)) (.seq r20_5 r20_6)))))))) := by kernel_rfl
noncomputable def L20_0 : Lt r20_0 := by refine ⟨?l, ?h⟩; case h => simp only [r20_0, c20, bodyOf, Try.f20, Code.sub, opsOf, List.map_cons, List.map_nil, strip]; rfl
theorem w20_0 : Wp r20_0 8 [22] [6] [] [1] [some 8, some 6] (L20_0).1 := w_plain (by kernel_rfl) (L20_0).2
noncomputable def L20_1 : Lt r20_1 := by refine ⟨?l, ?h⟩; case h => simp only [r20_1, c20, bodyOf, Try.f20, Code.sub, opsOf, List.map_cons, List.map_nil, strip]; rfl
theorem w20_1 : Wp r20_1 8 [22] [7] [] [0, 6] [some 9, some 10, some 11, some 12, some 13, some 14, some 7] (L20_1).1 := w_plain (by kernel_rfl) (L20_1).2
noncomputable def L20_2 : Lt r20_2 := by refine ⟨?l, ?h⟩; case h => simp only [r20_2, c20, bodyOf, Try.f20, Code.sub, opsOf, List.map_cons, List.map_nil, strip]; rfl
theorem w20_2 : Wp r20_2 8 [22] [] [] [0, 6] [some 15, some 16, some 17, some 18, some 19, none] (L20_2).1 := w_plain (by kernel_rfl) (L20_2).2
noncomputable def L20_3 : Lt r20_3 := by refine ⟨?l, ?h⟩; case h => simp only [r20_3, c20, bodyOf, Try.f20, Code.sub, opsOf, List.map_cons, List.map_nil, strip]; rfl
theorem w20_3 : Wp r20_3 8 [22] [] [22] [7, 1] [some 20, some 21, some 22] (L20_3).1 := w_plain (by kernel_rfl) (L20_3).2
noncomputable def L20_4 : Lt r20_4 := by refine ⟨?l, ?h⟩; case h => simp only [r20_4, c20, bodyOf, Try.f20, Code.sub, opsOf, List.map_cons, List.map_nil, strip]; rfl
theorem w20_4 : Wp r20_4 8 [22] [] [] [0, 2, 6] [some 23, some 24, some 25, some 26, some 27, some 28, some 29, some 30, some 31, some 32, some 33, some 34, none] (L20_4).1 := w_plain (by kernel_rfl) (L20_4).2
noncomputable def L20_5 : Lt r20_5 := by refine ⟨?l, ?h⟩; case h => simp only [r20_5, c20, bodyOf, Try.f20, Code.sub, opsOf, List.map_cons, List.map_nil, strip]; rfl
theorem w20_5 : Wp r20_5 8 [22] [] [] [0, 7, 6] [some 35, some 36, some 37, some 38, some 39, some 40, some 41, some 42, some 43, some 44, some 45, some 46, none] (L20_5).1 := w_plain (by kernel_rfl) (L20_5).2
noncomputable def L20_6 : Lt r20_6 := by refine ⟨?l, ?h⟩; case h => simp only [r20_6, c20, bodyOf, Try.f20, Code.sub, opsOf, List.map_cons, List.map_nil, strip]; rfl
theorem w20_6 : Wp r20_6 8 [22] [6] [] [7] [some 47, some 6] (L20_6).1 := w_plain (by kernel_rfl) (L20_6).2
theorem k20 : FnIs TT 20 c20 [] 3 := ⟨Try.f20, by kernel_rfl, by simp only [Try.f20, c20, bodyOf], by kernel_rfl, of_decide_eq_true (by kernel_rfl)⟩

/- container/heap.up -/
noncomputable def c21 : Code := bodyOf Try.f21
noncomputable def r21_0 : Code := Code.sub [0, 0, 0, 0] c21
noncomputable def r21_1 : Code := Code.sub [0, 0, 0, 1, 0, 0] c21
noncomputable def r21_2 : Code := Code.sub [0, 0, 0, 1, 1, 0] c21
noncomputable def r21_3 : Code := Code.sub [0, 0, 0, 1, 1, 1] c21
theorem body21 : c21 = (.block 0 (.loop (.block 1 (.seq r21_0 (.seq (.seq r21_1 (.cond (.tmp 17) (.exit 0) .skip)) (.seq r21_2 r21_3)))))) := by kernel_rfl
noncomputable def L21_0 : Lt r21_0 := by refine ⟨?l, ?h⟩; case h => simp only [r21_0, c21, bodyOf, Try.f21, Code.sub, opsOf, List.map_cons, List.map_nil, strip]; rfl
theorem w21_0 : Wp r21_0 5 [17] [4] [] [1] [some 5, some 6, some 7, some 4] (L21_0).1 := w_plain (by kernel_rfl) (L21_0).2
noncomputable def L21_1 : Lt r21_1 := by refine ⟨?l, ?h⟩; case h => simp only [r21_1, c21, bodyOf, Try.f21, Code.sub, opsOf, List.map_cons, List.map_nil, strip]; rfl
theorem w21_1 : Wp r21_1 5 [17] [] [17] [0, 1, 4] [some 8, some 9, some 10, some 11, some 12, some 13, some 14, some 15, some 16, some 17] (L21_1).1 := w_plain (by kernel_rfl) (L21_1).2
noncomputable def L21_2 : Lt r21_2 := by refine ⟨?l, ?h⟩; case h => simp only [r21_2, c21, bodyOf, Try.f21, Code.sub, opsOf, List.map_cons, List.map_nil, strip]; rfl
theorem w21_2 : Wp r21_2 5 [17] [] [] [0, 4, 1] [some 18, some 19, some 20, some 21] (L21_2).1 := w_plain (by kernel_rfl) (L21_2).2
noncomputable def L21_3 : Lt r21_3 := by refine ⟨?l, ?h⟩; case h => simp only [r21_3, c21, bodyOf, Try.f21, Code.sub, opsOf, List.map_cons, List.map_nil, strip]; rfl
theorem w21_3 : Wp r21_3 5 [17] [1] [] [4] [some 22, some 1] (L21_3).1 := w_plain (by kernel_rfl) (L21_3).2
theorem k21 : FnIs TT 21 c21 [] 2 := ⟨Try.f21, by kernel_rfl, by simp only [Try.f21, c21, bodyOf], by kernel_rfl, of_decide_eq_true (by kernel_rfl)⟩

/- container/heap.Pop -/
noncomputable def c22 : Code := bodyOf Try.f22
noncomputable def r22_0 : Code := Code.sub [0] c22
noncomputable def r22_1 : Code := Code.sub [1, 0] c22
noncomputable def r22_2 : Code := Code.sub [1, 1, 0] c22
noncomputable def r22_3 : Code := Code.sub [1, 1, 1, 0] c22
noncomputable def r22_4 : Code := Code.sub [1, 1, 1, 1, 0] c22
theorem body22 : c22 = (.seq r22_0 (.seq r22_1 (.seq r22_2 (.seq r22_3 (.seq r22_4 .ret))))) := by kernel_rfl
noncomputable def L22_0 : Lt r22_0 := by refine ⟨?l, ?h⟩; case h => simp only [r22_0, c22, bodyOf, Try.f22, Code.sub, opsOf, List.map_cons, List.map_nil, strip]; rfl
theorem w22_0 : Wp r22_0 4 [] [2] [] [] [some 2] (L22_0).1 := w_plain (by kernel_rfl) (L22_0).2
noncomputable def L22_1 : Lt r22_1 := by refine ⟨?l, ?h⟩; case h => simp only [r22_1, c22, bodyOf, Try.f22, Code.sub, opsOf, List.map_cons, List.map_nil, strip]; rfl
theorem w22_1 : Wp r22_1 4 [] [3] [] [0] [some 4, some 5, some 6, some 3] (L22_1).1 := w_plain (by kernel_rfl) (L22_1).2
noncomputable def L22_2 : Lt r22_2 := by refine ⟨?l, ?h⟩; case h => simp only [r22_2, c22, bodyOf, Try.f22, Code.sub, opsOf, List.map_cons, List.map_nil, strip]; rfl
theorem w22_2 : Wp r22_2 4 [] [] [] [0, 3] [some 7, some 8, some 9] (L22_2).1 := w_plain (by kernel_rfl) (L22_2).2
noncomputable def L22_3 : Lt r22_3 := by refine ⟨?l, ?h⟩; case h => simp only [r22_3, c22, bodyOf, Try.f22, Code.sub, opsOf, List.map_cons, List.map_nil, strip]; rfl
theorem w22_3 : Wp r22_3 4 [] [] [] [0, 3] [some 10, some 11, some 12] (L22_3).1 := w_plain (by kernel_rfl) (L22_3).2
noncomputable def L22_4 : Lt r22_4 := by refine ⟨?l, ?h⟩; case h => simp only [r22_4, c22, bodyOf, Try.f22, Code.sub, opsOf, List.map_cons, List.map_nil, strip]; rfl
theorem w22_4 : Wp r22_4 4 [] [2] [] [0] [some 13, some 14, some 2] (L22_4).1 := w_plain (by kernel_rfl) (L22_4).2
theorem k22 : FnIs TT 22 c22 [.tmp 2] 1 := ⟨Try.f22, by kernel_rfl, by simp only [Try.f22, c22, bodyOf], by kernel_rfl, of_decide_eq_true (by kernel_rfl)⟩

/- container/heap.down -/
noncomputable def c23 : Code := bodyOf Try.f23
noncomputable def r23_0 : Code := Code.sub [0] c23
noncomputable def r23_1 : Code := Code.sub [1, 0] c23
noncomputable def r23_2 : Code := Code.sub [1, 1, 0, 0, 0, 0, 0] c23
noncomputable def r23_3 : Code := Code.sub [1, 1, 0, 0, 0, 0, 1, 0, 0] c23
noncomputable def r23_4 : Code := Code.sub [1, 1, 0, 0, 0, 0, 1, 1, 0] c23
noncomputable def r23_5 : Code := Code.sub [1, 1, 0, 0, 0, 0, 1, 1, 1, 0, 0] c23
noncomputable def r23_6 : Code := Code.sub [1, 1, 0, 0, 0, 0, 1, 1, 1, 0, 1, 0] c23
noncomputable def r23_7 : Code := Code.sub [1, 1, 0, 0, 0, 0, 1, 1, 1, 0, 1, 1, 0] c23
noncomputable def r23_8 : Code := Code.sub [1, 1, 0, 0, 0, 0, 1, 1, 1, 1, 0, 0] c23
noncomputable def r23_9 : Code := Code.sub [1, 1, 0, 0, 0, 0, 1, 1, 1, 1, 1, 0] c23
noncomputable def r23_10 : Code := Code.sub [1, 1, 0, 0, 0, 0, 1, 1, 1, 1, 1, 1] c23
noncomputable def r23_11 : Code := Code.sub [1, 1, 1, 0] c23
theorem body23 : c23 = (.seq r23_0 (.seq r23_1 (.seq (.block 0 (.loop (.block 1 (.seq r23_2 (.seq (.seq r23_3 (.cond (.tmp 21) (.exit 0) .skip)) (.seq r23_4 (.seq (.seq r23_5 (.seq r23_6 (.cond (.tmp 33) r23_7 .skip))) (.seq (.seq r23_8 (.cond (.tmp 39) (.exit 0) .skip)) (.seq r23_9 r23_10))))))))) (.seq r23_11 .ret)))) := by kernel_rfl
noncomputable def L23_0 : Lt r23_0 := by refine ⟨?l, ?h⟩; case h => simp only [r23_0, c23, bodyOf, Try.f23, Code.sub, opsOf, List.map_cons, List.map_nil, strip]; rfl
theorem w23_0 : Wp r23_0 11 [21, 33, 39] [6] [] [] [some 6] (L23_0).1 := w_plain (by kernel_rfl) (L23_0).2
noncomputable def L23_1 : Lt r23_1 := by refine ⟨?l, ?h⟩; case h => simp only [r23_1, c23, bodyOf, Try.f23, Code.sub, opsOf, List.map_cons, List.map_nil, strip]; rfl
theorem w23_1 : Wp r23_1 11 [21, 33, 39] [7] [] [1] [some 11, some 7] (L23_1).1 := w_plain (by kernel_rfl) (L23_1).2
noncomputable def L23_2 : Lt r23_2 := by refine ⟨?l, ?h⟩; case h => simp only [r23_2, c23, bodyOf, Try.f23, Code.sub, opsOf, List.map_cons, List.map_nil, strip]; rfl
theorem w23_2 : Wp r23_2 11 [21, 33, 39] [8] [] [7] [some 12, some 13, some 14, some 8] (L23_2).1 := w_plain (by kernel_rfl) (L23_2).2
noncomputable def L23_3 : Lt r23_3 := by refine ⟨?l, ?h⟩; case h => simp only [r23_3, c23, bodyOf, Try.f23, Code.sub, opsOf, List.map_cons, List.map_nil, strip]; rfl
theorem w23_3 : Wp r23_3 11 [21, 33, 39] [] [21] [2, 8] [some 15, some 16, some 17, some 18, some 19, some 20, some 21] (L23_3).1 := w_plain (by kernel_rfl) (L23_3).2
noncomputable def L23_4 : Lt r23_4 := by refine ⟨?l, ?h⟩; case h => simp only [r23_4, c23, bodyOf, Try.f23, Code.sub, opsOf, List.map_cons, List.map_nil, strip]; rfl
theorem w23_4 : Wp r23_4 11 [21, 33, 39] [9] [] [8] [some 22, some 9] (L23_4).1 := w_plain (by kernel_rfl) (L23_4).2
noncomputable def L23_5 : Lt r23_5 := by refine ⟨?l, ?h⟩; case h => simp only [r23_5, c23, bodyOf, Try.f23, Code.sub, opsOf, List.map_cons, List.map_nil, strip]; rfl
theorem w23_5 : Wp r23_5 11 [21, 33, 39] [10] [] [8] [some 23, some 24, some 10] (L23_5).1 := w_plain (by kernel_rfl) (L23_5).2
noncomputable def L23_6 : Lt r23_6 := by refine ⟨?l, ?h⟩; case h => simp only [r23_6, c23, bodyOf, Try.f23, Code.sub, opsOf, List.map_cons, List.map_nil, strip]; rfl
theorem w23_6 : Wp r23_6 11 [21, 33, 39] [] [33] [2, 0, 10, 8] [some 25, some 26, some 27, some 28, some 29, some 30, some 31, some 32, some 33] (L23_6).1 := w_plain (by kernel_rfl) (L23_6).2
noncomputable def L23_7 : Lt r23_7 := by refine ⟨?l, ?h⟩; case h => simp only [r23_7, c23, bodyOf, Try.f23, Code.sub, opsOf, List.map_cons, List.map_nil, strip]; rfl
theorem w23_7 : Wp r23_7 11 [21, 33, 39] [9] [] [10] [some 34, some 9] (L23_7).1 := w_plain (by kernel_rfl) (L23_7).2
noncomputable def L23_8 : Lt r23_8 := by refine ⟨?l, ?h⟩; case h => simp only [r23_8, c23, bodyOf, Try.f23, Code.sub, opsOf, List.map_cons, List.map_nil, strip]; rfl
theorem w23_8 : Wp r23_8 11 [21, 33, 39] [] [39] [0, 9, 7] [some 35, some 36, some 37, some 38, some 39] (L23_8).1 := w_plain (by kernel_rfl) (L23_8).2
noncomputable def L23_9 : Lt r23_9 := by refine ⟨?l, ?h⟩; case h => simp only [r23_9, c23, bodyOf, Try.f23, Code.sub, opsOf, List.map_cons, List.map_nil, strip]; rfl
theorem w23_9 : Wp r23_9 11 [21, 33, 39] [] [] [0, 7, 9] [some 40, some 41, some 42, some 43] (L23_9).1 := w_plain (by kernel_rfl) (L23_9).2
noncomputable def L23_10 : Lt r23_10 := by refine ⟨?l, ?h⟩; case h => simp only [r23_10, c23, bodyOf, Try.f23, Code.sub, opsOf, List.map_cons, List.map_nil, strip]; rfl
theorem w23_10 : Wp r23_10 11 [21, 33, 39] [7] [] [9] [some 44, some 7] (L23_10).1 := w_plain (by kernel_rfl) (L23_10).2
noncomputable def L23_11 : Lt r23_11 := by refine ⟨?l, ?h⟩; case h => simp only [r23_11, c23, bodyOf, Try.f23, Code.sub, opsOf, List.map_cons, List.map_nil, strip]; rfl
theorem w23_11 : Wp r23_11 11 [21, 33, 39] [6] [] [7, 1] [some 45, some 46, some 47, some 6] (L23_11).1 := w_plain (by kernel_rfl) (L23_11).2
theorem k23 : FnIs TT 23 c23 [.tmp 6] 3 := ⟨Try.f23, by kernel_rfl, by simp only [Try.f23, c23, bodyOf], by kernel_rfl, of_decide_eq_true (by kernel_rfl)⟩

/- (moves.places).Len -/
noncomputable def c40 : Code := bodyOf Try.f40
noncomputable def r40_0 : Code := Code.sub [0] c40
noncomputable def r40_1 : Code := Code.sub [1, 0] c40
theorem body40 : c40 = (.seq r40_0 (.seq r40_1 .ret)) := by kernel_rfl
noncomputable def L40_0 : Lt r40_0 := by refine ⟨?l, ?h⟩; case h => simp only [r40_0, c40, bodyOf, Try.f40, Code.sub, opsOf, List.map_cons, List.map_nil, strip]; rfl
theorem w40_0 : Wp r40_0 3 [] [2] [] [] [some 2] (L40_0).1 := w_plain (by kernel_rfl) (L40_0).2
noncomputable def L40_1 : Lt r40_1 := by refine ⟨?l, ?h⟩; case h => simp only [r40_1, c40, bodyOf, Try.f40, Code.sub, opsOf, List.map_cons, List.map_nil, strip]; rfl
theorem w40_1 : Wp r40_1 3 [] [2] [] [0] [some 3, some 4, some 2] (L40_1).1 := w_plain (by kernel_rfl) (L40_1).2
theorem k40 : FnIs TT 40 c40 [.tmp 2] 1 := ⟨Try.f40, by kernel_rfl, by simp only [Try.f40, c40, bodyOf], by kernel_rfl, of_decide_eq_true (by kernel_rfl)⟩

/- (moves.places).Less -/
noncomputable def c41 : Code := bodyOf Try.f41
noncomputable def r41_0 : Code := Code.sub [0] c41
noncomputable def r41_1 : Code := Code.sub [1, 0] c41
theorem body41 : c41 = (.seq r41_0 (.seq r41_1 .ret)) := by kernel_rfl
noncomputable def L41_0 : Lt r41_0 := by refine ⟨?l, ?h⟩; case h => simp only [r41_0, c41, bodyOf, Try.f41, Code.sub, opsOf, List.map_cons, List.map_nil, strip]; rfl
theorem w41_0 : Wp r41_0 7 [] [6] [] [] [some 6] (L41_0).1 := w_plain (by kernel_rfl) (L41_0).2
noncomputable def L41_1 : Lt r41_1 := by refine ⟨?l, ?h⟩; case h => simp only [r41_1, c41, bodyOf, Try.f41, Code.sub, opsOf, List.map_cons, List.map_nil, strip]; rfl
theorem w41_1 : Wp r41_1 7 [] [6] [] [1, 0, 2] [some 7, some 8, some 9, some 10, some 11, some 12, some 13, some 14, some 15, some 6] (L41_1).1 := w_plain (by kernel_rfl) (L41_1).2
theorem k41 : FnIs TT 41 c41 [.tmp 6] 3 := ⟨Try.f41, by kernel_rfl, by simp only [Try.f41, c41, bodyOf], by kernel_rfl, of_decide_eq_true (by kernel_rfl)⟩

/- (moves.places).Swap -/
noncomputable def c42 : Code := bodyOf Try.f42
noncomputable def r42_0 : Code := Code.sub [] c42
theorem body42 : c42 = r42_0 := by kernel_rfl
theorem can42_0 : canonOps (opsOf r42_0) = opsOf r42_0 := by kernel_rfl
noncomputable def L42_0 : Lc r42_0 := by refine ⟨?l, (congrArg (List.map strip) can42_0).trans ?h⟩; case h => simp only [r42_0, c42, bodyOf, Try.f42, Code.sub, opsOf, List.map_cons, List.map_nil, strip]; rfl
theorem w42_0 : Wd r42_0 3 [] [] [] [2, 0, 1] [some 6, some 7, some 8, some 9, some 10, some 11, some 12, some 13, some 14, some 15, some 16, some 17, some 18, none, some 19, none] (L42_0).1 [(7, [13]), (11, [13])] := w_loud (by kernel_rfl) (L42_0).2
theorem k42 : FnIs TT 42 c42 [] 3 := ⟨Try.f42, by kernel_rfl, by simp only [Try.f42, c42, bodyOf], by kernel_rfl, of_decide_eq_true (by kernel_rfl)⟩

/- (*moves.places).Pop -/
noncomputable def c43 : Code := bodyOf Try.f43
noncomputable def r43_0 : Code := Code.sub [0] c43
noncomputable def r43_1 : Code := Code.sub [1, 0] c43
noncomputable def r43_2 : Code := Code.sub [1, 1, 0] c43
noncomputable def r43_3 : Code := Code.sub [1, 1, 1, 0] c43
noncomputable def r43_4 : Code := Code.sub [1, 1, 1, 1, 0] c43
theorem body43 : c43 = (.seq r43_0 (.seq r43_1 (.seq r43_2 (.seq r43_3 (.seq r43_4 .ret))))) := by kernel_rfl
noncomputable def L43_0 : Lt r43_0 := by refine ⟨?l, ?h⟩; case h => simp only [r43_0, c43, bodyOf, Try.f43, Code.sub, opsOf, List.map_cons, List.map_nil, strip]; rfl
theorem w43_0 : Wp r43_0 5 [] [2] [] [] [some 2] (L43_0).1 := w_plain (by kernel_rfl) (L43_0).2
noncomputable def L43_1 : Lt r43_1 := by refine ⟨?l, ?h⟩; case h => simp only [r43_1, c43, bodyOf, Try.f43, Code.sub, opsOf, List.map_cons, List.map_nil, strip]; rfl
theorem w43_1 : Wp r43_1 5 [] [3] [] [0] [some 5, some 6, some 7, some 8, some 9, some 3] (L43_1).1 := w_plain (by kernel_rfl) (L43_1).2
noncomputable def L43_2 : Lt r43_2 := by refine ⟨?l, ?h⟩; case h => simp only [r43_2, c43, bodyOf, Try.f43, Code.sub, opsOf, List.map_cons, List.map_nil, strip]; rfl
theorem w43_2 : Wp r43_2 5 [] [4] [] [0, 3] [some 10, some 11, some 12, some 13, some 14, some 15, some 4] (L43_2).1 := w_plain (by kernel_rfl) (L43_2).2
noncomputable def L43_3 : Lt r43_3 := by refine ⟨?l, ?h⟩; case h => simp only [r43_3, c43, bodyOf, Try.f43, Code.sub, opsOf, List.map_cons, List.map_nil, strip]; rfl
theorem w43_3 : Wp r43_3 5 [] [] [] [0, 3] [some 16, some 17, some 18, some 19, some 20, some 21, some 22, none] (L43_3).1 := w_plain (by kernel_rfl) (L43_3).2
noncomputable def L43_4 : Lt r43_4 := by refine ⟨?l, ?h⟩; case h => simp only [r43_4, c43, bodyOf, Try.f43, Code.sub, opsOf, List.map_cons, List.map_nil, strip]; rfl
theorem w43_4 : Wp r43_4 5 [] [2] [] [4] [some 23, some 24, some 2] (L43_4).1 := w_plain (by kernel_rfl) (L43_4).2
theorem k43 : FnIs TT 43 c43 [.tmp 2] 1 := ⟨Try.f43, by kernel_rfl, by simp only [Try.f43, c43, bodyOf], by kernel_rfl, of_decide_eq_true (by kernel_rfl)⟩

/- (*moves.places).Push -/
noncomputable def c44 : Code := bodyOf Try.f44
noncomputable def r44_0 : Code := Code.sub [] c44
theorem body44 : c44 = r44_0 := by kernel_rfl
theorem can44_0 : canonOps (opsOf r44_0) = List.filterMap (fun i => ((opsOf r44_0)[i]?).map (renum [0, 1, 2, 3, 4, 5, 6, 7, 8, 9])) [0, 1, 2, 3, 4, 5, 6, 7, 8, 9] := by kernel_rfl
noncomputable def L44_0 : Lc r44_0 := by refine ⟨?l, (congrArg (List.map strip) can44_0).trans ?h⟩; case h => simp only [r44_0, c44, bodyOf, Try.f44, Code.sub, opsOf, List.filterMap_cons, List.filterMap_nil, List.getElem?_cons_succ, List.getElem?_cons_zero, Option.map_some, renum, List.map_cons, List.map_nil, strip]; rfl
theorem w44_0 : Wd r44_0 2 [] [] [] [0, 1] [some 4, some 5, some 6, some 7, some 8, some 9, some 10, some 11, some 12, none] (L44_0).1 [(3, [6, 7])] := w_loud (by kernel_rfl) (L44_0).2
theorem k44 : FnIs TT 44 c44 [] 2 := ⟨Try.f44, by kernel_rfl, by simp only [Try.f44, c44, bodyOf], by kernel_rfl, of_decide_eq_true (by kernel_rfl)⟩

/- what rewriting uses in the walks -/
attribute [simp] w_seq w_cond_tmp w_ret w_skip w_exit w_block w_loop r_nil r_seq r_seq_ret r_seq_exit r_block
attribute [simp] r_block_ret r_block_exit r_loop r_loop_ret r_loop_exit cnd_t cnd_f rg_some lgo_n lgo_c lops_nil lops_cons
attribute [simp] lk_some lop1_plain lop1_guard gdv_b gdv_u gd_tt gd_ff gd_tf gd_ft lput_s lput_n lev_t
attribute [simp] lev_c lev_g lev_f lget_n lget_c lset_n lset_c lkeep_n lkeep_c lsets_n lsets_c lconds_n
attribute [simp] lconds_c lfill qf_d okx lresults lresultsL lres_tmp o_move o_assign o_bin o_pick o_nilCheck
attribute [simp] o_fieldAddr o_load o_len o_store o_conv o_un o_extract o_append o_call2 o_callv o_buildSlice o_box
attribute [simp] o_alloc o_build o_indexAddr o_slice o_index o_field o_makeFunc o_makeSlice o_min o_max loOf_none loOf_some
attribute [simp] hiOf_none hiOf_some natOf_int sliceS_some sliceA_some strOp sz_str cat_str list_str s_binOp fastBin s_unOp
attribute [simp] fastUn boolEq int_beq int_bne txt_beq one_int one_slice one_ptr one_bool one_str cells_int cells_slice
attribute [simp] cells_ptr cells_bool cells_str cells_agg flatEq_n flatEq_c ba_beq closedA_l closedL_n closedL_c closedV_int closedV_str
attribute [simp] closedV_bool loadRow_new window over Instr.fill repl lst_nil lst_cons lks_some lkc_some lloud_some lreads_n
attribute [simp] lreads_c lsame_d eqV_int eqV_slice eqV_ptr eqV_agg eqL_n eqL_c eqV_str eqV_bool eqV_undef o_lookup
attribute [simp] o_mapUpdate o_insert o_mapEntry o_entryStore o_makeMap o_makeInterface o_typeAssert o_delete o_invoke inv_of est_int one_map
attribute [simp] one_iface cells_map cells_iface eqV_map eqV_ifc
attribute [simp] body4 w4_0 L4_0 w4_1 L4_1 w4_2 L4_2 w4_3 L4_3 w4_4 L4_4 w4_5 L4_5 w4_6 L4_6 w4_7 L4_7 w4_8 L4_8 w4_9 L4_9 w4_10 L4_10 w4_11 L4_11 w4_12 L4_12 w4_13 L4_13 w4_14 L4_14 w4_15 L4_15
attribute [simp] body5 w5_0 L5_0 w5_1 L5_1 w5_2 L5_2 w5_3 L5_3 w5_4 L5_4 w5_5 L5_5 w5_6 L5_6 w5_7 L5_7 w5_8 L5_8 w5_9 L5_9 w5_10 L5_10 w5_11 L5_11 w5_12 L5_12 w5_13 L5_13 w5_14 L5_14 w5_15 L5_15 w5_16 L5_16
attribute [simp] body6 w6_0 L6_0 w6_1 L6_1 w6_2 L6_2 w6_3 L6_3 w6_4 L6_4 w6_5 L6_5 w6_6 L6_6 w6_7 L6_7 w6_8 L6_8 w6_9 L6_9 w6_10 L6_10 w6_11 L6_11 w6_12 L6_12
attribute [simp] body7 w7_0 L7_0 w7_1 L7_1 w7_2 L7_2 w7_3 L7_3 w7_4 L7_4 w7_5 L7_5 w7_6 L7_6 w7_7 L7_7 w7_8 L7_8 w7_9 L7_9
attribute [simp] body9 w9_0 L9_0 w9_1 L9_1 w9_2 L9_2 w9_3 L9_3 w9_4 L9_4 w9_5 L9_5 w9_6 L9_6 w9_7 L9_7 w9_8 L9_8 w9_9 L9_9 w9_10 L9_10 w9_11 L9_11
attribute [simp] body10 w10_0 L10_0 w10_1 L10_1 w10_2 L10_2 w10_3 L10_3 w10_4 L10_4 w10_5 L10_5 w10_6 L10_6 w10_7 L10_7 w10_8 L10_8 w10_9 L10_9 w10_10 L10_10
attribute [simp] body11 w11_0 L11_0 w11_1 L11_1 w11_2 L11_2 w11_3 L11_3 w11_4 L11_4
attribute [simp] body12 w12_0 L12_0 w12_1 L12_1 w12_2 L12_2 w12_3 L12_3 w12_4 L12_4 w12_5 L12_5 w12_6 L12_6 w12_7 L12_7 w12_8 L12_8 w12_9 L12_9 w12_10 L12_10 w12_11 L12_11 w12_12 L12_12 w12_13 L12_13 w12_14 L12_14 w12_15 L12_15 w12_16 L12_16 w12_17 L12_17 w12_18 L12_18 w12_19 L12_19 w12_20 L12_20 w12_21 L12_21 w12_22 L12_22 w12_23 L12_23 w12_24 L12_24 w12_25 L12_25
attribute [simp] body13 w13_0 L13_0 w13_1 L13_1 w13_2 L13_2 w13_3 L13_3 w13_4 L13_4 w13_5 L13_5 w13_6 L13_6 w13_7 L13_7 w13_8 L13_8 w13_9 L13_9 w13_10 L13_10 w13_11 L13_11 w13_12 L13_12 w13_13 L13_13 w13_14 L13_14 w13_15 L13_15 w13_16 L13_16 w13_17 L13_17 w13_18 L13_18 w13_19 L13_19 w13_20 L13_20 w13_21 L13_21 w13_22 L13_22 w13_23 L13_23
attribute [simp] body14 w14_0 L14_0 w14_1 L14_1 w14_2 L14_2 w14_3 L14_3 w14_4 L14_4 w14_5 L14_5 w14_6 L14_6 w14_7 L14_7 w14_8 L14_8 w14_9 L14_9 w14_10 L14_10 w14_11 L14_11 w14_12 L14_12 w14_13 L14_13
attribute [simp] body15 w15_0 L15_0 w15_1 L15_1 w15_2 L15_2 w15_3 L15_3 w15_4 L15_4 w15_5 L15_5 w15_6 L15_6 w15_7 L15_7 w15_8 L15_8 w15_9 L15_9 w15_10 L15_10 w15_11 L15_11 w15_12 L15_12 w15_13 L15_13 w15_14 L15_14 w15_15 L15_15 w15_16 L15_16 w15_17 L15_17 w15_18 L15_18 w15_19 L15_19 w15_20 L15_20 w15_21 L15_21 w15_22 L15_22 w15_23 L15_23 w15_24 L15_24 w15_25 L15_25 w15_26 L15_26
attribute [simp] body16 w16_0 L16_0 w16_1 L16_1 w16_2 L16_2 w16_3 L16_3 w16_4 L16_4 w16_5 L16_5 w16_6 L16_6
attribute [simp] body17 w17_0 L17_0 w17_1 L17_1 w17_2 L17_2 w17_3 L17_3 w17_4 L17_4 w17_5 L17_5 w17_6 L17_6 w17_7 L17_7 w17_8 L17_8 w17_9 L17_9 w17_10 L17_10 w17_11 L17_11 w17_12 L17_12 w17_13 L17_13
attribute [simp] body18 w18_0 L18_0 w18_1 L18_1
attribute [simp] body19 w19_0 L19_0 w19_1 L19_1 w19_2 L19_2 w19_3 L19_3 w19_4 L19_4 w19_5 L19_5 w19_6 L19_6 w19_7 L19_7 w19_8 L19_8
attribute [simp] body20 w20_0 L20_0 w20_1 L20_1 w20_2 L20_2 w20_3 L20_3 w20_4 L20_4 w20_5 L20_5 w20_6 L20_6
attribute [simp] body21 w21_0 L21_0 w21_1 L21_1 w21_2 L21_2 w21_3 L21_3
attribute [simp] body22 w22_0 L22_0 w22_1 L22_1 w22_2 L22_2 w22_3 L22_3 w22_4 L22_4
attribute [simp] body23 w23_0 L23_0 w23_1 L23_1 w23_2 L23_2 w23_3 L23_3 w23_4 L23_4 w23_5 L23_5 w23_6 L23_6 w23_7 L23_7 w23_8 L23_8 w23_9 L23_9 w23_10 L23_10 w23_11 L23_11
attribute [simp] body40 w40_0 L40_0 w40_1 L40_1
attribute [simp] body41 w41_0 L41_0 w41_1 L41_1
attribute [simp] body42 w42_0 L42_0
attribute [simp] body43 w43_0 L43_0 w43_1 L43_1 w43_2 L43_2 w43_3 L43_3 w43_4 L43_4
attribute [simp] body44 w44_0 L44_0
end Go.Proofs.Ytkeapfbemlclmaa.gen

