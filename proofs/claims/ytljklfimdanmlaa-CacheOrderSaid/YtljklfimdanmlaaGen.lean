/-
  This text names the regions of the functions that are walked, with the slots that they read and set, and the facts of the types.
  No condition.
-/
import Derived.Test.YtljklfimdanmlaaProg
import Derived.Test.YtljklfimdanmlaaShD
set_option maxRecDepth 100000
set_option linter.unusedSimpArgs false
set_option linter.unusedVariables false
namespace Go.Proofs.Ytljklfimdanmlaa.gen
open Go.Sh
def fns : List FuncId := [4, 7, 8, 10, 11, 12, 13, 14, 15, 17, 26, 27, 28, 29, 30, 31, 32, 34, 38, 39, 40, 41, 42, 43, 45, 46, 47, 56, 79, 80, 81, 82, 83, 9, 48, 49, 50, 51, 52, 53, 54, 57, 58, 59, 60, 61, 62]
noncomputable def TT : FuncId → Option Func := Sh.tabOf Try.prog fns
variable {S : Sums} {m : Mem} {k : List Fr} {E : LEnv} {Q : Post}
/-- a region's stripped operations -/
abbrev Lt (c : Code) := {l : List Oper // (opsOf c).map strip = l}
abbrev Lc (c : Code) := {l : List Oper // (canonOps (opsOf c)).map strip = l}
/-- what a region comes to -/
abbrev Wp (c : Code) (nv : Nat) (C ups cs nd : List Nat) (ds : List (Option Nat)) (l : List Oper) : Prop := ∀ {S : Sums} {m : Mem} {k : List Fr} {E : LEnv} {Q : Post}, W Try.prog TT S nv C c k E m Q ↔ Rg Try.prog TT S nv C ups cs (lgo E nd (lops Try.prog (callw Try.prog TT S) ds l E m)) k E Q
abbrev Wd (c : Code) (nv : Nat) (C ups cs nd : List Nat) (ds : List (Option Nat)) (l : List Oper) (places : List (Nat × List Nat)) : Prop := ∀ {S : Sums} {m : Mem} {k : List Fr} {E : LEnv} {Q : Post}, W Try.prog TT S nv C c k E m Q ↔ Rg Try.prog TT S nv C ups cs (lgo E nd (lloud Try.prog (callw Try.prog TT S) ds l places (lstates Try.prog (callw Try.prog TT S) ds l E m))) k E Q
theorem ag50 : aggOk Try.prog 50 [(3, 0), (3, 1)] = true := by kernel_rfl
theorem ap132 : apOk Try.prog 132 2 16 = true := by kernel_rfl
theorem ap3 : apOk Try.prog 3 1 8 = true := by kernel_rfl
theorem ap5 : apOk Try.prog 5 1 1 = true := by kernel_rfl
theorem ap50 : apOk Try.prog 50 2 16 = true := by kernel_rfl
theorem ap64 : apOk Try.prog 64 1 8 = true := by kernel_rfl
theorem ap86 : apOk Try.prog 86 3 40 = true := by kernel_rfl
theorem ap88 : apOk Try.prog 88 4 64 = true := by kernel_rfl
theorem b3 : (Try.prog.info? 3).isSome = true := by kernel_rfl
theorem b41 : (Try.prog.info? 41).isSome = true := by kernel_rfl
theorem b63 : (Try.prog.info? 63).isSome = true := by kernel_rfl
theorem b71 : (Try.prog.info? 71).isSome = true := by kernel_rfl
theorem bo39 : buildOk Try.prog 39 [.int .i64 0, .int .i64 0, .slice none 0 0, .slice none 0 0, .slice none 0 0] [(0, 1), (1, 1), (2, 1), (3, 1), (4, 1)] = true := by kernel_rfl
theorem bo41 : buildOk Try.prog 41 [.int .i64 0, .int .i64 0, .slice none 0 0, .slice none 0 0, .slice none 0 0, .slice none 0 0, .slice none 0 0] [(0, 5), (5, 1), (6, 1)] = true := by kernel_rfl
theorem bo50 : buildOk Try.prog 50 [.int .i64 0, .int .i64 0] [(0, 1), (1, 1)] = true := by kernel_rfl
theorem bo63 : buildOk Try.prog 63 [.int .i64 0, .slice none 0 0, .int .u64 0] [(0, 1), (1, 1), (2, 1)] = true := by kernel_rfl
theorem bo71 : buildOk Try.prog 71 [.int .i64 0, .int .i64 0, .slice none 0 0, .slice none 0 0, .slice none 0 0, .slice none 0 0, .slice none 0 0, .int .u64 0] [(0, 7), (7, 1)] = true := by kernel_rfl
theorem bs132 : bsOk Try.prog 132 [.int .i64 0, .int .i64 0] = true := by kernel_rfl
theorem bs3 : bsOk Try.prog 3 [.int .i64 0] = true := by kernel_rfl
theorem bs5 : bsOk Try.prog 5 [.int .u8 0] = true := by kernel_rfl
theorem bs50 : bsOk Try.prog 50 [.int .i64 0, .int .i64 0] = true := by kernel_rfl
theorem bs64 : bsOk Try.prog 64 [.pointer none] = true := by kernel_rfl
theorem bs86 : bsOk Try.prog 86 [.slice none 0 0, .int .i64 0, .int .i64 0] = true := by kernel_rfl
theorem bs88 : bsOk Try.prog 88 [.int .i64 0, .int .i64 0, .slice none 0 0, .slice none 0 0] = true := by kernel_rfl
theorem fa39_0 : faOk Try.prog 39 0 0 = true := by kernel_rfl
theorem fa39_1 : faOk Try.prog 39 1 1 = true := by kernel_rfl
theorem fa39_2 : faOk Try.prog 39 2 2 = true := by kernel_rfl
theorem fa39_3 : faOk Try.prog 39 3 3 = true := by kernel_rfl
theorem fa39_4 : faOk Try.prog 39 4 4 = true := by kernel_rfl
theorem fa41_0 : faOk Try.prog 41 0 0 = true := by kernel_rfl
theorem fa41_1 : faOk Try.prog 41 1 5 = true := by kernel_rfl
theorem fa41_2 : faOk Try.prog 41 2 6 = true := by kernel_rfl
theorem fa50_0 : faOk Try.prog 50 0 0 = true := by kernel_rfl
theorem fa63_0 : faOk Try.prog 63 0 0 = true := by kernel_rfl
theorem fa63_1 : faOk Try.prog 63 1 1 = true := by kernel_rfl
theorem fa63_2 : faOk Try.prog 63 2 2 = true := by kernel_rfl
theorem fa71_0 : faOk Try.prog 71 0 0 = true := by kernel_rfl
theorem fa71_1 : faOk Try.prog 71 1 7 = true := by kernel_rfl
theorem fa86_0 : faOk Try.prog 86 0 0 = true := by kernel_rfl
theorem fa88_2 : faOk Try.prog 88 2 2 = true := by kernel_rfl
theorem fa88_3 : faOk Try.prog 88 3 3 = true := by kernel_rfl
theorem ld29 : ldOk Try.prog 29 = true := by kernel_rfl
theorem ld3 : ldOk Try.prog 3 = true := by kernel_rfl
theorem ld35 : ldOk Try.prog 35 = true := by kernel_rfl
theorem ld36 : ldOk Try.prog 36 = true := by kernel_rfl
theorem ld37 : ldOk Try.prog 37 = true := by kernel_rfl
theorem ld39 : agOk Try.prog 39 5 = true := by kernel_rfl
theorem ld41 : agOk Try.prog 41 7 = true := by kernel_rfl
theorem ld50 : agOk Try.prog 50 2 = true := by kernel_rfl
theorem ld60 : ldOk Try.prog 60 = true := by kernel_rfl
theorem ld61 : ldOk Try.prog 61 = true := by kernel_rfl
theorem ld64 : ldOk Try.prog 64 = true := by kernel_rfl
theorem ld84 : ldOk Try.prog 84 = true := by kernel_rfl
theorem ld86 : agOk Try.prog 86 3 = true := by kernel_rfl
theorem ld88 : agOk Try.prog 88 4 = true := by kernel_rfl
theorem ni64 : noIf Try.prog 64 = true := by kernel_rfl
theorem ni66 : noIf Try.prog 66 = true := by kernel_rfl
theorem sz10 : sizeOfT Try.prog 10 = some 1 := by kernel_rfl
theorem sz106 : sizeOfT Try.prog 106 = some 1 := by kernel_rfl
theorem sz108 : sizeOfT Try.prog 108 = some 1 := by kernel_rfl
theorem sz11 : sizeOfT Try.prog 11 = some 1 := by kernel_rfl
theorem sz12 : sizeOfT Try.prog 12 = some 1 := by kernel_rfl
theorem sz123 : sizeOfT Try.prog 123 = some 1 := by kernel_rfl
theorem sz124 : sizeOfT Try.prog 124 = some 1 := by kernel_rfl
theorem sz127 : sizeOfT Try.prog 127 = some 1 := by kernel_rfl
theorem sz128 : sizeOfT Try.prog 128 = some 1 := by kernel_rfl
theorem sz132 : sizeOfT Try.prog 132 = some 2 := by kernel_rfl
theorem sz2 : sizeOfT Try.prog 2 = some 1 := by kernel_rfl
theorem sz21 : sizeOfT Try.prog 21 = some 1 := by kernel_rfl
theorem sz22 : sizeOfT Try.prog 22 = some 1 := by kernel_rfl
theorem sz25 : sizeOfT Try.prog 25 = some 1 := by kernel_rfl
theorem sz29 : sizeOfT Try.prog 29 = some 1 := by kernel_rfl
theorem sz3 : sizeOfT Try.prog 3 = some 1 := by kernel_rfl
theorem sz32 : sizeOfT Try.prog 32 = some 1 := by kernel_rfl
theorem sz35 : sizeOfT Try.prog 35 = some 1 := by kernel_rfl
theorem sz36 : sizeOfT Try.prog 36 = some 1 := by kernel_rfl
theorem sz37 : sizeOfT Try.prog 37 = some 1 := by kernel_rfl
theorem sz39 : sizeOfT Try.prog 39 = some 5 := by kernel_rfl
theorem sz4 : sizeOfT Try.prog 4 = some 1 := by kernel_rfl
theorem sz41 : sizeOfT Try.prog 41 = some 7 := by kernel_rfl
theorem sz5 : sizeOfT Try.prog 5 = some 1 := by kernel_rfl
theorem sz50 : sizeOfT Try.prog 50 = some 2 := by kernel_rfl
theorem sz54 : sizeOfT Try.prog 54 = some 1 := by kernel_rfl
theorem sz59 : sizeOfT Try.prog 59 = some 1 := by kernel_rfl
theorem sz6 : sizeOfT Try.prog 6 = some 1 := by kernel_rfl
theorem sz60 : sizeOfT Try.prog 60 = some 1 := by kernel_rfl
theorem sz61 : sizeOfT Try.prog 61 = some 1 := by kernel_rfl
theorem sz63 : sizeOfT Try.prog 63 = some 3 := by kernel_rfl
theorem sz64 : sizeOfT Try.prog 64 = some 1 := by kernel_rfl
theorem sz84 : sizeOfT Try.prog 84 = some 1 := by kernel_rfl
theorem sz86 : sizeOfT Try.prog 86 = some 3 := by kernel_rfl
theorem sz88 : sizeOfT Try.prog 88 = some 4 := by kernel_rfl
theorem sz9 : sizeOfT Try.prog 9 = some 1 := by kernel_rfl
theorem sz96 : sizeOfT Try.prog 96 = some 1 := by kernel_rfl
theorem sz98 : sizeOfT Try.prog 98 = some 1 := by kernel_rfl
theorem u10 : Try.prog.underlying 10 = some .string := by kernel_rfl
theorem u106 : Try.prog.underlying 106 = some (.int .u32) := by kernel_rfl
theorem u108 : Try.prog.underlying 108 = some (.int .u64) := by kernel_rfl
theorem u11 : Try.prog.underlying 11 = some .string := by kernel_rfl
theorem u12 : Try.prog.underlying 12 = some (.int .u64) := by kernel_rfl
theorem u123 : Try.prog.underlying 123 = some (.int .u8) := by kernel_rfl
theorem u124 : Try.prog.underlying 124 = some (.int .u8) := by kernel_rfl
theorem u127 : Try.prog.underlying 127 = some (.int .i32) := by kernel_rfl
theorem u128 : Try.prog.underlying 128 = some (.int .i32) := by kernel_rfl
theorem u2 : Try.prog.underlying 2 = some (.int .i64) := by kernel_rfl
theorem u21 : Try.prog.underlying 21 = some (.int .i32) := by kernel_rfl
theorem u22 : Try.prog.underlying 22 = some (.slice 31) := by kernel_rfl
theorem u24 : Try.prog.underlying 24 = some (.pointer 63) := by kernel_rfl
theorem u25 : Try.prog.underlying 25 = some (.int .i64) := by kernel_rfl
theorem u29 : Try.prog.underlying 29 = some (.slice 3) := by kernel_rfl
theorem u3 : Try.prog.underlying 3 = some (.int .i64) := by kernel_rfl
theorem u32 : Try.prog.underlying 32 = some (.slice 50) := by kernel_rfl
theorem u35 : Try.prog.underlying 35 = some (.slice 5) := by kernel_rfl
theorem u36 : Try.prog.underlying 36 = some (.slice 86) := by kernel_rfl
theorem u37 : Try.prog.underlying 37 = some (.slice 132) := by kernel_rfl
theorem u4 : Try.prog.underlying 4 = some .bool := by kernel_rfl
theorem u5 : Try.prog.underlying 5 = some (.int .u8) := by kernel_rfl
theorem u54 : Try.prog.underlying 54 = some (.slice 41) := by kernel_rfl
theorem u59 : Try.prog.underlying 59 = some (.slice 64) := by kernel_rfl
theorem u6 : Try.prog.underlying 6 = some (.int .u8) := by kernel_rfl
theorem u60 : Try.prog.underlying 60 = some (.slice 64) := by kernel_rfl
theorem u61 : Try.prog.underlying 61 = some (.int .u64) := by kernel_rfl
theorem u84 : Try.prog.underlying 84 = some (.slice 88) := by kernel_rfl
theorem u9 : Try.prog.underlying 9 = some .string := by kernel_rfl
theorem u96 : Try.prog.underlying 96 = some (.int .u64) := by kernel_rfl
theorem u98 : Try.prog.underlying 98 = some (.int .i64) := by kernel_rfl
theorem zo39 : zeroOk Try.prog 39 [.int .i64 0, .int .i64 0, .slice none 0 0, .slice none 0 0, .slice none 0 0] = true := by kernel_rfl
theorem zo41 : zeroOk Try.prog 41 [.int .i64 0, .int .i64 0, .slice none 0 0, .slice none 0 0, .slice none 0 0, .slice none 0 0, .slice none 0 0] = true := by kernel_rfl
theorem zo50 : zeroOk Try.prog 50 [.int .i64 0, .int .i64 0] = true := by kernel_rfl
theorem zo86 : zeroOk Try.prog 86 [.slice none 0 0, .int .i64 0, .int .i64 0] = true := by kernel_rfl
theorem zo88 : zeroOk Try.prog 88 [.int .i64 0, .int .i64 0, .slice none 0 0, .slice none 0 0] = true := by kernel_rfl

/- turnstonelaw27.CacheOrder -/
noncomputable def c4 : Code := bodyOf Try.f4
noncomputable def r4_0 : Code := Code.sub [0] c4
noncomputable def r4_1 : Code := Code.sub [1, 0] c4
noncomputable def r4_2 : Code := Code.sub [1, 1, 0, 0] c4
noncomputable def r4_3 : Code := Code.sub [1, 1, 0, 1, 0, 0] c4
noncomputable def r4_4 : Code := Code.sub [1, 1, 1, 0, 0] c4
noncomputable def r4_5 : Code := Code.sub [1, 1, 1, 0, 1, 0, 0, 0, 0] c4
noncomputable def r4_6 : Code := Code.sub [1, 1, 1, 0, 1, 0, 0, 1, 0, 0] c4
noncomputable def r4_7 : Code := Code.sub [1, 1, 1, 0, 1, 0, 0, 1, 1] c4
noncomputable def r4_8 : Code := Code.sub [1, 1, 1, 1, 0, 0] c4
noncomputable def r4_9 : Code := Code.sub [1, 1, 1, 1, 0, 1, 0, 0, 0, 0] c4
noncomputable def r4_10 : Code := Code.sub [1, 1, 1, 1, 0, 1, 0, 0, 1, 0, 0] c4
noncomputable def r4_11 : Code := Code.sub [1, 1, 1, 1, 0, 1, 0, 0, 1, 1] c4
noncomputable def r4_12 : Code := Code.sub [1, 1, 1, 1, 1, 0] c4
noncomputable def r4_13 : Code := Code.sub [1, 1, 1, 1, 1, 1, 0] c4
noncomputable def r4_14 : Code := Code.sub [1, 1, 1, 1, 1, 1, 1, 0] c4
noncomputable def r4_15 : Code := Code.sub [1, 1, 1, 1, 1, 1, 1, 1, 0] c4
noncomputable def r4_16 : Code := Code.sub [1, 1, 1, 1, 1, 1, 1, 1, 1, 0, 0] c4
noncomputable def r4_17 : Code := Code.sub [1, 1, 1, 1, 1, 1, 1, 1, 1, 0, 1, 0, 0] c4
noncomputable def r4_18 : Code := Code.sub [1, 1, 1, 1, 1, 1, 1, 1, 1, 1, 0, 0] c4
noncomputable def r4_19 : Code := Code.sub [1, 1, 1, 1, 1, 1, 1, 1, 1, 1, 0, 1, 0, 0, 0, 0] c4
noncomputable def r4_20 : Code := Code.sub [1, 1, 1, 1, 1, 1, 1, 1, 1, 1, 0, 1, 0, 0, 1, 0, 0, 0] c4
noncomputable def r4_21 : Code := Code.sub [1, 1, 1, 1, 1, 1, 1, 1, 1, 1, 0, 1, 0, 0, 1, 0, 0, 1, 0, 0] c4
noncomputable def r4_22 : Code := Code.sub [1, 1, 1, 1, 1, 1, 1, 1, 1, 1, 0, 1, 0, 0, 1, 1] c4
noncomputable def r4_23 : Code := Code.sub [1, 1, 1, 1, 1, 1, 1, 1, 1, 1, 1, 0] c4
noncomputable def r4_24 : Code := Code.sub [1, 1, 1, 1, 1, 1, 1, 1, 1, 1, 1, 1, 0, 0] c4
noncomputable def r4_25 : Code := Code.sub [1, 1, 1, 1, 1, 1, 1, 1, 1, 1, 1, 1, 0, 1, 0, 0] c4
noncomputable def r4_26 : Code := Code.sub [1, 1, 1, 1, 1, 1, 1, 1, 1, 1, 1, 1, 1, 0, 0] c4
noncomputable def r4_27 : Code := Code.sub [1, 1, 1, 1, 1, 1, 1, 1, 1, 1, 1, 1, 1, 0, 1, 0, 0, 0, 0] c4
noncomputable def r4_28 : Code := Code.sub [1, 1, 1, 1, 1, 1, 1, 1, 1, 1, 1, 1, 1, 0, 1, 0, 0, 1, 0, 0, 0] c4
noncomputable def r4_29 : Code := Code.sub [1, 1, 1, 1, 1, 1, 1, 1, 1, 1, 1, 1, 1, 0, 1, 0, 0, 1, 0, 0, 1, 0, 0] c4
noncomputable def r4_30 : Code := Code.sub [1, 1, 1, 1, 1, 1, 1, 1, 1, 1, 1, 1, 1, 0, 1, 0, 0, 1, 1] c4
noncomputable def r4_31 : Code := Code.sub [1, 1, 1, 1, 1, 1, 1, 1, 1, 1, 1, 1, 1, 1, 0] c4
theorem body4 : c4 = (.seq r4_0 (.seq r4_1 (.seq (.seq r4_2 (.cond (.tmp 31) (.seq r4_3 .ret) .skip)) (.seq (.seq r4_4 (.block 0 (.loop (.seq (.seq r4_5 (.cond (.tmp 39) .skip (.exit 0))) (.seq (.block 1 r4_6) r4_7))))) (.seq (.seq r4_8 (.block 2 (.loop (.seq (.seq r4_9 (.cond (.tmp 58) .skip (.exit 2))) (.seq (.block 3 r4_10) r4_11))))) (.seq r4_12 (.seq r4_13 (.seq r4_14 (.seq r4_15 (.seq (.seq r4_16 (.cond (.tmp 94) (.seq r4_17 .ret) .skip)) (.seq (.seq r4_18 (.block 4 (.loop (.seq (.seq r4_19 (.cond (.tmp 98) .skip (.exit 4))) (.seq (.block 5 (.seq r4_20 (.cond (.tmp 109) (.seq r4_21 .ret) .skip))) r4_22))))) (.seq r4_23 (.seq (.seq r4_24 (.cond (.tmp 130) (.seq r4_25 .ret) .skip)) (.seq (.seq r4_26 (.block 6 (.loop (.seq (.seq r4_27 (.cond (.tmp 135) .skip (.exit 6))) (.seq (.block 7 (.seq r4_28 (.cond (.tmp 149) (.seq r4_29 .ret) .skip))) r4_30))))) (.seq r4_31 .ret))))))))))))))) := by kernel_rfl
noncomputable def L4_0 : Lt r4_0 := by refine ⟨?l, ?h⟩; case h => simp only [r4_0, c4, bodyOf, Try.f4, Code.sub, opsOf, List.map_cons, List.map_nil, strip]; rfl
theorem w4_0 : Wp r4_0 18 [31, 39, 58, 94, 98, 109, 130, 135, 149] [6] [] [] [some 6] (L4_0).1 := w_plain (by kernel_rfl) (L4_0).2
noncomputable def L4_1 : Lt r4_1 := by refine ⟨?l, ?h⟩; case h => simp only [r4_1, c4, bodyOf, Try.f4, Code.sub, opsOf, List.map_cons, List.map_nil, strip]; rfl
theorem w4_1 : Wp r4_1 18 [31, 39, 58, 94, 98, 109, 130, 135, 149] [7, 8] [] [] [some 19, some 18, some 20, some 21, some 7, some 8] (L4_1).1 := w_plain (by kernel_rfl) (L4_1).2
noncomputable def L4_2 : Lt r4_2 := by refine ⟨?l, ?h⟩; case h => simp only [r4_2, c4, bodyOf, Try.f4, Code.sub, opsOf, List.map_cons, List.map_nil, strip]; rfl
theorem w4_2 : Wp r4_2 18 [31, 39, 58, 94, 98, 109, 130, 135, 149] [] [31] [8, 7] [some 22, some 23, some 24, some 25, some 26, some 27, some 28, some 29, some 30, some 31] (L4_2).1 := w_plain (by kernel_rfl) (L4_2).2
noncomputable def L4_3 : Lt r4_3 := by refine ⟨?l, ?h⟩; case h => simp only [r4_3, c4, bodyOf, Try.f4, Code.sub, opsOf, List.map_cons, List.map_nil, strip]; rfl
theorem w4_3 : Wp r4_3 18 [31, 39, 58, 94, 98, 109, 130, 135, 149] [6] [] [] [some 6] (L4_3).1 := w_plain (by kernel_rfl) (L4_3).2
noncomputable def L4_4 : Lt r4_4 := by refine ⟨?l, ?h⟩; case h => simp only [r4_4, c4, bodyOf, Try.f4, Code.sub, opsOf, List.map_cons, List.map_nil, strip]; rfl
theorem w4_4 : Wp r4_4 18 [31, 39, 58, 94, 98, 109, 130, 135, 149] [9] [] [] [some 9] (L4_4).1 := w_plain (by kernel_rfl) (L4_4).2
noncomputable def L4_5 : Lt r4_5 := by refine ⟨?l, ?h⟩; case h => simp only [r4_5, c4, bodyOf, Try.f4, Code.sub, opsOf, List.map_cons, List.map_nil, strip]; rfl
theorem w4_5 : Wp r4_5 18 [31, 39, 58, 94, 98, 109, 130, 135, 149] [] [39] [0, 9] [some 32, some 33, some 34, some 35, some 36, some 37, some 38, some 39] (L4_5).1 := w_plain (by kernel_rfl) (L4_5).2
noncomputable def L4_6 : Lt r4_6 := by refine ⟨?l, ?h⟩; case h => simp only [r4_6, c4, bodyOf, Try.f4, Code.sub, opsOf, List.map_cons, List.map_nil, strip]; rfl
theorem w4_6 : Wp r4_6 18 [31, 39, 58, 94, 98, 109, 130, 135, 149] [] [] [7, 0, 9] [some 42, some 43, some 44, some 45, some 46, some 47, some 48, some 49, some 50] (L4_6).1 := w_plain (by kernel_rfl) (L4_6).2
noncomputable def L4_7 : Lt r4_7 := by refine ⟨?l, ?h⟩; case h => simp only [r4_7, c4, bodyOf, Try.f4, Code.sub, opsOf, List.map_cons, List.map_nil, strip]; rfl
theorem w4_7 : Wp r4_7 18 [31, 39, 58, 94, 98, 109, 130, 135, 149] [9] [] [9] [some 40, some 41, some 9] (L4_7).1 := w_plain (by kernel_rfl) (L4_7).2
noncomputable def L4_8 : Lt r4_8 := by refine ⟨?l, ?h⟩; case h => simp only [r4_8, c4, bodyOf, Try.f4, Code.sub, opsOf, List.map_cons, List.map_nil, strip]; rfl
theorem w4_8 : Wp r4_8 18 [31, 39, 58, 94, 98, 109, 130, 135, 149] [10] [] [] [some 10] (L4_8).1 := w_plain (by kernel_rfl) (L4_8).2
noncomputable def L4_9 : Lt r4_9 := by refine ⟨?l, ?h⟩; case h => simp only [r4_9, c4, bodyOf, Try.f4, Code.sub, opsOf, List.map_cons, List.map_nil, strip]; rfl
theorem w4_9 : Wp r4_9 18 [31, 39, 58, 94, 98, 109, 130, 135, 149] [] [58] [1, 10] [some 51, some 52, some 53, some 54, some 55, some 56, some 57, some 58] (L4_9).1 := w_plain (by kernel_rfl) (L4_9).2
noncomputable def L4_10 : Lt r4_10 := by refine ⟨?l, ?h⟩; case h => simp only [r4_10, c4, bodyOf, Try.f4, Code.sub, opsOf, List.map_cons, List.map_nil, strip]; rfl
theorem w4_10 : Wp r4_10 18 [31, 39, 58, 94, 98, 109, 130, 135, 149] [] [] [7, 1, 10] [some 61, some 62, some 63, some 64, some 65, some 66, some 67] (L4_10).1 := w_plain (by kernel_rfl) (L4_10).2
noncomputable def L4_11 : Lt r4_11 := by refine ⟨?l, ?h⟩; case h => simp only [r4_11, c4, bodyOf, Try.f4, Code.sub, opsOf, List.map_cons, List.map_nil, strip]; rfl
theorem w4_11 : Wp r4_11 18 [31, 39, 58, 94, 98, 109, 130, 135, 149] [10] [] [10] [some 59, some 60, some 10] (L4_11).1 := w_plain (by kernel_rfl) (L4_11).2
noncomputable def L4_12 : Lt r4_12 := by refine ⟨?l, ?h⟩; case h => simp only [r4_12, c4, bodyOf, Try.f4, Code.sub, opsOf, List.map_cons, List.map_nil, strip]; rfl
theorem w4_12 : Wp r4_12 18 [31, 39, 58, 94, 98, 109, 130, 135, 149] [11] [] [7] [some 68, some 69, some 11] (L4_12).1 := w_plain (by kernel_rfl) (L4_12).2
noncomputable def L4_13 : Lt r4_13 := by refine ⟨?l, ?h⟩; case h => simp only [r4_13, c4, bodyOf, Try.f4, Code.sub, opsOf, List.map_cons, List.map_nil, strip]; rfl
theorem w4_13 : Wp r4_13 18 [31, 39, 58, 94, 98, 109, 130, 135, 149] [12] [] [7] [some 70, some 71, some 12] (L4_13).1 := w_plain (by kernel_rfl) (L4_13).2
noncomputable def L4_14 : Lt r4_14 := by refine ⟨?l, ?h⟩; case h => simp only [r4_14, c4, bodyOf, Try.f4, Code.sub, opsOf, List.map_cons, List.map_nil, strip]; rfl
theorem w4_14 : Wp r4_14 18 [31, 39, 58, 94, 98, 109, 130, 135, 149] [2] [] [2] [some 72, some 73, some 2] (L4_14).1 := w_plain (by kernel_rfl) (L4_14).2
noncomputable def L4_15 : Lt r4_15 := by refine ⟨?l, ?h⟩; case h => simp only [r4_15, c4, bodyOf, Try.f4, Code.sub, opsOf, List.map_cons, List.map_nil, strip]; rfl
theorem w4_15 : Wp r4_15 18 [31, 39, 58, 94, 98, 109, 130, 135, 149] [13, 14] [] [7, 2] [some 75, some 76, some 77, some 78, some 74, some 79, some 80, some 13, some 14] (L4_15).1 := w_plain (by kernel_rfl) (L4_15).2
noncomputable def L4_16 : Lt r4_16 := by refine ⟨?l, ?h⟩; case h => simp only [r4_16, c4, bodyOf, Try.f4, Code.sub, opsOf, List.map_cons, List.map_nil, strip]; rfl
theorem w4_16 : Wp r4_16 18 [31, 39, 58, 94, 98, 109, 130, 135, 149] [] [94] [14, 13, 11, 7] [some 81, some 82, some 83, some 84, some 85, some 86, some 87, some 88, some 89, some 90, some 91, some 92, some 93, some 94] (L4_16).1 := w_plain (by kernel_rfl) (L4_16).2
noncomputable def L4_17 : Lt r4_17 := by refine ⟨?l, ?h⟩; case h => simp only [r4_17, c4, bodyOf, Try.f4, Code.sub, opsOf, List.map_cons, List.map_nil, strip]; rfl
theorem w4_17 : Wp r4_17 18 [31, 39, 58, 94, 98, 109, 130, 135, 149] [6] [] [] [some 6] (L4_17).1 := w_plain (by kernel_rfl) (L4_17).2
noncomputable def L4_18 : Lt r4_18 := by refine ⟨?l, ?h⟩; case h => simp only [r4_18, c4, bodyOf, Try.f4, Code.sub, opsOf, List.map_cons, List.map_nil, strip]; rfl
theorem w4_18 : Wp r4_18 18 [31, 39, 58, 94, 98, 109, 130, 135, 149] [15] [] [] [some 15] (L4_18).1 := w_plain (by kernel_rfl) (L4_18).2
noncomputable def L4_19 : Lt r4_19 := by refine ⟨?l, ?h⟩; case h => simp only [r4_19, c4, bodyOf, Try.f4, Code.sub, opsOf, List.map_cons, List.map_nil, strip]; rfl
theorem w4_19 : Wp r4_19 18 [31, 39, 58, 94, 98, 109, 130, 135, 149] [] [98] [15, 13] [some 95, some 96, some 97, some 98] (L4_19).1 := w_plain (by kernel_rfl) (L4_19).2
noncomputable def L4_20 : Lt r4_20 := by refine ⟨?l, ?h⟩; case h => simp only [r4_20, c4, bodyOf, Try.f4, Code.sub, opsOf, List.map_cons, List.map_nil, strip]; rfl
theorem w4_20 : Wp r4_20 18 [31, 39, 58, 94, 98, 109, 130, 135, 149] [] [109] [13, 11, 15] [some 101, some 102, some 103, some 104, some 105, some 106, some 107, some 108, some 109] (L4_20).1 := w_plain (by kernel_rfl) (L4_20).2
noncomputable def L4_21 : Lt r4_21 := by refine ⟨?l, ?h⟩; case h => simp only [r4_21, c4, bodyOf, Try.f4, Code.sub, opsOf, List.map_cons, List.map_nil, strip]; rfl
theorem w4_21 : Wp r4_21 18 [31, 39, 58, 94, 98, 109, 130, 135, 149] [6] [] [] [some 6] (L4_21).1 := w_plain (by kernel_rfl) (L4_21).2
noncomputable def L4_22 : Lt r4_22 := by refine ⟨?l, ?h⟩; case h => simp only [r4_22, c4, bodyOf, Try.f4, Code.sub, opsOf, List.map_cons, List.map_nil, strip]; rfl
theorem w4_22 : Wp r4_22 18 [31, 39, 58, 94, 98, 109, 130, 135, 149] [15] [] [15] [some 99, some 100, some 15] (L4_22).1 := w_plain (by kernel_rfl) (L4_22).2
noncomputable def L4_23 : Lt r4_23 := by refine ⟨?l, ?h⟩; case h => simp only [r4_23, c4, bodyOf, Try.f4, Code.sub, opsOf, List.map_cons, List.map_nil, strip]; rfl
theorem w4_23 : Wp r4_23 18 [31, 39, 58, 94, 98, 109, 130, 135, 149] [16] [] [7] [some 110, some 111, some 16] (L4_23).1 := w_plain (by kernel_rfl) (L4_23).2
noncomputable def L4_24 : Lt r4_24 := by refine ⟨?l, ?h⟩; case h => simp only [r4_24, c4, bodyOf, Try.f4, Code.sub, opsOf, List.map_cons, List.map_nil, strip]; rfl
theorem w4_24 : Wp r4_24 18 [31, 39, 58, 94, 98, 109, 130, 135, 149] [] [130] [11, 13, 16] [some 112, some 113, some 114, some 115, some 116, some 117, some 118, some 119, some 120, some 121, some 122, some 123, some 124, some 125, some 126, some 127, some 128, some 129, some 130] (L4_24).1 := w_plain (by kernel_rfl) (L4_24).2
noncomputable def L4_25 : Lt r4_25 := by refine ⟨?l, ?h⟩; case h => simp only [r4_25, c4, bodyOf, Try.f4, Code.sub, opsOf, List.map_cons, List.map_nil, strip]; rfl
theorem w4_25 : Wp r4_25 18 [31, 39, 58, 94, 98, 109, 130, 135, 149] [6] [] [] [some 6] (L4_25).1 := w_plain (by kernel_rfl) (L4_25).2
noncomputable def L4_26 : Lt r4_26 := by refine ⟨?l, ?h⟩; case h => simp only [r4_26, c4, bodyOf, Try.f4, Code.sub, opsOf, List.map_cons, List.map_nil, strip]; rfl
theorem w4_26 : Wp r4_26 18 [31, 39, 58, 94, 98, 109, 130, 135, 149] [17] [] [] [some 17] (L4_26).1 := w_plain (by kernel_rfl) (L4_26).2
noncomputable def L4_27 : Lt r4_27 := by refine ⟨?l, ?h⟩; case h => simp only [r4_27, c4, bodyOf, Try.f4, Code.sub, opsOf, List.map_cons, List.map_nil, strip]; rfl
theorem w4_27 : Wp r4_27 18 [31, 39, 58, 94, 98, 109, 130, 135, 149] [] [135] [17, 16] [some 131, some 132, some 133, some 134, some 135] (L4_27).1 := w_plain (by kernel_rfl) (L4_27).2
noncomputable def L4_28 : Lt r4_28 := by refine ⟨?l, ?h⟩; case h => simp only [r4_28, c4, bodyOf, Try.f4, Code.sub, opsOf, List.map_cons, List.map_nil, strip]; rfl
theorem w4_28 : Wp r4_28 18 [31, 39, 58, 94, 98, 109, 130, 135, 149] [] [149] [16, 11, 13, 17] [some 138, some 139, some 140, some 141, some 142, some 143, some 144, some 145, some 146, some 147, some 148, some 149] (L4_28).1 := w_plain (by kernel_rfl) (L4_28).2
noncomputable def L4_29 : Lt r4_29 := by refine ⟨?l, ?h⟩; case h => simp only [r4_29, c4, bodyOf, Try.f4, Code.sub, opsOf, List.map_cons, List.map_nil, strip]; rfl
theorem w4_29 : Wp r4_29 18 [31, 39, 58, 94, 98, 109, 130, 135, 149] [6] [] [] [some 6] (L4_29).1 := w_plain (by kernel_rfl) (L4_29).2
noncomputable def L4_30 : Lt r4_30 := by refine ⟨?l, ?h⟩; case h => simp only [r4_30, c4, bodyOf, Try.f4, Code.sub, opsOf, List.map_cons, List.map_nil, strip]; rfl
theorem w4_30 : Wp r4_30 18 [31, 39, 58, 94, 98, 109, 130, 135, 149] [17] [] [17] [some 136, some 137, some 17] (L4_30).1 := w_plain (by kernel_rfl) (L4_30).2
noncomputable def L4_31 : Lt r4_31 := by refine ⟨?l, ?h⟩; case h => simp only [r4_31, c4, bodyOf, Try.f4, Code.sub, opsOf, List.map_cons, List.map_nil, strip]; rfl
theorem w4_31 : Wp r4_31 18 [31, 39, 58, 94, 98, 109, 130, 135, 149] [6] [] [13, 12, 2, 11] [some 150, some 151, some 152, some 153, some 154, some 155, some 156, some 157, some 158, some 159, some 160, some 161, some 162, some 163, some 6] (L4_31).1 := w_plain (by kernel_rfl) (L4_31).2
theorem k4 : FnIs TT 4 c4 [.tmp 6] 3 := ⟨Try.f4, by kernel_rfl, by simp only [Try.f4, c4, bodyOf], by kernel_rfl, of_decide_eq_true (by kernel_rfl)⟩

/- turnstonehand.Pick -/
noncomputable def c7 : Code := bodyOf Try.f7
noncomputable def r7_0 : Code := Code.sub [0] c7
noncomputable def r7_1 : Code := Code.sub [1, 0] c7
noncomputable def r7_2 : Code := Code.sub [1, 1, 0, 0] c7
noncomputable def r7_3 : Code := Code.sub [1, 1, 0, 1, 0] c7
noncomputable def r7_4 : Code := Code.sub [1, 1, 1, 0] c7
theorem body7 : c7 = (.seq r7_0 (.seq r7_1 (.seq (.seq r7_2 (.cond (.tmp 9) r7_3 .skip)) (.seq r7_4 .ret)))) := by kernel_rfl
noncomputable def L7_0 : Lt r7_0 := by refine ⟨?l, ?h⟩; case h => simp only [r7_0, c7, bodyOf, Try.f7, Code.sub, opsOf, List.map_cons, List.map_nil, strip]; rfl
theorem w7_0 : Wp r7_0 5 [9] [4] [] [] [some 4] (L7_0).1 := w_plain (by kernel_rfl) (L7_0).2
noncomputable def L7_1 : Lt r7_1 := by refine ⟨?l, ?h⟩; case h => simp only [r7_1, c7, bodyOf, Try.f7, Code.sub, opsOf, List.map_cons, List.map_nil, strip]; rfl
theorem w7_1 : Wp r7_1 5 [9] [0] [] [0, 1] [some 5, some 6, some 7, some 0] (L7_1).1 := w_plain (by kernel_rfl) (L7_1).2
noncomputable def L7_2 : Lt r7_2 := by refine ⟨?l, ?h⟩; case h => simp only [r7_2, c7, bodyOf, Try.f7, Code.sub, opsOf, List.map_cons, List.map_nil, strip]; rfl
theorem w7_2 : Wp r7_2 5 [9] [] [9] [0] [some 8, some 9] (L7_2).1 := w_plain (by kernel_rfl) (L7_2).2
noncomputable def L7_3 : Lt r7_3 := by refine ⟨?l, ?h⟩; case h => simp only [r7_3, c7, bodyOf, Try.f7, Code.sub, opsOf, List.map_cons, List.map_nil, strip]; rfl
theorem w7_3 : Wp r7_3 5 [9] [0] [] [0, 1] [some 10, some 11, some 12, some 0] (L7_3).1 := w_plain (by kernel_rfl) (L7_3).2
noncomputable def L7_4 : Lt r7_4 := by refine ⟨?l, ?h⟩; case h => simp only [r7_4, c7, bodyOf, Try.f7, Code.sub, opsOf, List.map_cons, List.map_nil, strip]; rfl
theorem w7_4 : Wp r7_4 5 [9] [4] [] [0] [some 13, some 4] (L7_4).1 := w_plain (by kernel_rfl) (L7_4).2
theorem k7 : FnIs TT 7 c7 [.tmp 4] 2 := ⟨Try.f7, by kernel_rfl, by simp only [Try.f7, c7, bodyOf], by kernel_rfl, of_decide_eq_true (by kernel_rfl)⟩

/- cache.New -/
noncomputable def c8 : Code := bodyOf Try.f8
noncomputable def r8_0 : Code := Code.sub [0] c8
noncomputable def r8_1 : Code := Code.sub [1, 0, 0] c8
noncomputable def r8_2 : Code := Code.sub [1, 0, 1, 0, 0] c8
noncomputable def r8_3 : Code := Code.sub [1, 1, 0] c8
theorem body8 : c8 = (.seq r8_0 (.seq (.seq r8_1 (.cond (.tmp 9) (.seq r8_2 .ret) .skip)) (.seq r8_3 .ret))) := by kernel_rfl
noncomputable def L8_0 : Lt r8_0 := by refine ⟨?l, ?h⟩; case h => simp only [r8_0, c8, bodyOf, Try.f8, Code.sub, opsOf, List.map_cons, List.map_nil, strip]; rfl
theorem w8_0 : Wp r8_0 4 [9] [2, 3] [] [] [some 2, some 3] (L8_0).1 := w_plain (by kernel_rfl) (L8_0).2
noncomputable def L8_1 : Lt r8_1 := by refine ⟨?l, ?h⟩; case h => simp only [r8_1, c8, bodyOf, Try.f8, Code.sub, opsOf, List.map_cons, List.map_nil, strip]; rfl
theorem w8_1 : Wp r8_1 4 [9] [] [9] [0] [some 4, some 5, some 6, some 7, some 8, some 9] (L8_1).1 := w_plain (by kernel_rfl) (L8_1).2
noncomputable def L8_2 : Lt r8_2 := by refine ⟨?l, ?h⟩; case h => simp only [r8_2, c8, bodyOf, Try.f8, Code.sub, opsOf, List.map_cons, List.map_nil, strip]; rfl
theorem w8_2 : Wp r8_2 4 [9] [2, 3] [] [] [some 2, some 3] (L8_2).1 := w_plain (by kernel_rfl) (L8_2).2
noncomputable def L8_3 : Lt r8_3 := by refine ⟨?l, ?h⟩; case h => simp only [r8_3, c8, bodyOf, Try.f8, Code.sub, opsOf, List.map_cons, List.map_nil, strip]; rfl
theorem w8_3 : Wp r8_3 4 [9] [2, 3] [] [0] [some 10, some 11, some 12, some 2, some 3] (L8_3).1 := w_plain (by kernel_rfl) (L8_3).2
theorem k8 : FnIs TT 8 c8 [.tmp 2, .tmp 3] 1 := ⟨Try.f8, by kernel_rfl, by simp only [Try.f8, c8, bodyOf], by kernel_rfl, of_decide_eq_true (by kernel_rfl)⟩

/- (*cache.Cache).Put -/
noncomputable def c10 : Code := bodyOf Try.f10
noncomputable def r10_0 : Code := Code.sub [0] c10
noncomputable def r10_1 : Code := Code.sub [1, 0] c10
noncomputable def r10_2 : Code := Code.sub [1, 1, 0, 0] c10
noncomputable def r10_3 : Code := Code.sub [1, 1, 0, 1, 0, 0] c10
noncomputable def r10_4 : Code := Code.sub [1, 1, 1, 0] c10
noncomputable def r10_5 : Code := Code.sub [1, 1, 1, 1, 0] c10
noncomputable def r10_6 : Code := Code.sub [1, 1, 1, 1, 1, 0, 0, 0, 0, 0] c10
noncomputable def r10_7 : Code := Code.sub [1, 1, 1, 1, 1, 0, 0, 0, 1, 0] c10
noncomputable def r10_8 : Code := Code.sub [1, 1, 1, 1, 1, 1, 0] c10
noncomputable def r10_9 : Code := Code.sub [1, 1, 1, 1, 1, 1, 1, 0] c10
noncomputable def r10_10 : Code := Code.sub [1, 1, 1, 1, 1, 1, 1, 1, 0] c10
theorem body10 : c10 = (.seq r10_0 (.seq r10_1 (.seq (.seq r10_2 (.cond (.tmp 17) (.seq r10_3 .ret) .skip)) (.seq r10_4 (.seq r10_5 (.seq (.block 0 (.loop (.seq (.seq r10_6 (.cond (.tmp 50) .skip (.exit 0))) (.block 1 r10_7)))) (.seq r10_8 (.seq r10_9 (.seq r10_10 .ret))))))))) := by kernel_rfl
noncomputable def L10_0 : Lt r10_0 := by refine ⟨?l, ?h⟩; case h => simp only [r10_0, c10, bodyOf, Try.f10, Code.sub, opsOf, List.map_cons, List.map_nil, strip]; rfl
theorem w10_0 : Wp r10_0 8 [17, 50] [3, 4, 5] [] [1] [some 3, some 4, some 5] (L10_0).1 := w_plain (by kernel_rfl) (L10_0).2
noncomputable def L10_1 : Lt r10_1 := by refine ⟨?l, ?h⟩; case h => simp only [r10_1, c10, bodyOf, Try.f10, Code.sub, opsOf, List.map_cons, List.map_nil, strip]; rfl
theorem w10_1 : Wp r10_1 8 [17, 50] [6] [] [3] [some 8, some 9, some 10, some 11, some 6] (L10_1).1 := w_plain (by kernel_rfl) (L10_1).2
noncomputable def L10_2 : Lt r10_2 := by refine ⟨?l, ?h⟩; case h => simp only [r10_2, c10, bodyOf, Try.f10, Code.sub, opsOf, List.map_cons, List.map_nil, strip]; rfl
theorem w10_2 : Wp r10_2 8 [17, 50] [] [17] [6, 0] [some 12, some 13, some 14, some 15, some 16, some 17] (L10_2).1 := w_plain (by kernel_rfl) (L10_2).2
noncomputable def L10_3 : Lt r10_3 := by refine ⟨?l, ?h⟩; case h => simp only [r10_3, c10, bodyOf, Try.f10, Code.sub, opsOf, List.map_cons, List.map_nil, strip]; rfl
theorem w10_3 : Wp r10_3 8 [17, 50] [4, 5] [] [] [some 4, some 5] (L10_3).1 := w_plain (by kernel_rfl) (L10_3).2
noncomputable def L10_4 : Lt r10_4 := by refine ⟨?l, ?h⟩; case h => simp only [r10_4, c10, bodyOf, Try.f10, Code.sub, opsOf, List.map_cons, List.map_nil, strip]; rfl
theorem w10_4 : Wp r10_4 8 [17, 50] [] [] [0, 3] [some 18, some 19, some 20, some 21, some 22, some 23, some 24, some 25] (L10_4).1 := w_plain (by kernel_rfl) (L10_4).2
noncomputable def L10_5 : Lt r10_5 := by refine ⟨?l, ?h⟩; case h => simp only [r10_5, c10, bodyOf, Try.f10, Code.sub, opsOf, List.map_cons, List.map_nil, strip]; rfl
theorem w10_5 : Wp r10_5 8 [17, 50] [7] [] [] [some 7] (L10_5).1 := w_plain (by kernel_rfl) (L10_5).2
theorem can10_6 : canonOps (opsOf r10_6) = opsOf r10_6 := by kernel_rfl
noncomputable def L10_6 : Lc r10_6 := by refine ⟨?l, (congrArg (List.map strip) can10_6).trans ?h⟩; case h => simp only [r10_6, c10, bodyOf, Try.f10, Code.sub, opsOf, List.map_cons, List.map_nil, strip]; rfl
theorem w10_6 : Wd r10_6 8 [17, 50] [] [50] [6, 0] [some 26, some 27, some 28, some 29, some 30, some 31, some 32, some 33, some 34, some 35, some 36, some 37, some 38, some 39, some 40, some 41, some 42, some 43, some 44, some 45, some 46, some 47, some 48, some 49, some 50] (L10_6).1 [(3, [8]), (4, [8]), (12, [8, 25]), (20, [25]), (21, [25])] := w_loud (by kernel_rfl) (L10_6).2
noncomputable def L10_7 : Lt r10_7 := by refine ⟨?l, ?h⟩; case h => simp only [r10_7, c10, bodyOf, Try.f10, Code.sub, opsOf, List.map_cons, List.map_nil, strip]; rfl
theorem w10_7 : Wp r10_7 8 [17, 50] [7] [] [7, 0] [some 51, some 52, some 53, some 54, some 55, some 56, some 57, some 58, some 59, some 60, some 7] (L10_7).1 := w_plain (by kernel_rfl) (L10_7).2
noncomputable def L10_8 : Lt r10_8 := by refine ⟨?l, ?h⟩; case h => simp only [r10_8, c10, bodyOf, Try.f10, Code.sub, opsOf, List.map_cons, List.map_nil, strip]; rfl
theorem w10_8 : Wp r10_8 8 [17, 50] [] [] [0] [some 61, some 62, some 63, some 64, some 65, some 66, some 67, none] (L10_8).1 := w_plain (by kernel_rfl) (L10_8).2
theorem can10_9 : canonOps (opsOf r10_9) = List.filterMap (fun i => ((opsOf r10_9)[i]?).map (renum [0, 1, 2, 3, 4, 5, 6, 7, 8, 9, 10, 11, 12, 13])) [0, 1, 2, 3, 4, 5, 6, 7, 8, 9, 10, 11, 12, 13] := by kernel_rfl
noncomputable def L10_9 : Lc r10_9 := by refine ⟨?l, (congrArg (List.map strip) can10_9).trans ?h⟩; case h => simp only [r10_9, c10, bodyOf, Try.f10, Code.sub, opsOf, List.filterMap_cons, List.filterMap_nil, List.getElem?_cons_succ, List.getElem?_cons_zero, Option.map_some, renum, List.map_cons, List.map_nil, strip]; rfl
theorem w10_9 : Wd r10_9 8 [17, 50] [] [] [3, 0] [some 68, some 69, some 70, some 71, some 72, some 73, some 74, some 75, some 76, some 77, some 78, some 79, some 80, some 81] (L10_9).1 [(4, [5]), (9, [5, 11])] := w_loud (by kernel_rfl) (L10_9).2
noncomputable def L10_10 : Lt r10_10 := by refine ⟨?l, ?h⟩; case h => simp only [r10_10, c10, bodyOf, Try.f10, Code.sub, opsOf, List.map_cons, List.map_nil, strip]; rfl
theorem w10_10 : Wp r10_10 8 [17, 50] [4, 5] [] [7] [some 82, some 4, some 5] (L10_10).1 := w_plain (by kernel_rfl) (L10_10).2
theorem k10 : FnIs TT 10 c10 [.tmp 4, .tmp 5] 2 := ⟨Try.f10, by kernel_rfl, by simp only [Try.f10, c10, bodyOf], by kernel_rfl, of_decide_eq_true (by kernel_rfl)⟩

/- turnstonelaw27.entry -/
noncomputable def c11 : Code := bodyOf Try.f11
noncomputable def r11_0 : Code := Code.sub [0] c11
noncomputable def r11_1 : Code := Code.sub [1, 0] c11
theorem body11 : c11 = (.seq r11_0 (.seq r11_1 .ret)) := by kernel_rfl
noncomputable def L11_0 : Lt r11_0 := by refine ⟨?l, ?h⟩; case h => simp only [r11_0, c11, bodyOf, Try.f11, Code.sub, opsOf, List.map_cons, List.map_nil, strip]; rfl
theorem w11_0 : Wp r11_0 9 [] [8] [] [] [some 8] (L11_0).1 := w_plain (by kernel_rfl) (L11_0).2
noncomputable def L11_1 : Lt r11_1 := by refine ⟨?l, ?h⟩; case h => simp only [r11_1, c11, bodyOf, Try.f11, Code.sub, opsOf, List.map_cons, List.map_nil, strip]; rfl
theorem w11_1 : Wp r11_1 9 [] [] [] [0, 1, 2, 3, 8] [some 9, some 10, some 11, some 12, some 13, some 14, some 15, none] (L11_1).1 := w_plain (by kernel_rfl) (L11_1).2
theorem k11 : FnIs TT 11 c11 [.cell 8 41] 4 := ⟨Try.f11, by kernel_rfl, by simp only [Try.f11, c11, bodyOf], by kernel_rfl, of_decide_eq_true (by kernel_rfl)⟩

/- (*cache.Cache).Size -/
noncomputable def c12 : Code := bodyOf Try.f12
noncomputable def r12_0 : Code := Code.sub [0] c12
noncomputable def r12_1 : Code := Code.sub [1, 0] c12
noncomputable def r12_2 : Code := Code.sub [1, 1, 0, 0] c12
noncomputable def r12_3 : Code := Code.sub [1, 1, 0, 1, 0, 0, 0] c12
noncomputable def r12_4 : Code := Code.sub [1, 1, 0, 1, 0, 0, 1, 1, 0, 0, 0] c12
noncomputable def r12_5 : Code := Code.sub [1, 1, 0, 1, 0, 0, 1, 1, 0, 0, 1] c12
noncomputable def r12_6 : Code := Code.sub [1, 1, 0, 1, 0, 0, 1, 1, 1] c12
noncomputable def r12_7 : Code := Code.sub [1, 1, 1, 0] c12
theorem body12 : c12 = (.seq r12_0 (.seq r12_1 (.seq (.seq r12_2 (.block 0 (.loop (.seq r12_3 (.seq (.cond (.tmp 12) .skip (.exit 0)) (.seq (.block 1 (.seq r12_4 r12_5)) r12_6)))))) (.seq r12_7 .ret)))) := by kernel_rfl
noncomputable def L12_0 : Lt r12_0 := by refine ⟨?l, ?h⟩; case h => simp only [r12_0, c12, bodyOf, Try.f12, Code.sub, opsOf, List.map_cons, List.map_nil, strip]; rfl
theorem w12_0 : Wp r12_0 12 [12] [2] [] [] [some 2] (L12_0).1 := w_plain (by kernel_rfl) (L12_0).2
noncomputable def L12_1 : Lt r12_1 := by refine ⟨?l, ?h⟩; case h => simp only [r12_1, c12, bodyOf, Try.f12, Code.sub, opsOf, List.map_cons, List.map_nil, strip]; rfl
theorem w12_1 : Wp r12_1 12 [12] [3] [] [] [some 3] (L12_1).1 := w_plain (by kernel_rfl) (L12_1).2
noncomputable def L12_2 : Lt r12_2 := by refine ⟨?l, ?h⟩; case h => simp only [r12_2, c12, bodyOf, Try.f12, Code.sub, opsOf, List.map_cons, List.map_nil, strip]; rfl
theorem w12_2 : Wp r12_2 12 [12] [6, 7, 8, 9, 10, 11] [] [0] [some 6, some 7, some 8, some 9, some 10, some 11] (L12_2).1 := w_plain (by kernel_rfl) (L12_2).2
noncomputable def L12_3 : Lt r12_3 := by refine ⟨?l, ?h⟩; case h => simp only [r12_3, c12, bodyOf, Try.f12, Code.sub, opsOf, List.map_cons, List.map_nil, strip]; rfl
theorem w12_3 : Wp r12_3 12 [12] [] [12] [11, 10] [some 12] (L12_3).1 := w_plain (by kernel_rfl) (L12_3).2
noncomputable def L12_4 : Lt r12_4 := by refine ⟨?l, ?h⟩; case h => simp only [r12_4, c12, bodyOf, Try.f12, Code.sub, opsOf, List.map_cons, List.map_nil, strip]; rfl
theorem w12_4 : Wp r12_4 12 [12] [5] [] [9, 11] [some 13, some 14, some 5] (L12_4).1 := w_plain (by kernel_rfl) (L12_4).2
noncomputable def L12_5 : Lt r12_5 := by refine ⟨?l, ?h⟩; case h => simp only [r12_5, c12, bodyOf, Try.f12, Code.sub, opsOf, List.map_cons, List.map_nil, strip]; rfl
theorem w12_5 : Wp r12_5 12 [12] [3] [] [3, 5] [some 15, some 16, some 17, some 18, some 19, some 20, some 21, some 22, some 23, some 3] (L12_5).1 := w_plain (by kernel_rfl) (L12_5).2
noncomputable def L12_6 : Lt r12_6 := by refine ⟨?l, ?h⟩; case h => simp only [r12_6, c12, bodyOf, Try.f12, Code.sub, opsOf, List.map_cons, List.map_nil, strip]; rfl
theorem w12_6 : Wp r12_6 12 [12] [11] [] [11] [some 24, some 11] (L12_6).1 := w_plain (by kernel_rfl) (L12_6).2
noncomputable def L12_7 : Lt r12_7 := by refine ⟨?l, ?h⟩; case h => simp only [r12_7, c12, bodyOf, Try.f12, Code.sub, opsOf, List.map_cons, List.map_nil, strip]; rfl
theorem w12_7 : Wp r12_7 12 [12] [2] [] [3] [some 25, some 2] (L12_7).1 := w_plain (by kernel_rfl) (L12_7).2
theorem k12 : FnIs TT 12 c12 [.tmp 2] 1 := ⟨Try.f12, by kernel_rfl, by simp only [Try.f12, c12, bodyOf], by kernel_rfl, of_decide_eq_true (by kernel_rfl)⟩

/- (*cache.Cache).Keys -/
noncomputable def c13 : Code := bodyOf Try.f13
noncomputable def r13_0 : Code := Code.sub [0] c13
noncomputable def r13_1 : Code := Code.sub [1, 0] c13
noncomputable def r13_2 : Code := Code.sub [1, 1, 0, 0] c13
noncomputable def r13_3 : Code := Code.sub [1, 1, 0, 1, 0, 0, 0] c13
noncomputable def r13_4 : Code := Code.sub [1, 1, 0, 1, 0, 0, 1, 1, 0, 0, 0] c13
noncomputable def r13_5 : Code := Code.sub [1, 1, 0, 1, 0, 0, 1, 1, 0, 0, 1] c13
noncomputable def r13_6 : Code := Code.sub [1, 1, 0, 1, 0, 0, 1, 1, 1] c13
noncomputable def r13_7 : Code := Code.sub [1, 1, 1, 0] c13
theorem body13 : c13 = (.seq r13_0 (.seq r13_1 (.seq (.seq r13_2 (.block 0 (.loop (.seq r13_3 (.seq (.cond (.tmp 10) .skip (.exit 0)) (.seq (.block 1 (.seq r13_4 r13_5)) r13_6)))))) (.seq r13_7 .ret)))) := by kernel_rfl
noncomputable def L13_0 : Lt r13_0 := by refine ⟨?l, ?h⟩; case h => simp only [r13_0, c13, bodyOf, Try.f13, Code.sub, opsOf, List.map_cons, List.map_nil, strip]; rfl
theorem w13_0 : Wp r13_0 10 [10] [2] [] [] [some 2] (L13_0).1 := w_plain (by kernel_rfl) (L13_0).2
noncomputable def L13_1 : Lt r13_1 := by refine ⟨?l, ?h⟩; case h => simp only [r13_1, c13, bodyOf, Try.f13, Code.sub, opsOf, List.map_cons, List.map_nil, strip]; rfl
theorem w13_1 : Wp r13_1 10 [10] [3] [] [] [some 3] (L13_1).1 := w_plain (by kernel_rfl) (L13_1).2
noncomputable def L13_2 : Lt r13_2 := by refine ⟨?l, ?h⟩; case h => simp only [r13_2, c13, bodyOf, Try.f13, Code.sub, opsOf, List.map_cons, List.map_nil, strip]; rfl
theorem w13_2 : Wp r13_2 10 [10] [6, 7, 8, 9] [] [0] [some 6, some 7, some 8, some 9] (L13_2).1 := w_plain (by kernel_rfl) (L13_2).2
noncomputable def L13_3 : Lt r13_3 := by refine ⟨?l, ?h⟩; case h => simp only [r13_3, c13, bodyOf, Try.f13, Code.sub, opsOf, List.map_cons, List.map_nil, strip]; rfl
theorem w13_3 : Wp r13_3 10 [10] [] [10] [9, 8] [some 10] (L13_3).1 := w_plain (by kernel_rfl) (L13_3).2
noncomputable def L13_4 : Lt r13_4 := by refine ⟨?l, ?h⟩; case h => simp only [r13_4, c13, bodyOf, Try.f13, Code.sub, opsOf, List.map_cons, List.map_nil, strip]; rfl
theorem w13_4 : Wp r13_4 10 [10] [5] [] [7, 9] [some 11, some 12, some 5] (L13_4).1 := w_plain (by kernel_rfl) (L13_4).2
noncomputable def L13_5 : Lt r13_5 := by refine ⟨?l, ?h⟩; case h => simp only [r13_5, c13, bodyOf, Try.f13, Code.sub, opsOf, List.map_cons, List.map_nil, strip]; rfl
theorem w13_5 : Wp r13_5 10 [10] [3] [] [3, 5] [some 13, some 14, some 15, some 16, some 17, some 3] (L13_5).1 := w_plain (by kernel_rfl) (L13_5).2
noncomputable def L13_6 : Lt r13_6 := by refine ⟨?l, ?h⟩; case h => simp only [r13_6, c13, bodyOf, Try.f13, Code.sub, opsOf, List.map_cons, List.map_nil, strip]; rfl
theorem w13_6 : Wp r13_6 10 [10] [9] [] [9] [some 18, some 9] (L13_6).1 := w_plain (by kernel_rfl) (L13_6).2
noncomputable def L13_7 : Lt r13_7 := by refine ⟨?l, ?h⟩; case h => simp only [r13_7, c13, bodyOf, Try.f13, Code.sub, opsOf, List.map_cons, List.map_nil, strip]; rfl
theorem w13_7 : Wp r13_7 10 [10] [2] [] [3] [some 19, some 2] (L13_7).1 := w_plain (by kernel_rfl) (L13_7).2
theorem k13 : FnIs TT 13 c13 [.tmp 2] 1 := ⟨Try.f13, by kernel_rfl, by simp only [Try.f13, c13, bodyOf], by kernel_rfl, of_decide_eq_true (by kernel_rfl)⟩

/- (*cache.Cache).Has -/
noncomputable def c14 : Code := bodyOf Try.f14
noncomputable def r14_0 : Code := Code.sub [0] c14
noncomputable def r14_1 : Code := Code.sub [1, 0] c14
theorem body14 : c14 = (.seq r14_0 (.seq r14_1 .ret)) := by kernel_rfl
noncomputable def L14_0 : Lt r14_0 := by refine ⟨?l, ?h⟩; case h => simp only [r14_0, c14, bodyOf, Try.f14, Code.sub, opsOf, List.map_cons, List.map_nil, strip]; rfl
theorem w14_0 : Wp r14_0 7 [] [6] [] [] [some 6] (L14_0).1 := w_plain (by kernel_rfl) (L14_0).2
noncomputable def L14_1 : Lt r14_1 := by refine ⟨?l, ?h⟩; case h => simp only [r14_1, c14, bodyOf, Try.f14, Code.sub, opsOf, List.map_cons, List.map_nil, strip]; rfl
theorem w14_1 : Wp r14_1 7 [] [6] [] [0, 1, 2] [some 7, some 8, some 9, some 10, some 11, some 6] (L14_1).1 := w_plain (by kernel_rfl) (L14_1).2
theorem k14 : FnIs TT 14 c14 [.tmp 6] 3 := ⟨Try.f14, by kernel_rfl, by simp only [Try.f14, c14, bodyOf], by kernel_rfl, of_decide_eq_true (by kernel_rfl)⟩

/- (*cache.Cache).Get -/
noncomputable def c15 : Code := bodyOf Try.f15
noncomputable def r15_0 : Code := Code.sub [0] c15
noncomputable def r15_1 : Code := Code.sub [1, 0] c15
noncomputable def r15_2 : Code := Code.sub [1, 1, 0, 0] c15
noncomputable def r15_3 : Code := Code.sub [1, 1, 0, 1, 0, 0] c15
noncomputable def r15_4 : Code := Code.sub [1, 1, 1, 0] c15
noncomputable def r15_5 : Code := Code.sub [1, 1, 1, 1, 0] c15
noncomputable def r15_6 : Code := Code.sub [1, 1, 1, 1, 1, 0] c15
noncomputable def r15_7 : Code := Code.sub [1, 1, 1, 1, 1, 1, 0] c15
noncomputable def r15_8 : Code := Code.sub [1, 1, 1, 1, 1, 1, 1, 0] c15
theorem body15 : c15 = (.seq r15_0 (.seq r15_1 (.seq (.seq r15_2 (.cond (.tmp 15) (.seq r15_3 .ret) .skip)) (.seq r15_4 (.seq r15_5 (.seq r15_6 (.seq r15_7 (.seq r15_8 .ret)))))))) := by kernel_rfl
noncomputable def L15_0 : Lt r15_0 := by refine ⟨?l, ?h⟩; case h => simp only [r15_0, c15, bodyOf, Try.f15, Code.sub, opsOf, List.map_cons, List.map_nil, strip]; rfl
theorem w15_0 : Wp r15_0 10 [15] [6, 7] [] [] [some 6, some 7] (L15_0).1 := w_plain (by kernel_rfl) (L15_0).2
noncomputable def L15_1 : Lt r15_1 := by refine ⟨?l, ?h⟩; case h => simp only [r15_1, c15, bodyOf, Try.f15, Code.sub, opsOf, List.map_cons, List.map_nil, strip]; rfl
theorem w15_1 : Wp r15_1 10 [15] [8] [] [0, 1, 2] [some 10, some 11, some 12, some 13, some 8] (L15_1).1 := w_plain (by kernel_rfl) (L15_1).2
noncomputable def L15_2 : Lt r15_2 := by refine ⟨?l, ?h⟩; case h => simp only [r15_2, c15, bodyOf, Try.f15, Code.sub, opsOf, List.map_cons, List.map_nil, strip]; rfl
theorem w15_2 : Wp r15_2 10 [15] [] [15] [8] [some 14, some 15] (L15_2).1 := w_plain (by kernel_rfl) (L15_2).2
noncomputable def L15_3 : Lt r15_3 := by refine ⟨?l, ?h⟩; case h => simp only [r15_3, c15, bodyOf, Try.f15, Code.sub, opsOf, List.map_cons, List.map_nil, strip]; rfl
theorem w15_3 : Wp r15_3 10 [15] [7] [] [6] [some 16, none, some 7] (L15_3).1 := w_plain (by kernel_rfl) (L15_3).2
noncomputable def L15_4 : Lt r15_4 := by refine ⟨?l, ?h⟩; case h => simp only [r15_4, c15, bodyOf, Try.f15, Code.sub, opsOf, List.map_cons, List.map_nil, strip]; rfl
theorem w15_4 : Wp r15_4 10 [15] [] [] [0] [some 17, some 18, some 19, some 20, some 21, some 22, some 23, none] (L15_4).1 := w_plain (by kernel_rfl) (L15_4).2
theorem can15_5 : canonOps (opsOf r15_5) = opsOf r15_5 := by kernel_rfl
noncomputable def L15_5 : Lc r15_5 := by refine ⟨?l, (congrArg (List.map strip) can15_5).trans ?h⟩; case h => simp only [r15_5, c15, bodyOf, Try.f15, Code.sub, opsOf, List.map_cons, List.map_nil, strip]; rfl
theorem w15_5 : Wd r15_5 10 [15] [] [] [8, 0] [some 24, some 25, some 26, some 27, some 28, some 29, some 30, some 31, some 32, some 33, some 34, some 35, some 36, none] (L15_5).1 [(3, [13]), (6, [13]), (10, [13])] := w_loud (by kernel_rfl) (L15_5).2
noncomputable def L15_6 : Lt r15_6 := by refine ⟨?l, ?h⟩; case h => simp only [r15_6, c15, bodyOf, Try.f15, Code.sub, opsOf, List.map_cons, List.map_nil, strip]; rfl
theorem w15_6 : Wp r15_6 10 [15] [9] [] [0, 8] [some 37, some 38, some 39, some 40, some 41, some 42, some 43, some 44, some 45, some 46, some 47, some 9, none] (L15_6).1 := w_plain (by kernel_rfl) (L15_6).2
noncomputable def L15_7 : Lt r15_7 := by refine ⟨?l, ?h⟩; case h => simp only [r15_7, c15, bodyOf, Try.f15, Code.sub, opsOf, List.map_cons, List.map_nil, strip]; rfl
theorem w15_7 : Wp r15_7 10 [15] [] [] [0, 8] [some 48, some 49, some 50, some 51, some 52, some 53] (L15_7).1 := w_plain (by kernel_rfl) (L15_7).2
noncomputable def L15_8 : Lt r15_8 := by refine ⟨?l, ?h⟩; case h => simp only [r15_8, c15, bodyOf, Try.f15, Code.sub, opsOf, List.map_cons, List.map_nil, strip]; rfl
theorem w15_8 : Wp r15_8 10 [15] [7] [] [9, 6] [some 54, none, some 7] (L15_8).1 := w_plain (by kernel_rfl) (L15_8).2
theorem k15 : FnIs TT 15 c15 [.cell 6 41, .tmp 7] 3 := ⟨Try.f15, by kernel_rfl, by simp only [Try.f15, c15, bodyOf], by kernel_rfl, of_decide_eq_true (by kernel_rfl)⟩

/- (*cache.Cache).Drop -/
noncomputable def c17 : Code := bodyOf Try.f17
noncomputable def r17_0 : Code := Code.sub [0] c17
noncomputable def r17_1 : Code := Code.sub [1, 0] c17
noncomputable def r17_2 : Code := Code.sub [1, 1, 0, 0] c17
noncomputable def r17_3 : Code := Code.sub [1, 1, 0, 1, 0, 0] c17
noncomputable def r17_4 : Code := Code.sub [1, 1, 1, 0] c17
noncomputable def r17_5 : Code := Code.sub [1, 1, 1, 1, 0] c17
theorem body17 : c17 = (.seq r17_0 (.seq r17_1 (.seq (.seq r17_2 (.cond (.tmp 13) (.seq r17_3 .ret) .skip)) (.seq r17_4 (.seq r17_5 .ret))))) := by kernel_rfl
noncomputable def L17_0 : Lt r17_0 := by refine ⟨?l, ?h⟩; case h => simp only [r17_0, c17, bodyOf, Try.f17, Code.sub, opsOf, List.map_cons, List.map_nil, strip]; rfl
theorem w17_0 : Wp r17_0 8 [13] [6] [] [] [some 6] (L17_0).1 := w_plain (by kernel_rfl) (L17_0).2
noncomputable def L17_1 : Lt r17_1 := by refine ⟨?l, ?h⟩; case h => simp only [r17_1, c17, bodyOf, Try.f17, Code.sub, opsOf, List.map_cons, List.map_nil, strip]; rfl
theorem w17_1 : Wp r17_1 8 [13] [7] [] [0, 1, 2] [some 8, some 9, some 10, some 11, some 7] (L17_1).1 := w_plain (by kernel_rfl) (L17_1).2
noncomputable def L17_2 : Lt r17_2 := by refine ⟨?l, ?h⟩; case h => simp only [r17_2, c17, bodyOf, Try.f17, Code.sub, opsOf, List.map_cons, List.map_nil, strip]; rfl
theorem w17_2 : Wp r17_2 8 [13] [] [13] [7] [some 12, some 13] (L17_2).1 := w_plain (by kernel_rfl) (L17_2).2
noncomputable def L17_3 : Lt r17_3 := by refine ⟨?l, ?h⟩; case h => simp only [r17_3, c17, bodyOf, Try.f17, Code.sub, opsOf, List.map_cons, List.map_nil, strip]; rfl
theorem w17_3 : Wp r17_3 8 [13] [6] [] [] [some 6] (L17_3).1 := w_plain (by kernel_rfl) (L17_3).2
noncomputable def L17_4 : Lt r17_4 := by refine ⟨?l, ?h⟩; case h => simp only [r17_4, c17, bodyOf, Try.f17, Code.sub, opsOf, List.map_cons, List.map_nil, strip]; rfl
theorem w17_4 : Wp r17_4 8 [13] [] [] [0, 7] [some 14, some 15, some 16, some 17, some 18, some 19] (L17_4).1 := w_plain (by kernel_rfl) (L17_4).2
noncomputable def L17_5 : Lt r17_5 := by refine ⟨?l, ?h⟩; case h => simp only [r17_5, c17, bodyOf, Try.f17, Code.sub, opsOf, List.map_cons, List.map_nil, strip]; rfl
theorem w17_5 : Wp r17_5 8 [13] [6] [] [] [some 6] (L17_5).1 := w_plain (by kernel_rfl) (L17_5).2
theorem k17 : FnIs TT 17 c17 [.tmp 6] 3 := ⟨Try.f17, by kernel_rfl, by simp only [Try.f17, c17, bodyOf], by kernel_rfl, of_decide_eq_true (by kernel_rfl)⟩

/- container/heap.Pop -/
noncomputable def c26 : Code := bodyOf Try.f26
noncomputable def r26_0 : Code := Code.sub [0] c26
noncomputable def r26_1 : Code := Code.sub [1, 0] c26
noncomputable def r26_2 : Code := Code.sub [1, 1, 0] c26
noncomputable def r26_3 : Code := Code.sub [1, 1, 1, 0] c26
noncomputable def r26_4 : Code := Code.sub [1, 1, 1, 1, 0] c26
theorem body26 : c26 = (.seq r26_0 (.seq r26_1 (.seq r26_2 (.seq r26_3 (.seq r26_4 .ret))))) := by kernel_rfl
noncomputable def L26_0 : Lt r26_0 := by refine ⟨?l, ?h⟩; case h => simp only [r26_0, c26, bodyOf, Try.f26, Code.sub, opsOf, List.map_cons, List.map_nil, strip]; rfl
theorem w26_0 : Wp r26_0 4 [] [2] [] [] [some 2] (L26_0).1 := w_plain (by kernel_rfl) (L26_0).2
noncomputable def L26_1 : Lt r26_1 := by refine ⟨?l, ?h⟩; case h => simp only [r26_1, c26, bodyOf, Try.f26, Code.sub, opsOf, List.map_cons, List.map_nil, strip]; rfl
theorem w26_1 : Wp r26_1 4 [] [3] [] [0] [some 4, some 5, some 6, some 3] (L26_1).1 := w_plain (by kernel_rfl) (L26_1).2
noncomputable def L26_2 : Lt r26_2 := by refine ⟨?l, ?h⟩; case h => simp only [r26_2, c26, bodyOf, Try.f26, Code.sub, opsOf, List.map_cons, List.map_nil, strip]; rfl
theorem w26_2 : Wp r26_2 4 [] [] [] [0, 3] [some 7, some 8, some 9] (L26_2).1 := w_plain (by kernel_rfl) (L26_2).2
noncomputable def L26_3 : Lt r26_3 := by refine ⟨?l, ?h⟩; case h => simp only [r26_3, c26, bodyOf, Try.f26, Code.sub, opsOf, List.map_cons, List.map_nil, strip]; rfl
theorem w26_3 : Wp r26_3 4 [] [] [] [0, 3] [some 10, some 11, some 12] (L26_3).1 := w_plain (by kernel_rfl) (L26_3).2
noncomputable def L26_4 : Lt r26_4 := by refine ⟨?l, ?h⟩; case h => simp only [r26_4, c26, bodyOf, Try.f26, Code.sub, opsOf, List.map_cons, List.map_nil, strip]; rfl
theorem w26_4 : Wp r26_4 4 [] [2] [] [0] [some 13, some 14, some 2] (L26_4).1 := w_plain (by kernel_rfl) (L26_4).2
theorem k26 : FnIs TT 26 c26 [.tmp 2] 1 := ⟨Try.f26, by kernel_rfl, by simp only [Try.f26, c26, bodyOf], by kernel_rfl, of_decide_eq_true (by kernel_rfl)⟩

/- (*cache.item).key -/
noncomputable def c27 : Code := bodyOf Try.f27
noncomputable def r27_0 : Code := Code.sub [0] c27
noncomputable def r27_1 : Code := Code.sub [1, 0] c27
theorem body27 : c27 = (.seq r27_0 (.seq r27_1 .ret)) := by kernel_rfl
noncomputable def L27_0 : Lt r27_0 := by refine ⟨?l, ?h⟩; case h => simp only [r27_0, c27, bodyOf, Try.f27, Code.sub, opsOf, List.map_cons, List.map_nil, strip]; rfl
theorem w27_0 : Wp r27_0 3 [] [2] [] [] [some 2] (L27_0).1 := w_plain (by kernel_rfl) (L27_0).2
theorem can27_1 : canonOps (opsOf r27_1) = opsOf r27_1 := by kernel_rfl
noncomputable def L27_1 : Lc r27_1 := by refine ⟨?l, (congrArg (List.map strip) can27_1).trans ?h⟩; case h => simp only [r27_1, c27, bodyOf, Try.f27, Code.sub, opsOf, List.map_cons, List.map_nil, strip]; rfl
theorem w27_1 : Wd r27_1 3 [] [] [] [0, 2] [some 3, some 4, some 5, some 6, some 7, some 8, some 9, some 10, some 11, some 12, some 13, some 14, some 15, none] (L27_1).1 [(5, [13]), (11, [13])] := w_loud (by kernel_rfl) (L27_1).2
theorem k27 : FnIs TT 27 c27 [.cell 2 50] 1 := ⟨Try.f27, by kernel_rfl, by simp only [Try.f27, c27, bodyOf], by kernel_rfl, of_decide_eq_true (by kernel_rfl)⟩

/- container/heap.Push -/
noncomputable def c28 : Code := bodyOf Try.f28
noncomputable def r28_0 : Code := Code.sub [0] c28
noncomputable def r28_1 : Code := Code.sub [1] c28
theorem body28 : c28 = (.seq r28_0 r28_1) := by kernel_rfl
noncomputable def L28_0 : Lt r28_0 := by refine ⟨?l, ?h⟩; case h => simp only [r28_0, c28, bodyOf, Try.f28, Code.sub, opsOf, List.map_cons, List.map_nil, strip]; rfl
theorem w28_0 : Wp r28_0 2 [] [] [] [0, 1] [some 4, some 5, some 6] (L28_0).1 := w_plain (by kernel_rfl) (L28_0).2
noncomputable def L28_1 : Lt r28_1 := by refine ⟨?l, ?h⟩; case h => simp only [r28_1, c28, bodyOf, Try.f28, Code.sub, opsOf, List.map_cons, List.map_nil, strip]; rfl
theorem w28_1 : Wp r28_1 2 [] [] [] [0] [some 7, some 8, some 9, some 10, some 11] (L28_1).1 := w_plain (by kernel_rfl) (L28_1).2
theorem k28 : FnIs TT 28 c28 [] 2 := ⟨Try.f28, by kernel_rfl, by simp only [Try.f28, c28, bodyOf], by kernel_rfl, of_decide_eq_true (by kernel_rfl)⟩

/- cache.copied -/
noncomputable def c29 : Code := bodyOf Try.f29
noncomputable def r29_0 : Code := Code.sub [0] c29
noncomputable def r29_1 : Code := Code.sub [1, 0] c29
noncomputable def r29_2 : Code := Code.sub [1, 1, 0] c29
noncomputable def r29_3 : Code := Code.sub [1, 1, 1, 0] c29
noncomputable def r29_4 : Code := Code.sub [1, 1, 1, 1, 0, 0] c29
noncomputable def r29_5 : Code := Code.sub [1, 1, 1, 1, 0, 1, 0, 0, 0] c29
noncomputable def r29_6 : Code := Code.sub [1, 1, 1, 1, 0, 1, 0, 0, 1, 1, 0, 0, 0] c29
noncomputable def r29_7 : Code := Code.sub [1, 1, 1, 1, 0, 1, 0, 0, 1, 1, 0, 0, 1, 0] c29
noncomputable def r29_8 : Code := Code.sub [1, 1, 1, 1, 0, 1, 0, 0, 1, 1, 0, 0, 1, 1, 0] c29
noncomputable def r29_9 : Code := Code.sub [1, 1, 1, 1, 0, 1, 0, 0, 1, 1, 0, 0, 1, 1, 1, 0, 0] c29
noncomputable def r29_10 : Code := Code.sub [1, 1, 1, 1, 0, 1, 0, 0, 1, 1, 0, 0, 1, 1, 1, 0, 1, 0, 0, 0] c29
noncomputable def r29_11 : Code := Code.sub [1, 1, 1, 1, 0, 1, 0, 0, 1, 1, 0, 0, 1, 1, 1, 0, 1, 0, 0, 1, 1, 0, 0, 0] c29
noncomputable def r29_12 : Code := Code.sub [1, 1, 1, 1, 0, 1, 0, 0, 1, 1, 0, 0, 1, 1, 1, 0, 1, 0, 0, 1, 1, 0, 0, 1, 0] c29
noncomputable def r29_13 : Code := Code.sub [1, 1, 1, 1, 0, 1, 0, 0, 1, 1, 0, 0, 1, 1, 1, 0, 1, 0, 0, 1, 1, 0, 0, 1, 1] c29
noncomputable def r29_14 : Code := Code.sub [1, 1, 1, 1, 0, 1, 0, 0, 1, 1, 0, 0, 1, 1, 1, 0, 1, 0, 0, 1, 1, 1] c29
noncomputable def r29_15 : Code := Code.sub [1, 1, 1, 1, 0, 1, 0, 0, 1, 1, 0, 0, 1, 1, 1, 1] c29
noncomputable def r29_16 : Code := Code.sub [1, 1, 1, 1, 0, 1, 0, 0, 1, 1, 1] c29
noncomputable def r29_17 : Code := Code.sub [1, 1, 1, 1, 1, 0] c29
theorem body29 : c29 = (.seq r29_0 (.seq r29_1 (.seq r29_2 (.seq r29_3 (.seq (.seq r29_4 (.block 0 (.loop (.seq r29_5 (.seq (.cond (.tmp 27) .skip (.exit 0)) (.seq (.block 1 (.seq r29_6 (.seq r29_7 (.seq r29_8 (.seq (.seq r29_9 (.block 2 (.loop (.seq r29_10 (.seq (.cond (.tmp 36) .skip (.exit 2)) (.seq (.block 3 (.seq r29_11 (.seq r29_12 r29_13))) r29_14)))))) r29_15))))) r29_16)))))) (.seq r29_17 .ret)))))) := by kernel_rfl
noncomputable def L29_0 : Lt r29_0 := by refine ⟨?l, ?h⟩; case h => simp only [r29_0, c29, bodyOf, Try.f29, Code.sub, opsOf, List.map_cons, List.map_nil, strip]; rfl
theorem w29_0 : Wp r29_0 36 [36] [1, 2] [] [0] [some 1, some 2] (L29_0).1 := w_plain (by kernel_rfl) (L29_0).2
noncomputable def L29_1 : Lt r29_1 := by refine ⟨?l, ?h⟩; case h => simp only [r29_1, c29, bodyOf, Try.f29, Code.sub, opsOf, List.map_cons, List.map_nil, strip]; rfl
theorem w29_1 : Wp r29_1 36 [36] [9, 10, 3] [] [1] [some 9, some 10, some 3, none] (L29_1).1 := w_plain (by kernel_rfl) (L29_1).2
theorem can29_2 : canonOps (opsOf r29_2) = List.filterMap (fun i => ((opsOf r29_2)[i]?).map (renum [1, 2, 0, 3, 5, 6, 4, 7, 8, 9, 10, 11])) [1, 2, 0, 3, 5, 6, 4, 7, 8, 9, 10, 11] := by kernel_rfl
noncomputable def L29_2 : Lc r29_2 := by refine ⟨?l, (congrArg (List.map strip) can29_2).trans ?h⟩; case h => simp only [r29_2, c29, bodyOf, Try.f29, Code.sub, opsOf, List.filterMap_cons, List.filterMap_nil, List.getElem?_cons_succ, List.getElem?_cons_zero, Option.map_some, renum, List.map_cons, List.map_nil, strip]; rfl
theorem w29_2 : Wd r29_2 36 [36] [12, 13, 11, 14, 16, 17, 15, 18, 19, 20] [] [3] [some 12, some 13, some 11, some 14, some 16, some 17, some 15, some 18, some 19, none, some 20, none] (L29_2).1 [(1, [2, 3]), (5, [2, 3, 6, 7])] := w_loud (by kernel_rfl) (L29_2).2
noncomputable def L29_3 : Lt r29_3 := by refine ⟨?l, ?h⟩; case h => simp only [r29_3, c29, bodyOf, Try.f29, Code.sub, opsOf, List.map_cons, List.map_nil, strip]; rfl
theorem w29_3 : Wp r29_3 36 [36] [21] [] [3] [some 21, none] (L29_3).1 := w_plain (by kernel_rfl) (L29_3).2
noncomputable def L29_4 : Lt r29_4 := by refine ⟨?l, ?h⟩; case h => simp only [r29_4, c29, bodyOf, Try.f29, Code.sub, opsOf, List.map_cons, List.map_nil, strip]; rfl
theorem w29_4 : Wp r29_4 36 [36] [22, 23, 24, 25, 26] [] [1] [some 22, some 23, some 24, some 25, some 26] (L29_4).1 := w_plain (by kernel_rfl) (L29_4).2
noncomputable def L29_5 : Lt r29_5 := by refine ⟨?l, ?h⟩; case h => simp only [r29_5, c29, bodyOf, Try.f29, Code.sub, opsOf, List.map_cons, List.map_nil, strip]; rfl
theorem w29_5 : Wp r29_5 36 [36] [27] [] [26, 25] [some 27] (L29_5).1 := w_plain (by kernel_rfl) (L29_5).2
noncomputable def L29_6 : Lt r29_6 := by refine ⟨?l, ?h⟩; case h => simp only [r29_6, c29, bodyOf, Try.f29, Code.sub, opsOf, List.map_cons, List.map_nil, strip]; rfl
theorem w29_6 : Wp r29_6 36 [36] [28, 29, 5] [] [24, 26] [some 28, some 29, some 5, none] (L29_6).1 := w_plain (by kernel_rfl) (L29_6).2
noncomputable def L29_7 : Lt r29_7 := by refine ⟨?l, ?h⟩; case h => simp only [r29_7, c29, bodyOf, Try.f29, Code.sub, opsOf, List.map_cons, List.map_nil, strip]; rfl
theorem w29_7 : Wp r29_7 36 [36] [30, 31, 6] [] [5] [some 30, some 31, some 6] (L29_7).1 := w_plain (by kernel_rfl) (L29_7).2
noncomputable def L29_8 : Lt r29_8 := by refine ⟨?l, ?h⟩; case h => simp only [r29_8, c29, bodyOf, Try.f29, Code.sub, opsOf, List.map_cons, List.map_nil, strip]; rfl
theorem w29_8 : Wp r29_8 36 [36] [32] [] [5] [some 32, none] (L29_8).1 := w_plain (by kernel_rfl) (L29_8).2
noncomputable def L29_9 : Lt r29_9 := by refine ⟨?l, ?h⟩; case h => simp only [r29_9, c29, bodyOf, Try.f29, Code.sub, opsOf, List.map_cons, List.map_nil, strip]; rfl
theorem w29_9 : Wp r29_9 36 [36] [33, 34, 35] [] [6] [some 33, some 34, some 35] (L29_9).1 := w_plain (by kernel_rfl) (L29_9).2
noncomputable def L29_10 : Lt r29_10 := by refine ⟨?l, ?h⟩; case h => simp only [r29_10, c29, bodyOf, Try.f29, Code.sub, opsOf, List.map_cons, List.map_nil, strip]; rfl
theorem w29_10 : Wp r29_10 36 [36] [] [36] [35, 34] [some 36] (L29_10).1 := w_plain (by kernel_rfl) (L29_10).2
noncomputable def L29_11 : Lt r29_11 := by refine ⟨?l, ?h⟩; case h => simp only [r29_11, c29, bodyOf, Try.f29, Code.sub, opsOf, List.map_cons, List.map_nil, strip]; rfl
theorem w29_11 : Wp r29_11 36 [36] [8] [] [33, 35] [some 37, some 38, some 8, none] (L29_11).1 := w_plain (by kernel_rfl) (L29_11).2
theorem can29_12 : canonOps (opsOf r29_12) = List.filterMap (fun i => ((opsOf r29_12)[i]?).map (renum [1, 2, 0, 3, 5, 6, 4, 7, 8, 9, 10, 11])) [1, 2, 0, 3, 5, 6, 4, 7, 8, 9, 10, 11] := by kernel_rfl
noncomputable def L29_12 : Lc r29_12 := by refine ⟨?l, (congrArg (List.map strip) can29_12).trans ?h⟩; case h => simp only [r29_12, c29, bodyOf, Try.f29, Code.sub, opsOf, List.filterMap_cons, List.filterMap_nil, List.getElem?_cons_succ, List.getElem?_cons_zero, Option.map_some, renum, List.map_cons, List.map_nil, strip]; rfl
theorem w29_12 : Wd r29_12 36 [36] [] [] [8] [some 40, some 41, some 39, some 42, some 44, some 45, some 43, some 46, some 47, none, some 48, none] (L29_12).1 [(1, [2, 3]), (5, [2, 3, 6, 7])] := w_loud (by kernel_rfl) (L29_12).2
noncomputable def L29_13 : Lt r29_13 := by refine ⟨?l, ?h⟩; case h => simp only [r29_13, c29, bodyOf, Try.f29, Code.sub, opsOf, List.map_cons, List.map_nil, strip]; rfl
theorem w29_13 : Wp r29_13 36 [36] [] [] [8, 5] [some 49, some 50, some 51, some 52, some 53, some 54, none] (L29_13).1 := w_plain (by kernel_rfl) (L29_13).2
noncomputable def L29_14 : Lt r29_14 := by refine ⟨?l, ?h⟩; case h => simp only [r29_14, c29, bodyOf, Try.f29, Code.sub, opsOf, List.map_cons, List.map_nil, strip]; rfl
theorem w29_14 : Wp r29_14 36 [36] [35] [] [35] [some 55, some 35] (L29_14).1 := w_plain (by kernel_rfl) (L29_14).2
noncomputable def L29_15 : Lt r29_15 := by refine ⟨?l, ?h⟩; case h => simp only [r29_15, c29, bodyOf, Try.f29, Code.sub, opsOf, List.map_cons, List.map_nil, strip]; rfl
theorem w29_15 : Wp r29_15 36 [36] [] [] [5, 3] [some 56, some 57, some 58, some 59, some 60, some 61, none] (L29_15).1 := w_plain (by kernel_rfl) (L29_15).2
noncomputable def L29_16 : Lt r29_16 := by refine ⟨?l, ?h⟩; case h => simp only [r29_16, c29, bodyOf, Try.f29, Code.sub, opsOf, List.map_cons, List.map_nil, strip]; rfl
theorem w29_16 : Wp r29_16 36 [36] [26] [] [26] [some 62, some 26] (L29_16).1 := w_plain (by kernel_rfl) (L29_16).2
theorem can29_17 : canonOps (opsOf r29_17) = List.filterMap (fun i => ((opsOf r29_17)[i]?).map (renum [0, 2, 3, 1, 4, 6, 7, 5, 8, 9, 10])) [0, 2, 3, 1, 4, 6, 7, 5, 8, 9, 10] := by kernel_rfl
noncomputable def L29_17 : Lc r29_17 := by refine ⟨?l, (congrArg (List.map strip) can29_17).trans ?h⟩; case h => simp only [r29_17, c29, bodyOf, Try.f29, Code.sub, opsOf, List.filterMap_cons, List.filterMap_nil, List.getElem?_cons_succ, List.getElem?_cons_zero, Option.map_some, renum, List.map_cons, List.map_nil, strip]; rfl
theorem w29_17 : Wd r29_17 36 [36] [] [] [3, 1, 2] [some 63, some 65, some 66, some 64, some 67, some 69, some 70, some 68, some 71, some 72, none] (L29_17).1 [(0, [3, 4, 7, 8, 10]), (2, [3, 4]), (6, [3, 4, 7, 8])] := w_loud (by kernel_rfl) (L29_17).2
theorem k29 : FnIs TT 29 c29 [.cell 2 41] 1 := ⟨Try.f29, by kernel_rfl, by simp only [Try.f29, c29, bodyOf], by kernel_rfl, of_decide_eq_true (by kernel_rfl)⟩

/- (*cache.Cache).sorted -/
noncomputable def c30 : Code := bodyOf Try.f30
noncomputable def r30_0 : Code := Code.sub [0] c30
noncomputable def r30_1 : Code := Code.sub [1, 0] c30
noncomputable def r30_2 : Code := Code.sub [1, 1, 0] c30
noncomputable def r30_3 : Code := Code.sub [1, 1, 1, 0] c30
theorem body30 : c30 = (.seq r30_0 (.seq r30_1 (.seq r30_2 (.seq r30_3 .ret)))) := by kernel_rfl
noncomputable def L30_0 : Lt r30_0 := by refine ⟨?l, ?h⟩; case h => simp only [r30_0, c30, bodyOf, Try.f30, Code.sub, opsOf, List.map_cons, List.map_nil, strip]; rfl
theorem w30_0 : Wp r30_0 4 [] [2] [] [] [some 2] (L30_0).1 := w_plain (by kernel_rfl) (L30_0).2
noncomputable def L30_1 : Lt r30_1 := by refine ⟨?l, ?h⟩; case h => simp only [r30_1, c30, bodyOf, Try.f30, Code.sub, opsOf, List.map_cons, List.map_nil, strip]; rfl
theorem w30_1 : Wp r30_1 4 [] [3] [] [0] [some 4, some 5, some 6, some 7, some 8, some 9, some 3] (L30_1).1 := w_plain (by kernel_rfl) (L30_1).2
noncomputable def L30_2 : Lt r30_2 := by refine ⟨?l, ?h⟩; case h => simp only [r30_2, c30, bodyOf, Try.f30, Code.sub, opsOf, List.map_cons, List.map_nil, strip]; rfl
theorem w30_2 : Wp r30_2 4 [] [] [] [3] [some 10, some 11] (L30_2).1 := w_plain (by kernel_rfl) (L30_2).2
noncomputable def L30_3 : Lt r30_3 := by refine ⟨?l, ?h⟩; case h => simp only [r30_3, c30, bodyOf, Try.f30, Code.sub, opsOf, List.map_cons, List.map_nil, strip]; rfl
theorem w30_3 : Wp r30_3 4 [] [2] [] [3] [some 12, some 2] (L30_3).1 := w_plain (by kernel_rfl) (L30_3).2
theorem k30 : FnIs TT 30 c30 [.tmp 2] 1 := ⟨Try.f30, by kernel_rfl, by simp only [Try.f30, c30, bodyOf], by kernel_rfl, of_decide_eq_true (by kernel_rfl)⟩

/- (*cache.Cache).find -/
noncomputable def c31 : Code := bodyOf Try.f31
noncomputable def r31_0 : Code := Code.sub [0] c31
noncomputable def r31_1 : Code := Code.sub [1, 0] c31
theorem body31 : c31 = (.seq r31_0 (.seq r31_1 .ret)) := by kernel_rfl
noncomputable def L31_0 : Lt r31_0 := by refine ⟨?l, ?h⟩; case h => simp only [r31_0, c31, bodyOf, Try.f31, Code.sub, opsOf, List.map_cons, List.map_nil, strip]; rfl
theorem w31_0 : Wp r31_0 7 [] [4, 5, 6] [] [1, 2] [some 4, some 5, some 6] (L31_0).1 := w_plain (by kernel_rfl) (L31_0).2
noncomputable def L31_1 : Lt r31_1 := by refine ⟨?l, ?h⟩; case h => simp only [r31_1, c31, bodyOf, Try.f31, Code.sub, opsOf, List.map_cons, List.map_nil, strip]; rfl
theorem w31_1 : Wp r31_1 7 [] [6] [] [0, 4, 5] [some 7, some 8, some 9, some 10, some 11, some 12, some 6] (L31_1).1 := w_plain (by kernel_rfl) (L31_1).2
theorem k31 : FnIs TT 31 c31 [.tmp 6] 3 := ⟨Try.f31, by kernel_rfl, by simp only [Try.f31, c31, bodyOf], by kernel_rfl, of_decide_eq_true (by kernel_rfl)⟩

/- container/heap.Fix -/
noncomputable def c32 : Code := bodyOf Try.f32
noncomputable def r32_0 : Code := Code.sub [0] c32
noncomputable def r32_1 : Code := Code.sub [1, 0] c32
theorem body32 : c32 = (.seq r32_0 (.cond (.tmp 9) r32_1 .skip)) := by kernel_rfl
noncomputable def L32_0 : Lt r32_0 := by refine ⟨?l, ?h⟩; case h => simp only [r32_0, c32, bodyOf, Try.f32, Code.sub, opsOf, List.map_cons, List.map_nil, strip]; rfl
theorem w32_0 : Wp r32_0 2 [9] [] [9] [1, 0] [some 4, some 5, some 6, some 7, some 8, some 9] (L32_0).1 := w_plain (by kernel_rfl) (L32_0).2
noncomputable def L32_1 : Lt r32_1 := by refine ⟨?l, ?h⟩; case h => simp only [r32_1, c32, bodyOf, Try.f32, Code.sub, opsOf, List.map_cons, List.map_nil, strip]; rfl
theorem w32_1 : Wp r32_1 2 [9] [] [] [0, 1] [some 10, some 11, some 12] (L32_1).1 := w_plain (by kernel_rfl) (L32_1).2
theorem k32 : FnIs TT 32 c32 [] 2 := ⟨Try.f32, by kernel_rfl, by simp only [Try.f32, c32, bodyOf], by kernel_rfl, of_decide_eq_true (by kernel_rfl)⟩

/- container/heap.Remove -/
noncomputable def c34 : Code := bodyOf Try.f34
noncomputable def r34_0 : Code := Code.sub [0] c34
noncomputable def r34_1 : Code := Code.sub [1, 0] c34
noncomputable def r34_2 : Code := Code.sub [1, 1, 0, 0] c34
noncomputable def r34_3 : Code := Code.sub [1, 1, 0, 1, 0, 0] c34
noncomputable def r34_4 : Code := Code.sub [1, 1, 0, 1, 0, 1, 0] c34
noncomputable def r34_5 : Code := Code.sub [1, 1, 0, 1, 0, 1, 1, 0] c34
noncomputable def r34_6 : Code := Code.sub [1, 1, 1, 0] c34
theorem body34 : c34 = (.seq r34_0 (.seq r34_1 (.seq (.seq r34_2 (.cond (.tmp 11) (.seq r34_3 (.seq r34_4 (.cond (.tmp 20) r34_5 .skip))) .skip)) (.seq r34_6 .ret)))) := by kernel_rfl
noncomputable def L34_0 : Lt r34_0 := by refine ⟨?l, ?h⟩; case h => simp only [r34_0, c34, bodyOf, Try.f34, Code.sub, opsOf, List.map_cons, List.map_nil, strip]; rfl
theorem w34_0 : Wp r34_0 6 [11, 20] [4] [] [] [some 4] (L34_0).1 := w_plain (by kernel_rfl) (L34_0).2
noncomputable def L34_1 : Lt r34_1 := by refine ⟨?l, ?h⟩; case h => simp only [r34_1, c34, bodyOf, Try.f34, Code.sub, opsOf, List.map_cons, List.map_nil, strip]; rfl
theorem w34_1 : Wp r34_1 6 [11, 20] [5] [] [0] [some 6, some 7, some 8, some 5] (L34_1).1 := w_plain (by kernel_rfl) (L34_1).2
noncomputable def L34_2 : Lt r34_2 := by refine ⟨?l, ?h⟩; case h => simp only [r34_2, c34, bodyOf, Try.f34, Code.sub, opsOf, List.map_cons, List.map_nil, strip]; rfl
theorem w34_2 : Wp r34_2 6 [11, 20] [] [11] [5, 1] [some 9, some 10, some 11] (L34_2).1 := w_plain (by kernel_rfl) (L34_2).2
noncomputable def L34_3 : Lt r34_3 := by refine ⟨?l, ?h⟩; case h => simp only [r34_3, c34, bodyOf, Try.f34, Code.sub, opsOf, List.map_cons, List.map_nil, strip]; rfl
theorem w34_3 : Wp r34_3 6 [11, 20] [] [] [0, 1, 5] [some 12, some 13, some 14, some 15] (L34_3).1 := w_plain (by kernel_rfl) (L34_3).2
noncomputable def L34_4 : Lt r34_4 := by refine ⟨?l, ?h⟩; case h => simp only [r34_4, c34, bodyOf, Try.f34, Code.sub, opsOf, List.map_cons, List.map_nil, strip]; rfl
theorem w34_4 : Wp r34_4 6 [11, 20] [] [20] [0, 1, 5] [some 16, some 17, some 18, some 19, some 20] (L34_4).1 := w_plain (by kernel_rfl) (L34_4).2
noncomputable def L34_5 : Lt r34_5 := by refine ⟨?l, ?h⟩; case h => simp only [r34_5, c34, bodyOf, Try.f34, Code.sub, opsOf, List.map_cons, List.map_nil, strip]; rfl
theorem w34_5 : Wp r34_5 6 [11, 20] [] [] [0, 1] [some 21, some 22, some 23] (L34_5).1 := w_plain (by kernel_rfl) (L34_5).2
noncomputable def L34_6 : Lt r34_6 := by refine ⟨?l, ?h⟩; case h => simp only [r34_6, c34, bodyOf, Try.f34, Code.sub, opsOf, List.map_cons, List.map_nil, strip]; rfl
theorem w34_6 : Wp r34_6 6 [11, 20] [4] [] [0] [some 24, some 25, some 4] (L34_6).1 := w_plain (by kernel_rfl) (L34_6).2
theorem k34 : FnIs TT 34 c34 [.tmp 4] 2 := ⟨Try.f34, by kernel_rfl, by simp only [Try.f34, c34, bodyOf], by kernel_rfl, of_decide_eq_true (by kernel_rfl)⟩

/- container/heap.down -/
noncomputable def c38 : Code := bodyOf Try.f38
noncomputable def r38_0 : Code := Code.sub [0] c38
noncomputable def r38_1 : Code := Code.sub [1, 0] c38
noncomputable def r38_2 : Code := Code.sub [1, 1, 0, 0, 0, 0, 0] c38
noncomputable def r38_3 : Code := Code.sub [1, 1, 0, 0, 0, 0, 1, 0, 0] c38
noncomputable def r38_4 : Code := Code.sub [1, 1, 0, 0, 0, 0, 1, 1, 0] c38
noncomputable def r38_5 : Code := Code.sub [1, 1, 0, 0, 0, 0, 1, 1, 1, 0, 0] c38
noncomputable def r38_6 : Code := Code.sub [1, 1, 0, 0, 0, 0, 1, 1, 1, 0, 1, 0] c38
noncomputable def r38_7 : Code := Code.sub [1, 1, 0, 0, 0, 0, 1, 1, 1, 0, 1, 1, 0] c38
noncomputable def r38_8 : Code := Code.sub [1, 1, 0, 0, 0, 0, 1, 1, 1, 1, 0, 0] c38
noncomputable def r38_9 : Code := Code.sub [1, 1, 0, 0, 0, 0, 1, 1, 1, 1, 1, 0] c38
noncomputable def r38_10 : Code := Code.sub [1, 1, 0, 0, 0, 0, 1, 1, 1, 1, 1, 1] c38
noncomputable def r38_11 : Code := Code.sub [1, 1, 1, 0] c38
theorem body38 : c38 = (.seq r38_0 (.seq r38_1 (.seq (.block 0 (.loop (.block 1 (.seq r38_2 (.seq (.seq r38_3 (.cond (.tmp 21) (.exit 0) .skip)) (.seq r38_4 (.seq (.seq r38_5 (.seq r38_6 (.cond (.tmp 33) r38_7 .skip))) (.seq (.seq r38_8 (.cond (.tmp 39) (.exit 0) .skip)) (.seq r38_9 r38_10))))))))) (.seq r38_11 .ret)))) := by kernel_rfl
noncomputable def L38_0 : Lt r38_0 := by refine ⟨?l, ?h⟩; case h => simp only [r38_0, c38, bodyOf, Try.f38, Code.sub, opsOf, List.map_cons, List.map_nil, strip]; rfl
theorem w38_0 : Wp r38_0 11 [21, 33, 39] [6] [] [] [some 6] (L38_0).1 := w_plain (by kernel_rfl) (L38_0).2
noncomputable def L38_1 : Lt r38_1 := by refine ⟨?l, ?h⟩; case h => simp only [r38_1, c38, bodyOf, Try.f38, Code.sub, opsOf, List.map_cons, List.map_nil, strip]; rfl
theorem w38_1 : Wp r38_1 11 [21, 33, 39] [7] [] [1] [some 11, some 7] (L38_1).1 := w_plain (by kernel_rfl) (L38_1).2
noncomputable def L38_2 : Lt r38_2 := by refine ⟨?l, ?h⟩; case h => simp only [r38_2, c38, bodyOf, Try.f38, Code.sub, opsOf, List.map_cons, List.map_nil, strip]; rfl
theorem w38_2 : Wp r38_2 11 [21, 33, 39] [8] [] [7] [some 12, some 13, some 14, some 8] (L38_2).1 := w_plain (by kernel_rfl) (L38_2).2
noncomputable def L38_3 : Lt r38_3 := by refine ⟨?l, ?h⟩; case h => simp only [r38_3, c38, bodyOf, Try.f38, Code.sub, opsOf, List.map_cons, List.map_nil, strip]; rfl
theorem w38_3 : Wp r38_3 11 [21, 33, 39] [] [21] [2, 8] [some 15, some 16, some 17, some 18, some 19, some 20, some 21] (L38_3).1 := w_plain (by kernel_rfl) (L38_3).2
noncomputable def L38_4 : Lt r38_4 := by refine ⟨?l, ?h⟩; case h => simp only [r38_4, c38, bodyOf, Try.f38, Code.sub, opsOf, List.map_cons, List.map_nil, strip]; rfl
theorem w38_4 : Wp r38_4 11 [21, 33, 39] [9] [] [8] [some 22, some 9] (L38_4).1 := w_plain (by kernel_rfl) (L38_4).2
noncomputable def L38_5 : Lt r38_5 := by refine ⟨?l, ?h⟩; case h => simp only [r38_5, c38, bodyOf, Try.f38, Code.sub, opsOf, List.map_cons, List.map_nil, strip]; rfl
theorem w38_5 : Wp r38_5 11 [21, 33, 39] [10] [] [8] [some 23, some 24, some 10] (L38_5).1 := w_plain (by kernel_rfl) (L38_5).2
noncomputable def L38_6 : Lt r38_6 := by refine ⟨?l, ?h⟩; case h => simp only [r38_6, c38, bodyOf, Try.f38, Code.sub, opsOf, List.map_cons, List.map_nil, strip]; rfl
theorem w38_6 : Wp r38_6 11 [21, 33, 39] [] [33] [2, 0, 10, 8] [some 25, some 26, some 27, some 28, some 29, some 30, some 31, some 32, some 33] (L38_6).1 := w_plain (by kernel_rfl) (L38_6).2
noncomputable def L38_7 : Lt r38_7 := by refine ⟨?l, ?h⟩; case h => simp only [r38_7, c38, bodyOf, Try.f38, Code.sub, opsOf, List.map_cons, List.map_nil, strip]; rfl
theorem w38_7 : Wp r38_7 11 [21, 33, 39] [9] [] [10] [some 34, some 9] (L38_7).1 := w_plain (by kernel_rfl) (L38_7).2
noncomputable def L38_8 : Lt r38_8 := by refine ⟨?l, ?h⟩; case h => simp only [r38_8, c38, bodyOf, Try.f38, Code.sub, opsOf, List.map_cons, List.map_nil, strip]; rfl
theorem w38_8 : Wp r38_8 11 [21, 33, 39] [] [39] [0, 9, 7] [some 35, some 36, some 37, some 38, some 39] (L38_8).1 := w_plain (by kernel_rfl) (L38_8).2
noncomputable def L38_9 : Lt r38_9 := by refine ⟨?l, ?h⟩; case h => simp only [r38_9, c38, bodyOf, Try.f38, Code.sub, opsOf, List.map_cons, List.map_nil, strip]; rfl
theorem w38_9 : Wp r38_9 11 [21, 33, 39] [] [] [0, 7, 9] [some 40, some 41, some 42, some 43] (L38_9).1 := w_plain (by kernel_rfl) (L38_9).2
noncomputable def L38_10 : Lt r38_10 := by refine ⟨?l, ?h⟩; case h => simp only [r38_10, c38, bodyOf, Try.f38, Code.sub, opsOf, List.map_cons, List.map_nil, strip]; rfl
theorem w38_10 : Wp r38_10 11 [21, 33, 39] [7] [] [9] [some 44, some 7] (L38_10).1 := w_plain (by kernel_rfl) (L38_10).2
noncomputable def L38_11 : Lt r38_11 := by refine ⟨?l, ?h⟩; case h => simp only [r38_11, c38, bodyOf, Try.f38, Code.sub, opsOf, List.map_cons, List.map_nil, strip]; rfl
theorem w38_11 : Wp r38_11 11 [21, 33, 39] [6] [] [7, 1] [some 45, some 46, some 47, some 6] (L38_11).1 := w_plain (by kernel_rfl) (L38_11).2
theorem k38 : FnIs TT 38 c38 [.tmp 6] 3 := ⟨Try.f38, by kernel_rfl, by simp only [Try.f38, c38, bodyOf], by kernel_rfl, of_decide_eq_true (by kernel_rfl)⟩

/- container/heap.up -/
noncomputable def c39 : Code := bodyOf Try.f39
noncomputable def r39_0 : Code := Code.sub [0, 0, 0, 0] c39
noncomputable def r39_1 : Code := Code.sub [0, 0, 0, 1, 0, 0] c39
noncomputable def r39_2 : Code := Code.sub [0, 0, 0, 1, 1, 0] c39
noncomputable def r39_3 : Code := Code.sub [0, 0, 0, 1, 1, 1] c39
theorem body39 : c39 = (.block 0 (.loop (.block 1 (.seq r39_0 (.seq (.seq r39_1 (.cond (.tmp 17) (.exit 0) .skip)) (.seq r39_2 r39_3)))))) := by kernel_rfl
noncomputable def L39_0 : Lt r39_0 := by refine ⟨?l, ?h⟩; case h => simp only [r39_0, c39, bodyOf, Try.f39, Code.sub, opsOf, List.map_cons, List.map_nil, strip]; rfl
theorem w39_0 : Wp r39_0 5 [17] [4] [] [1] [some 5, some 6, some 7, some 4] (L39_0).1 := w_plain (by kernel_rfl) (L39_0).2
noncomputable def L39_1 : Lt r39_1 := by refine ⟨?l, ?h⟩; case h => simp only [r39_1, c39, bodyOf, Try.f39, Code.sub, opsOf, List.map_cons, List.map_nil, strip]; rfl
theorem w39_1 : Wp r39_1 5 [17] [] [17] [0, 1, 4] [some 8, some 9, some 10, some 11, some 12, some 13, some 14, some 15, some 16, some 17] (L39_1).1 := w_plain (by kernel_rfl) (L39_1).2
noncomputable def L39_2 : Lt r39_2 := by refine ⟨?l, ?h⟩; case h => simp only [r39_2, c39, bodyOf, Try.f39, Code.sub, opsOf, List.map_cons, List.map_nil, strip]; rfl
theorem w39_2 : Wp r39_2 5 [17] [] [] [0, 4, 1] [some 18, some 19, some 20, some 21] (L39_2).1 := w_plain (by kernel_rfl) (L39_2).2
noncomputable def L39_3 : Lt r39_3 := by refine ⟨?l, ?h⟩; case h => simp only [r39_3, c39, bodyOf, Try.f39, Code.sub, opsOf, List.map_cons, List.map_nil, strip]; rfl
theorem w39_3 : Wp r39_3 5 [17] [1] [] [4] [some 22, some 1] (L39_3).1 := w_plain (by kernel_rfl) (L39_3).2
theorem k39 : FnIs TT 39 c39 [] 2 := ⟨Try.f39, by kernel_rfl, by simp only [Try.f39, c39, bodyOf], by kernel_rfl, of_decide_eq_true (by kernel_rfl)⟩

/- slices.SortFunc[[]*cache.item,*cache.item] -/
noncomputable def c40 : Code := bodyOf Try.f40
noncomputable def r40_0 : Code := Code.sub [0] c40
noncomputable def r40_1 : Code := Code.sub [1] c40
theorem body40 : c40 = (.seq r40_0 r40_1) := by kernel_rfl
noncomputable def L40_0 : Lt r40_0 := by refine ⟨?l, ?h⟩; case h => simp only [r40_0, c40, bodyOf, Try.f40, Code.sub, opsOf, List.map_cons, List.map_nil, strip]; rfl
theorem w40_0 : Wp r40_0 5 [] [4] [] [0] [some 5, some 6, some 4] (L40_0).1 := w_plain (by kernel_rfl) (L40_0).2
noncomputable def L40_1 : Lt r40_1 := by refine ⟨?l, ?h⟩; case h => simp only [r40_1, c40, bodyOf, Try.f40, Code.sub, opsOf, List.map_cons, List.map_nil, strip]; rfl
theorem w40_1 : Wp r40_1 5 [] [] [] [0, 4, 1] [some 7, some 8, some 9, some 10, some 11, some 12, some 13] (L40_1).1 := w_plain (by kernel_rfl) (L40_1).2
theorem k40 : FnIs TT 40 c40 [] 2 := ⟨Try.f40, by kernel_rfl, by simp only [Try.f40, c40, bodyOf], by kernel_rfl, of_decide_eq_true (by kernel_rfl)⟩

/- (*cache.Cache).sorted$1 -/
noncomputable def c41 : Code := bodyOf Try.f41
noncomputable def r41_0 : Code := Code.sub [0] c41
noncomputable def r41_1 : Code := Code.sub [1, 0, 0] c41
noncomputable def r41_2 : Code := Code.sub [1, 0, 1, 0, 0] c41
noncomputable def r41_3 : Code := Code.sub [1, 1, 0] c41
theorem body41 : c41 = (.seq r41_0 (.seq (.seq r41_1 (.cond (.tmp 13) (.seq r41_2 .ret) .skip)) (.seq r41_3 .ret))) := by kernel_rfl
noncomputable def L41_0 : Lt r41_0 := by refine ⟨?l, ?h⟩; case h => simp only [r41_0, c41, bodyOf, Try.f41, Code.sub, opsOf, List.map_cons, List.map_nil, strip]; rfl
theorem w41_0 : Wp r41_0 5 [13] [4] [] [] [some 4] (L41_0).1 := w_plain (by kernel_rfl) (L41_0).2
noncomputable def L41_1 : Lt r41_1 := by refine ⟨?l, ?h⟩; case h => simp only [r41_1, c41, bodyOf, Try.f41, Code.sub, opsOf, List.map_cons, List.map_nil, strip]; rfl
theorem w41_1 : Wp r41_1 5 [13] [] [13] [0, 1] [some 5, some 6, some 7, some 8, some 9, some 10, some 11, some 12, some 13] (L41_1).1 := w_plain (by kernel_rfl) (L41_1).2
noncomputable def L41_2 : Lt r41_2 := by refine ⟨?l, ?h⟩; case h => simp only [r41_2, c41, bodyOf, Try.f41, Code.sub, opsOf, List.map_cons, List.map_nil, strip]; rfl
theorem w41_2 : Wp r41_2 5 [13] [4] [] [] [some 4] (L41_2).1 := w_plain (by kernel_rfl) (L41_2).2
noncomputable def L41_3 : Lt r41_3 := by refine ⟨?l, ?h⟩; case h => simp only [r41_3, c41, bodyOf, Try.f41, Code.sub, opsOf, List.map_cons, List.map_nil, strip]; rfl
theorem w41_3 : Wp r41_3 5 [13] [4] [] [] [some 4] (L41_3).1 := w_plain (by kernel_rfl) (L41_3).2
theorem k41 : FnIs TT 41 c41 [.tmp 4] 2 := ⟨Try.f41, by kernel_rfl, by simp only [Try.f41, c41, bodyOf], by kernel_rfl, of_decide_eq_true (by kernel_rfl)⟩

/- slices.IndexFunc[cache.items,*cache.item] -/
noncomputable def c42 : Code := bodyOf Try.f42
noncomputable def r42_0 : Code := Code.sub [0] c42
noncomputable def r42_1 : Code := Code.sub [1, 0, 0] c42
noncomputable def r42_2 : Code := Code.sub [1, 0, 1, 0, 0, 0] c42
noncomputable def r42_3 : Code := Code.sub [1, 0, 1, 0, 0, 1, 1, 0, 0, 0] c42
noncomputable def r42_4 : Code := Code.sub [1, 0, 1, 0, 0, 1, 1, 0, 0, 1, 0] c42
noncomputable def r42_5 : Code := Code.sub [1, 0, 1, 0, 0, 1, 1, 0, 0, 1, 1, 0, 0] c42
noncomputable def r42_6 : Code := Code.sub [1, 0, 1, 0, 0, 1, 1, 1] c42
noncomputable def r42_7 : Code := Code.sub [1, 1, 0] c42
theorem body42 : c42 = (.seq r42_0 (.seq (.seq r42_1 (.block 0 (.loop (.seq r42_2 (.seq (.cond (.tmp 9) .skip (.exit 0)) (.seq (.block 1 (.seq r42_3 (.seq r42_4 (.cond (.tmp 16) (.seq r42_5 .ret) .skip)))) r42_6)))))) (.seq r42_7 .ret))) := by kernel_rfl
noncomputable def L42_0 : Lt r42_0 := by refine ⟨?l, ?h⟩; case h => simp only [r42_0, c42, bodyOf, Try.f42, Code.sub, opsOf, List.map_cons, List.map_nil, strip]; rfl
theorem w42_0 : Wp r42_0 9 [9, 16] [4] [] [] [some 4] (L42_0).1 := w_plain (by kernel_rfl) (L42_0).2
noncomputable def L42_1 : Lt r42_1 := by refine ⟨?l, ?h⟩; case h => simp only [r42_1, c42, bodyOf, Try.f42, Code.sub, opsOf, List.map_cons, List.map_nil, strip]; rfl
theorem w42_1 : Wp r42_1 9 [9, 16] [6, 7, 8] [] [0] [some 6, some 7, some 8] (L42_1).1 := w_plain (by kernel_rfl) (L42_1).2
noncomputable def L42_2 : Lt r42_2 := by refine ⟨?l, ?h⟩; case h => simp only [r42_2, c42, bodyOf, Try.f42, Code.sub, opsOf, List.map_cons, List.map_nil, strip]; rfl
theorem w42_2 : Wp r42_2 9 [9, 16] [] [9] [8, 7] [some 9] (L42_2).1 := w_plain (by kernel_rfl) (L42_2).2
noncomputable def L42_3 : Lt r42_3 := by refine ⟨?l, ?h⟩; case h => simp only [r42_3, c42, bodyOf, Try.f42, Code.sub, opsOf, List.map_cons, List.map_nil, strip]; rfl
theorem w42_3 : Wp r42_3 9 [9, 16] [5] [] [8] [some 10, some 5] (L42_3).1 := w_plain (by kernel_rfl) (L42_3).2
noncomputable def L42_4 : Lt r42_4 := by refine ⟨?l, ?h⟩; case h => simp only [r42_4, c42, bodyOf, Try.f42, Code.sub, opsOf, List.map_cons, List.map_nil, strip]; rfl
theorem w42_4 : Wp r42_4 9 [9, 16] [] [16] [1, 0, 5] [some 11, some 12, some 13, some 14, some 15, some 16] (L42_4).1 := w_plain (by kernel_rfl) (L42_4).2
noncomputable def L42_5 : Lt r42_5 := by refine ⟨?l, ?h⟩; case h => simp only [r42_5, c42, bodyOf, Try.f42, Code.sub, opsOf, List.map_cons, List.map_nil, strip]; rfl
theorem w42_5 : Wp r42_5 9 [9, 16] [4] [] [5] [some 17, some 4] (L42_5).1 := w_plain (by kernel_rfl) (L42_5).2
noncomputable def L42_6 : Lt r42_6 := by refine ⟨?l, ?h⟩; case h => simp only [r42_6, c42, bodyOf, Try.f42, Code.sub, opsOf, List.map_cons, List.map_nil, strip]; rfl
theorem w42_6 : Wp r42_6 9 [9, 16] [8] [] [8] [some 18, some 8] (L42_6).1 := w_plain (by kernel_rfl) (L42_6).2
noncomputable def L42_7 : Lt r42_7 := by refine ⟨?l, ?h⟩; case h => simp only [r42_7, c42, bodyOf, Try.f42, Code.sub, opsOf, List.map_cons, List.map_nil, strip]; rfl
theorem w42_7 : Wp r42_7 9 [9, 16] [4] [] [] [some 4] (L42_7).1 := w_plain (by kernel_rfl) (L42_7).2
theorem k42 : FnIs TT 42 c42 [.tmp 4] 2 := ⟨Try.f42, by kernel_rfl, by simp only [Try.f42, c42, bodyOf], by kernel_rfl, of_decide_eq_true (by kernel_rfl)⟩

/- (*cache.Cache).find$1 -/
noncomputable def c43 : Code := bodyOf Try.f43
noncomputable def r43_0 : Code := Code.sub [0] c43
noncomputable def r43_1 : Code := Code.sub [1, 0] c43
theorem body43 : c43 = (.seq r43_0 (.seq r43_1 .ret)) := by kernel_rfl
noncomputable def L43_0 : Lt r43_0 := by refine ⟨?l, ?h⟩; case h => simp only [r43_0, c43, bodyOf, Try.f43, Code.sub, opsOf, List.map_cons, List.map_nil, strip]; rfl
theorem w43_0 : Wp r43_0 5 [] [4] [] [] [some 4] (L43_0).1 := w_plain (by kernel_rfl) (L43_0).2
theorem can43_1 : canonOps (opsOf r43_1) = opsOf r43_1 := by kernel_rfl
noncomputable def L43_1 : Lc r43_1 := by refine ⟨?l, (congrArg (List.map strip) can43_1).trans ?h⟩; case h => simp only [r43_1, c43, bodyOf, Try.f43, Code.sub, opsOf, List.map_cons, List.map_nil, strip]; rfl
theorem w43_1 : Wd r43_1 5 [] [4] [] [0, 1, 2] [some 5, some 6, some 7, some 8, some 9, some 10, some 4] (L43_1).1 [(2, [1, 7]), (3, [1, 7])] := w_loud (by kernel_rfl) (L43_1).2
theorem k43 : FnIs TT 43 c43 [.tmp 4] 3 := ⟨Try.f43, by kernel_rfl, by simp only [Try.f43, c43, bodyOf], by kernel_rfl, of_decide_eq_true (by kernel_rfl)⟩

/- slices.pdqsortCmpFunc[*cache.item] -/
noncomputable def c45 : Code := bodyOf Try.f45
noncomputable def r45_0 : Code := Code.sub [0] c45
noncomputable def r45_1 : Code := Code.sub [1, 0] c45
noncomputable def r45_2 : Code := Code.sub [1, 1, 0, 0, 0, 0] c45
noncomputable def r45_3 : Code := Code.sub [1, 1, 0, 0, 0, 1, 0, 0] c45
noncomputable def r45_4 : Code := Code.sub [1, 1, 0, 0, 0, 1, 0, 1, 0, 0] c45
noncomputable def r45_5 : Code := Code.sub [1, 1, 0, 0, 0, 1, 1, 0, 0] c45
noncomputable def r45_6 : Code := Code.sub [1, 1, 0, 0, 0, 1, 1, 0, 1, 0, 0] c45
noncomputable def r45_7 : Code := Code.sub [1, 1, 0, 0, 0, 1, 1, 1, 0, 0] c45
noncomputable def r45_8 : Code := Code.sub [1, 1, 0, 0, 0, 1, 1, 1, 0, 1, 0, 0] c45
noncomputable def r45_9 : Code := Code.sub [1, 1, 0, 0, 0, 1, 1, 1, 0, 1, 0, 1] c45
noncomputable def r45_10 : Code := Code.sub [1, 1, 0, 0, 0, 1, 1, 1, 1, 0] c45
noncomputable def r45_11 : Code := Code.sub [1, 1, 0, 0, 0, 1, 1, 1, 1, 1, 0, 0] c45
noncomputable def r45_12 : Code := Code.sub [1, 1, 0, 0, 0, 1, 1, 1, 1, 1, 0, 1, 0, 0] c45
noncomputable def r45_13 : Code := Code.sub [1, 1, 0, 0, 0, 1, 1, 1, 1, 1, 0, 1, 0, 1, 0] c45
noncomputable def r45_14 : Code := Code.sub [1, 1, 0, 0, 0, 1, 1, 1, 1, 1, 0, 1, 0, 1, 1] c45
noncomputable def r45_15 : Code := Code.sub [1, 1, 0, 0, 0, 1, 1, 1, 1, 1, 1, 0, 0] c45
noncomputable def r45_16 : Code := Code.sub [1, 1, 0, 0, 0, 1, 1, 1, 1, 1, 1, 0, 1, 0, 0] c45
noncomputable def r45_17 : Code := Code.sub [1, 1, 0, 0, 0, 1, 1, 1, 1, 1, 1, 1, 0, 0] c45
noncomputable def r45_18 : Code := Code.sub [1, 1, 0, 0, 0, 1, 1, 1, 1, 1, 1, 1, 0, 1, 0, 0] c45
noncomputable def r45_19 : Code := Code.sub [1, 1, 0, 0, 0, 1, 1, 1, 1, 1, 1, 1, 0, 1, 0, 1, 0] c45
noncomputable def r45_20 : Code := Code.sub [1, 1, 0, 0, 0, 1, 1, 1, 1, 1, 1, 1, 1, 0] c45
noncomputable def r45_21 : Code := Code.sub [1, 1, 0, 0, 0, 1, 1, 1, 1, 1, 1, 1, 1, 1, 0] c45
noncomputable def r45_22 : Code := Code.sub [1, 1, 0, 0, 0, 1, 1, 1, 1, 1, 1, 1, 1, 1, 1, 0] c45
noncomputable def r45_23 : Code := Code.sub [1, 1, 0, 0, 0, 1, 1, 1, 1, 1, 1, 1, 1, 1, 1, 1, 0] c45
noncomputable def r45_24 : Code := Code.sub [1, 1, 0, 0, 0, 1, 1, 1, 1, 1, 1, 1, 1, 1, 1, 1, 1, 0] c45
noncomputable def r45_25 : Code := Code.sub [1, 1, 0, 0, 0, 1, 1, 1, 1, 1, 1, 1, 1, 1, 1, 1, 1, 1, 0, 0] c45
noncomputable def r45_26 : Code := Code.sub [1, 1, 0, 0, 0, 1, 1, 1, 1, 1, 1, 1, 1, 1, 1, 1, 1, 1, 0, 1, 0] c45
noncomputable def r45_27 : Code := Code.sub [1, 1, 0, 0, 0, 1, 1, 1, 1, 1, 1, 1, 1, 1, 1, 1, 1, 1, 0, 1, 1] c45
noncomputable def r45_28 : Code := Code.sub [1, 1, 0, 0, 0, 1, 1, 1, 1, 1, 1, 1, 1, 1, 1, 1, 1, 1, 1, 0] c45
noncomputable def r45_29 : Code := Code.sub [1, 1, 0, 0, 0, 1, 1, 1, 1, 1, 1, 1, 1, 1, 1, 1, 1, 1, 1, 1, 0] c45
noncomputable def r45_30 : Code := Code.sub [1, 1, 0, 0, 0, 1, 1, 1, 1, 1, 1, 1, 1, 1, 1, 1, 1, 1, 1, 1, 1] c45
theorem body45 : c45 = (.seq r45_0 (.seq r45_1 (.block 0 (.loop (.block 1 (.seq r45_2 (.seq (.seq r45_3 (.cond (.tmp 25) (.seq r45_4 .ret) .skip)) (.seq (.seq r45_5 (.cond (.tmp 32) (.seq r45_6 .ret) .skip)) (.seq (.seq r45_7 (.cond (.tmp 39) (.seq r45_8 r45_9) .skip)) (.seq r45_10 (.seq (.seq r45_11 (.cond (.tmp 56) (.seq r45_12 (.seq r45_13 r45_14)) .skip)) (.seq (.seq r45_15 (.cond (.tmp 75) (.seq r45_16 (.cond (.tmp 80) .ret .skip)) .skip)) (.seq (.seq r45_17 (.cond (.tmp 97) (.seq r45_18 (.seq r45_19 (.exit 1))) .skip)) (.seq r45_20 (.seq r45_21 (.seq r45_22 (.seq r45_23 (.seq r45_24 (.cond (.tmp 125) (.seq r45_25 (.seq r45_26 r45_27)) (.seq r45_28 (.seq r45_29 r45_30))))))))))))))))))))) := by kernel_rfl
noncomputable def L45_0 : Lt r45_0 := by refine ⟨?l, ?h⟩; case h => simp only [r45_0, c45, bodyOf, Try.f45, Code.sub, opsOf, List.map_cons, List.map_nil, strip]; rfl
theorem w45_0 : Wp r45_0 21 [25, 32, 39, 56, 75, 80, 97, 125] [10] [] [] [some 10] (L45_0).1 := w_plain (by kernel_rfl) (L45_0).2
noncomputable def L45_1 : Lt r45_1 := by refine ⟨?l, ?h⟩; case h => simp only [r45_1, c45, bodyOf, Try.f45, Code.sub, opsOf, List.map_cons, List.map_nil, strip]; rfl
theorem w45_1 : Wp r45_1 21 [25, 32, 39, 56, 75, 80, 97, 125] [11] [] [] [some 11] (L45_1).1 := w_plain (by kernel_rfl) (L45_1).2
noncomputable def L45_2 : Lt r45_2 := by refine ⟨?l, ?h⟩; case h => simp only [r45_2, c45, bodyOf, Try.f45, Code.sub, opsOf, List.map_cons, List.map_nil, strip]; rfl
theorem w45_2 : Wp r45_2 21 [25, 32, 39, 56, 75, 80, 97, 125] [12] [] [2, 1] [some 21, some 22, some 23, some 12] (L45_2).1 := w_plain (by kernel_rfl) (L45_2).2
noncomputable def L45_3 : Lt r45_3 := by refine ⟨?l, ?h⟩; case h => simp only [r45_3, c45, bodyOf, Try.f45, Code.sub, opsOf, List.map_cons, List.map_nil, strip]; rfl
theorem w45_3 : Wp r45_3 21 [25, 32, 39, 56, 75, 80, 97, 125] [] [25] [12] [some 24, some 25] (L45_3).1 := w_plain (by kernel_rfl) (L45_3).2
noncomputable def L45_4 : Lt r45_4 := by refine ⟨?l, ?h⟩; case h => simp only [r45_4, c45, bodyOf, Try.f45, Code.sub, opsOf, List.map_cons, List.map_nil, strip]; rfl
theorem w45_4 : Wp r45_4 21 [25, 32, 39, 56, 75, 80, 97, 125] [] [] [0, 1, 2, 4] [some 26, some 27, some 28, some 29, some 30] (L45_4).1 := w_plain (by kernel_rfl) (L45_4).2
noncomputable def L45_5 : Lt r45_5 := by refine ⟨?l, ?h⟩; case h => simp only [r45_5, c45, bodyOf, Try.f45, Code.sub, opsOf, List.map_cons, List.map_nil, strip]; rfl
theorem w45_5 : Wp r45_5 21 [25, 32, 39, 56, 75, 80, 97, 125] [] [32] [3] [some 31, some 32] (L45_5).1 := w_plain (by kernel_rfl) (L45_5).2
noncomputable def L45_6 : Lt r45_6 := by refine ⟨?l, ?h⟩; case h => simp only [r45_6, c45, bodyOf, Try.f45, Code.sub, opsOf, List.map_cons, List.map_nil, strip]; rfl
theorem w45_6 : Wp r45_6 21 [25, 32, 39, 56, 75, 80, 97, 125] [] [] [0, 1, 2, 4] [some 33, some 34, some 35, some 36, some 37] (L45_6).1 := w_plain (by kernel_rfl) (L45_6).2
noncomputable def L45_7 : Lt r45_7 := by refine ⟨?l, ?h⟩; case h => simp only [r45_7, c45, bodyOf, Try.f45, Code.sub, opsOf, List.map_cons, List.map_nil, strip]; rfl
theorem w45_7 : Wp r45_7 21 [25, 32, 39, 56, 75, 80, 97, 125] [] [39] [10] [some 38, some 39] (L45_7).1 := w_plain (by kernel_rfl) (L45_7).2
noncomputable def L45_8 : Lt r45_8 := by refine ⟨?l, ?h⟩; case h => simp only [r45_8, c45, bodyOf, Try.f45, Code.sub, opsOf, List.map_cons, List.map_nil, strip]; rfl
theorem w45_8 : Wp r45_8 21 [25, 32, 39, 56, 75, 80, 97, 125] [] [] [0, 1, 2, 4] [some 40, some 41, some 42, some 43, some 44] (L45_8).1 := w_plain (by kernel_rfl) (L45_8).2
noncomputable def L45_9 : Lt r45_9 := by refine ⟨?l, ?h⟩; case h => simp only [r45_9, c45, bodyOf, Try.f45, Code.sub, opsOf, List.map_cons, List.map_nil, strip]; rfl
theorem w45_9 : Wp r45_9 21 [25, 32, 39, 56, 75, 80, 97, 125] [3] [] [3] [some 45, some 46, some 3] (L45_9).1 := w_plain (by kernel_rfl) (L45_9).2
noncomputable def L45_10 : Lt r45_10 := by refine ⟨?l, ?h⟩; case h => simp only [r45_10, c45, bodyOf, Try.f45, Code.sub, opsOf, List.map_cons, List.map_nil, strip]; rfl
theorem w45_10 : Wp r45_10 21 [25, 32, 39, 56, 75, 80, 97, 125] [13, 14] [] [0, 1, 2, 4] [some 48, some 49, some 50, some 51, some 52, some 47, some 53, some 54, some 13, some 14] (L45_10).1 := w_plain (by kernel_rfl) (L45_10).2
noncomputable def L45_11 : Lt r45_11 := by refine ⟨?l, ?h⟩; case h => simp only [r45_11, c45, bodyOf, Try.f45, Code.sub, opsOf, List.map_cons, List.map_nil, strip]; rfl
theorem w45_11 : Wp r45_11 21 [25, 32, 39, 56, 75, 80, 97, 125] [] [56] [14] [some 55, some 56] (L45_11).1 := w_plain (by kernel_rfl) (L45_11).2
noncomputable def L45_12 : Lt r45_12 := by refine ⟨?l, ?h⟩; case h => simp only [r45_12, c45, bodyOf, Try.f45, Code.sub, opsOf, List.map_cons, List.map_nil, strip]; rfl
theorem w45_12 : Wp r45_12 21 [25, 32, 39, 56, 75, 80, 97, 125] [] [] [0, 1, 2, 4] [some 57, some 58, some 59, some 60, some 61] (L45_12).1 := w_plain (by kernel_rfl) (L45_12).2
noncomputable def L45_13 : Lt r45_13 := by refine ⟨?l, ?h⟩; case h => simp only [r45_13, c45, bodyOf, Try.f45, Code.sub, opsOf, List.map_cons, List.map_nil, strip]; rfl
theorem w45_13 : Wp r45_13 21 [25, 32, 39, 56, 75, 80, 97, 125] [13] [] [2, 13, 1] [some 62, some 63, some 64, some 65, some 66, some 67, some 13] (L45_13).1 := w_plain (by kernel_rfl) (L45_13).2
noncomputable def L45_14 : Lt r45_14 := by refine ⟨?l, ?h⟩; case h => simp only [r45_14, c45, bodyOf, Try.f45, Code.sub, opsOf, List.map_cons, List.map_nil, strip]; rfl
theorem w45_14 : Wp r45_14 21 [25, 32, 39, 56, 75, 80, 97, 125] [14] [] [] [some 14] (L45_14).1 := w_plain (by kernel_rfl) (L45_14).2
noncomputable def L45_15 : Lt r45_15 := by refine ⟨?l, ?h⟩; case h => simp only [r45_15, c45, bodyOf, Try.f45, Code.sub, opsOf, List.map_cons, List.map_nil, strip]; rfl
theorem w45_15 : Wp r45_15 21 [25, 32, 39, 56, 75, 80, 97, 125] [] [75] [10, 11, 14] [some 68, some 69, some 70, some 71, some 72, some 73, some 74, some 75] (L45_15).1 := w_plain (by kernel_rfl) (L45_15).2
noncomputable def L45_16 : Lt r45_16 := by refine ⟨?l, ?h⟩; case h => simp only [r45_16, c45, bodyOf, Try.f45, Code.sub, opsOf, List.map_cons, List.map_nil, strip]; rfl
theorem w45_16 : Wp r45_16 21 [25, 32, 39, 56, 75, 80, 97, 125] [] [80] [0, 1, 2, 4] [some 76, some 77, some 78, some 79, some 80] (L45_16).1 := w_plain (by kernel_rfl) (L45_16).2
theorem can45_17 : canonOps (opsOf r45_17) = opsOf r45_17 := by kernel_rfl
noncomputable def L45_17 : Lc r45_17 := by refine ⟨?l, (congrArg (List.map strip) can45_17).trans ?h⟩; case h => simp only [r45_17, c45, bodyOf, Try.f45, Code.sub, opsOf, List.map_cons, List.map_nil, strip]; rfl
theorem w45_17 : Wd r45_17 21 [25, 32, 39, 56, 75, 80, 97, 125] [] [97] [4, 1, 0, 13] [some 81, some 82, some 83, some 84, some 85, some 86, some 87, some 88, some 89, some 90, some 91, some 92, some 93, some 94, some 95, some 96, some 97] (L45_17).1 [(8, [13]), (12, [13])] := w_loud (by kernel_rfl) (L45_17).2
noncomputable def L45_18 : Lt r45_18 := by refine ⟨?l, ?h⟩; case h => simp only [r45_18, c45, bodyOf, Try.f45, Code.sub, opsOf, List.map_cons, List.map_nil, strip]; rfl
theorem w45_18 : Wp r45_18 21 [25, 32, 39, 56, 75, 80, 97, 125] [15] [] [0, 1, 2, 13, 4] [some 98, some 99, some 100, some 101, some 102, some 103, some 15] (L45_18).1 := w_plain (by kernel_rfl) (L45_18).2
noncomputable def L45_19 : Lt r45_19 := by refine ⟨?l, ?h⟩; case h => simp only [r45_19, c45, bodyOf, Try.f45, Code.sub, opsOf, List.map_cons, List.map_nil, strip]; rfl
theorem w45_19 : Wp r45_19 21 [25, 32, 39, 56, 75, 80, 97, 125] [1] [] [15] [some 104, some 1] (L45_19).1 := w_plain (by kernel_rfl) (L45_19).2
noncomputable def L45_20 : Lt r45_20 := by refine ⟨?l, ?h⟩; case h => simp only [r45_20, c45, bodyOf, Try.f45, Code.sub, opsOf, List.map_cons, List.map_nil, strip]; rfl
theorem w45_20 : Wp r45_20 21 [25, 32, 39, 56, 75, 80, 97, 125] [16, 17] [] [0, 1, 2, 13, 4] [some 106, some 107, some 108, some 109, some 110, some 111, some 105, some 112, some 113, some 16, some 17] (L45_20).1 := w_plain (by kernel_rfl) (L45_20).2
noncomputable def L45_21 : Lt r45_21 := by refine ⟨?l, ?h⟩; case h => simp only [r45_21, c45, bodyOf, Try.f45, Code.sub, opsOf, List.map_cons, List.map_nil, strip]; rfl
theorem w45_21 : Wp r45_21 21 [25, 32, 39, 56, 75, 80, 97, 125] [11] [] [17] [some 114, some 11] (L45_21).1 := w_plain (by kernel_rfl) (L45_21).2
noncomputable def L45_22 : Lt r45_22 := by refine ⟨?l, ?h⟩; case h => simp only [r45_22, c45, bodyOf, Try.f45, Code.sub, opsOf, List.map_cons, List.map_nil, strip]; rfl
theorem w45_22 : Wp r45_22 21 [25, 32, 39, 56, 75, 80, 97, 125] [18, 19] [] [1, 2, 16] [some 115, some 116, some 117, some 118, some 119, some 120, some 18, some 19] (L45_22).1 := w_plain (by kernel_rfl) (L45_22).2
noncomputable def L45_23 : Lt r45_23 := by refine ⟨?l, ?h⟩; case h => simp only [r45_23, c45, bodyOf, Try.f45, Code.sub, opsOf, List.map_cons, List.map_nil, strip]; rfl
theorem w45_23 : Wp r45_23 21 [25, 32, 39, 56, 75, 80, 97, 125] [20] [] [12] [some 121, some 122, some 20] (L45_23).1 := w_plain (by kernel_rfl) (L45_23).2
noncomputable def L45_24 : Lt r45_24 := by refine ⟨?l, ?h⟩; case h => simp only [r45_24, c45, bodyOf, Try.f45, Code.sub, opsOf, List.map_cons, List.map_nil, strip]; rfl
theorem w45_24 : Wp r45_24 21 [25, 32, 39, 56, 75, 80, 97, 125] [] [125] [18, 19] [some 123, some 124, some 125] (L45_24).1 := w_plain (by kernel_rfl) (L45_24).2
noncomputable def L45_25 : Lt r45_25 := by refine ⟨?l, ?h⟩; case h => simp only [r45_25, c45, bodyOf, Try.f45, Code.sub, opsOf, List.map_cons, List.map_nil, strip]; rfl
theorem w45_25 : Wp r45_25 21 [25, 32, 39, 56, 75, 80, 97, 125] [10] [] [18, 20] [some 126, some 127, some 128, some 10] (L45_25).1 := w_plain (by kernel_rfl) (L45_25).2
noncomputable def L45_26 : Lt r45_26 := by refine ⟨?l, ?h⟩; case h => simp only [r45_26, c45, bodyOf, Try.f45, Code.sub, opsOf, List.map_cons, List.map_nil, strip]; rfl
theorem w45_26 : Wp r45_26 21 [25, 32, 39, 56, 75, 80, 97, 125] [] [] [0, 1, 16, 3, 4] [some 129, some 130, some 131, some 132, some 133, some 134] (L45_26).1 := w_plain (by kernel_rfl) (L45_26).2
noncomputable def L45_27 : Lt r45_27 := by refine ⟨?l, ?h⟩; case h => simp only [r45_27, c45, bodyOf, Try.f45, Code.sub, opsOf, List.map_cons, List.map_nil, strip]; rfl
theorem w45_27 : Wp r45_27 21 [25, 32, 39, 56, 75, 80, 97, 125] [1] [] [16] [some 135, some 136, some 1] (L45_27).1 := w_plain (by kernel_rfl) (L45_27).2
noncomputable def L45_28 : Lt r45_28 := by refine ⟨?l, ?h⟩; case h => simp only [r45_28, c45, bodyOf, Try.f45, Code.sub, opsOf, List.map_cons, List.map_nil, strip]; rfl
theorem w45_28 : Wp r45_28 21 [25, 32, 39, 56, 75, 80, 97, 125] [10] [] [19, 20] [some 137, some 138, some 139, some 10] (L45_28).1 := w_plain (by kernel_rfl) (L45_28).2
noncomputable def L45_29 : Lt r45_29 := by refine ⟨?l, ?h⟩; case h => simp only [r45_29, c45, bodyOf, Try.f45, Code.sub, opsOf, List.map_cons, List.map_nil, strip]; rfl
theorem w45_29 : Wp r45_29 21 [25, 32, 39, 56, 75, 80, 97, 125] [] [] [0, 16, 2, 3, 4] [some 140, some 141, some 142, some 143, some 144, some 145, some 146] (L45_29).1 := w_plain (by kernel_rfl) (L45_29).2
noncomputable def L45_30 : Lt r45_30 := by refine ⟨?l, ?h⟩; case h => simp only [r45_30, c45, bodyOf, Try.f45, Code.sub, opsOf, List.map_cons, List.map_nil, strip]; rfl
theorem w45_30 : Wp r45_30 21 [25, 32, 39, 56, 75, 80, 97, 125] [2] [] [16] [some 147, some 2] (L45_30).1 := w_plain (by kernel_rfl) (L45_30).2
theorem k45 : FnIs TT 45 c45 [] 5 := ⟨Try.f45, by kernel_rfl, by simp only [Try.f45, c45, bodyOf], by kernel_rfl, of_decide_eq_true (by kernel_rfl)⟩

/- math/bits.Len -/
noncomputable def c46 : Code := bodyOf Try.f46
noncomputable def r46_0 : Code := Code.sub [0] c46
noncomputable def r46_1 : Code := Code.sub [1, 0, 0, 0] c46
noncomputable def r46_2 : Code := Code.sub [1, 1, 0] c46
theorem body46 : c46 = (.seq r46_0 (.seq (.cond (.const (.bool false)) (.seq r46_1 .ret) .skip) (.seq r46_2 .ret))) := by kernel_rfl
noncomputable def L46_0 : Lt r46_0 := by refine ⟨?l, ?h⟩; case h => simp only [r46_0, c46, bodyOf, Try.f46, Code.sub, opsOf, List.map_cons, List.map_nil, strip]; rfl
theorem w46_0 : Wp r46_0 3 [] [2] [] [] [some 2] (L46_0).1 := w_plain (by kernel_rfl) (L46_0).2
noncomputable def L46_1 : Lt r46_1 := by refine ⟨?l, ?h⟩; case h => simp only [r46_1, c46, bodyOf, Try.f46, Code.sub, opsOf, List.map_cons, List.map_nil, strip]; rfl
theorem w46_1 : Wp r46_1 3 [] [2] [] [0] [some 3, some 4, some 5, some 2] (L46_1).1 := w_plain (by kernel_rfl) (L46_1).2
noncomputable def L46_2 : Lt r46_2 := by refine ⟨?l, ?h⟩; case h => simp only [r46_2, c46, bodyOf, Try.f46, Code.sub, opsOf, List.map_cons, List.map_nil, strip]; rfl
theorem w46_2 : Wp r46_2 3 [] [2] [] [0] [some 6, some 7, some 2] (L46_2).1 := w_plain (by kernel_rfl) (L46_2).2
theorem k46 : FnIs TT 46 c46 [.tmp 2] 1 := ⟨Try.f46, by kernel_rfl, by simp only [Try.f46, c46, bodyOf], by kernel_rfl, of_decide_eq_true (by kernel_rfl)⟩

/- slices.insertionSortCmpFunc[*cache.item] -/
noncomputable def c47 : Code := bodyOf Try.f47
noncomputable def r47_0 : Code := Code.sub [0] c47
noncomputable def r47_1 : Code := Code.sub [1, 0, 0, 0, 0] c47
noncomputable def r47_2 : Code := Code.sub [1, 0, 0, 1, 0, 0, 0] c47
noncomputable def r47_3 : Code := Code.sub [1, 0, 0, 1, 0, 0, 1, 0, 0, 0, 0] c47
noncomputable def r47_4 : Code := Code.sub [1, 0, 0, 1, 0, 0, 1, 0, 0, 1, 0, 0] c47
noncomputable def r47_5 : Code := Code.sub [1, 0, 0, 1, 0, 0, 1, 0, 0, 1, 1] c47
noncomputable def r47_6 : Code := Code.sub [1, 0, 0, 1, 1] c47
theorem body47 : c47 = (.seq r47_0 (.block 0 (.loop (.seq (.seq r47_1 (.cond (.tmp 14) .skip (.exit 0))) (.seq (.block 1 (.seq r47_2 (.block 2 (.loop (.seq (.seq r47_3 (.cond (.tmp 34) .skip (.exit 2))) (.seq (.block 3 r47_4) r47_5)))))) r47_6))))) := by kernel_rfl
noncomputable def L47_0 : Lt r47_0 := by refine ⟨?l, ?h⟩; case h => simp only [r47_0, c47, bodyOf, Try.f47, Code.sub, opsOf, List.map_cons, List.map_nil, strip]; rfl
theorem w47_0 : Wp r47_0 10 [14, 34] [8] [] [1] [some 10, some 11, some 8] (L47_0).1 := w_plain (by kernel_rfl) (L47_0).2
noncomputable def L47_1 : Lt r47_1 := by refine ⟨?l, ?h⟩; case h => simp only [r47_1, c47, bodyOf, Try.f47, Code.sub, opsOf, List.map_cons, List.map_nil, strip]; rfl
theorem w47_1 : Wp r47_1 10 [14, 34] [] [14] [8, 2] [some 12, some 13, some 14] (L47_1).1 := w_plain (by kernel_rfl) (L47_1).2
noncomputable def L47_2 : Lt r47_2 := by refine ⟨?l, ?h⟩; case h => simp only [r47_2, c47, bodyOf, Try.f47, Code.sub, opsOf, List.map_cons, List.map_nil, strip]; rfl
theorem w47_2 : Wp r47_2 10 [14, 34] [9] [] [8] [some 17, some 9] (L47_2).1 := w_plain (by kernel_rfl) (L47_2).2
theorem can47_3 : canonOps (opsOf r47_3) = opsOf r47_3 := by kernel_rfl
noncomputable def L47_3 : Lc r47_3 := by refine ⟨?l, (congrArg (List.map strip) can47_3).trans ?h⟩; case h => simp only [r47_3, c47, bodyOf, Try.f47, Code.sub, opsOf, List.map_cons, List.map_nil, strip]; rfl
theorem w47_3 : Wd r47_3 10 [14, 34] [] [34] [1, 3, 0, 9] [some 18, some 19, some 20, some 21, some 22, some 23, some 24, some 25, some 26, some 27, some 28, some 29, some 30, some 31, some 32, some 33, some 34] (L47_3).1 [(8, [14]), (13, [14])] := w_loud (by kernel_rfl) (L47_3).2
theorem can47_4 : canonOps (opsOf r47_4) = opsOf r47_4 := by kernel_rfl
noncomputable def L47_4 : Lc r47_4 := by refine ⟨?l, (congrArg (List.map strip) can47_4).trans ?h⟩; case h => simp only [r47_4, c47, bodyOf, Try.f47, Code.sub, opsOf, List.map_cons, List.map_nil, strip]; rfl
theorem w47_4 : Wd r47_4 10 [14, 34] [] [] [0, 9] [some 37, some 38, some 39, some 40, some 41, some 42, some 43, some 44, some 45, some 46, some 47, some 48, some 49, some 50, some 51, none, some 52, none] (L47_4).1 [(9, [15]), (13, [15])] := w_loud (by kernel_rfl) (L47_4).2
noncomputable def L47_5 : Lt r47_5 := by refine ⟨?l, ?h⟩; case h => simp only [r47_5, c47, bodyOf, Try.f47, Code.sub, opsOf, List.map_cons, List.map_nil, strip]; rfl
theorem w47_5 : Wp r47_5 10 [14, 34] [9] [] [9] [some 35, some 36, some 9] (L47_5).1 := w_plain (by kernel_rfl) (L47_5).2
noncomputable def L47_6 : Lt r47_6 := by refine ⟨?l, ?h⟩; case h => simp only [r47_6, c47, bodyOf, Try.f47, Code.sub, opsOf, List.map_cons, List.map_nil, strip]; rfl
theorem w47_6 : Wp r47_6 10 [14, 34] [8] [] [8] [some 15, some 16, some 8] (L47_6).1 := w_plain (by kernel_rfl) (L47_6).2
theorem k47 : FnIs TT 47 c47 [] 4 := ⟨Try.f47, by kernel_rfl, by simp only [Try.f47, c47, bodyOf], by kernel_rfl, of_decide_eq_true (by kernel_rfl)⟩

/- math/bits.Len64 -/
noncomputable def c56 : Code := bodyOf Try.f56
noncomputable def r56_0 : Code := Code.sub [0] c56
noncomputable def r56_1 : Code := Code.sub [1, 0, 0] c56
noncomputable def r56_2 : Code := Code.sub [1, 0, 1, 0, 0] c56
noncomputable def r56_3 : Code := Code.sub [1, 0, 1, 0, 1] c56
noncomputable def r56_4 : Code := Code.sub [1, 1, 0, 0] c56
noncomputable def r56_5 : Code := Code.sub [1, 1, 0, 1, 0, 0] c56
noncomputable def r56_6 : Code := Code.sub [1, 1, 0, 1, 0, 1] c56
noncomputable def r56_7 : Code := Code.sub [1, 1, 1, 0, 0] c56
noncomputable def r56_8 : Code := Code.sub [1, 1, 1, 0, 1, 0, 0] c56
noncomputable def r56_9 : Code := Code.sub [1, 1, 1, 0, 1, 0, 1] c56
noncomputable def r56_10 : Code := Code.sub [1, 1, 1, 1, 0] c56
theorem body56 : c56 = (.seq r56_0 (.seq (.seq r56_1 (.cond (.tmp 4) (.seq r56_2 r56_3) .skip)) (.seq (.seq r56_4 (.cond (.tmp 8) (.seq r56_5 r56_6) .skip)) (.seq (.seq r56_7 (.cond (.tmp 14) (.seq r56_8 r56_9) .skip)) (.seq r56_10 .ret))))) := by kernel_rfl
noncomputable def L56_0 : Lt r56_0 := by refine ⟨?l, ?h⟩; case h => simp only [r56_0, c56, bodyOf, Try.f56, Code.sub, opsOf, List.map_cons, List.map_nil, strip]; rfl
theorem w56_0 : Wp r56_0 3 [4, 8, 14] [2] [] [] [some 2] (L56_0).1 := w_plain (by kernel_rfl) (L56_0).2
noncomputable def L56_1 : Lt r56_1 := by refine ⟨?l, ?h⟩; case h => simp only [r56_1, c56, bodyOf, Try.f56, Code.sub, opsOf, List.map_cons, List.map_nil, strip]; rfl
theorem w56_1 : Wp r56_1 3 [4, 8, 14] [] [4] [0] [some 3, some 4] (L56_1).1 := w_plain (by kernel_rfl) (L56_1).2
noncomputable def L56_2 : Lt r56_2 := by refine ⟨?l, ?h⟩; case h => simp only [r56_2, c56, bodyOf, Try.f56, Code.sub, opsOf, List.map_cons, List.map_nil, strip]; rfl
theorem w56_2 : Wp r56_2 3 [4, 8, 14] [0] [] [0] [some 5, some 6, some 0] (L56_2).1 := w_plain (by kernel_rfl) (L56_2).2
noncomputable def L56_3 : Lt r56_3 := by refine ⟨?l, ?h⟩; case h => simp only [r56_3, c56, bodyOf, Try.f56, Code.sub, opsOf, List.map_cons, List.map_nil, strip]; rfl
theorem w56_3 : Wp r56_3 3 [4, 8, 14] [2] [] [] [some 2] (L56_3).1 := w_plain (by kernel_rfl) (L56_3).2
noncomputable def L56_4 : Lt r56_4 := by refine ⟨?l, ?h⟩; case h => simp only [r56_4, c56, bodyOf, Try.f56, Code.sub, opsOf, List.map_cons, List.map_nil, strip]; rfl
theorem w56_4 : Wp r56_4 3 [4, 8, 14] [] [8] [0] [some 7, some 8] (L56_4).1 := w_plain (by kernel_rfl) (L56_4).2
noncomputable def L56_5 : Lt r56_5 := by refine ⟨?l, ?h⟩; case h => simp only [r56_5, c56, bodyOf, Try.f56, Code.sub, opsOf, List.map_cons, List.map_nil, strip]; rfl
theorem w56_5 : Wp r56_5 3 [4, 8, 14] [0] [] [0] [some 9, some 10, some 0] (L56_5).1 := w_plain (by kernel_rfl) (L56_5).2
noncomputable def L56_6 : Lt r56_6 := by refine ⟨?l, ?h⟩; case h => simp only [r56_6, c56, bodyOf, Try.f56, Code.sub, opsOf, List.map_cons, List.map_nil, strip]; rfl
theorem w56_6 : Wp r56_6 3 [4, 8, 14] [2] [] [2] [some 11, some 12, some 2] (L56_6).1 := w_plain (by kernel_rfl) (L56_6).2
noncomputable def L56_7 : Lt r56_7 := by refine ⟨?l, ?h⟩; case h => simp only [r56_7, c56, bodyOf, Try.f56, Code.sub, opsOf, List.map_cons, List.map_nil, strip]; rfl
theorem w56_7 : Wp r56_7 3 [4, 8, 14] [] [14] [0] [some 13, some 14] (L56_7).1 := w_plain (by kernel_rfl) (L56_7).2
noncomputable def L56_8 : Lt r56_8 := by refine ⟨?l, ?h⟩; case h => simp only [r56_8, c56, bodyOf, Try.f56, Code.sub, opsOf, List.map_cons, List.map_nil, strip]; rfl
theorem w56_8 : Wp r56_8 3 [4, 8, 14] [0] [] [0] [some 15, some 16, some 0] (L56_8).1 := w_plain (by kernel_rfl) (L56_8).2
noncomputable def L56_9 : Lt r56_9 := by refine ⟨?l, ?h⟩; case h => simp only [r56_9, c56, bodyOf, Try.f56, Code.sub, opsOf, List.map_cons, List.map_nil, strip]; rfl
theorem w56_9 : Wp r56_9 3 [4, 8, 14] [2] [] [2] [some 17, some 18, some 2] (L56_9).1 := w_plain (by kernel_rfl) (L56_9).2
noncomputable def L56_10 : Lt r56_10 := by refine ⟨?l, ?h⟩; case h => simp only [r56_10, c56, bodyOf, Try.f56, Code.sub, opsOf, List.map_cons, List.map_nil, strip]; rfl
theorem w56_10 : Wp r56_10 3 [4, 8, 14] [2] [] [2, 0] [some 19, some 20, some 21, some 22, some 23, some 24, some 2] (L56_10).1 := w_plain (by kernel_rfl) (L56_10).2
theorem k56 : FnIs TT 56 c56 [.tmp 2] 1 := ⟨Try.f56, by kernel_rfl, by simp only [Try.f56, c56, bodyOf], by kernel_rfl, of_decide_eq_true (by kernel_rfl)⟩

/- (cache.items).Len -/
noncomputable def c79 : Code := bodyOf Try.f79
noncomputable def r79_0 : Code := Code.sub [0] c79
noncomputable def r79_1 : Code := Code.sub [1, 0] c79
theorem body79 : c79 = (.seq r79_0 (.seq r79_1 .ret)) := by kernel_rfl
noncomputable def L79_0 : Lt r79_0 := by refine ⟨?l, ?h⟩; case h => simp only [r79_0, c79, bodyOf, Try.f79, Code.sub, opsOf, List.map_cons, List.map_nil, strip]; rfl
theorem w79_0 : Wp r79_0 3 [] [2] [] [] [some 2] (L79_0).1 := w_plain (by kernel_rfl) (L79_0).2
noncomputable def L79_1 : Lt r79_1 := by refine ⟨?l, ?h⟩; case h => simp only [r79_1, c79, bodyOf, Try.f79, Code.sub, opsOf, List.map_cons, List.map_nil, strip]; rfl
theorem w79_1 : Wp r79_1 3 [] [2] [] [0] [some 3, some 4, some 2] (L79_1).1 := w_plain (by kernel_rfl) (L79_1).2
theorem k79 : FnIs TT 79 c79 [.tmp 2] 1 := ⟨Try.f79, by kernel_rfl, by simp only [Try.f79, c79, bodyOf], by kernel_rfl, of_decide_eq_true (by kernel_rfl)⟩

/- (cache.items).Less -/
noncomputable def c80 : Code := bodyOf Try.f80
noncomputable def r80_0 : Code := Code.sub [0] c80
noncomputable def r80_1 : Code := Code.sub [1, 0] c80
theorem body80 : c80 = (.seq r80_0 (.seq r80_1 .ret)) := by kernel_rfl
noncomputable def L80_0 : Lt r80_0 := by refine ⟨?l, ?h⟩; case h => simp only [r80_0, c80, bodyOf, Try.f80, Code.sub, opsOf, List.map_cons, List.map_nil, strip]; rfl
theorem w80_0 : Wp r80_0 7 [] [6] [] [] [some 6] (L80_0).1 := w_plain (by kernel_rfl) (L80_0).2
noncomputable def L80_1 : Lt r80_1 := by refine ⟨?l, ?h⟩; case h => simp only [r80_1, c80, bodyOf, Try.f80, Code.sub, opsOf, List.map_cons, List.map_nil, strip]; rfl
theorem w80_1 : Wp r80_1 7 [] [6] [] [1, 0, 2] [some 7, some 8, some 9, some 10, some 11, some 12, some 13, some 14, some 15, some 16, some 17, some 18, some 19, some 20, some 21, some 6] (L80_1).1 := w_plain (by kernel_rfl) (L80_1).2
theorem k80 : FnIs TT 80 c80 [.tmp 6] 3 := ⟨Try.f80, by kernel_rfl, by simp only [Try.f80, c80, bodyOf], by kernel_rfl, of_decide_eq_true (by kernel_rfl)⟩

/- (cache.items).Swap -/
noncomputable def c81 : Code := bodyOf Try.f81
noncomputable def r81_0 : Code := Code.sub [] c81
theorem body81 : c81 = r81_0 := by kernel_rfl
theorem can81_0 : canonOps (opsOf r81_0) = opsOf r81_0 := by kernel_rfl
noncomputable def L81_0 : Lc r81_0 := by refine ⟨?l, (congrArg (List.map strip) can81_0).trans ?h⟩; case h => simp only [r81_0, c81, bodyOf, Try.f81, Code.sub, opsOf, List.map_cons, List.map_nil, strip]; rfl
theorem w81_0 : Wd r81_0 3 [] [] [] [2, 0, 1] [some 6, some 7, some 8, some 9, some 10, some 11, some 12, some 13, some 14, some 15, some 16, some 17, some 18, none, some 19, none] (L81_0).1 [(7, [13]), (11, [13])] := w_loud (by kernel_rfl) (L81_0).2
theorem k81 : FnIs TT 81 c81 [] 3 := ⟨Try.f81, by kernel_rfl, by simp only [Try.f81, c81, bodyOf], by kernel_rfl, of_decide_eq_true (by kernel_rfl)⟩

/- (*cache.items).Pop -/
noncomputable def c82 : Code := bodyOf Try.f82
noncomputable def r82_0 : Code := Code.sub [0] c82
noncomputable def r82_1 : Code := Code.sub [1, 0] c82
noncomputable def r82_2 : Code := Code.sub [1, 1, 0] c82
noncomputable def r82_3 : Code := Code.sub [1, 1, 1, 0] c82
noncomputable def r82_4 : Code := Code.sub [1, 1, 1, 1, 0] c82
theorem body82 : c82 = (.seq r82_0 (.seq r82_1 (.seq r82_2 (.seq r82_3 (.seq r82_4 .ret))))) := by kernel_rfl
noncomputable def L82_0 : Lt r82_0 := by refine ⟨?l, ?h⟩; case h => simp only [r82_0, c82, bodyOf, Try.f82, Code.sub, opsOf, List.map_cons, List.map_nil, strip]; rfl
theorem w82_0 : Wp r82_0 5 [] [2] [] [] [some 2] (L82_0).1 := w_plain (by kernel_rfl) (L82_0).2
noncomputable def L82_1 : Lt r82_1 := by refine ⟨?l, ?h⟩; case h => simp only [r82_1, c82, bodyOf, Try.f82, Code.sub, opsOf, List.map_cons, List.map_nil, strip]; rfl
theorem w82_1 : Wp r82_1 5 [] [3] [] [0] [some 5, some 6, some 7, some 8, some 9, some 3] (L82_1).1 := w_plain (by kernel_rfl) (L82_1).2
noncomputable def L82_2 : Lt r82_2 := by refine ⟨?l, ?h⟩; case h => simp only [r82_2, c82, bodyOf, Try.f82, Code.sub, opsOf, List.map_cons, List.map_nil, strip]; rfl
theorem w82_2 : Wp r82_2 5 [] [4] [] [0, 3] [some 10, some 11, some 12, some 13, some 14, some 15, some 4] (L82_2).1 := w_plain (by kernel_rfl) (L82_2).2
noncomputable def L82_3 : Lt r82_3 := by refine ⟨?l, ?h⟩; case h => simp only [r82_3, c82, bodyOf, Try.f82, Code.sub, opsOf, List.map_cons, List.map_nil, strip]; rfl
theorem w82_3 : Wp r82_3 5 [] [] [] [0, 3] [some 16, some 17, some 18, some 19, some 20, some 21, some 22, none] (L82_3).1 := w_plain (by kernel_rfl) (L82_3).2
noncomputable def L82_4 : Lt r82_4 := by refine ⟨?l, ?h⟩; case h => simp only [r82_4, c82, bodyOf, Try.f82, Code.sub, opsOf, List.map_cons, List.map_nil, strip]; rfl
theorem w82_4 : Wp r82_4 5 [] [2] [] [4] [some 23, some 24, some 2] (L82_4).1 := w_plain (by kernel_rfl) (L82_4).2
theorem k82 : FnIs TT 82 c82 [.tmp 2] 1 := ⟨Try.f82, by kernel_rfl, by simp only [Try.f82, c82, bodyOf], by kernel_rfl, of_decide_eq_true (by kernel_rfl)⟩

/- (*cache.items).Push -/
noncomputable def c83 : Code := bodyOf Try.f83
noncomputable def r83_0 : Code := Code.sub [] c83
theorem body83 : c83 = r83_0 := by kernel_rfl
theorem can83_0 : canonOps (opsOf r83_0) = List.filterMap (fun i => ((opsOf r83_0)[i]?).map (renum [0, 1, 2, 3, 4, 5, 6, 7, 8, 9])) [0, 1, 2, 3, 4, 5, 6, 7, 8, 9] := by kernel_rfl
noncomputable def L83_0 : Lc r83_0 := by refine ⟨?l, (congrArg (List.map strip) can83_0).trans ?h⟩; case h => simp only [r83_0, c83, bodyOf, Try.f83, Code.sub, opsOf, List.filterMap_cons, List.filterMap_nil, List.getElem?_cons_succ, List.getElem?_cons_zero, Option.map_some, renum, List.map_cons, List.map_nil, strip]; rfl
theorem w83_0 : Wd r83_0 2 [] [] [] [0, 1] [some 4, some 5, some 6, some 7, some 8, some 9, some 10, some 11, some 12, none] (L83_0).1 [(3, [6, 7])] := w_loud (by kernel_rfl) (L83_0).2
theorem k83 : FnIs TT 83 c83 [] 2 := ⟨Try.f83, by kernel_rfl, by simp only [Try.f83, c83, bodyOf], by kernel_rfl, of_decide_eq_true (by kernel_rfl)⟩

/- what rewriting uses in the walks -/
attribute [simp] w_seq w_cond_tmp w_ret w_skip w_exit w_block w_loop r_nil r_seq r_seq_ret r_seq_exit r_block
attribute [simp] r_block_ret r_block_exit r_loop r_loop_ret r_loop_exit cnd_t cnd_f rg_some lgo_n lgo_c lops_nil lops_cons
attribute [simp] lk_some lop1_plain lop1_guard gdv_b gdv_u gd_tt gd_ff gd_tf gd_ft lput_s lput_n lev_t
attribute [simp] lev_c lev_g lev_f lget_n lget_c lset_n lset_c lkeep_n lkeep_c lsets_n lsets_c lconds_n
attribute [simp] lconds_c lfill qf_d okx lresults lresultsL lres_tmp o_move o_assign o_bin o_pick o_nilCheck
attribute [simp] o_fieldAddr o_load o_len o_store o_conv o_un o_extract o_append o_call2 o_callv o_buildSlice o_box
attribute [simp] o_alloc o_build o_indexAddr o_slice o_index o_field o_makeFunc o_makeSlice o_min o_max loOf_none loOf_some
attribute [simp] hiOf_none hiOf_some natOf_int sliceS_some sliceA_some strOp sz_str cat_str list_str s_binOp fastBin s_unOp
attribute [simp] fastUn boolEq int_beq int_bne txt_beq one_int one_slice one_ptr one_bool one_str cells_int cells_slice
attribute [simp] cells_ptr cells_bool cells_str cells_agg flatEq_n flatEq_c ba_beq closedA_l closedL_n closedL_c closedV_int closedV_str
attribute [simp] closedV_bool loadRow_new window over Instr.fill repl lst_nil lst_cons lks_some lkc_some lloud_some lreads_n
attribute [simp] lreads_c lsame_d eqV_int eqV_slice eqV_ptr eqV_agg eqL_n eqL_c eqV_str eqV_bool eqV_undef o_lookup
attribute [simp] o_mapUpdate o_insert o_mapEntry o_entryStore o_makeMap o_makeInterface o_typeAssert o_delete o_invoke inv_of est_int o_sliceData
attribute [simp] o_unsafeString unsM_none unsM_some one_map one_iface cells_map cells_iface eqV_map eqV_ifc
attribute [simp] body4 w4_0 L4_0 w4_1 L4_1 w4_2 L4_2 w4_3 L4_3 w4_4 L4_4 w4_5 L4_5 w4_6 L4_6 w4_7 L4_7 w4_8 L4_8 w4_9 L4_9 w4_10 L4_10 w4_11 L4_11 w4_12 L4_12 w4_13 L4_13 w4_14 L4_14 w4_15 L4_15 w4_16 L4_16 w4_17 L4_17 w4_18 L4_18 w4_19 L4_19 w4_20 L4_20 w4_21 L4_21 w4_22 L4_22 w4_23 L4_23 w4_24 L4_24 w4_25 L4_25 w4_26 L4_26 w4_27 L4_27 w4_28 L4_28 w4_29 L4_29 w4_30 L4_30 w4_31 L4_31
attribute [simp] body7 w7_0 L7_0 w7_1 L7_1 w7_2 L7_2 w7_3 L7_3 w7_4 L7_4
attribute [simp] body8 w8_0 L8_0 w8_1 L8_1 w8_2 L8_2 w8_3 L8_3
attribute [simp] body10 w10_0 L10_0 w10_1 L10_1 w10_2 L10_2 w10_3 L10_3 w10_4 L10_4 w10_5 L10_5 w10_6 L10_6 w10_7 L10_7 w10_8 L10_8 w10_9 L10_9 w10_10 L10_10
attribute [simp] body11 w11_0 L11_0 w11_1 L11_1
attribute [simp] body12 w12_0 L12_0 w12_1 L12_1 w12_2 L12_2 w12_3 L12_3 w12_4 L12_4 w12_5 L12_5 w12_6 L12_6 w12_7 L12_7
attribute [simp] body13 w13_0 L13_0 w13_1 L13_1 w13_2 L13_2 w13_3 L13_3 w13_4 L13_4 w13_5 L13_5 w13_6 L13_6 w13_7 L13_7
attribute [simp] body14 w14_0 L14_0 w14_1 L14_1
attribute [simp] body15 w15_0 L15_0 w15_1 L15_1 w15_2 L15_2 w15_3 L15_3 w15_4 L15_4 w15_5 L15_5 w15_6 L15_6 w15_7 L15_7 w15_8 L15_8
attribute [simp] body17 w17_0 L17_0 w17_1 L17_1 w17_2 L17_2 w17_3 L17_3 w17_4 L17_4 w17_5 L17_5
attribute [simp] body26 w26_0 L26_0 w26_1 L26_1 w26_2 L26_2 w26_3 L26_3 w26_4 L26_4
attribute [simp] body27 w27_0 L27_0 w27_1 L27_1
attribute [simp] body28 w28_0 L28_0 w28_1 L28_1
attribute [simp] body29 w29_0 L29_0 w29_1 L29_1 w29_2 L29_2 w29_3 L29_3 w29_4 L29_4 w29_5 L29_5 w29_6 L29_6 w29_7 L29_7 w29_8 L29_8 w29_9 L29_9 w29_10 L29_10 w29_11 L29_11 w29_12 L29_12 w29_13 L29_13 w29_14 L29_14 w29_15 L29_15 w29_16 L29_16 w29_17 L29_17
attribute [simp] body30 w30_0 L30_0 w30_1 L30_1 w30_2 L30_2 w30_3 L30_3
attribute [simp] body31 w31_0 L31_0 w31_1 L31_1
attribute [simp] body32 w32_0 L32_0 w32_1 L32_1
attribute [simp] body34 w34_0 L34_0 w34_1 L34_1 w34_2 L34_2 w34_3 L34_3 w34_4 L34_4 w34_5 L34_5 w34_6 L34_6
attribute [simp] body38 w38_0 L38_0 w38_1 L38_1 w38_2 L38_2 w38_3 L38_3 w38_4 L38_4 w38_5 L38_5 w38_6 L38_6 w38_7 L38_7 w38_8 L38_8 w38_9 L38_9 w38_10 L38_10 w38_11 L38_11
attribute [simp] body39 w39_0 L39_0 w39_1 L39_1 w39_2 L39_2 w39_3 L39_3
attribute [simp] body40 w40_0 L40_0 w40_1 L40_1
attribute [simp] body41 w41_0 L41_0 w41_1 L41_1 w41_2 L41_2 w41_3 L41_3
attribute [simp] body42 w42_0 L42_0 w42_1 L42_1 w42_2 L42_2 w42_3 L42_3 w42_4 L42_4 w42_5 L42_5 w42_6 L42_6 w42_7 L42_7
attribute [simp] body43 w43_0 L43_0 w43_1 L43_1
attribute [simp] body45 w45_0 L45_0 w45_1 L45_1 w45_2 L45_2 w45_3 L45_3 w45_4 L45_4 w45_5 L45_5 w45_6 L45_6 w45_7 L45_7 w45_8 L45_8 w45_9 L45_9 w45_10 L45_10 w45_11 L45_11 w45_12 L45_12 w45_13 L45_13 w45_14 L45_14 w45_15 L45_15 w45_16 L45_16 w45_17 L45_17 w45_18 L45_18 w45_19 L45_19 w45_20 L45_20 w45_21 L45_21 w45_22 L45_22 w45_23 L45_23 w45_24 L45_24 w45_25 L45_25 w45_26 L45_26 w45_27 L45_27 w45_28 L45_28 w45_29 L45_29 w45_30 L45_30
attribute [simp] body46 w46_0 L46_0 w46_1 L46_1 w46_2 L46_2
attribute [simp] body47 w47_0 L47_0 w47_1 L47_1 w47_2 L47_2 w47_3 L47_3 w47_4 L47_4 w47_5 L47_5 w47_6 L47_6
attribute [simp] body56 w56_0 L56_0 w56_1 L56_1 w56_2 L56_2 w56_3 L56_3 w56_4 L56_4 w56_5 L56_5 w56_6 L56_6 w56_7 L56_7 w56_8 L56_8 w56_9 L56_9 w56_10 L56_10
attribute [simp] body79 w79_0 L79_0 w79_1 L79_1
attribute [simp] body80 w80_0 L80_0 w80_1 L80_1
attribute [simp] body81 w81_0 L81_0
attribute [simp] body82 w82_0 L82_0 w82_1 L82_1 w82_2 L82_2 w82_3 L82_3 w82_4 L82_4
attribute [simp] body83 w83_0 L83_0
end Go.Proofs.Ytljklfimdanmlaa.gen

