/-
  This text names the regions of the functions that are walked, with the slots that they read and set, and the facts of the types.
  No condition.
-/
import Derived.Test.YtljklfimdanmlaaProg
import Derived.Test.YtljklfimdanmlaaShD
set_option maxRecDepth 100000
set_option linter.unusedSimpArgs false
set_option linter.unusedVariables false
namespace Go.Proofs.Ytljklfimdanmlaa.gen
open Go.Sh
def fns : List FuncId := [6, 7, 8, 10, 11, 12, 13, 14, 15, 17, 26, 27, 28, 29, 30, 31, 32, 34, 38, 39, 40, 41, 42, 43, 45, 46, 47, 56, 79, 80, 81, 82, 83, 16, 33, 44, 18, 19, 20, 21, 22, 23, 24, 25, 35, 36, 37, 9, 48, 49, 50, 51, 52, 53, 54, 57, 58, 59, 60, 61, 62]
noncomputable def TT : FuncId → Option Func := Sh.tabOf Try.prog fns
variable {S : Sums} {m : Mem} {k : List Fr} {E : LEnv} {Q : Post}
/-- a region's stripped operations -/
abbrev Lt (c : Code) := {l : List Oper // (opsOf c).map strip = l}
abbrev Lc (c : Code) := {l : List Oper // (canonOps (opsOf c)).map strip = l}
/-- what a region comes to -/
abbrev Wp (c : Code) (nv : Nat) (C ups cs nd : List Nat) (ds : List (Option Nat)) (l : List Oper) : Prop := ∀ {S : Sums} {m : Mem} {k : List Fr} {E : LEnv} {Q : Post}, W Try.prog TT S nv C c k E m Q ↔ Rg Try.prog TT S nv C ups cs (lgo E nd (lops Try.prog (callw Try.prog TT S) ds l E m)) k E Q
abbrev Wd (c : Code) (nv : Nat) (C ups cs nd : List Nat) (ds : List (Option Nat)) (l : List Oper) (places : List (Nat × List Nat)) : Prop := ∀ {S : Sums} {m : Mem} {k : List Fr} {E : LEnv} {Q : Post}, W Try.prog TT S nv C c k E m Q ↔ Rg Try.prog TT S nv C ups cs (lgo E nd (lloud Try.prog (callw Try.prog TT S) ds l places (lstates Try.prog (callw Try.prog TT S) ds l E m))) k E Q
theorem ag50 : aggOk Try.prog 50 [(3, 0), (3, 1)] = true := by kernel_rfl
theorem ap132 : apOk Try.prog 132 2 16 = true := by kernel_rfl
theorem ap3 : apOk Try.prog 3 1 8 = true := by kernel_rfl
theorem ap41 : apOk Try.prog 41 7 136 = true := by kernel_rfl
theorem ap5 : apOk Try.prog 5 1 1 = true := by kernel_rfl
theorem ap50 : apOk Try.prog 50 2 16 = true := by kernel_rfl
theorem ap64 : apOk Try.prog 64 1 8 = true := by kernel_rfl
theorem ap86 : apOk Try.prog 86 3 40 = true := by kernel_rfl
theorem ap88 : apOk Try.prog 88 4 64 = true := by kernel_rfl
theorem b3 : (Try.prog.info? 3).isSome = true := by kernel_rfl
theorem b41 : (Try.prog.info? 41).isSome = true := by kernel_rfl
theorem b56 : (Try.prog.info? 56).isSome = true := by kernel_rfl
theorem b63 : (Try.prog.info? 63).isSome = true := by kernel_rfl
theorem b71 : (Try.prog.info? 71).isSome = true := by kernel_rfl
theorem bo39 : buildOk Try.prog 39 [.int .i64 0, .int .i64 0, .slice none 0 0, .slice none 0 0, .slice none 0 0] [(0, 1), (1, 1), (2, 1), (3, 1), (4, 1)] = true := by kernel_rfl
theorem bo41 : buildOk Try.prog 41 [.int .i64 0, .int .i64 0, .slice none 0 0, .slice none 0 0, .slice none 0 0, .slice none 0 0, .slice none 0 0] [(0, 5), (5, 1), (6, 1)] = true := by kernel_rfl
theorem bo50 : buildOk Try.prog 50 [.int .i64 0, .int .i64 0] [(0, 1), (1, 1)] = true := by kernel_rfl
theorem bo56 : buildOk Try.prog 56 [.int .i64 0, .slice none 0 0] [(0, 1), (1, 1)] = true := by kernel_rfl
theorem bo63 : buildOk Try.prog 63 [.int .i64 0, .slice none 0 0, .int .u64 0] [(0, 1), (1, 1), (2, 1)] = true := by kernel_rfl
theorem bo71 : buildOk Try.prog 71 [.int .i64 0, .int .i64 0, .slice none 0 0, .slice none 0 0, .slice none 0 0, .slice none 0 0, .slice none 0 0, .int .u64 0] [(0, 7), (7, 1)] = true := by kernel_rfl
theorem bs132 : bsOk Try.prog 132 [.int .i64 0, .int .i64 0] = true := by kernel_rfl
theorem bs3 : bsOk Try.prog 3 [.int .i64 0] = true := by kernel_rfl
theorem bs41 : bsOk Try.prog 41 [.int .i64 0, .int .i64 0, .slice none 0 0, .slice none 0 0, .slice none 0 0, .slice none 0 0, .slice none 0 0] = true := by kernel_rfl
theorem bs5 : bsOk Try.prog 5 [.int .u8 0] = true := by kernel_rfl
theorem bs50 : bsOk Try.prog 50 [.int .i64 0, .int .i64 0] = true := by kernel_rfl
theorem bs64 : bsOk Try.prog 64 [.pointer none] = true := by kernel_rfl
theorem bs86 : bsOk Try.prog 86 [.slice none 0 0, .int .i64 0, .int .i64 0] = true := by kernel_rfl
theorem bs88 : bsOk Try.prog 88 [.int .i64 0, .int .i64 0, .slice none 0 0, .slice none 0 0] = true := by kernel_rfl
theorem fa31_0 : faOk Try.prog 31 0 0 = true := by kernel_rfl
theorem fa31_1 : faOk Try.prog 31 1 1 = true := by kernel_rfl
theorem fa31_2 : faOk Try.prog 31 2 2 = true := by kernel_rfl
theorem fa31_3 : faOk Try.prog 31 3 3 = true := by kernel_rfl
theorem fa31_4 : faOk Try.prog 31 4 4 = true := by kernel_rfl
theorem fa39_0 : faOk Try.prog 39 0 0 = true := by kernel_rfl
theorem fa39_1 : faOk Try.prog 39 1 1 = true := by kernel_rfl
theorem fa39_2 : faOk Try.prog 39 2 2 = true := by kernel_rfl
theorem fa39_3 : faOk Try.prog 39 3 3 = true := by kernel_rfl
theorem fa39_4 : faOk Try.prog 39 4 4 = true := by kernel_rfl
theorem fa41_0 : faOk Try.prog 41 0 0 = true := by kernel_rfl
theorem fa41_1 : faOk Try.prog 41 1 5 = true := by kernel_rfl
theorem fa41_2 : faOk Try.prog 41 2 6 = true := by kernel_rfl
theorem fa50_0 : faOk Try.prog 50 0 0 = true := by kernel_rfl
theorem fa50_1 : faOk Try.prog 50 1 1 = true := by kernel_rfl
theorem fa56_0 : faOk Try.prog 56 0 0 = true := by kernel_rfl
theorem fa56_1 : faOk Try.prog 56 1 1 = true := by kernel_rfl
theorem fa63_0 : faOk Try.prog 63 0 0 = true := by kernel_rfl
theorem fa63_1 : faOk Try.prog 63 1 1 = true := by kernel_rfl
theorem fa63_2 : faOk Try.prog 63 2 2 = true := by kernel_rfl
theorem fa71_0 : faOk Try.prog 71 0 0 = true := by kernel_rfl
theorem fa71_1 : faOk Try.prog 71 1 7 = true := by kernel_rfl
theorem fa86_0 : faOk Try.prog 86 0 0 = true := by kernel_rfl
theorem fa88_2 : faOk Try.prog 88 2 2 = true := by kernel_rfl
theorem fa88_3 : faOk Try.prog 88 3 3 = true := by kernel_rfl
theorem ld29 : ldOk Try.prog 29 = true := by kernel_rfl
theorem ld3 : ldOk Try.prog 3 = true := by kernel_rfl
theorem ld31 : agOk Try.prog 31 5 = true := by kernel_rfl
theorem ld35 : ldOk Try.prog 35 = true := by kernel_rfl
theorem ld36 : ldOk Try.prog 36 = true := by kernel_rfl
theorem ld37 : ldOk Try.prog 37 = true := by kernel_rfl
theorem ld39 : agOk Try.prog 39 5 = true := by kernel_rfl
theorem ld41 : agOk Try.prog 41 7 = true := by kernel_rfl
theorem ld50 : agOk Try.prog 50 2 = true := by kernel_rfl
theorem ld54 : ldOk Try.prog 54 = true := by kernel_rfl
theorem ld60 : ldOk Try.prog 60 = true := by kernel_rfl
theorem ld61 : ldOk Try.prog 61 = true := by kernel_rfl
theorem ld64 : ldOk Try.prog 64 = true := by kernel_rfl
theorem ld84 : ldOk Try.prog 84 = true := by kernel_rfl
theorem ld86 : agOk Try.prog 86 3 = true := by kernel_rfl
theorem ld88 : agOk Try.prog 88 4 = true := by kernel_rfl
theorem ni64 : noIf Try.prog 64 = true := by kernel_rfl
theorem ni66 : noIf Try.prog 66 = true := by kernel_rfl
theorem sz10 : sizeOfT Try.prog 10 = some 1 := by kernel_rfl
theorem sz106 : sizeOfT Try.prog 106 = some 1 := by kernel_rfl
theorem sz108 : sizeOfT Try.prog 108 = some 1 := by kernel_rfl
theorem sz11 : sizeOfT Try.prog 11 = some 1 := by kernel_rfl
theorem sz12 : sizeOfT Try.prog 12 = some 1 := by kernel_rfl
theorem sz123 : sizeOfT Try.prog 123 = some 1 := by kernel_rfl
theorem sz124 : sizeOfT Try.prog 124 = some 1 := by kernel_rfl
theorem sz127 : sizeOfT Try.prog 127 = some 1 := by kernel_rfl
theorem sz128 : sizeOfT Try.prog 128 = some 1 := by kernel_rfl
theorem sz132 : sizeOfT Try.prog 132 = some 2 := by kernel_rfl
theorem sz2 : sizeOfT Try.prog 2 = some 1 := by kernel_rfl
theorem sz21 : sizeOfT Try.prog 21 = some 1 := by kernel_rfl
theorem sz22 : sizeOfT Try.prog 22 = some 1 := by kernel_rfl
theorem sz25 : sizeOfT Try.prog 25 = some 1 := by kernel_rfl
theorem sz29 : sizeOfT Try.prog 29 = some 1 := by kernel_rfl
theorem sz3 : sizeOfT Try.prog 3 = some 1 := by kernel_rfl
theorem sz31 : sizeOfT Try.prog 31 = some 5 := by kernel_rfl
theorem sz32 : sizeOfT Try.prog 32 = some 1 := by kernel_rfl
theorem sz35 : sizeOfT Try.prog 35 = some 1 := by kernel_rfl
theorem sz36 : sizeOfT Try.prog 36 = some 1 := by kernel_rfl
theorem sz37 : sizeOfT Try.prog 37 = some 1 := by kernel_rfl
theorem sz39 : sizeOfT Try.prog 39 = some 5 := by kernel_rfl
theorem sz4 : sizeOfT Try.prog 4 = some 1 := by kernel_rfl
theorem sz41 : sizeOfT Try.prog 41 = some 7 := by kernel_rfl
theorem sz5 : sizeOfT Try.prog 5 = some 1 := by kernel_rfl
theorem sz50 : sizeOfT Try.prog 50 = some 2 := by kernel_rfl
theorem sz54 : sizeOfT Try.prog 54 = some 1 := by kernel_rfl
theorem sz59 : sizeOfT Try.prog 59 = some 1 := by kernel_rfl
theorem sz6 : sizeOfT Try.prog 6 = some 1 := by kernel_rfl
theorem sz60 : sizeOfT Try.prog 60 = some 1 := by kernel_rfl
theorem sz61 : sizeOfT Try.prog 61 = some 1 := by kernel_rfl
theorem sz63 : sizeOfT Try.prog 63 = some 3 := by kernel_rfl
theorem sz64 : sizeOfT Try.prog 64 = some 1 := by kernel_rfl
theorem sz84 : sizeOfT Try.prog 84 = some 1 := by kernel_rfl
theorem sz86 : sizeOfT Try.prog 86 = some 3 := by kernel_rfl
theorem sz88 : sizeOfT Try.prog 88 = some 4 := by kernel_rfl
theorem sz9 : sizeOfT Try.prog 9 = some 1 := by kernel_rfl
theorem sz96 : sizeOfT Try.prog 96 = some 1 := by kernel_rfl
theorem sz98 : sizeOfT Try.prog 98 = some 1 := by kernel_rfl
theorem u10 : Try.prog.underlying 10 = some .string := by kernel_rfl
theorem u106 : Try.prog.underlying 106 = some (.int .u32) := by kernel_rfl
theorem u108 : Try.prog.underlying 108 = some (.int .u64) := by kernel_rfl
theorem u11 : Try.prog.underlying 11 = some .string := by kernel_rfl
theorem u12 : Try.prog.underlying 12 = some (.int .u64) := by kernel_rfl
theorem u123 : Try.prog.underlying 123 = some (.int .u8) := by kernel_rfl
theorem u124 : Try.prog.underlying 124 = some (.int .u8) := by kernel_rfl
theorem u127 : Try.prog.underlying 127 = some (.int .i32) := by kernel_rfl
theorem u128 : Try.prog.underlying 128 = some (.int .i32) := by kernel_rfl
theorem u2 : Try.prog.underlying 2 = some (.int .i64) := by kernel_rfl
theorem u21 : Try.prog.underlying 21 = some (.int .i32) := by kernel_rfl
theorem u22 : Try.prog.underlying 22 = some (.slice 31) := by kernel_rfl
theorem u24 : Try.prog.underlying 24 = some (.pointer 63) := by kernel_rfl
theorem u25 : Try.prog.underlying 25 = some (.int .i64) := by kernel_rfl
theorem u29 : Try.prog.underlying 29 = some (.slice 3) := by kernel_rfl
theorem u3 : Try.prog.underlying 3 = some (.int .i64) := by kernel_rfl
theorem u32 : Try.prog.underlying 32 = some (.slice 50) := by kernel_rfl
theorem u35 : Try.prog.underlying 35 = some (.slice 5) := by kernel_rfl
theorem u36 : Try.prog.underlying 36 = some (.slice 86) := by kernel_rfl
theorem u37 : Try.prog.underlying 37 = some (.slice 132) := by kernel_rfl
theorem u4 : Try.prog.underlying 4 = some .bool := by kernel_rfl
theorem u5 : Try.prog.underlying 5 = some (.int .u8) := by kernel_rfl
theorem u54 : Try.prog.underlying 54 = some (.slice 41) := by kernel_rfl
theorem u59 : Try.prog.underlying 59 = some (.slice 64) := by kernel_rfl
theorem u6 : Try.prog.underlying 6 = some (.int .u8) := by kernel_rfl
theorem u60 : Try.prog.underlying 60 = some (.slice 64) := by kernel_rfl
theorem u61 : Try.prog.underlying 61 = some (.int .u64) := by kernel_rfl
theorem u84 : Try.prog.underlying 84 = some (.slice 88) := by kernel_rfl
theorem u9 : Try.prog.underlying 9 = some .string := by kernel_rfl
theorem u96 : Try.prog.underlying 96 = some (.int .u64) := by kernel_rfl
theorem u98 : Try.prog.underlying 98 = some (.int .i64) := by kernel_rfl
theorem zo31 : zeroOk Try.prog 31 [.int .i64 0, .int .i64 0, .int .i64 0, .int .i64 0, .slice none 0 0] = true := by kernel_rfl
theorem zo39 : zeroOk Try.prog 39 [.int .i64 0, .int .i64 0, .slice none 0 0, .slice none 0 0, .slice none 0 0] = true := by kernel_rfl
theorem zo41 : zeroOk Try.prog 41 [.int .i64 0, .int .i64 0, .slice none 0 0, .slice none 0 0, .slice none 0 0, .slice none 0 0, .slice none 0 0] = true := by kernel_rfl
theorem zo50 : zeroOk Try.prog 50 [.int .i64 0, .int .i64 0] = true := by kernel_rfl
theorem zo86 : zeroOk Try.prog 86 [.slice none 0 0, .int .i64 0, .int .i64 0] = true := by kernel_rfl
theorem zo88 : zeroOk Try.prog 88 [.int .i64 0, .int .i64 0, .slice none 0 0, .slice none 0 0] = true := by kernel_rfl

/- turnstonelaw27.CachePlays -/
noncomputable def c6 : Code := bodyOf Try.f6
noncomputable def r6_0 : Code := Code.sub [0] c6
noncomputable def r6_1 : Code := Code.sub [1, 0] c6
noncomputable def r6_2 : Code := Code.sub [1, 1, 0] c6
noncomputable def r6_3 : Code := Code.sub [1, 1, 1, 0, 0] c6
noncomputable def r6_4 : Code := Code.sub [1, 1, 1, 0, 1, 0, 0] c6
noncomputable def r6_5 : Code := Code.sub [1, 1, 1, 1, 0] c6
noncomputable def r6_6 : Code := Code.sub [1, 1, 1, 1, 1, 0, 0] c6
noncomputable def r6_7 : Code := Code.sub [1, 1, 1, 1, 1, 0, 1, 0, 0, 0, 0] c6
noncomputable def r6_8 : Code := Code.sub [1, 1, 1, 1, 1, 0, 1, 0, 0, 1, 0, 0, 0] c6
noncomputable def r6_9 : Code := Code.sub [1, 1, 1, 1, 1, 0, 1, 0, 0, 1, 0, 0, 1, 0] c6
noncomputable def r6_10 : Code := Code.sub [1, 1, 1, 1, 1, 0, 1, 0, 0, 1, 0, 0, 1, 1, 0] c6
noncomputable def r6_11 : Code := Code.sub [1, 1, 1, 1, 1, 0, 1, 0, 0, 1, 0, 0, 1, 1, 1, 0] c6
noncomputable def r6_12 : Code := Code.sub [1, 1, 1, 1, 1, 0, 1, 0, 0, 1, 0, 0, 1, 1, 1, 1, 0, 0] c6
noncomputable def r6_13 : Code := Code.sub [1, 1, 1, 1, 1, 0, 1, 0, 0, 1, 0, 0, 1, 1, 1, 1, 0, 1, 0, 0, 0] c6
noncomputable def r6_14 : Code := Code.sub [1, 1, 1, 1, 1, 0, 1, 0, 0, 1, 0, 0, 1, 1, 1, 1, 0, 1, 0, 0, 1, 1] c6
noncomputable def r6_15 : Code := Code.sub [1, 1, 1, 1, 1, 0, 1, 0, 0, 1, 0, 0, 1, 1, 1, 1, 0, 1, 0, 1, 0, 0] c6
noncomputable def r6_16 : Code := Code.sub [1, 1, 1, 1, 1, 0, 1, 0, 0, 1, 0, 0, 1, 1, 1, 1, 0, 1, 0, 1, 0, 1, 0] c6
noncomputable def r6_17 : Code := Code.sub [1, 1, 1, 1, 1, 0, 1, 0, 0, 1, 0, 0, 1, 1, 1, 1, 0, 1, 0, 1, 0, 1, 1] c6
noncomputable def r6_18 : Code := Code.sub [1, 1, 1, 1, 1, 0, 1, 0, 0, 1, 0, 0, 1, 1, 1, 1, 0, 1, 0, 1, 1, 0] c6
noncomputable def r6_19 : Code := Code.sub [1, 1, 1, 1, 1, 0, 1, 0, 0, 1, 0, 0, 1, 1, 1, 1, 0, 1, 0, 1, 1, 1, 0] c6
noncomputable def r6_20 : Code := Code.sub [1, 1, 1, 1, 1, 0, 1, 0, 0, 1, 0, 0, 1, 1, 1, 1, 0, 1, 0, 1, 1, 1, 1, 0] c6
noncomputable def r6_21 : Code := Code.sub [1, 1, 1, 1, 1, 0, 1, 0, 0, 1, 0, 0, 1, 1, 1, 1, 0, 1, 0, 1, 1, 1, 1, 1, 0] c6
noncomputable def r6_22 : Code := Code.sub [1, 1, 1, 1, 1, 0, 1, 0, 0, 1, 0, 0, 1, 1, 1, 1, 0, 1, 0, 1, 1, 1, 1, 1, 1, 0] c6
noncomputable def r6_23 : Code := Code.sub [1, 1, 1, 1, 1, 0, 1, 0, 0, 1, 0, 0, 1, 1, 1, 1, 0, 1, 0, 1, 1, 1, 1, 1, 1, 1, 0, 0] c6
noncomputable def r6_24 : Code := Code.sub [1, 1, 1, 1, 1, 0, 1, 0, 0, 1, 0, 0, 1, 1, 1, 1, 0, 1, 0, 1, 1, 1, 1, 1, 1, 1, 0, 1, 0, 0, 0, 0] c6
noncomputable def r6_25 : Code := Code.sub [1, 1, 1, 1, 1, 0, 1, 0, 0, 1, 0, 0, 1, 1, 1, 1, 0, 1, 0, 1, 1, 1, 1, 1, 1, 1, 0, 1, 0, 0, 1, 0, 0] c6
noncomputable def r6_26 : Code := Code.sub [1, 1, 1, 1, 1, 0, 1, 0, 0, 1, 0, 0, 1, 1, 1, 1, 0, 1, 0, 1, 1, 1, 1, 1, 1, 1, 0, 1, 0, 0, 1, 1] c6
noncomputable def r6_27 : Code := Code.sub [1, 1, 1, 1, 1, 0, 1, 0, 0, 1, 0, 0, 1, 1, 1, 1, 0, 1, 0, 1, 1, 1, 1, 1, 1, 1, 1, 0] c6
noncomputable def r6_28 : Code := Code.sub [1, 1, 1, 1, 1, 0, 1, 0, 0, 1, 0, 0, 1, 1, 1, 1, 0, 1, 0, 1, 1, 1, 1, 1, 1, 1, 1, 1, 0] c6
noncomputable def r6_29 : Code := Code.sub [1, 1, 1, 1, 1, 0, 1, 0, 0, 1, 0, 0, 1, 1, 1, 1, 0, 1, 0, 1, 1, 1, 1, 1, 1, 1, 1, 1, 1, 0] c6
noncomputable def r6_30 : Code := Code.sub [1, 1, 1, 1, 1, 0, 1, 0, 0, 1, 0, 0, 1, 1, 1, 1, 0, 1, 0, 1, 1, 1, 1, 1, 1, 1, 1, 1, 1, 1] c6
noncomputable def r6_31 : Code := Code.sub [1, 1, 1, 1, 1, 0, 1, 0, 0, 1, 0, 0, 1, 1, 1, 1, 1, 0] c6
noncomputable def r6_32 : Code := Code.sub [1, 1, 1, 1, 1, 0, 1, 0, 0, 1, 0, 0, 1, 1, 1, 1, 1, 1, 0, 0] c6
noncomputable def r6_33 : Code := Code.sub [1, 1, 1, 1, 1, 0, 1, 0, 0, 1, 1] c6
noncomputable def r6_34 : Code := Code.sub [1, 1, 1, 1, 1, 1, 0] c6
theorem body6 : c6 = (.seq r6_0 (.seq r6_1 (.seq r6_2 (.seq (.seq r6_3 (.cond (.tmp 40) (.seq r6_4 .ret) .skip)) (.seq r6_5 (.seq (.seq r6_6 (.block 0 (.loop (.seq (.seq r6_7 (.cond (.tmp 51) .skip (.exit 0))) (.seq (.block 1 (.seq r6_8 (.seq r6_9 (.seq r6_10 (.seq r6_11 (.seq (.seq r6_12 (.block 2 (.seq (.seq r6_13 (.cond (.tmp 120) .skip r6_14)) (.cond (.tmp 120) (.seq r6_15 (.seq r6_16 r6_17)) (.seq r6_18 (.cond (.tmp 178) r6_19 (.seq r6_20 (.cond (.tmp 189) r6_21 (.seq r6_22 (.seq (.seq r6_23 (.block 3 (.loop (.seq (.seq r6_24 (.cond (.tmp 75) .skip (.exit 3))) (.seq (.block 4 r6_25) r6_26))))) (.seq r6_27 (.seq r6_28 (.seq r6_29 r6_30))))))))))))) (.seq r6_31 (.cond (.tmp 226) (.seq r6_32 .ret) .skip)))))))) r6_33))))) (.seq r6_34 .ret))))))) := by kernel_rfl
noncomputable def L6_0 : Lt r6_0 := by refine ⟨?l, ?h⟩; case h => simp only [r6_0, c6, bodyOf, Try.f6, Code.sub, opsOf, List.map_cons, List.map_nil, strip]; rfl
theorem w6_0 : Wp r6_0 67 [120, 120, 178, 189, 75, 226] [4] [] [] [some 4] (L6_0).1 := w_plain (by kernel_rfl) (L6_0).2
noncomputable def L6_1 : Lt r6_1 := by refine ⟨?l, ?h⟩; case h => simp only [r6_1, c6, bodyOf, Try.f6, Code.sub, opsOf, List.map_cons, List.map_nil, strip]; rfl
theorem w6_1 : Wp r6_1 67 [120, 120, 178, 189, 75, 226] [24, 25, 0] [] [0] [some 24, some 25, some 0] (L6_1).1 := w_plain (by kernel_rfl) (L6_1).2
noncomputable def L6_2 : Lt r6_2 := by refine ⟨?l, ?h⟩; case h => simp only [r6_2, c6, bodyOf, Try.f6, Code.sub, opsOf, List.map_cons, List.map_nil, strip]; rfl
theorem w6_2 : Wp r6_2 67 [120, 120, 178, 189, 75, 226] [27, 28, 26, 29, 30, 5, 6] [] [0] [some 27, some 28, some 26, some 29, some 30, some 5, some 6] (L6_2).1 := w_plain (by kernel_rfl) (L6_2).2
noncomputable def L6_3 : Lt r6_3 := by refine ⟨?l, ?h⟩; case h => simp only [r6_3, c6, bodyOf, Try.f6, Code.sub, opsOf, List.map_cons, List.map_nil, strip]; rfl
theorem w6_3 : Wp r6_3 67 [120, 120, 178, 189, 75, 226] [31, 32, 33, 34, 35, 36, 37, 38, 39, 40] [] [6, 5] [some 31, some 32, some 33, some 34, some 35, some 36, some 37, some 38, some 39, some 40] (L6_3).1 := w_plain (by kernel_rfl) (L6_3).2
noncomputable def L6_4 : Lt r6_4 := by refine ⟨?l, ?h⟩; case h => simp only [r6_4, c6, bodyOf, Try.f6, Code.sub, opsOf, List.map_cons, List.map_nil, strip]; rfl
theorem w6_4 : Wp r6_4 67 [120, 120, 178, 189, 75, 226] [4] [] [] [some 4] (L6_4).1 := w_plain (by kernel_rfl) (L6_4).2
noncomputable def L6_5 : Lt r6_5 := by refine ⟨?l, ?h⟩; case h => simp only [r6_5, c6, bodyOf, Try.f6, Code.sub, opsOf, List.map_cons, List.map_nil, strip]; rfl
theorem w6_5 : Wp r6_5 67 [120, 120, 178, 189, 75, 226] [41, 42, 43, 7] [] [0] [some 41, some 42, some 43, some 7] (L6_5).1 := w_plain (by kernel_rfl) (L6_5).2
noncomputable def L6_6 : Lt r6_6 := by refine ⟨?l, ?h⟩; case h => simp only [r6_6, c6, bodyOf, Try.f6, Code.sub, opsOf, List.map_cons, List.map_nil, strip]; rfl
theorem w6_6 : Wp r6_6 67 [120, 120, 178, 189, 75, 226] [8] [] [] [some 8] (L6_6).1 := w_plain (by kernel_rfl) (L6_6).2
noncomputable def L6_7 : Lt r6_7 := by refine ⟨?l, ?h⟩; case h => simp only [r6_7, c6, bodyOf, Try.f6, Code.sub, opsOf, List.map_cons, List.map_nil, strip]; rfl
theorem w6_7 : Wp r6_7 67 [120, 120, 178, 189, 75, 226] [44, 45, 46, 47, 48, 49, 50, 51] [] [1, 8] [some 44, some 45, some 46, some 47, some 48, some 49, some 50, some 51] (L6_7).1 := w_plain (by kernel_rfl) (L6_7).2
noncomputable def L6_8 : Lt r6_8 := by refine ⟨?l, ?h⟩; case h => simp only [r6_8, c6, bodyOf, Try.f6, Code.sub, opsOf, List.map_cons, List.map_nil, strip]; rfl
theorem w6_8 : Wp r6_8 67 [120, 120, 178, 189, 75, 226] [54, 55, 56, 57, 9] [] [1, 8] [some 54, some 55, some 56, some 57, some 9, none] (L6_8).1 := w_plain (by kernel_rfl) (L6_8).2
noncomputable def L6_9 : Lt r6_9 := by refine ⟨?l, ?h⟩; case h => simp only [r6_9, c6, bodyOf, Try.f6, Code.sub, opsOf, List.map_cons, List.map_nil, strip]; rfl
theorem w6_9 : Wp r6_9 67 [120, 120, 178, 189, 75, 226] [58, 59, 60, 10] [] [9] [some 58, some 59, some 60, some 10] (L6_9).1 := w_plain (by kernel_rfl) (L6_9).2
noncomputable def L6_10 : Lt r6_10 := by refine ⟨?l, ?h⟩; case h => simp only [r6_10, c6, bodyOf, Try.f6, Code.sub, opsOf, List.map_cons, List.map_nil, strip]; rfl
theorem w6_10 : Wp r6_10 67 [120, 120, 178, 189, 75, 226] [61, 62, 63, 11] [] [9] [some 61, some 62, some 63, some 11] (L6_10).1 := w_plain (by kernel_rfl) (L6_10).2
noncomputable def L6_11 : Lt r6_11 := by refine ⟨?l, ?h⟩; case h => simp only [r6_11, c6, bodyOf, Try.f6, Code.sub, opsOf, List.map_cons, List.map_nil, strip]; rfl
theorem w6_11 : Wp r6_11 67 [120, 120, 178, 189, 75, 226] [12] [] [] [some 12] (L6_11).1 := w_plain (by kernel_rfl) (L6_11).2
noncomputable def L6_12 : Lt r6_12 := by refine ⟨?l, ?h⟩; case h => simp only [r6_12, c6, bodyOf, Try.f6, Code.sub, opsOf, List.map_cons, List.map_nil, strip]; rfl
theorem w6_12 : Wp r6_12 67 [120, 120, 178, 189, 75, 226] [64, 65, 66] [] [9] [some 64, some 65, some 66] (L6_12).1 := w_plain (by kernel_rfl) (L6_12).2
noncomputable def L6_13 : Lt r6_13 := by refine ⟨?l, ?h⟩; case h => simp only [r6_13, c6, bodyOf, Try.f6, Code.sub, opsOf, List.map_cons, List.map_nil, strip]; rfl
theorem w6_13 : Wp r6_13 67 [120, 120, 178, 189, 75, 226] [] [120] [66] [some 121, some 120] (L6_13).1 := w_plain (by kernel_rfl) (L6_13).2
noncomputable def L6_14 : Lt r6_14 := by refine ⟨?l, ?h⟩; case h => simp only [r6_14, c6, bodyOf, Try.f6, Code.sub, opsOf, List.map_cons, List.map_nil, strip]; rfl
theorem w6_14 : Wp r6_14 67 [120, 120, 178, 189, 75, 226] [] [120] [66] [some 122, some 120] (L6_14).1 := w_plain (by kernel_rfl) (L6_14).2
noncomputable def L6_15 : Lt r6_15 := by refine ⟨?l, ?h⟩; case h => simp only [r6_15, c6, bodyOf, Try.f6, Code.sub, opsOf, List.map_cons, List.map_nil, strip]; rfl
theorem w6_15 : Wp r6_15 67 [120, 120, 178, 189, 75, 226] [13, 14] [] [5, 10, 11] [some 124, some 125, some 126, some 127, some 123, some 128, some 129, some 13, none, some 14] (L6_15).1 := w_plain (by kernel_rfl) (L6_15).2
noncomputable def L6_16 : Lt r6_16 := by refine ⟨?l, ?h⟩; case h => simp only [r6_16, c6, bodyOf, Try.f6, Code.sub, opsOf, List.map_cons, List.map_nil, strip]; rfl
theorem w6_16 : Wp r6_16 67 [120, 120, 178, 189, 75, 226] [15, 16] [] [7, 10, 11] [some 131, some 132, some 133, some 134, some 130, some 135, some 136, some 15, none, some 16] (L6_16).1 := w_plain (by kernel_rfl) (L6_16).2
noncomputable def L6_17 : Lt r6_17 := by refine ⟨?l, ?h⟩; case h => simp only [r6_17, c6, bodyOf, Try.f6, Code.sub, opsOf, List.map_cons, List.map_nil, strip]; rfl
theorem w6_17 : Wp r6_17 67 [120, 120, 178, 189, 75, 226] [12] [] [14, 16, 13, 15] [some 137, some 138, some 139, some 140, some 141, some 142, some 143, some 144, some 145, some 146, some 147, some 148, some 149, some 150, some 151, some 152, some 153, some 154, some 155, some 156, some 157, some 158, some 159, some 160, some 161, some 162, some 163, some 164, some 165, some 166, some 167, some 168, some 169, some 170, some 171, some 172, some 173, some 174, some 175, some 176, some 177, some 12] (L6_17).1 := w_plain (by kernel_rfl) (L6_17).2
noncomputable def L6_18 : Lt r6_18 := by refine ⟨?l, ?h⟩; case h => simp only [r6_18, c6, bodyOf, Try.f6, Code.sub, opsOf, List.map_cons, List.map_nil, strip]; rfl
theorem w6_18 : Wp r6_18 67 [120, 120, 178, 189, 75, 226] [] [178] [66] [some 179, some 178] (L6_18).1 := w_plain (by kernel_rfl) (L6_18).2
noncomputable def L6_19 : Lt r6_19 := by refine ⟨?l, ?h⟩; case h => simp only [r6_19, c6, bodyOf, Try.f6, Code.sub, opsOf, List.map_cons, List.map_nil, strip]; rfl
theorem w6_19 : Wp r6_19 67 [120, 120, 178, 189, 75, 226] [12] [] [5, 7, 10, 11] [some 180, some 181, some 182, some 183, some 184, some 185, some 186, some 187, some 188, some 12] (L6_19).1 := w_plain (by kernel_rfl) (L6_19).2
noncomputable def L6_20 : Lt r6_20 := by refine ⟨?l, ?h⟩; case h => simp only [r6_20, c6, bodyOf, Try.f6, Code.sub, opsOf, List.map_cons, List.map_nil, strip]; rfl
theorem w6_20 : Wp r6_20 67 [120, 120, 178, 189, 75, 226] [] [189] [66] [some 190, some 189] (L6_20).1 := w_plain (by kernel_rfl) (L6_20).2
noncomputable def L6_21 : Lt r6_21 := by refine ⟨?l, ?h⟩; case h => simp only [r6_21, c6, bodyOf, Try.f6, Code.sub, opsOf, List.map_cons, List.map_nil, strip]; rfl
theorem w6_21 : Wp r6_21 67 [120, 120, 178, 189, 75, 226] [12] [] [5, 7, 10] [some 191, some 192, some 193, some 194, some 195, some 196, some 197, some 12] (L6_21).1 := w_plain (by kernel_rfl) (L6_21).2
noncomputable def L6_22 : Lt r6_22 := by refine ⟨?l, ?h⟩; case h => simp only [r6_22, c6, bodyOf, Try.f6, Code.sub, opsOf, List.map_cons, List.map_nil, strip]; rfl
theorem w6_22 : Wp r6_22 67 [120, 120, 178, 189, 75, 226] [17] [] [] [some 17] (L6_22).1 := w_plain (by kernel_rfl) (L6_22).2
noncomputable def L6_23 : Lt r6_23 := by refine ⟨?l, ?h⟩; case h => simp only [r6_23, c6, bodyOf, Try.f6, Code.sub, opsOf, List.map_cons, List.map_nil, strip]; rfl
theorem w6_23 : Wp r6_23 67 [120, 120, 178, 189, 75, 226] [18] [] [] [some 18] (L6_23).1 := w_plain (by kernel_rfl) (L6_23).2
noncomputable def L6_24 : Lt r6_24 := by refine ⟨?l, ?h⟩; case h => simp only [r6_24, c6, bodyOf, Try.f6, Code.sub, opsOf, List.map_cons, List.map_nil, strip]; rfl
theorem w6_24 : Wp r6_24 67 [120, 120, 178, 189, 75, 226] [] [75] [9, 18] [some 67, some 68, some 69, some 70, some 71, some 72, some 73, some 74, some 75] (L6_24).1 := w_plain (by kernel_rfl) (L6_24).2
noncomputable def L6_25 : Lt r6_25 := by refine ⟨?l, ?h⟩; case h => simp only [r6_25, c6, bodyOf, Try.f6, Code.sub, opsOf, List.map_cons, List.map_nil, strip]; rfl
theorem w6_25 : Wp r6_25 67 [120, 120, 178, 189, 75, 226] [17] [] [17, 9, 18] [some 78, some 79, some 80, some 81, some 82, some 83, some 84, some 85, some 86, some 17] (L6_25).1 := w_plain (by kernel_rfl) (L6_25).2
noncomputable def L6_26 : Lt r6_26 := by refine ⟨?l, ?h⟩; case h => simp only [r6_26, c6, bodyOf, Try.f6, Code.sub, opsOf, List.map_cons, List.map_nil, strip]; rfl
theorem w6_26 : Wp r6_26 67 [120, 120, 178, 189, 75, 226] [18] [] [18] [some 76, some 77, some 18] (L6_26).1 := w_plain (by kernel_rfl) (L6_26).2
noncomputable def L6_27 : Lt r6_27 := by refine ⟨?l, ?h⟩; case h => simp only [r6_27, c6, bodyOf, Try.f6, Code.sub, opsOf, List.map_cons, List.map_nil, strip]; rfl
theorem w6_27 : Wp r6_27 67 [120, 120, 178, 189, 75, 226] [19] [] [10, 11, 9, 17] [some 87, some 88, some 89, some 90, some 91, some 92, some 93, some 19, none] (L6_27).1 := w_plain (by kernel_rfl) (L6_27).2
noncomputable def L6_28 : Lt r6_28 := by refine ⟨?l, ?h⟩; case h => simp only [r6_28, c6, bodyOf, Try.f6, Code.sub, opsOf, List.map_cons, List.map_nil, strip]; rfl
theorem w6_28 : Wp r6_28 67 [120, 120, 178, 189, 75, 226] [20, 21] [] [5, 19] [some 95, some 96, some 97, some 94, some 98, some 99, some 20, some 21] (L6_28).1 := w_plain (by kernel_rfl) (L6_28).2
noncomputable def L6_29 : Lt r6_29 := by refine ⟨?l, ?h⟩; case h => simp only [r6_29, c6, bodyOf, Try.f6, Code.sub, opsOf, List.map_cons, List.map_nil, strip]; rfl
theorem w6_29 : Wp r6_29 67 [120, 120, 178, 189, 75, 226] [22, 23] [] [7, 10, 11, 9, 17] [some 101, some 102, some 103, some 104, some 105, some 106, some 107, some 108, some 109, some 100, some 110, some 111, some 22, some 23] (L6_29).1 := w_plain (by kernel_rfl) (L6_29).2
noncomputable def L6_30 : Lt r6_30 := by refine ⟨?l, ?h⟩; case h => simp only [r6_30, c6, bodyOf, Try.f6, Code.sub, opsOf, List.map_cons, List.map_nil, strip]; rfl
theorem w6_30 : Wp r6_30 67 [120, 120, 178, 189, 75, 226] [12] [] [21, 23, 20, 22] [some 112, some 113, some 114, some 115, some 116, some 117, some 118, some 119, some 12] (L6_30).1 := w_plain (by kernel_rfl) (L6_30).2
noncomputable def L6_31 : Lt r6_31 := by refine ⟨?l, ?h⟩; case h => simp only [r6_31, c6, bodyOf, Try.f6, Code.sub, opsOf, List.map_cons, List.map_nil, strip]; rfl
theorem w6_31 : Wp r6_31 67 [120, 120, 178, 189, 75, 226] [] [226] [12, 5, 7, 10, 11] [some 198, some 199, some 200, some 201, some 202, some 203, some 204, some 205, some 206, some 207, some 208, some 209, some 210, some 211, some 212, some 213, some 214, some 215, some 216, some 217, some 218, some 219, some 220, some 221, some 222, some 223, some 224, some 225, some 226] (L6_31).1 := w_plain (by kernel_rfl) (L6_31).2
noncomputable def L6_32 : Lt r6_32 := by refine ⟨?l, ?h⟩; case h => simp only [r6_32, c6, bodyOf, Try.f6, Code.sub, opsOf, List.map_cons, List.map_nil, strip]; rfl
theorem w6_32 : Wp r6_32 67 [120, 120, 178, 189, 75, 226] [4] [] [] [some 4] (L6_32).1 := w_plain (by kernel_rfl) (L6_32).2
noncomputable def L6_33 : Lt r6_33 := by refine ⟨?l, ?h⟩; case h => simp only [r6_33, c6, bodyOf, Try.f6, Code.sub, opsOf, List.map_cons, List.map_nil, strip]; rfl
theorem w6_33 : Wp r6_33 67 [120, 120, 178, 189, 75, 226] [52, 53, 8] [] [8] [some 52, some 53, some 8] (L6_33).1 := w_plain (by kernel_rfl) (L6_33).2
noncomputable def L6_34 : Lt r6_34 := by refine ⟨?l, ?h⟩; case h => simp only [r6_34, c6, bodyOf, Try.f6, Code.sub, opsOf, List.map_cons, List.map_nil, strip]; rfl
theorem w6_34 : Wp r6_34 67 [120, 120, 178, 189, 75, 226] [4] [] [] [some 4] (L6_34).1 := w_plain (by kernel_rfl) (L6_34).2
theorem k6 : FnIs TT 6 c6 [.tmp 4] 2 := ⟨Try.f6, by kernel_rfl, by simp only [Try.f6, c6, bodyOf], by kernel_rfl, of_decide_eq_true (by kernel_rfl)⟩

/- turnstonehand.Pick -/
noncomputable def c7 : Code := bodyOf Try.f7
noncomputable def r7_0 : Code := Code.sub [0] c7
noncomputable def r7_1 : Code := Code.sub [1, 0] c7
noncomputable def r7_2 : Code := Code.sub [1, 1, 0, 0] c7
noncomputable def r7_3 : Code := Code.sub [1, 1, 0, 1, 0] c7
noncomputable def r7_4 : Code := Code.sub [1, 1, 1, 0] c7
theorem body7 : c7 = (.seq r7_0 (.seq r7_1 (.seq (.seq r7_2 (.cond (.tmp 9) r7_3 .skip)) (.seq r7_4 .ret)))) := by kernel_rfl
noncomputable def L7_0 : Lt r7_0 := by refine ⟨?l, ?h⟩; case h => simp only [r7_0, c7, bodyOf, Try.f7, Code.sub, opsOf, List.map_cons, List.map_nil, strip]; rfl
theorem w7_0 : Wp r7_0 5 [9] [4] [] [] [some 4] (L7_0).1 := w_plain (by kernel_rfl) (L7_0).2
noncomputable def L7_1 : Lt r7_1 := by refine ⟨?l, ?h⟩; case h => simp only [r7_1, c7, bodyOf, Try.f7, Code.sub, opsOf, List.map_cons, List.map_nil, strip]; rfl
theorem w7_1 : Wp r7_1 5 [9] [0] [] [0, 1] [some 5, some 6, some 7, some 0] (L7_1).1 := w_plain (by kernel_rfl) (L7_1).2
noncomputable def L7_2 : Lt r7_2 := by refine ⟨?l, ?h⟩; case h => simp only [r7_2, c7, bodyOf, Try.f7, Code.sub, opsOf, List.map_cons, List.map_nil, strip]; rfl
theorem w7_2 : Wp r7_2 5 [9] [] [9] [0] [some 8, some 9] (L7_2).1 := w_plain (by kernel_rfl) (L7_2).2
noncomputable def L7_3 : Lt r7_3 := by refine ⟨?l, ?h⟩; case h => simp only [r7_3, c7, bodyOf, Try.f7, Code.sub, opsOf, List.map_cons, List.map_nil, strip]; rfl
theorem w7_3 : Wp r7_3 5 [9] [0] [] [0, 1] [some 10, some 11, some 12, some 0] (L7_3).1 := w_plain (by kernel_rfl) (L7_3).2
noncomputable def L7_4 : Lt r7_4 := by refine ⟨?l, ?h⟩; case h => simp only [r7_4, c7, bodyOf, Try.f7, Code.sub, opsOf, List.map_cons, List.map_nil, strip]; rfl
theorem w7_4 : Wp r7_4 5 [9] [4] [] [0] [some 13, some 4] (L7_4).1 := w_plain (by kernel_rfl) (L7_4).2
theorem k7 : FnIs TT 7 c7 [.tmp 4] 2 := ⟨Try.f7, by kernel_rfl, by simp only [Try.f7, c7, bodyOf], by kernel_rfl, of_decide_eq_true (by kernel_rfl)⟩

/- cache.New -/
noncomputable def c8 : Code := bodyOf Try.f8
noncomputable def r8_0 : Code := Code.sub [0] c8
noncomputable def r8_1 : Code := Code.sub [1, 0, 0] c8
noncomputable def r8_2 : Code := Code.sub [1, 0, 1, 0, 0] c8
noncomputable def r8_3 : Code := Code.sub [1, 1, 0] c8
theorem body8 : c8 = (.seq r8_0 (.seq (.seq r8_1 (.cond (.tmp 9) (.seq r8_2 .ret) .skip)) (.seq r8_3 .ret))) := by kernel_rfl
noncomputable def L8_0 : Lt r8_0 := by refine ⟨?l, ?h⟩; case h => simp only [r8_0, c8, bodyOf, Try.f8, Code.sub, opsOf, List.map_cons, List.map_nil, strip]; rfl
theorem w8_0 : Wp r8_0 4 [9] [2, 3] [] [] [some 2, some 3] (L8_0).1 := w_plain (by kernel_rfl) (L8_0).2
noncomputable def L8_1 : Lt r8_1 := by refine ⟨?l, ?h⟩; case h => simp only [r8_1, c8, bodyOf, Try.f8, Code.sub, opsOf, List.map_cons, List.map_nil, strip]; rfl
theorem w8_1 : Wp r8_1 4 [9] [] [9] [0] [some 4, some 5, some 6, some 7, some 8, some 9] (L8_1).1 := w_plain (by kernel_rfl) (L8_1).2
noncomputable def L8_2 : Lt r8_2 := by refine ⟨?l, ?h⟩; case h => simp only [r8_2, c8, bodyOf, Try.f8, Code.sub, opsOf, List.map_cons, List.map_nil, strip]; rfl
theorem w8_2 : Wp r8_2 4 [9] [2, 3] [] [] [some 2, some 3] (L8_2).1 := w_plain (by kernel_rfl) (L8_2).2
noncomputable def L8_3 : Lt r8_3 := by refine ⟨?l, ?h⟩; case h => simp only [r8_3, c8, bodyOf, Try.f8, Code.sub, opsOf, List.map_cons, List.map_nil, strip]; rfl
theorem w8_3 : Wp r8_3 4 [9] [2, 3] [] [0] [some 10, some 11, some 12, some 2, some 3] (L8_3).1 := w_plain (by kernel_rfl) (L8_3).2
theorem k8 : FnIs TT 8 c8 [.tmp 2, .tmp 3] 1 := ⟨Try.f8, by kernel_rfl, by simp only [Try.f8, c8, bodyOf], by kernel_rfl, of_decide_eq_true (by kernel_rfl)⟩

/- (*cache.Cache).Put -/
noncomputable def c10 : Code := bodyOf Try.f10
noncomputable def r10_0 : Code := Code.sub [0] c10
noncomputable def r10_1 : Code := Code.sub [1, 0] c10
noncomputable def r10_2 : Code := Code.sub [1, 1, 0, 0] c10
noncomputable def r10_3 : Code := Code.sub [1, 1, 0, 1, 0, 0] c10
noncomputable def r10_4 : Code := Code.sub [1, 1, 1, 0] c10
noncomputable def r10_5 : Code := Code.sub [1, 1, 1, 1, 0] c10
noncomputable def r10_6 : Code := Code.sub [1, 1, 1, 1, 1, 0, 0, 0, 0, 0] c10
noncomputable def r10_7 : Code := Code.sub [1, 1, 1, 1, 1, 0, 0, 0, 1, 0] c10
noncomputable def r10_8 : Code := Code.sub [1, 1, 1, 1, 1, 1, 0] c10
noncomputable def r10_9 : Code := Code.sub [1, 1, 1, 1, 1, 1, 1, 0] c10
noncomputable def r10_10 : Code := Code.sub [1, 1, 1, 1, 1, 1, 1, 1, 0] c10
theorem body10 : c10 = (.seq r10_0 (.seq r10_1 (.seq (.seq r10_2 (.cond (.tmp 17) (.seq r10_3 .ret) .skip)) (.seq r10_4 (.seq r10_5 (.seq (.block 0 (.loop (.seq (.seq r10_6 (.cond (.tmp 50) .skip (.exit 0))) (.block 1 r10_7)))) (.seq r10_8 (.seq r10_9 (.seq r10_10 .ret))))))))) := by kernel_rfl
noncomputable def L10_0 : Lt r10_0 := by refine ⟨?l, ?h⟩; case h => simp only [r10_0, c10, bodyOf, Try.f10, Code.sub, opsOf, List.map_cons, List.map_nil, strip]; rfl
theorem w10_0 : Wp r10_0 8 [17, 50] [3, 4, 5] [] [1] [some 3, some 4, some 5] (L10_0).1 := w_plain (by kernel_rfl) (L10_0).2
noncomputable def L10_1 : Lt r10_1 := by refine ⟨?l, ?h⟩; case h => simp only [r10_1, c10, bodyOf, Try.f10, Code.sub, opsOf, List.map_cons, List.map_nil, strip]; rfl
theorem w10_1 : Wp r10_1 8 [17, 50] [6] [] [3] [some 8, some 9, some 10, some 11, some 6] (L10_1).1 := w_plain (by kernel_rfl) (L10_1).2
noncomputable def L10_2 : Lt r10_2 := by refine ⟨?l, ?h⟩; case h => simp only [r10_2, c10, bodyOf, Try.f10, Code.sub, opsOf, List.map_cons, List.map_nil, strip]; rfl
theorem w10_2 : Wp r10_2 8 [17, 50] [] [17] [6, 0] [some 12, some 13, some 14, some 15, some 16, some 17] (L10_2).1 := w_plain (by kernel_rfl) (L10_2).2
noncomputable def L10_3 : Lt r10_3 := by refine ⟨?l, ?h⟩; case h => simp only [r10_3, c10, bodyOf, Try.f10, Code.sub, opsOf, List.map_cons, List.map_nil, strip]; rfl
theorem w10_3 : Wp r10_3 8 [17, 50] [4, 5] [] [] [some 4, some 5] (L10_3).1 := w_plain (by kernel_rfl) (L10_3).2
noncomputable def L10_4 : Lt r10_4 := by refine ⟨?l, ?h⟩; case h => simp only [r10_4, c10, bodyOf, Try.f10, Code.sub, opsOf, List.map_cons, List.map_nil, strip]; rfl
theorem w10_4 : Wp r10_4 8 [17, 50] [] [] [0, 3] [some 18, some 19, some 20, some 21, some 22, some 23, some 24, some 25] (L10_4).1 := w_plain (by kernel_rfl) (L10_4).2
noncomputable def L10_5 : Lt r10_5 := by refine ⟨?l, ?h⟩; case h => simp only [r10_5, c10, bodyOf, Try.f10, Code.sub, opsOf, List.map_cons, List.map_nil, strip]; rfl
theorem w10_5 : Wp r10_5 8 [17, 50] [7] [] [] [some 7] (L10_5).1 := w_plain (by kernel_rfl) (L10_5).2
theorem can10_6 : canonOps (opsOf r10_6) = opsOf r10_6 := by kernel_rfl
noncomputable def L10_6 : Lc r10_6 := by refine ⟨?l, (congrArg (List.map strip) can10_6).trans ?h⟩; case h => simp only [r10_6, c10, bodyOf, Try.f10, Code.sub, opsOf, List.map_cons, List.map_nil, strip]; rfl
theorem w10_6 : Wd r10_6 8 [17, 50] [] [50] [6, 0] [some 26, some 27, some 28, some 29, some 30, some 31, some 32, some 33, some 34, some 35, some 36, some 37, some 38, some 39, some 40, some 41, some 42, some 43, some 44, some 45, some 46, some 47, some 48, some 49, some 50] (L10_6).1 [(3, [8]), (4, [8]), (12, [8, 25]), (20, [25]), (21, [25])] := w_loud (by kernel_rfl) (L10_6).2
noncomputable def L10_7 : Lt r10_7 := by refine ⟨?l, ?h⟩; case h => simp only [r10_7, c10, bodyOf, Try.f10, Code.sub, opsOf, List.map_cons, List.map_nil, strip]; rfl
theorem w10_7 : Wp r10_7 8 [17, 50] [7] [] [7, 0] [some 51, some 52, some 53, some 54, some 55, some 56, some 57, some 58, some 59, some 60, some 7] (L10_7).1 := w_plain (by kernel_rfl) (L10_7).2
noncomputable def L10_8 : Lt r10_8 := by refine ⟨?l, ?h⟩; case h => simp only [r10_8, c10, bodyOf, Try.f10, Code.sub, opsOf, List.map_cons, List.map_nil, strip]; rfl
theorem w10_8 : Wp r10_8 8 [17, 50] [] [] [0] [some 61, some 62, some 63, some 64, some 65, some 66, some 67, none] (L10_8).1 := w_plain (by kernel_rfl) (L10_8).2
theorem can10_9 : canonOps (opsOf r10_9) = List.filterMap (fun i => ((opsOf r10_9)[i]?).map (renum [0, 1, 2, 3, 4, 5, 6, 7, 8, 9, 10, 11, 12, 13])) [0, 1, 2, 3, 4, 5, 6, 7, 8, 9, 10, 11, 12, 13] := by kernel_rfl
noncomputable def L10_9 : Lc r10_9 := by refine ⟨?l, (congrArg (List.map strip) can10_9).trans ?h⟩; case h => simp only [r10_9, c10, bodyOf, Try.f10, Code.sub, opsOf, List.filterMap_cons, List.filterMap_nil, List.getElem?_cons_succ, List.getElem?_cons_zero, Option.map_some, renum, List.map_cons, List.map_nil, strip]; rfl
theorem w10_9 : Wd r10_9 8 [17, 50] [] [] [3, 0] [some 68, some 69, some 70, some 71, some 72, some 73, some 74, some 75, some 76, some 77, some 78, some 79, some 80, some 81] (L10_9).1 [(4, [5]), (9, [5, 11])] := w_loud (by kernel_rfl) (L10_9).2
noncomputable def L10_10 : Lt r10_10 := by refine ⟨?l, ?h⟩; case h => simp only [r10_10, c10, bodyOf, Try.f10, Code.sub, opsOf, List.map_cons, List.map_nil, strip]; rfl
theorem w10_10 : Wp r10_10 8 [17, 50] [4, 5] [] [7] [some 82, some 4, some 5] (L10_10).1 := w_plain (by kernel_rfl) (L10_10).2
theorem k10 : FnIs TT 10 c10 [.tmp 4, .tmp 5] 2 := ⟨Try.f10, by kernel_rfl, by simp only [Try.f10, c10, bodyOf], by kernel_rfl, of_decide_eq_true (by kernel_rfl)⟩

/- turnstonelaw27.entry -/
noncomputable def c11 : Code := bodyOf Try.f11
noncomputable def r11_0 : Code := Code.sub [0] c11
noncomputable def r11_1 : Code := Code.sub [1, 0] c11
theorem body11 : c11 = (.seq r11_0 (.seq r11_1 .ret)) := by kernel_rfl
noncomputable def L11_0 : Lt r11_0 := by refine ⟨?l, ?h⟩; case h => simp only [r11_0, c11, bodyOf, Try.f11, Code.sub, opsOf, List.map_cons, List.map_nil, strip]; rfl
theorem w11_0 : Wp r11_0 9 [] [8] [] [] [some 8] (L11_0).1 := w_plain (by kernel_rfl) (L11_0).2
noncomputable def L11_1 : Lt r11_1 := by refine ⟨?l, ?h⟩; case h => simp only [r11_1, c11, bodyOf, Try.f11, Code.sub, opsOf, List.map_cons, List.map_nil, strip]; rfl
theorem w11_1 : Wp r11_1 9 [] [] [] [0, 1, 2, 3, 8] [some 9, some 10, some 11, some 12, some 13, some 14, some 15, none] (L11_1).1 := w_plain (by kernel_rfl) (L11_1).2
theorem k11 : FnIs TT 11 c11 [.cell 8 41] 4 := ⟨Try.f11, by kernel_rfl, by simp only [Try.f11, c11, bodyOf], by kernel_rfl, of_decide_eq_true (by kernel_rfl)⟩

/- (*cache.Cache).Size -/
noncomputable def c12 : Code := bodyOf Try.f12
noncomputable def r12_0 : Code := Code.sub [0] c12
noncomputable def r12_1 : Code := Code.sub [1, 0] c12
noncomputable def r12_2 : Code := Code.sub [1, 1, 0, 0] c12
noncomputable def r12_3 : Code := Code.sub [1, 1, 0, 1, 0, 0, 0] c12
noncomputable def r12_4 : Code := Code.sub [1, 1, 0, 1, 0, 0, 1, 1, 0, 0, 0] c12
noncomputable def r12_5 : Code := Code.sub [1, 1, 0, 1, 0, 0, 1, 1, 0, 0, 1] c12
noncomputable def r12_6 : Code := Code.sub [1, 1, 0, 1, 0, 0, 1, 1, 1] c12
noncomputable def r12_7 : Code := Code.sub [1, 1, 1, 0] c12
theorem body12 : c12 = (.seq r12_0 (.seq r12_1 (.seq (.seq r12_2 (.block 0 (.loop (.seq r12_3 (.seq (.cond (.tmp 12) .skip (.exit 0)) (.seq (.block 1 (.seq r12_4 r12_5)) r12_6)))))) (.seq r12_7 .ret)))) := by kernel_rfl
noncomputable def L12_0 : Lt r12_0 := by refine ⟨?l, ?h⟩; case h => simp only [r12_0, c12, bodyOf, Try.f12, Code.sub, opsOf, List.map_cons, List.map_nil, strip]; rfl
theorem w12_0 : Wp r12_0 12 [12] [2] [] [] [some 2] (L12_0).1 := w_plain (by kernel_rfl) (L12_0).2
noncomputable def L12_1 : Lt r12_1 := by refine ⟨?l, ?h⟩; case h => simp only [r12_1, c12, bodyOf, Try.f12, Code.sub, opsOf, List.map_cons, List.map_nil, strip]; rfl
theorem w12_1 : Wp r12_1 12 [12] [3] [] [] [some 3] (L12_1).1 := w_plain (by kernel_rfl) (L12_1).2
noncomputable def L12_2 : Lt r12_2 := by refine ⟨?l, ?h⟩; case h => simp only [r12_2, c12, bodyOf, Try.f12, Code.sub, opsOf, List.map_cons, List.map_nil, strip]; rfl
theorem w12_2 : Wp r12_2 12 [12] [6, 7, 8, 9, 10, 11] [] [0] [some 6, some 7, some 8, some 9, some 10, some 11] (L12_2).1 := w_plain (by kernel_rfl) (L12_2).2
noncomputable def L12_3 : Lt r12_3 := by refine ⟨?l, ?h⟩; case h => simp only [r12_3, c12, bodyOf, Try.f12, Code.sub, opsOf, List.map_cons, List.map_nil, strip]; rfl
theorem w12_3 : Wp r12_3 12 [12] [] [12] [11, 10] [some 12] (L12_3).1 := w_plain (by kernel_rfl) (L12_3).2
noncomputable def L12_4 : Lt r12_4 := by refine ⟨?l, ?h⟩; case h => simp only [r12_4, c12, bodyOf, Try.f12, Code.sub, opsOf, List.map_cons, List.map_nil, strip]; rfl
theorem w12_4 : Wp r12_4 12 [12] [5] [] [9, 11] [some 13, some 14, some 5] (L12_4).1 := w_plain (by kernel_rfl) (L12_4).2
noncomputable def L12_5 : Lt r12_5 := by refine ⟨?l, ?h⟩; case h => simp only [r12_5, c12, bodyOf, Try.f12, Code.sub, opsOf, List.map_cons, List.map_nil, strip]; rfl
theorem w12_5 : Wp r12_5 12 [12] [3] [] [3, 5] [some 15, some 16, some 17, some 18, some 19, some 20, some 21, some 22, some 23, some 3] (L12_5).1 := w_plain (by kernel_rfl) (L12_5).2
noncomputable def L12_6 : Lt r12_6 := by refine ⟨?l, ?h⟩; case h => simp only [r12_6, c12, bodyOf, Try.f12, Code.sub, opsOf, List.map_cons, List.map_nil, strip]; rfl
theorem w12_6 : Wp r12_6 12 [12] [11] [] [11] [some 24, some 11] (L12_6).1 := w_plain (by kernel_rfl) (L12_6).2
noncomputable def L12_7 : Lt r12_7 := by refine ⟨?l, ?h⟩; case h => simp only [r12_7, c12, bodyOf, Try.f12, Code.sub, opsOf, List.map_cons, List.map_nil, strip]; rfl
theorem w12_7 : Wp r12_7 12 [12] [2] [] [3] [some 25, some 2] (L12_7).1 := w_plain (by kernel_rfl) (L12_7).2
theorem k12 : FnIs TT 12 c12 [.tmp 2] 1 := ⟨Try.f12, by kernel_rfl, by simp only [Try.f12, c12, bodyOf], by kernel_rfl, of_decide_eq_true (by kernel_rfl)⟩

/- (*cache.Cache).Keys -/
noncomputable def c13 : Code := bodyOf Try.f13
noncomputable def r13_0 : Code := Code.sub [0] c13
noncomputable def r13_1 : Code := Code.sub [1, 0] c13
noncomputable def r13_2 : Code := Code.sub [1, 1, 0, 0] c13
noncomputable def r13_3 : Code := Code.sub [1, 1, 0, 1, 0, 0, 0] c13
noncomputable def r13_4 : Code := Code.sub [1, 1, 0, 1, 0, 0, 1, 1, 0, 0, 0] c13
noncomputable def r13_5 : Code := Code.sub [1, 1, 0, 1, 0, 0, 1, 1, 0, 0, 1] c13
noncomputable def r13_6 : Code := Code.sub [1, 1, 0, 1, 0, 0, 1, 1, 1] c13
noncomputable def r13_7 : Code := Code.sub [1, 1, 1, 0] c13
theorem body13 : c13 = (.seq r13_0 (.seq r13_1 (.seq (.seq r13_2 (.block 0 (.loop (.seq r13_3 (.seq (.cond (.tmp 10) .skip (.exit 0)) (.seq (.block 1 (.seq r13_4 r13_5)) r13_6)))))) (.seq r13_7 .ret)))) := by kernel_rfl
noncomputable def L13_0 : Lt r13_0 := by refine ⟨?l, ?h⟩; case h => simp only [r13_0, c13, bodyOf, Try.f13, Code.sub, opsOf, List.map_cons, List.map_nil, strip]; rfl
theorem w13_0 : Wp r13_0 10 [10] [2] [] [] [some 2] (L13_0).1 := w_plain (by kernel_rfl) (L13_0).2
noncomputable def L13_1 : Lt r13_1 := by refine ⟨?l, ?h⟩; case h => simp only [r13_1, c13, bodyOf, Try.f13, Code.sub, opsOf, List.map_cons, List.map_nil, strip]; rfl
theorem w13_1 : Wp r13_1 10 [10] [3] [] [] [some 3] (L13_1).1 := w_plain (by kernel_rfl) (L13_1).2
noncomputable def L13_2 : Lt r13_2 := by refine ⟨?l, ?h⟩; case h => simp only [r13_2, c13, bodyOf, Try.f13, Code.sub, opsOf, List.map_cons, List.map_nil, strip]; rfl
theorem w13_2 : Wp r13_2 10 [10] [6, 7, 8, 9] [] [0] [some 6, some 7, some 8, some 9] (L13_2).1 := w_plain (by kernel_rfl) (L13_2).2
noncomputable def L13_3 : Lt r13_3 := by refine ⟨?l, ?h⟩; case h => simp only [r13_3, c13, bodyOf, Try.f13, Code.sub, opsOf, List.map_cons, List.map_nil, strip]; rfl
theorem w13_3 : Wp r13_3 10 [10] [] [10] [9, 8] [some 10] (L13_3).1 := w_plain (by kernel_rfl) (L13_3).2
noncomputable def L13_4 : Lt r13_4 := by refine ⟨?l, ?h⟩; case h => simp only [r13_4, c13, bodyOf, Try.f13, Code.sub, opsOf, List.map_cons, List.map_nil, strip]; rfl
theorem w13_4 : Wp r13_4 10 [10] [5] [] [7, 9] [some 11, some 12, some 5] (L13_4).1 := w_plain (by kernel_rfl) (L13_4).2
noncomputable def L13_5 : Lt r13_5 := by refine ⟨?l, ?h⟩; case h => simp only [r13_5, c13, bodyOf, Try.f13, Code.sub, opsOf, List.map_cons, List.map_nil, strip]; rfl
theorem w13_5 : Wp r13_5 10 [10] [3] [] [3, 5] [some 13, some 14, some 15, some 16, some 17, some 3] (L13_5).1 := w_plain (by kernel_rfl) (L13_5).2
noncomputable def L13_6 : Lt r13_6 := by refine ⟨?l, ?h⟩; case h => simp only [r13_6, c13, bodyOf, Try.f13, Code.sub, opsOf, List.map_cons, List.map_nil, strip]; rfl
theorem w13_6 : Wp r13_6 10 [10] [9] [] [9] [some 18, some 9] (L13_6).1 := w_plain (by kernel_rfl) (L13_6).2
noncomputable def L13_7 : Lt r13_7 := by refine ⟨?l, ?h⟩; case h => simp only [r13_7, c13, bodyOf, Try.f13, Code.sub, opsOf, List.map_cons, List.map_nil, strip]; rfl
theorem w13_7 : Wp r13_7 10 [10] [2] [] [3] [some 19, some 2] (L13_7).1 := w_plain (by kernel_rfl) (L13_7).2
theorem k13 : FnIs TT 13 c13 [.tmp 2] 1 := ⟨Try.f13, by kernel_rfl, by simp only [Try.f13, c13, bodyOf], by kernel_rfl, of_decide_eq_true (by kernel_rfl)⟩

/- (*cache.Cache).Has -/
noncomputable def c14 : Code := bodyOf Try.f14
noncomputable def r14_0 : Code := Code.sub [0] c14
noncomputable def r14_1 : Code := Code.sub [1, 0] c14
theorem body14 : c14 = (.seq r14_0 (.seq r14_1 .ret)) := by kernel_rfl
noncomputable def L14_0 : Lt r14_0 := by refine ⟨?l, ?h⟩; case h => simp only [r14_0, c14, bodyOf, Try.f14, Code.sub, opsOf, List.map_cons, List.map_nil, strip]; rfl
theorem w14_0 : Wp r14_0 7 [] [6] [] [] [some 6] (L14_0).1 := w_plain (by kernel_rfl) (L14_0).2
noncomputable def L14_1 : Lt r14_1 := by refine ⟨?l, ?h⟩; case h => simp only [r14_1, c14, bodyOf, Try.f14, Code.sub, opsOf, List.map_cons, List.map_nil, strip]; rfl
theorem w14_1 : Wp r14_1 7 [] [6] [] [0, 1, 2] [some 7, some 8, some 9, some 10, some 11, some 6] (L14_1).1 := w_plain (by kernel_rfl) (L14_1).2
theorem k14 : FnIs TT 14 c14 [.tmp 6] 3 := ⟨Try.f14, by kernel_rfl, by simp only [Try.f14, c14, bodyOf], by kernel_rfl, of_decide_eq_true (by kernel_rfl)⟩

/- (*cache.Cache).Get -/
noncomputable def c15 : Code := bodyOf Try.f15
noncomputable def r15_0 : Code := Code.sub [0] c15
noncomputable def r15_1 : Code := Code.sub [1, 0] c15
noncomputable def r15_2 : Code := Code.sub [1, 1, 0, 0] c15
noncomputable def r15_3 : Code := Code.sub [1, 1, 0, 1, 0, 0] c15
noncomputable def r15_4 : Code := Code.sub [1, 1, 1, 0] c15
noncomputable def r15_5 : Code := Code.sub [1, 1, 1, 1, 0] c15
noncomputable def r15_6 : Code := Code.sub [1, 1, 1, 1, 1, 0] c15
noncomputable def r15_7 : Code := Code.sub [1, 1, 1, 1, 1, 1, 0] c15
noncomputable def r15_8 : Code := Code.sub [1, 1, 1, 1, 1, 1, 1, 0] c15
theorem body15 : c15 = (.seq r15_0 (.seq r15_1 (.seq (.seq r15_2 (.cond (.tmp 15) (.seq r15_3 .ret) .skip)) (.seq r15_4 (.seq r15_5 (.seq r15_6 (.seq r15_7 (.seq r15_8 .ret)))))))) := by kernel_rfl
noncomputable def L15_0 : Lt r15_0 := by refine ⟨?l, ?h⟩; case h => simp only [r15_0, c15, bodyOf, Try.f15, Code.sub, opsOf, List.map_cons, List.map_nil, strip]; rfl
theorem w15_0 : Wp r15_0 10 [15] [6, 7] [] [] [some 6, some 7] (L15_0).1 := w_plain (by kernel_rfl) (L15_0).2
noncomputable def L15_1 : Lt r15_1 := by refine ⟨?l, ?h⟩; case h => simp only [r15_1, c15, bodyOf, Try.f15, Code.sub, opsOf, List.map_cons, List.map_nil, strip]; rfl
theorem w15_1 : Wp r15_1 10 [15] [8] [] [0, 1, 2] [some 10, some 11, some 12, some 13, some 8] (L15_1).1 := w_plain (by kernel_rfl) (L15_1).2
noncomputable def L15_2 : Lt r15_2 := by refine ⟨?l, ?h⟩; case h => simp only [r15_2, c15, bodyOf, Try.f15, Code.sub, opsOf, List.map_cons, List.map_nil, strip]; rfl
theorem w15_2 : Wp r15_2 10 [15] [] [15] [8] [some 14, some 15] (L15_2).1 := w_plain (by kernel_rfl) (L15_2).2
noncomputable def L15_3 : Lt r15_3 := by refine ⟨?l, ?h⟩; case h => simp only [r15_3, c15, bodyOf, Try.f15, Code.sub, opsOf, List.map_cons, List.map_nil, strip]; rfl
theorem w15_3 : Wp r15_3 10 [15] [7] [] [6] [some 16, none, some 7] (L15_3).1 := w_plain (by kernel_rfl) (L15_3).2
noncomputable def L15_4 : Lt r15_4 := by refine ⟨?l, ?h⟩; case h => simp only [r15_4, c15, bodyOf, Try.f15, Code.sub, opsOf, List.map_cons, List.map_nil, strip]; rfl
theorem w15_4 : Wp r15_4 10 [15] [] [] [0] [some 17, some 18, some 19, some 20, some 21, some 22, some 23, none] (L15_4).1 := w_plain (by kernel_rfl) (L15_4).2
theorem can15_5 : canonOps (opsOf r15_5) = opsOf r15_5 := by kernel_rfl
noncomputable def L15_5 : Lc r15_5 := by refine ⟨?l, (congrArg (List.map strip) can15_5).trans ?h⟩; case h => simp only [r15_5, c15, bodyOf, Try.f15, Code.sub, opsOf, List.map_cons, List.map_nil, strip]; rfl
theorem w15_5 : Wd r15_5 10 [15] [] [] [8, 0] [some 24, some 25, some 26, some 27, some 28, some 29, some 30, some 31, some 32, some 33, some 34, some 35, some 36, none] (L15_5).1 [(3, [13]), (6, [13]), (10, [13])] := w_loud (by kernel_rfl) (L15_5).2
noncomputable def L15_6 : Lt r15_6 := by refine ⟨?l, ?h⟩; case h => simp only [r15_6, c15, bodyOf, Try.f15, Code.sub, opsOf, List.map_cons, List.map_nil, strip]; rfl
theorem w15_6 : Wp r15_6 10 [15] [9] [] [0, 8] [some 37, some 38, some 39, some 40, some 41, some 42, some 43, some 44, some 45, some 46, some 47, some 9, none] (L15_6).1 := w_plain (by kernel_rfl) (L15_6).2
noncomputable def L15_7 : Lt r15_7 := by refine ⟨?l, ?h⟩; case h => simp only [r15_7, c15, bodyOf, Try.f15, Code.sub, opsOf, List.map_cons, List.map_nil, strip]; rfl
theorem w15_7 : Wp r15_7 10 [15] [] [] [0, 8] [some 48, some 49, some 50, some 51, some 52, some 53] (L15_7).1 := w_plain (by kernel_rfl) (L15_7).2
noncomputable def L15_8 : Lt r15_8 := by refine ⟨?l, ?h⟩; case h => simp only [r15_8, c15, bodyOf, Try.f15, Code.sub, opsOf, List.map_cons, List.map_nil, strip]; rfl
theorem w15_8 : Wp r15_8 10 [15] [7] [] [9, 6] [some 54, none, some 7] (L15_8).1 := w_plain (by kernel_rfl) (L15_8).2
theorem k15 : FnIs TT 15 c15 [.cell 6 41, .tmp 7] 3 := ⟨Try.f15, by kernel_rfl, by simp only [Try.f15, c15, bodyOf], by kernel_rfl, of_decide_eq_true (by kernel_rfl)⟩

/- (*cache.Cache).Drop -/
noncomputable def c17 : Code := bodyOf Try.f17
noncomputable def r17_0 : Code := Code.sub [0] c17
noncomputable def r17_1 : Code := Code.sub [1, 0] c17
noncomputable def r17_2 : Code := Code.sub [1, 1, 0, 0] c17
noncomputable def r17_3 : Code := Code.sub [1, 1, 0, 1, 0, 0] c17
noncomputable def r17_4 : Code := Code.sub [1, 1, 1, 0] c17
noncomputable def r17_5 : Code := Code.sub [1, 1, 1, 1, 0] c17
theorem body17 : c17 = (.seq r17_0 (.seq r17_1 (.seq (.seq r17_2 (.cond (.tmp 13) (.seq r17_3 .ret) .skip)) (.seq r17_4 (.seq r17_5 .ret))))) := by kernel_rfl
noncomputable def L17_0 : Lt r17_0 := by refine ⟨?l, ?h⟩; case h => simp only [r17_0, c17, bodyOf, Try.f17, Code.sub, opsOf, List.map_cons, List.map_nil, strip]; rfl
theorem w17_0 : Wp r17_0 8 [13] [6] [] [] [some 6] (L17_0).1 := w_plain (by kernel_rfl) (L17_0).2
noncomputable def L17_1 : Lt r17_1 := by refine ⟨?l, ?h⟩; case h => simp only [r17_1, c17, bodyOf, Try.f17, Code.sub, opsOf, List.map_cons, List.map_nil, strip]; rfl
theorem w17_1 : Wp r17_1 8 [13] [7] [] [0, 1, 2] [some 8, some 9, some 10, some 11, some 7] (L17_1).1 := w_plain (by kernel_rfl) (L17_1).2
noncomputable def L17_2 : Lt r17_2 := by refine ⟨?l, ?h⟩; case h => simp only [r17_2, c17, bodyOf, Try.f17, Code.sub, opsOf, List.map_cons, List.map_nil, strip]; rfl
theorem w17_2 : Wp r17_2 8 [13] [] [13] [7] [some 12, some 13] (L17_2).1 := w_plain (by kernel_rfl) (L17_2).2
noncomputable def L17_3 : Lt r17_3 := by refine ⟨?l, ?h⟩; case h => simp only [r17_3, c17, bodyOf, Try.f17, Code.sub, opsOf, List.map_cons, List.map_nil, strip]; rfl
theorem w17_3 : Wp r17_3 8 [13] [6] [] [] [some 6] (L17_3).1 := w_plain (by kernel_rfl) (L17_3).2
noncomputable def L17_4 : Lt r17_4 := by refine ⟨?l, ?h⟩; case h => simp only [r17_4, c17, bodyOf, Try.f17, Code.sub, opsOf, List.map_cons, List.map_nil, strip]; rfl
theorem w17_4 : Wp r17_4 8 [13] [] [] [0, 7] [some 14, some 15, some 16, some 17, some 18, some 19] (L17_4).1 := w_plain (by kernel_rfl) (L17_4).2
noncomputable def L17_5 : Lt r17_5 := by refine ⟨?l, ?h⟩; case h => simp only [r17_5, c17, bodyOf, Try.f17, Code.sub, opsOf, List.map_cons, List.map_nil, strip]; rfl
theorem w17_5 : Wp r17_5 8 [13] [6] [] [] [some 6] (L17_5).1 := w_plain (by kernel_rfl) (L17_5).2
theorem k17 : FnIs TT 17 c17 [.tmp 6] 3 := ⟨Try.f17, by kernel_rfl, by simp only [Try.f17, c17, bodyOf], by kernel_rfl, of_decide_eq_true (by kernel_rfl)⟩

/- container/heap.Pop -/
noncomputable def c26 : Code := bodyOf Try.f26
noncomputable def r26_0 : Code := Code.sub [0] c26
noncomputable def r26_1 : Code := Code.sub [1, 0] c26
noncomputable def r26_2 : Code := Code.sub [1, 1, 0] c26
noncomputable def r26_3 : Code := Code.sub [1, 1, 1, 0] c26
noncomputable def r26_4 : Code := Code.sub [1, 1, 1, 1, 0] c26
theorem body26 : c26 = (.seq r26_0 (.seq r26_1 (.seq r26_2 (.seq r26_3 (.seq r26_4 .ret))))) := by kernel_rfl
noncomputable def L26_0 : Lt r26_0 := by refine ⟨?l, ?h⟩; case h => simp only [r26_0, c26, bodyOf, Try.f26, Code.sub, opsOf, List.map_cons, List.map_nil, strip]; rfl
theorem w26_0 : Wp r26_0 4 [] [2] [] [] [some 2] (L26_0).1 := w_plain (by kernel_rfl) (L26_0).2
noncomputable def L26_1 : Lt r26_1 := by refine ⟨?l, ?h⟩; case h => simp only [r26_1, c26, bodyOf, Try.f26, Code.sub, opsOf, List.map_cons, List.map_nil, strip]; rfl
theorem w26_1 : Wp r26_1 4 [] [3] [] [0] [some 4, some 5, some 6, some 3] (L26_1).1 := w_plain (by kernel_rfl) (L26_1).2
noncomputable def L26_2 : Lt r26_2 := by refine ⟨?l, ?h⟩; case h => simp only [r26_2, c26, bodyOf, Try.f26, Code.sub, opsOf, List.map_cons, List.map_nil, strip]; rfl
theorem w26_2 : Wp r26_2 4 [] [] [] [0, 3] [some 7, some 8, some 9] (L26_2).1 := w_plain (by kernel_rfl) (L26_2).2
noncomputable def L26_3 : Lt r26_3 := by refine ⟨?l, ?h⟩; case h => simp only [r26_3, c26, bodyOf, Try.f26, Code.sub, opsOf, List.map_cons, List.map_nil, strip]; rfl
theorem w26_3 : Wp r26_3 4 [] [] [] [0, 3] [some 10, some 11, some 12] (L26_3).1 := w_plain (by kernel_rfl) (L26_3).2
noncomputable def L26_4 : Lt r26_4 := by refine ⟨?l, ?h⟩; case h => simp only [r26_4, c26, bodyOf, Try.f26, Code.sub, opsOf, List.map_cons, List.map_nil, strip]; rfl
theorem w26_4 : Wp r26_4 4 [] [2] [] [0] [some 13, some 14, some 2] (L26_4).1 := w_plain (by kernel_rfl) (L26_4).2
theorem k26 : FnIs TT 26 c26 [.tmp 2] 1 := ⟨Try.f26, by kernel_rfl, by simp only [Try.f26, c26, bodyOf], by kernel_rfl, of_decide_eq_true (by kernel_rfl)⟩

/- (*cache.item).key -/
noncomputable def c27 : Code := bodyOf Try.f27
noncomputable def r27_0 : Code := Code.sub [0] c27
noncomputable def r27_1 : Code := Code.sub [1, 0] c27
theorem body27 : c27 = (.seq r27_0 (.seq r27_1 .ret)) := by kernel_rfl
noncomputable def L27_0 : Lt r27_0 := by refine ⟨?l, ?h⟩; case h => simp only [r27_0, c27, bodyOf, Try.f27, Code.sub, opsOf, List.map_cons, List.map_nil, strip]; rfl
theorem w27_0 : Wp r27_0 3 [] [2] [] [] [some 2] (L27_0).1 := w_plain (by kernel_rfl) (L27_0).2
theorem can27_1 : canonOps (opsOf r27_1) = opsOf r27_1 := by kernel_rfl
noncomputable def L27_1 : Lc r27_1 := by refine ⟨?l, (congrArg (List.map strip) can27_1).trans ?h⟩; case h => simp only [r27_1, c27, bodyOf, Try.f27, Code.sub, opsOf, List.map_cons, List.map_nil, strip]; rfl
theorem w27_1 : Wd r27_1 3 [] [] [] [0, 2] [some 3, some 4, some 5, some 6, some 7, some 8, some 9, some 10, some 11, some 12, some 13, some 14, some 15, none] (L27_1).1 [(5, [13]), (11, [13])] := w_loud (by kernel_rfl) (L27_1).2
theorem k27 : FnIs TT 27 c27 [.cell 2 50] 1 := ⟨Try.f27, by kernel_rfl, by simp only [Try.f27, c27, bodyOf], by kernel_rfl, of_decide_eq_true (by kernel_rfl)⟩

/- container/heap.Push -/
noncomputable def c28 : Code := bodyOf Try.f28
noncomputable def r28_0 : Code := Code.sub [0] c28
noncomputable def r28_1 : Code := Code.sub [1] c28
theorem body28 : c28 = (.seq r28_0 r28_1) := by kernel_rfl
noncomputable def L28_0 : Lt r28_0 := by refine ⟨?l, ?h⟩; case h => simp only [r28_0, c28, bodyOf, Try.f28, Code.sub, opsOf, List.map_cons, List.map_nil, strip]; rfl
theorem w28_0 : Wp r28_0 2 [] [] [] [0, 1] [some 4, some 5, some 6] (L28_0).1 := w_plain (by kernel_rfl) (L28_0).2
noncomputable def L28_1 : Lt r28_1 := by refine ⟨?l, ?h⟩; case h => simp only [r28_1, c28, bodyOf, Try.f28, Code.sub, opsOf, List.map_cons, List.map_nil, strip]; rfl
theorem w28_1 : Wp r28_1 2 [] [] [] [0] [some 7, some 8, some 9, some 10, some 11] (L28_1).1 := w_plain (by kernel_rfl) (L28_1).2
theorem k28 : FnIs TT 28 c28 [] 2 := ⟨Try.f28, by kernel_rfl, by simp only [Try.f28, c28, bodyOf], by kernel_rfl, of_decide_eq_true (by kernel_rfl)⟩

/- cache.copied -/
noncomputable def c29 : Code := bodyOf Try.f29
noncomputable def r29_0 : Code := Code.sub [0] c29
noncomputable def r29_1 : Code := Code.sub [1, 0] c29
noncomputable def r29_2 : Code := Code.sub [1, 1, 0] c29
noncomputable def r29_3 : Code := Code.sub [1, 1, 1, 0] c29
noncomputable def r29_4 : Code := Code.sub [1, 1, 1, 1, 0, 0] c29
noncomputable def r29_5 : Code := Code.sub [1, 1, 1, 1, 0, 1, 0, 0, 0] c29
noncomputable def r29_6 : Code := Code.sub [1, 1, 1, 1, 0, 1, 0, 0, 1, 1, 0, 0, 0] c29
noncomputable def r29_7 : Code := Code.sub [1, 1, 1, 1, 0, 1, 0, 0, 1, 1, 0, 0, 1, 0] c29
noncomputable def r29_8 : Code := Code.sub [1, 1, 1, 1, 0, 1, 0, 0, 1, 1, 0, 0, 1, 1, 0] c29
noncomputable def r29_9 : Code := Code.sub [1, 1, 1, 1, 0, 1, 0, 0, 1, 1, 0, 0, 1, 1, 1, 0, 0] c29
noncomputable def r29_10 : Code := Code.sub [1, 1, 1, 1, 0, 1, 0, 0, 1, 1, 0, 0, 1, 1, 1, 0, 1, 0, 0, 0] c29
noncomputable def r29_11 : Code := Code.sub [1, 1, 1, 1, 0, 1, 0, 0, 1, 1, 0, 0, 1, 1, 1, 0, 1, 0, 0, 1, 1, 0, 0, 0] c29
noncomputable def r29_12 : Code := Code.sub [1, 1, 1, 1, 0, 1, 0, 0, 1, 1, 0, 0, 1, 1, 1, 0, 1, 0, 0, 1, 1, 0, 0, 1, 0] c29
noncomputable def r29_13 : Code := Code.sub [1, 1, 1, 1, 0, 1, 0, 0, 1, 1, 0, 0, 1, 1, 1, 0, 1, 0, 0, 1, 1, 0, 0, 1, 1] c29
noncomputable def r29_14 : Code := Code.sub [1, 1, 1, 1, 0, 1, 0, 0, 1, 1, 0, 0, 1, 1, 1, 0, 1, 0, 0, 1, 1, 1] c29
noncomputable def r29_15 : Code := Code.sub [1, 1, 1, 1, 0, 1, 0, 0, 1, 1, 0, 0, 1, 1, 1, 1] c29
noncomputable def r29_16 : Code := Code.sub [1, 1, 1, 1, 0, 1, 0, 0, 1, 1, 1] c29
noncomputable def r29_17 : Code := Code.sub [1, 1, 1, 1, 1, 0] c29
theorem body29 : c29 = (.seq r29_0 (.seq r29_1 (.seq r29_2 (.seq r29_3 (.seq (.seq r29_4 (.block 0 (.loop (.seq r29_5 (.seq (.cond (.tmp 27) .skip (.exit 0)) (.seq (.block 1 (.seq r29_6 (.seq r29_7 (.seq r29_8 (.seq (.seq r29_9 (.block 2 (.loop (.seq r29_10 (.seq (.cond (.tmp 36) .skip (.exit 2)) (.seq (.block 3 (.seq r29_11 (.seq r29_12 r29_13))) r29_14)))))) r29_15))))) r29_16)))))) (.seq r29_17 .ret)))))) := by kernel_rfl
noncomputable def L29_0 : Lt r29_0 := by refine ⟨?l, ?h⟩; case h => simp only [r29_0, c29, bodyOf, Try.f29, Code.sub, opsOf, List.map_cons, List.map_nil, strip]; rfl
theorem w29_0 : Wp r29_0 36 [36] [1, 2] [] [0] [some 1, some 2] (L29_0).1 := w_plain (by kernel_rfl) (L29_0).2
noncomputable def L29_1 : Lt r29_1 := by refine ⟨?l, ?h⟩; case h => simp only [r29_1, c29, bodyOf, Try.f29, Code.sub, opsOf, List.map_cons, List.map_nil, strip]; rfl
theorem w29_1 : Wp r29_1 36 [36] [9, 10, 3] [] [1] [some 9, some 10, some 3, none] (L29_1).1 := w_plain (by kernel_rfl) (L29_1).2
theorem can29_2 : canonOps (opsOf r29_2) = List.filterMap (fun i => ((opsOf r29_2)[i]?).map (renum [1, 2, 0, 3, 5, 6, 4, 7, 8, 9, 10, 11])) [1, 2, 0, 3, 5, 6, 4, 7, 8, 9, 10, 11] := by kernel_rfl
noncomputable def L29_2 : Lc r29_2 := by refine ⟨?l, (congrArg (List.map strip) can29_2).trans ?h⟩; case h => simp only [r29_2, c29, bodyOf, Try.f29, Code.sub, opsOf, List.filterMap_cons, List.filterMap_nil, List.getElem?_cons_succ, List.getElem?_cons_zero, Option.map_some, renum, List.map_cons, List.map_nil, strip]; rfl
theorem w29_2 : Wd r29_2 36 [36] [12, 13, 11, 14, 16, 17, 15, 18, 19, 20] [] [3] [some 12, some 13, some 11, some 14, some 16, some 17, some 15, some 18, some 19, none, some 20, none] (L29_2).1 [(1, [2, 3]), (5, [2, 3, 6, 7])] := w_loud (by kernel_rfl) (L29_2).2
noncomputable def L29_3 : Lt r29_3 := by refine ⟨?l, ?h⟩; case h => simp only [r29_3, c29, bodyOf, Try.f29, Code.sub, opsOf, List.map_cons, List.map_nil, strip]; rfl
theorem w29_3 : Wp r29_3 36 [36] [21] [] [3] [some 21, none] (L29_3).1 := w_plain (by kernel_rfl) (L29_3).2
noncomputable def L29_4 : Lt r29_4 := by refine ⟨?l, ?h⟩; case h => simp only [r29_4, c29, bodyOf, Try.f29, Code.sub, opsOf, List.map_cons, List.map_nil, strip]; rfl
theorem w29_4 : Wp r29_4 36 [36] [22, 23, 24, 25, 26] [] [1] [some 22, some 23, some 24, some 25, some 26] (L29_4).1 := w_plain (by kernel_rfl) (L29_4).2
noncomputable def L29_5 : Lt r29_5 := by refine ⟨?l, ?h⟩; case h => simp only [r29_5, c29, bodyOf, Try.f29, Code.sub, opsOf, List.map_cons, List.map_nil, strip]; rfl
theorem w29_5 : Wp r29_5 36 [36] [27] [] [26, 25] [some 27] (L29_5).1 := w_plain (by kernel_rfl) (L29_5).2
noncomputable def L29_6 : Lt r29_6 := by refine ⟨?l, ?h⟩; case h => simp only [r29_6, c29, bodyOf, Try.f29, Code.sub, opsOf, List.map_cons, List.map_nil, strip]; rfl
theorem w29_6 : Wp r29_6 36 [36] [28, 29, 5] [] [24, 26] [some 28, some 29, some 5, none] (L29_6).1 := w_plain (by kernel_rfl) (L29_6).2
noncomputable def L29_7 : Lt r29_7 := by refine ⟨?l, ?h⟩; case h => simp only [r29_7, c29, bodyOf, Try.f29, Code.sub, opsOf, List.map_cons, List.map_nil, strip]; rfl
theorem w29_7 : Wp r29_7 36 [36] [30, 31, 6] [] [5] [some 30, some 31, some 6] (L29_7).1 := w_plain (by kernel_rfl) (L29_7).2
noncomputable def L29_8 : Lt r29_8 := by refine ⟨?l, ?h⟩; case h => simp only [r29_8, c29, bodyOf, Try.f29, Code.sub, opsOf, List.map_cons, List.map_nil, strip]; rfl
theorem w29_8 : Wp r29_8 36 [36] [32] [] [5] [some 32, none] (L29_8).1 := w_plain (by kernel_rfl) (L29_8).2
noncomputable def L29_9 : Lt r29_9 := by refine ⟨?l, ?h⟩; case h => simp only [r29_9, c29, bodyOf, Try.f29, Code.sub, opsOf, List.map_cons, List.map_nil, strip]; rfl
theorem w29_9 : Wp r29_9 36 [36] [33, 34, 35] [] [6] [some 33, some 34, some 35] (L29_9).1 := w_plain (by kernel_rfl) (L29_9).2
noncomputable def L29_10 : Lt r29_10 := by refine ⟨?l, ?h⟩; case h => simp only [r29_10, c29, bodyOf, Try.f29, Code.sub, opsOf, List.map_cons, List.map_nil, strip]; rfl
theorem w29_10 : Wp r29_10 36 [36] [] [36] [35, 34] [some 36] (L29_10).1 := w_plain (by kernel_rfl) (L29_10).2
noncomputable def L29_11 : Lt r29_11 := by refine ⟨?l, ?h⟩; case h => simp only [r29_11, c29, bodyOf, Try.f29, Code.sub, opsOf, List.map_cons, List.map_nil, strip]; rfl
theorem w29_11 : Wp r29_11 36 [36] [8] [] [33, 35] [some 37, some 38, some 8, none] (L29_11).1 := w_plain (by kernel_rfl) (L29_11).2
theorem can29_12 : canonOps (opsOf r29_12) = List.filterMap (fun i => ((opsOf r29_12)[i]?).map (renum [1, 2, 0, 3, 5, 6, 4, 7, 8, 9, 10, 11])) [1, 2, 0, 3, 5, 6, 4, 7, 8, 9, 10, 11] := by kernel_rfl
noncomputable def L29_12 : Lc r29_12 := by refine ⟨?l, (congrArg (List.map strip) can29_12).trans ?h⟩; case h => simp only [r29_12, c29, bodyOf, Try.f29, Code.sub, opsOf, List.filterMap_cons, List.filterMap_nil, List.getElem?_cons_succ, List.getElem?_cons_zero, Option.map_some, renum, List.map_cons, List.map_nil, strip]; rfl
theorem w29_12 : Wd r29_12 36 [36] [] [] [8] [some 40, some 41, some 39, some 42, some 44, some 45, some 43, some 46, some 47, none, some 48, none] (L29_12).1 [(1, [2, 3]), (5, [2, 3, 6, 7])] := w_loud (by kernel_rfl) (L29_12).2
noncomputable def L29_13 : Lt r29_13 := by refine ⟨?l, ?h⟩; case h => simp only [r29_13, c29, bodyOf, Try.f29, Code.sub, opsOf, List.map_cons, List.map_nil, strip]; rfl
theorem w29_13 : Wp r29_13 36 [36] [] [] [8, 5] [some 49, some 50, some 51, some 52, some 53, some 54, none] (L29_13).1 := w_plain (by kernel_rfl) (L29_13).2
noncomputable def L29_14 : Lt r29_14 := by refine ⟨?l, ?h⟩; case h => simp only [r29_14, c29, bodyOf, Try.f29, Code.sub, opsOf, List.map_cons, List.map_nil, strip]; rfl
theorem w29_14 : Wp r29_14 36 [36] [35] [] [35] [some 55, some 35] (L29_14).1 := w_plain (by kernel_rfl) (L29_14).2
noncomputable def L29_15 : Lt r29_15 := by refine ⟨?l, ?h⟩; case h => simp only [r29_15, c29, bodyOf, Try.f29, Code.sub, opsOf, List.map_cons, List.map_nil, strip]; rfl
theorem w29_15 : Wp r29_15 36 [36] [] [] [5, 3] [some 56, some 57, some 58, some 59, some 60, some 61, none] (L29_15).1 := w_plain (by kernel_rfl) (L29_15).2
noncomputable def L29_16 : Lt r29_16 := by refine ⟨?l, ?h⟩; case h => simp only [r29_16, c29, bodyOf, Try.f29, Code.sub, opsOf, List.map_cons, List.map_nil, strip]; rfl
theorem w29_16 : Wp r29_16 36 [36] [26] [] [26] [some 62, some 26] (L29_16).1 := w_plain (by kernel_rfl) (L29_16).2
theorem can29_17 : canonOps (opsOf r29_17) = List.filterMap (fun i => ((opsOf r29_17)[i]?).map (renum [0, 2, 3, 1, 4, 6, 7, 5, 8, 9, 10])) [0, 2, 3, 1, 4, 6, 7, 5, 8, 9, 10] := by kernel_rfl
noncomputable def L29_17 : Lc r29_17 := by refine ⟨?l, (congrArg (List.map strip) can29_17).trans ?h⟩; case h => simp only [r29_17, c29, bodyOf, Try.f29, Code.sub, opsOf, List.filterMap_cons, List.filterMap_nil, List.getElem?_cons_succ, List.getElem?_cons_zero, Option.map_some, renum, List.map_cons, List.map_nil, strip]; rfl
theorem w29_17 : Wd r29_17 36 [36] [] [] [3, 1, 2] [some 63, some 65, some 66, some 64, some 67, some 69, some 70, some 68, some 71, some 72, none] (L29_17).1 [(0, [3, 4, 7, 8, 10]), (2, [3, 4]), (6, [3, 4, 7, 8])] := w_loud (by kernel_rfl) (L29_17).2
theorem k29 : FnIs TT 29 c29 [.cell 2 41] 1 := ⟨Try.f29, by kernel_rfl, by simp only [Try.f29, c29, bodyOf], by kernel_rfl, of_decide_eq_true (by kernel_rfl)⟩

/- (*cache.Cache).sorted -/
noncomputable def c30 : Code := bodyOf Try.f30
noncomputable def r30_0 : Code := Code.sub [0] c30
noncomputable def r30_1 : Code := Code.sub [1, 0] c30
noncomputable def r30_2 : Code := Code.sub [1, 1, 0] c30
noncomputable def r30_3 : Code := Code.sub [1, 1, 1, 0] c30
theorem body30 : c30 = (.seq r30_0 (.seq r30_1 (.seq r30_2 (.seq r30_3 .ret)))) := by kernel_rfl
noncomputable def L30_0 : Lt r30_0 := by refine ⟨?l, ?h⟩; case h => simp only [r30_0, c30, bodyOf, Try.f30, Code.sub, opsOf, List.map_cons, List.map_nil, strip]; rfl
theorem w30_0 : Wp r30_0 4 [] [2] [] [] [some 2] (L30_0).1 := w_plain (by kernel_rfl) (L30_0).2
noncomputable def L30_1 : Lt r30_1 := by refine ⟨?l, ?h⟩; case h => simp only [r30_1, c30, bodyOf, Try.f30, Code.sub, opsOf, List.map_cons, List.map_nil, strip]; rfl
theorem w30_1 : Wp r30_1 4 [] [3] [] [0] [some 4, some 5, some 6, some 7, some 8, some 9, some 3] (L30_1).1 := w_plain (by kernel_rfl) (L30_1).2
noncomputable def L30_2 : Lt r30_2 := by refine ⟨?l, ?h⟩; case h => simp only [r30_2, c30, bodyOf, Try.f30, Code.sub, opsOf, List.map_cons, List.map_nil, strip]; rfl
theorem w30_2 : Wp r30_2 4 [] [] [] [3] [some 10, some 11] (L30_2).1 := w_plain (by kernel_rfl) (L30_2).2
noncomputable def L30_3 : Lt r30_3 := by refine ⟨?l, ?h⟩; case h => simp only [r30_3, c30, bodyOf, Try.f30, Code.sub, opsOf, List.map_cons, List.map_nil, strip]; rfl
theorem w30_3 : Wp r30_3 4 [] [2] [] [3] [some 12, some 2] (L30_3).1 := w_plain (by kernel_rfl) (L30_3).2
theorem k30 : FnIs TT 30 c30 [.tmp 2] 1 := ⟨Try.f30, by kernel_rfl, by simp only [Try.f30, c30, bodyOf], by kernel_rfl, of_decide_eq_true (by kernel_rfl)⟩

/- (*cache.Cache).find -/
noncomputable def c31 : Code := bodyOf Try.f31
noncomputable def r31_0 : Code := Code.sub [0] c31
noncomputable def r31_1 : Code := Code.sub [1, 0] c31
theorem body31 : c31 = (.seq r31_0 (.seq r31_1 .ret)) := by kernel_rfl
noncomputable def L31_0 : Lt r31_0 := by refine ⟨?l, ?h⟩; case h => simp only [r31_0, c31, bodyOf, Try.f31, Code.sub, opsOf, List.map_cons, List.map_nil, strip]; rfl
theorem w31_0 : Wp r31_0 7 [] [4, 5, 6] [] [1, 2] [some 4, some 5, some 6] (L31_0).1 := w_plain (by kernel_rfl) (L31_0).2
noncomputable def L31_1 : Lt r31_1 := by refine ⟨?l, ?h⟩; case h => simp only [r31_1, c31, bodyOf, Try.f31, Code.sub, opsOf, List.map_cons, List.map_nil, strip]; rfl
theorem w31_1 : Wp r31_1 7 [] [6] [] [0, 4, 5] [some 7, some 8, some 9, some 10, some 11, some 12, some 6] (L31_1).1 := w_plain (by kernel_rfl) (L31_1).2
theorem k31 : FnIs TT 31 c31 [.tmp 6] 3 := ⟨Try.f31, by kernel_rfl, by simp only [Try.f31, c31, bodyOf], by kernel_rfl, of_decide_eq_true (by kernel_rfl)⟩

/- container/heap.Fix -/
noncomputable def c32 : Code := bodyOf Try.f32
noncomputable def r32_0 : Code := Code.sub [0] c32
noncomputable def r32_1 : Code := Code.sub [1, 0] c32
theorem body32 : c32 = (.seq r32_0 (.cond (.tmp 9) r32_1 .skip)) := by kernel_rfl
noncomputable def L32_0 : Lt r32_0 := by refine ⟨?l, ?h⟩; case h => simp only [r32_0, c32, bodyOf, Try.f32, Code.sub, opsOf, List.map_cons, List.map_nil, strip]; rfl
theorem w32_0 : Wp r32_0 2 [9] [] [9] [1, 0] [some 4, some 5, some 6, some 7, some 8, some 9] (L32_0).1 := w_plain (by kernel_rfl) (L32_0).2
noncomputable def L32_1 : Lt r32_1 := by refine ⟨?l, ?h⟩; case h => simp only [r32_1, c32, bodyOf, Try.f32, Code.sub, opsOf, List.map_cons, List.map_nil, strip]; rfl
theorem w32_1 : Wp r32_1 2 [9] [] [] [0, 1] [some 10, some 11, some 12] (L32_1).1 := w_plain (by kernel_rfl) (L32_1).2
theorem k32 : FnIs TT 32 c32 [] 2 := ⟨Try.f32, by kernel_rfl, by simp only [Try.f32, c32, bodyOf], by kernel_rfl, of_decide_eq_true (by kernel_rfl)⟩

/- container/heap.Remove -/
noncomputable def c34 : Code := bodyOf Try.f34
noncomputable def r34_0 : Code := Code.sub [0] c34
noncomputable def r34_1 : Code := Code.sub [1, 0] c34
noncomputable def r34_2 : Code := Code.sub [1, 1, 0, 0] c34
noncomputable def r34_3 : Code := Code.sub [1, 1, 0, 1, 0, 0] c34
noncomputable def r34_4 : Code := Code.sub [1, 1, 0, 1, 0, 1, 0] c34
noncomputable def r34_5 : Code := Code.sub [1, 1, 0, 1, 0, 1, 1, 0] c34
noncomputable def r34_6 : Code := Code.sub [1, 1, 1, 0] c34
theorem body34 : c34 = (.seq r34_0 (.seq r34_1 (.seq (.seq r34_2 (.cond (.tmp 11) (.seq r34_3 (.seq r34_4 (.cond (.tmp 20) r34_5 .skip))) .skip)) (.seq r34_6 .ret)))) := by kernel_rfl
noncomputable def L34_0 : Lt r34_0 := by refine ⟨?l, ?h⟩; case h => simp only [r34_0, c34, bodyOf, Try.f34, Code.sub, opsOf, List.map_cons, List.map_nil, strip]; rfl
theorem w34_0 : Wp r34_0 6 [11, 20] [4] [] [] [some 4] (L34_0).1 := w_plain (by kernel_rfl) (L34_0).2
noncomputable def L34_1 : Lt r34_1 := by refine ⟨?l, ?h⟩; case h => simp only [r34_1, c34, bodyOf, Try.f34, Code.sub, opsOf, List.map_cons, List.map_nil, strip]; rfl
theorem w34_1 : Wp r34_1 6 [11, 20] [5] [] [0] [some 6, some 7, some 8, some 5] (L34_1).1 := w_plain (by kernel_rfl) (L34_1).2
noncomputable def L34_2 : Lt r34_2 := by refine ⟨?l, ?h⟩; case h => simp only [r34_2, c34, bodyOf, Try.f34, Code.sub, opsOf, List.map_cons, List.map_nil, strip]; rfl
theorem w34_2 : Wp r34_2 6 [11, 20] [] [11] [5, 1] [some 9, some 10, some 11] (L34_2).1 := w_plain (by kernel_rfl) (L34_2).2
noncomputable def L34_3 : Lt r34_3 := by refine ⟨?l, ?h⟩; case h => simp only [r34_3, c34, bodyOf, Try.f34, Code.sub, opsOf, List.map_cons, List.map_nil, strip]; rfl
theorem w34_3 : Wp r34_3 6 [11, 20] [] [] [0, 1, 5] [some 12, some 13, some 14, some 15] (L34_3).1 := w_plain (by kernel_rfl) (L34_3).2
noncomputable def L34_4 : Lt r34_4 := by refine ⟨?l, ?h⟩; case h => simp only [r34_4, c34, bodyOf, Try.f34, Code.sub, opsOf, List.map_cons, List.map_nil, strip]; rfl
theorem w34_4 : Wp r34_4 6 [11, 20] [] [20] [0, 1, 5] [some 16, some 17, some 18, some 19, some 20] (L34_4).1 := w_plain (by kernel_rfl) (L34_4).2
noncomputable def L34_5 : Lt r34_5 := by refine ⟨?l, ?h⟩; case h => simp only [r34_5, c34, bodyOf, Try.f34, Code.sub, opsOf, List.map_cons, List.map_nil, strip]; rfl
theorem w34_5 : Wp r34_5 6 [11, 20] [] [] [0, 1] [some 21, some 22, some 23] (L34_5).1 := w_plain (by kernel_rfl) (L34_5).2
noncomputable def L34_6 : Lt r34_6 := by refine ⟨?l, ?h⟩; case h => simp only [r34_6, c34, bodyOf, Try.f34, Code.sub, opsOf, List.map_cons, List.map_nil, strip]; rfl
theorem w34_6 : Wp r34_6 6 [11, 20] [4] [] [0] [some 24, some 25, some 4] (L34_6).1 := w_plain (by kernel_rfl) (L34_6).2
theorem k34 : FnIs TT 34 c34 [.tmp 4] 2 := ⟨Try.f34, by kernel_rfl, by simp only [Try.f34, c34, bodyOf], by kernel_rfl, of_decide_eq_true (by kernel_rfl)⟩

/- container/heap.down -/
noncomputable def c38 : Code := bodyOf Try.f38
noncomputable def r38_0 : Code := Code.sub [0] c38
noncomputable def r38_1 : Code := Code.sub [1, 0] c38
noncomputable def r38_2 : Code := Code.sub [1, 1, 0, 0, 0, 0, 0] c38
noncomputable def r38_3 : Code := Code.sub [1, 1, 0, 0, 0, 0, 1, 0, 0] c38
noncomputable def r38_4 : Code := Code.sub [1, 1, 0, 0, 0, 0, 1, 1, 0] c38
noncomputable def r38_5 : Code := Code.sub [1, 1, 0, 0, 0, 0, 1, 1, 1, 0, 0] c38
noncomputable def r38_6 : Code := Code.sub [1, 1, 0, 0, 0, 0, 1, 1, 1, 0, 1, 0] c38
noncomputable def r38_7 : Code := Code.sub [1, 1, 0, 0, 0, 0, 1, 1, 1, 0, 1, 1, 0] c38
noncomputable def r38_8 : Code := Code.sub [1, 1, 0, 0, 0, 0, 1, 1, 1, 1, 0, 0] c38
noncomputable def r38_9 : Code := Code.sub [1, 1, 0, 0, 0, 0, 1, 1, 1, 1, 1, 0] c38
noncomputable def r38_10 : Code := Code.sub [1, 1, 0, 0, 0, 0, 1, 1, 1, 1, 1, 1] c38
noncomputable def r38_11 : Code := Code.sub [1, 1, 1, 0] c38
theorem body38 : c38 = (.seq r38_0 (.seq r38_1 (.seq (.block 0 (.loop (.block 1 (.seq r38_2 (.seq (.seq r38_3 (.cond (.tmp 21) (.exit 0) .skip)) (.seq r38_4 (.seq (.seq r38_5 (.seq r38_6 (.cond (.tmp 33) r38_7 .skip))) (.seq (.seq r38_8 (.cond (.tmp 39) (.exit 0) .skip)) (.seq r38_9 r38_10))))))))) (.seq r38_11 .ret)))) := by kernel_rfl
noncomputable def L38_0 : Lt r38_0 := by refine ⟨?l, ?h⟩; case h => simp only [r38_0, c38, bodyOf, Try.f38, Code.sub, opsOf, List.map_cons, List.map_nil, strip]; rfl
theorem w38_0 : Wp r38_0 11 [21, 33, 39] [6] [] [] [some 6] (L38_0).1 := w_plain (by kernel_rfl) (L38_0).2
noncomputable def L38_1 : Lt r38_1 := by refine ⟨?l, ?h⟩; case h => simp only [r38_1, c38, bodyOf, Try.f38, Code.sub, opsOf, List.map_cons, List.map_nil, strip]; rfl
theorem w38_1 : Wp r38_1 11 [21, 33, 39] [7] [] [1] [some 11, some 7] (L38_1).1 := w_plain (by kernel_rfl) (L38_1).2
noncomputable def L38_2 : Lt r38_2 := by refine ⟨?l, ?h⟩; case h => simp only [r38_2, c38, bodyOf, Try.f38, Code.sub, opsOf, List.map_cons, List.map_nil, strip]; rfl
theorem w38_2 : Wp r38_2 11 [21, 33, 39] [8] [] [7] [some 12, some 13, some 14, some 8] (L38_2).1 := w_plain (by kernel_rfl) (L38_2).2
noncomputable def L38_3 : Lt r38_3 := by refine ⟨?l, ?h⟩; case h => simp only [r38_3, c38, bodyOf, Try.f38, Code.sub, opsOf, List.map_cons, List.map_nil, strip]; rfl
theorem w38_3 : Wp r38_3 11 [21, 33, 39] [] [21] [2, 8] [some 15, some 16, some 17, some 18, some 19, some 20, some 21] (L38_3).1 := w_plain (by kernel_rfl) (L38_3).2
noncomputable def L38_4 : Lt r38_4 := by refine ⟨?l, ?h⟩; case h => simp only [r38_4, c38, bodyOf, Try.f38, Code.sub, opsOf, List.map_cons, List.map_nil, strip]; rfl
theorem w38_4 : Wp r38_4 11 [21, 33, 39] [9] [] [8] [some 22, some 9] (L38_4).1 := w_plain (by kernel_rfl) (L38_4).2
noncomputable def L38_5 : Lt r38_5 := by refine ⟨?l, ?h⟩; case h => simp only [r38_5, c38, bodyOf, Try.f38, Code.sub, opsOf, List.map_cons, List.map_nil, strip]; rfl
theorem w38_5 : Wp r38_5 11 [21, 33, 39] [10] [] [8] [some 23, some 24, some 10] (L38_5).1 := w_plain (by kernel_rfl) (L38_5).2
noncomputable def L38_6 : Lt r38_6 := by refine ⟨?l, ?h⟩; case h => simp only [r38_6, c38, bodyOf, Try.f38, Code.sub, opsOf, List.map_cons, List.map_nil, strip]; rfl
theorem w38_6 : Wp r38_6 11 [21, 33, 39] [] [33] [2, 0, 10, 8] [some 25, some 26, some 27, some 28, some 29, some 30, some 31, some 32, some 33] (L38_6).1 := w_plain (by kernel_rfl) (L38_6).2
noncomputable def L38_7 : Lt r38_7 := by refine ⟨?l, ?h⟩; case h => simp only [r38_7, c38, bodyOf, Try.f38, Code.sub, opsOf, List.map_cons, List.map_nil, strip]; rfl
theorem w38_7 : Wp r38_7 11 [21, 33, 39] [9] [] [10] [some 34, some 9] (L38_7).1 := w_plain (by kernel_rfl) (L38_7).2
noncomputable def L38_8 : Lt r38_8 := by refine ⟨?l, ?h⟩; case h => simp only [r38_8, c38, bodyOf, Try.f38, Code.sub, opsOf, List.map_cons, List.map_nil, strip]; rfl
theorem w38_8 : Wp r38_8 11 [21, 33, 39] [] [39] [0, 9, 7] [some 35, some 36, some 37, some 38, some 39] (L38_8).1 := w_plain (by kernel_rfl) (L38_8).2
noncomputable def L38_9 : Lt r38_9 := by refine ⟨?l, ?h⟩; case h => simp only [r38_9, c38, bodyOf, Try.f38, Code.sub, opsOf, List.map_cons, List.map_nil, strip]; rfl
theorem w38_9 : Wp r38_9 11 [21, 33, 39] [] [] [0, 7, 9] [some 40, some 41, some 42, some 43] (L38_9).1 := w_plain (by kernel_rfl) (L38_9).2
noncomputable def L38_10 : Lt r38_10 := by refine ⟨?l, ?h⟩; case h => simp only [r38_10, c38, bodyOf, Try.f38, Code.sub, opsOf, List.map_cons, List.map_nil, strip]; rfl
theorem w38_10 : Wp r38_10 11 [21, 33, 39] [7] [] [9] [some 44, some 7] (L38_10).1 := w_plain (by kernel_rfl) (L38_10).2
noncomputable def L38_11 : Lt r38_11 := by refine ⟨?l, ?h⟩; case h => simp only [r38_11, c38, bodyOf, Try.f38, Code.sub, opsOf, List.map_cons, List.map_nil, strip]; rfl
theorem w38_11 : Wp r38_11 11 [21, 33, 39] [6] [] [7, 1] [some 45, some 46, some 47, some 6] (L38_11).1 := w_plain (by kernel_rfl) (L38_11).2
theorem k38 : FnIs TT 38 c38 [.tmp 6] 3 := ⟨Try.f38, by kernel_rfl, by simp only [Try.f38, c38, bodyOf], by kernel_rfl, of_decide_eq_true (by kernel_rfl)⟩

/- container/heap.up -/
noncomputable def c39 : Code := bodyOf Try.f39
noncomputable def r39_0 : Code := Code.sub [0, 0, 0, 0] c39
noncomputable def r39_1 : Code := Code.sub [0, 0, 0, 1, 0, 0] c39
noncomputable def r39_2 : Code := Code.sub [0, 0, 0, 1, 1, 0] c39
noncomputable def r39_3 : Code := Code.sub [0, 0, 0, 1, 1, 1] c39
theorem body39 : c39 = (.block 0 (.loop (.block 1 (.seq r39_0 (.seq (.seq r39_1 (.cond (.tmp 17) (.exit 0) .skip)) (.seq r39_2 r39_3)))))) := by kernel_rfl
noncomputable def L39_0 : Lt r39_0 := by refine ⟨?l, ?h⟩; case h => simp only [r39_0, c39, bodyOf, Try.f39, Code.sub, opsOf, List.map_cons, List.map_nil, strip]; rfl
theorem w39_0 : Wp r39_0 5 [17] [4] [] [1] [some 5, some 6, some 7, some 4] (L39_0).1 := w_plain (by kernel_rfl) (L39_0).2
noncomputable def L39_1 : Lt r39_1 := by refine ⟨?l, ?h⟩; case h => simp only [r39_1, c39, bodyOf, Try.f39, Code.sub, opsOf, List.map_cons, List.map_nil, strip]; rfl
theorem w39_1 : Wp r39_1 5 [17] [] [17] [0, 1, 4] [some 8, some 9, some 10, some 11, some 12, some 13, some 14, some 15, some 16, some 17] (L39_1).1 := w_plain (by kernel_rfl) (L39_1).2
noncomputable def L39_2 : Lt r39_2 := by refine ⟨?l, ?h⟩; case h => simp only [r39_2, c39, bodyOf, Try.f39, Code.sub, opsOf, List.map_cons, List.map_nil, strip]; rfl
theorem w39_2 : Wp r39_2 5 [17] [] [] [0, 4, 1] [some 18, some 19, some 20, some 21] (L39_2).1 := w_plain (by kernel_rfl) (L39_2).2
noncomputable def L39_3 : Lt r39_3 := by refine ⟨?l, ?h⟩; case h => simp only [r39_3, c39, bodyOf, Try.f39, Code.sub, opsOf, List.map_cons, List.map_nil, strip]; rfl
theorem w39_3 : Wp r39_3 5 [17] [1] [] [4] [some 22, some 1] (L39_3).1 := w_plain (by kernel_rfl) (L39_3).2
theorem k39 : FnIs TT 39 c39 [] 2 := ⟨Try.f39, by kernel_rfl, by simp only [Try.f39, c39, bodyOf], by kernel_rfl, of_decide_eq_true (by kernel_rfl)⟩

/- slices.SortFunc[[]*cache.item,*cache.item] -/
noncomputable def c40 : Code := bodyOf Try.f40
noncomputable def r40_0 : Code := Code.sub [0] c40
noncomputable def r40_1 : Code := Code.sub [1] c40
theorem body40 : c40 = (.seq r40_0 r40_1) := by kernel_rfl
noncomputable def L40_0 : Lt r40_0 := by refine ⟨?l, ?h⟩; case h => simp only [r40_0, c40, bodyOf, Try.f40, Code.sub, opsOf, List.map_cons, List.map_nil, strip]; rfl
theorem w40_0 : Wp r40_0 5 [] [4] [] [0] [some 5, some 6, some 4] (L40_0).1 := w_plain (by kernel_rfl) (L40_0).2
noncomputable def L40_1 : Lt r40_1 := by refine ⟨?l, ?h⟩; case h => simp only [r40_1, c40, bodyOf, Try.f40, Code.sub, opsOf, List.map_cons, List.map_nil, strip]; rfl
theorem w40_1 : Wp r40_1 5 [] [] [] [0, 4, 1] [some 7, some 8, some 9, some 10, some 11, some 12, some 13] (L40_1).1 := w_plain (by kernel_rfl) (L40_1).2
theorem k40 : FnIs TT 40 c40 [] 2 := ⟨Try.f40, by kernel_rfl, by simp only [Try.f40, c40, bodyOf], by kernel_rfl, of_decide_eq_true (by kernel_rfl)⟩

/- (*cache.Cache).sorted$1 -/
noncomputable def c41 : Code := bodyOf Try.f41
noncomputable def r41_0 : Code := Code.sub [0] c41
noncomputable def r41_1 : Code := Code.sub [1, 0, 0] c41
noncomputable def r41_2 : Code := Code.sub [1, 0, 1, 0, 0] c41
noncomputable def r41_3 : Code := Code.sub [1, 1, 0] c41
theorem body41 : c41 = (.seq r41_0 (.seq (.seq r41_1 (.cond (.tmp 13) (.seq r41_2 .ret) .skip)) (.seq r41_3 .ret))) := by kernel_rfl
noncomputable def L41_0 : Lt r41_0 := by refine ⟨?l, ?h⟩; case h => simp only [r41_0, c41, bodyOf, Try.f41, Code.sub, opsOf, List.map_cons, List.map_nil, strip]; rfl
theorem w41_0 : Wp r41_0 5 [13] [4] [] [] [some 4] (L41_0).1 := w_plain (by kernel_rfl) (L41_0).2
noncomputable def L41_1 : Lt r41_1 := by refine ⟨?l, ?h⟩; case h => simp only [r41_1, c41, bodyOf, Try.f41, Code.sub, opsOf, List.map_cons, List.map_nil, strip]; rfl
theorem w41_1 : Wp r41_1 5 [13] [] [13] [0, 1] [some 5, some 6, some 7, some 8, some 9, some 10, some 11, some 12, some 13] (L41_1).1 := w_plain (by kernel_rfl) (L41_1).2
noncomputable def L41_2 : Lt r41_2 := by refine ⟨?l, ?h⟩; case h => simp only [r41_2, c41, bodyOf, Try.f41, Code.sub, opsOf, List.map_cons, List.map_nil, strip]; rfl
theorem w41_2 : Wp r41_2 5 [13] [4] [] [] [some 4] (L41_2).1 := w_plain (by kernel_rfl) (L41_2).2
noncomputable def L41_3 : Lt r41_3 := by refine ⟨?l, ?h⟩; case h => simp only [r41_3, c41, bodyOf, Try.f41, Code.sub, opsOf, List.map_cons, List.map_nil, strip]; rfl
theorem w41_3 : Wp r41_3 5 [13] [4] [] [] [some 4] (L41_3).1 := w_plain (by kernel_rfl) (L41_3).2
theorem k41 : FnIs TT 41 c41 [.tmp 4] 2 := ⟨Try.f41, by kernel_rfl, by simp only [Try.f41, c41, bodyOf], by kernel_rfl, of_decide_eq_true (by kernel_rfl)⟩

/- slices.IndexFunc[cache.items,*cache.item] -/
noncomputable def c42 : Code := bodyOf Try.f42
noncomputable def r42_0 : Code := Code.sub [0] c42
noncomputable def r42_1 : Code := Code.sub [1, 0, 0] c42
noncomputable def r42_2 : Code := Code.sub [1, 0, 1, 0, 0, 0] c42
noncomputable def r42_3 : Code := Code.sub [1, 0, 1, 0, 0, 1, 1, 0, 0, 0] c42
noncomputable def r42_4 : Code := Code.sub [1, 0, 1, 0, 0, 1, 1, 0, 0, 1, 0] c42
noncomputable def r42_5 : Code := Code.sub [1, 0, 1, 0, 0, 1, 1, 0, 0, 1, 1, 0, 0] c42
noncomputable def r42_6 : Code := Code.sub [1, 0, 1, 0, 0, 1, 1, 1] c42
noncomputable def r42_7 : Code := Code.sub [1, 1, 0] c42
theorem body42 : c42 = (.seq r42_0 (.seq (.seq r42_1 (.block 0 (.loop (.seq r42_2 (.seq (.cond (.tmp 9) .skip (.exit 0)) (.seq (.block 1 (.seq r42_3 (.seq r42_4 (.cond (.tmp 16) (.seq r42_5 .ret) .skip)))) r42_6)))))) (.seq r42_7 .ret))) := by kernel_rfl
noncomputable def L42_0 : Lt r42_0 := by refine ⟨?l, ?h⟩; case h => simp only [r42_0, c42, bodyOf, Try.f42, Code.sub, opsOf, List.map_cons, List.map_nil, strip]; rfl
theorem w42_0 : Wp r42_0 9 [9, 16] [4] [] [] [some 4] (L42_0).1 := w_plain (by kernel_rfl) (L42_0).2
noncomputable def L42_1 : Lt r42_1 := by refine ⟨?l, ?h⟩; case h => simp only [r42_1, c42, bodyOf, Try.f42, Code.sub, opsOf, List.map_cons, List.map_nil, strip]; rfl
theorem w42_1 : Wp r42_1 9 [9, 16] [6, 7, 8] [] [0] [some 6, some 7, some 8] (L42_1).1 := w_plain (by kernel_rfl) (L42_1).2
noncomputable def L42_2 : Lt r42_2 := by refine ⟨?l, ?h⟩; case h => simp only [r42_2, c42, bodyOf, Try.f42, Code.sub, opsOf, List.map_cons, List.map_nil, strip]; rfl
theorem w42_2 : Wp r42_2 9 [9, 16] [] [9] [8, 7] [some 9] (L42_2).1 := w_plain (by kernel_rfl) (L42_2).2
noncomputable def L42_3 : Lt r42_3 := by refine ⟨?l, ?h⟩; case h => simp only [r42_3, c42, bodyOf, Try.f42, Code.sub, opsOf, List.map_cons, List.map_nil, strip]; rfl
theorem w42_3 : Wp r42_3 9 [9, 16] [5] [] [8] [some 10, some 5] (L42_3).1 := w_plain (by kernel_rfl) (L42_3).2
noncomputable def L42_4 : Lt r42_4 := by refine ⟨?l, ?h⟩; case h => simp only [r42_4, c42, bodyOf, Try.f42, Code.sub, opsOf, List.map_cons, List.map_nil, strip]; rfl
theorem w42_4 : Wp r42_4 9 [9, 16] [] [16] [1, 0, 5] [some 11, some 12, some 13, some 14, some 15, some 16] (L42_4).1 := w_plain (by kernel_rfl) (L42_4).2
noncomputable def L42_5 : Lt r42_5 := by refine ⟨?l, ?h⟩; case h => simp only [r42_5, c42, bodyOf, Try.f42, Code.sub, opsOf, List.map_cons, List.map_nil, strip]; rfl
theorem w42_5 : Wp r42_5 9 [9, 16] [4] [] [5] [some 17, some 4] (L42_5).1 := w_plain (by kernel_rfl) (L42_5).2
noncomputable def L42_6 : Lt r42_6 := by refine ⟨?l, ?h⟩; case h => simp only [r42_6, c42, bodyOf, Try.f42, Code.sub, opsOf, List.map_cons, List.map_nil, strip]; rfl
theorem w42_6 : Wp r42_6 9 [9, 16] [8] [] [8] [some 18, some 8] (L42_6).1 := w_plain (by kernel_rfl) (L42_6).2
noncomputable def L42_7 : Lt r42_7 := by refine ⟨?l, ?h⟩; case h => simp only [r42_7, c42, bodyOf, Try.f42, Code.sub, opsOf, List.map_cons, List.map_nil, strip]; rfl
theorem w42_7 : Wp r42_7 9 [9, 16] [4] [] [] [some 4] (L42_7).1 := w_plain (by kernel_rfl) (L42_7).2
theorem k42 : FnIs TT 42 c42 [.tmp 4] 2 := ⟨Try.f42, by kernel_rfl, by simp only [Try.f42, c42, bodyOf], by kernel_rfl, of_decide_eq_true (by kernel_rfl)⟩

/- (*cache.Cache).find$1 -/
noncomputable def c43 : Code := bodyOf Try.f43
noncomputable def r43_0 : Code := Code.sub [0] c43
noncomputable def r43_1 : Code := Code.sub [1, 0] c43
theorem body43 : c43 = (.seq r43_0 (.seq r43_1 .ret)) := by kernel_rfl
noncomputable def L43_0 : Lt r43_0 := by refine ⟨?l, ?h⟩; case h => simp only [r43_0, c43, bodyOf, Try.f43, Code.sub, opsOf, List.map_cons, List.map_nil, strip]; rfl
theorem w43_0 : Wp r43_0 5 [] [4] [] [] [some 4] (L43_0).1 := w_plain (by kernel_rfl) (L43_0).2
theorem can43_1 : canonOps (opsOf r43_1) = opsOf r43_1 := by kernel_rfl
noncomputable def L43_1 : Lc r43_1 := by refine ⟨?l, (congrArg (List.map strip) can43_1).trans ?h⟩; case h => simp only [r43_1, c43, bodyOf, Try.f43, Code.sub, opsOf, List.map_cons, List.map_nil, strip]; rfl
theorem w43_1 : Wd r43_1 5 [] [4] [] [0, 1, 2] [some 5, some 6, some 7, some 8, some 9, some 10, some 4] (L43_1).1 [(2, [1, 7]), (3, [1, 7])] := w_loud (by kernel_rfl) (L43_1).2
theorem k43 : FnIs TT 43 c43 [.tmp 4] 3 := ⟨Try.f43, by kernel_rfl, by simp only [Try.f43, c43, bodyOf], by kernel_rfl, of_decide_eq_true (by kernel_rfl)⟩

/- slices.pdqsortCmpFunc[*cache.item] -/
noncomputable def c45 : Code := bodyOf Try.f45
noncomputable def r45_0 : Code := Code.sub [0] c45
noncomputable def r45_1 : Code := Code.sub [1, 0] c45
noncomputable def r45_2 : Code := Code.sub [1, 1, 0, 0, 0, 0] c45
noncomputable def r45_3 : Code := Code.sub [1, 1, 0, 0, 0, 1, 0, 0] c45
noncomputable def r45_4 : Code := Code.sub [1, 1, 0, 0, 0, 1, 0, 1, 0, 0] c45
noncomputable def r45_5 : Code := Code.sub [1, 1, 0, 0, 0, 1, 1, 0, 0] c45
noncomputable def r45_6 : Code := Code.sub [1, 1, 0, 0, 0, 1, 1, 0, 1, 0, 0] c45
noncomputable def r45_7 : Code := Code.sub [1, 1, 0, 0, 0, 1, 1, 1, 0, 0] c45
noncomputable def r45_8 : Code := Code.sub [1, 1, 0, 0, 0, 1, 1, 1, 0, 1, 0, 0] c45
noncomputable def r45_9 : Code := Code.sub [1, 1, 0, 0, 0, 1, 1, 1, 0, 1, 0, 1] c45
noncomputable def r45_10 : Code := Code.sub [1, 1, 0, 0, 0, 1, 1, 1, 1, 0] c45
noncomputable def r45_11 : Code := Code.sub [1, 1, 0, 0, 0, 1, 1, 1, 1, 1, 0, 0] c45
noncomputable def r45_12 : Code := Code.sub [1, 1, 0, 0, 0, 1, 1, 1, 1, 1, 0, 1, 0, 0] c45
noncomputable def r45_13 : Code := Code.sub [1, 1, 0, 0, 0, 1, 1, 1, 1, 1, 0, 1, 0, 1, 0] c45
noncomputable def r45_14 : Code := Code.sub [1, 1, 0, 0, 0, 1, 1, 1, 1, 1, 0, 1, 0, 1, 1] c45
noncomputable def r45_15 : Code := Code.sub [1, 1, 0, 0, 0, 1, 1, 1, 1, 1, 1, 0, 0] c45
noncomputable def r45_16 : Code := Code.sub [1, 1, 0, 0, 0, 1, 1, 1, 1, 1, 1, 0, 1, 0, 0] c45
noncomputable def r45_17 : Code := Code.sub [1, 1, 0, 0, 0, 1, 1, 1, 1, 1, 1, 1, 0, 0] c45
noncomputable def r45_18 : Code := Code.sub [1, 1, 0, 0, 0, 1, 1, 1, 1, 1, 1, 1, 0, 1, 0, 0] c45
noncomputable def r45_19 : Code := Code.sub [1, 1, 0, 0, 0, 1, 1, 1, 1, 1, 1, 1, 0, 1, 0, 1, 0] c45
noncomputable def r45_20 : Code := Code.sub [1, 1, 0, 0, 0, 1, 1, 1, 1, 1, 1, 1, 1, 0] c45
noncomputable def r45_21 : Code := Code.sub [1, 1, 0, 0, 0, 1, 1, 1, 1, 1, 1, 1, 1, 1, 0] c45
noncomputable def r45_22 : Code := Code.sub [1, 1, 0, 0, 0, 1, 1, 1, 1, 1, 1, 1, 1, 1, 1, 0] c45
noncomputable def r45_23 : Code := Code.sub [1, 1, 0, 0, 0, 1, 1, 1, 1, 1, 1, 1, 1, 1, 1, 1, 0] c45
noncomputable def r45_24 : Code := Code.sub [1, 1, 0, 0, 0, 1, 1, 1, 1, 1, 1, 1, 1, 1, 1, 1, 1, 0] c45
noncomputable def r45_25 : Code := Code.sub [1, 1, 0, 0, 0, 1, 1, 1, 1, 1, 1, 1, 1, 1, 1, 1, 1, 1, 0, 0] c45
noncomputable def r45_26 : Code := Code.sub [1, 1, 0, 0, 0, 1, 1, 1, 1, 1, 1, 1, 1, 1, 1, 1, 1, 1, 0, 1, 0] c45
noncomputable def r45_27 : Code := Code.sub [1, 1, 0, 0, 0, 1, 1, 1, 1, 1, 1, 1, 1, 1, 1, 1, 1, 1, 0, 1, 1] c45
noncomputable def r45_28 : Code := Code.sub [1, 1, 0, 0, 0, 1, 1, 1, 1, 1, 1, 1, 1, 1, 1, 1, 1, 1, 1, 0] c45
noncomputable def r45_29 : Code := Code.sub [1, 1, 0, 0, 0, 1, 1, 1, 1, 1, 1, 1, 1, 1, 1, 1, 1, 1, 1, 1, 0] c45
noncomputable def r45_30 : Code := Code.sub [1, 1, 0, 0, 0, 1, 1, 1, 1, 1, 1, 1, 1, 1, 1, 1, 1, 1, 1, 1, 1] c45
theorem body45 : c45 = (.seq r45_0 (.seq r45_1 (.block 0 (.loop (.block 1 (.seq r45_2 (.seq (.seq r45_3 (.cond (.tmp 25) (.seq r45_4 .ret) .skip)) (.seq (.seq r45_5 (.cond (.tmp 32) (.seq r45_6 .ret) .skip)) (.seq (.seq r45_7 (.cond (.tmp 39) (.seq r45_8 r45_9) .skip)) (.seq r45_10 (.seq (.seq r45_11 (.cond (.tmp 56) (.seq r45_12 (.seq r45_13 r45_14)) .skip)) (.seq (.seq r45_15 (.cond (.tmp 75) (.seq r45_16 (.cond (.tmp 80) .ret .skip)) .skip)) (.seq (.seq r45_17 (.cond (.tmp 97) (.seq r45_18 (.seq r45_19 (.exit 1))) .skip)) (.seq r45_20 (.seq r45_21 (.seq r45_22 (.seq r45_23 (.seq r45_24 (.cond (.tmp 125) (.seq r45_25 (.seq r45_26 r45_27)) (.seq r45_28 (.seq r45_29 r45_30))))))))))))))))))))) := by kernel_rfl
noncomputable def L45_0 : Lt r45_0 := by refine ⟨?l, ?h⟩; case h => simp only [r45_0, c45, bodyOf, Try.f45, Code.sub, opsOf, List.map_cons, List.map_nil, strip]; rfl
theorem w45_0 : Wp r45_0 21 [25, 32, 39, 56, 75, 80, 97, 125] [10] [] [] [some 10] (L45_0).1 := w_plain (by kernel_rfl) (L45_0).2
noncomputable def L45_1 : Lt r45_1 := by refine ⟨?l, ?h⟩; case h => simp only [r45_1, c45, bodyOf, Try.f45, Code.sub, opsOf, List.map_cons, List.map_nil, strip]; rfl
theorem w45_1 : Wp r45_1 21 [25, 32, 39, 56, 75, 80, 97, 125] [11] [] [] [some 11] (L45_1).1 := w_plain (by kernel_rfl) (L45_1).2
noncomputable def L45_2 : Lt r45_2 := by refine ⟨?l, ?h⟩; case h => simp only [r45_2, c45, bodyOf, Try.f45, Code.sub, opsOf, List.map_cons, List.map_nil, strip]; rfl
theorem w45_2 : Wp r45_2 21 [25, 32, 39, 56, 75, 80, 97, 125] [12] [] [2, 1] [some 21, some 22, some 23, some 12] (L45_2).1 := w_plain (by kernel_rfl) (L45_2).2
noncomputable def L45_3 : Lt r45_3 := by refine ⟨?l, ?h⟩; case h => simp only [r45_3, c45, bodyOf, Try.f45, Code.sub, opsOf, List.map_cons, List.map_nil, strip]; rfl
theorem w45_3 : Wp r45_3 21 [25, 32, 39, 56, 75, 80, 97, 125] [] [25] [12] [some 24, some 25] (L45_3).1 := w_plain (by kernel_rfl) (L45_3).2
noncomputable def L45_4 : Lt r45_4 := by refine ⟨?l, ?h⟩; case h => simp only [r45_4, c45, bodyOf, Try.f45, Code.sub, opsOf, List.map_cons, List.map_nil, strip]; rfl
theorem w45_4 : Wp r45_4 21 [25, 32, 39, 56, 75, 80, 97, 125] [] [] [0, 1, 2, 4] [some 26, some 27, some 28, some 29, some 30] (L45_4).1 := w_plain (by kernel_rfl) (L45_4).2
noncomputable def L45_5 : Lt r45_5 := by refine ⟨?l, ?h⟩; case h => simp only [r45_5, c45, bodyOf, Try.f45, Code.sub, opsOf, List.map_cons, List.map_nil, strip]; rfl
theorem w45_5 : Wp r45_5 21 [25, 32, 39, 56, 75, 80, 97, 125] [] [32] [3] [some 31, some 32] (L45_5).1 := w_plain (by kernel_rfl) (L45_5).2
noncomputable def L45_6 : Lt r45_6 := by refine ⟨?l, ?h⟩; case h => simp only [r45_6, c45, bodyOf, Try.f45, Code.sub, opsOf, List.map_cons, List.map_nil, strip]; rfl
theorem w45_6 : Wp r45_6 21 [25, 32, 39, 56, 75, 80, 97, 125] [] [] [0, 1, 2, 4] [some 33, some 34, some 35, some 36, some 37] (L45_6).1 := w_plain (by kernel_rfl) (L45_6).2
noncomputable def L45_7 : Lt r45_7 := by refine ⟨?l, ?h⟩; case h => simp only [r45_7, c45, bodyOf, Try.f45, Code.sub, opsOf, List.map_cons, List.map_nil, strip]; rfl
theorem w45_7 : Wp r45_7 21 [25, 32, 39, 56, 75, 80, 97, 125] [] [39] [10] [some 38, some 39] (L45_7).1 := w_plain (by kernel_rfl) (L45_7).2
noncomputable def L45_8 : Lt r45_8 := by refine ⟨?l, ?h⟩; case h => simp only [r45_8, c45, bodyOf, Try.f45, Code.sub, opsOf, List.map_cons, List.map_nil, strip]; rfl
theorem w45_8 : Wp r45_8 21 [25, 32, 39, 56, 75, 80, 97, 125] [] [] [0, 1, 2, 4] [some 40, some 41, some 42, some 43, some 44] (L45_8).1 := w_plain (by kernel_rfl) (L45_8).2
noncomputable def L45_9 : Lt r45_9 := by refine ⟨?l, ?h⟩; case h => simp only [r45_9, c45, bodyOf, Try.f45, Code.sub, opsOf, List.map_cons, List.map_nil, strip]; rfl
theorem w45_9 : Wp r45_9 21 [25, 32, 39, 56, 75, 80, 97, 125] [3] [] [3] [some 45, some 46, some 3] (L45_9).1 := w_plain (by kernel_rfl) (L45_9).2
noncomputable def L45_10 : Lt r45_10 := by refine ⟨?l, ?h⟩; case h => simp only [r45_10, c45, bodyOf, Try.f45, Code.sub, opsOf, List.map_cons, List.map_nil, strip]; rfl
theorem w45_10 : Wp r45_10 21 [25, 32, 39, 56, 75, 80, 97, 125] [13, 14] [] [0, 1, 2, 4] [some 48, some 49, some 50, some 51, some 52, some 47, some 53, some 54, some 13, some 14] (L45_10).1 := w_plain (by kernel_rfl) (L45_10).2
noncomputable def L45_11 : Lt r45_11 := by refine ⟨?l, ?h⟩; case h => simp only [r45_11, c45, bodyOf, Try.f45, Code.sub, opsOf, List.map_cons, List.map_nil, strip]; rfl
theorem w45_11 : Wp r45_11 21 [25, 32, 39, 56, 75, 80, 97, 125] [] [56] [14] [some 55, some 56] (L45_11).1 := w_plain (by kernel_rfl) (L45_11).2
noncomputable def L45_12 : Lt r45_12 := by refine ⟨?l, ?h⟩; case h => simp only [r45_12, c45, bodyOf, Try.f45, Code.sub, opsOf, List.map_cons, List.map_nil, strip]; rfl
theorem w45_12 : Wp r45_12 21 [25, 32, 39, 56, 75, 80, 97, 125] [] [] [0, 1, 2, 4] [some 57, some 58, some 59, some 60, some 61] (L45_12).1 := w_plain (by kernel_rfl) (L45_12).2
noncomputable def L45_13 : Lt r45_13 := by refine ⟨?l, ?h⟩; case h => simp only [r45_13, c45, bodyOf, Try.f45, Code.sub, opsOf, List.map_cons, List.map_nil, strip]; rfl
theorem w45_13 : Wp r45_13 21 [25, 32, 39, 56, 75, 80, 97, 125] [13] [] [2, 13, 1] [some 62, some 63, some 64, some 65, some 66, some 67, some 13] (L45_13).1 := w_plain (by kernel_rfl) (L45_13).2
noncomputable def L45_14 : Lt r45_14 := by refine ⟨?l, ?h⟩; case h => simp only [r45_14, c45, bodyOf, Try.f45, Code.sub, opsOf, List.map_cons, List.map_nil, strip]; rfl
theorem w45_14 : Wp r45_14 21 [25, 32, 39, 56, 75, 80, 97, 125] [14] [] [] [some 14] (L45_14).1 := w_plain (by kernel_rfl) (L45_14).2
noncomputable def L45_15 : Lt r45_15 := by refine ⟨?l, ?h⟩; case h => simp only [r45_15, c45, bodyOf, Try.f45, Code.sub, opsOf, List.map_cons, List.map_nil, strip]; rfl
theorem w45_15 : Wp r45_15 21 [25, 32, 39, 56, 75, 80, 97, 125] [] [75] [10, 11, 14] [some 68, some 69, some 70, some 71, some 72, some 73, some 74, some 75] (L45_15).1 := w_plain (by kernel_rfl) (L45_15).2
noncomputable def L45_16 : Lt r45_16 := by refine ⟨?l, ?h⟩; case h => simp only [r45_16, c45, bodyOf, Try.f45, Code.sub, opsOf, List.map_cons, List.map_nil, strip]; rfl
theorem w45_16 : Wp r45_16 21 [25, 32, 39, 56, 75, 80, 97, 125] [] [80] [0, 1, 2, 4] [some 76, some 77, some 78, some 79, some 80] (L45_16).1 := w_plain (by kernel_rfl) (L45_16).2
theorem can45_17 : canonOps (opsOf r45_17) = opsOf r45_17 := by kernel_rfl
noncomputable def L45_17 : Lc r45_17 := by refine ⟨?l, (congrArg (List.map strip) can45_17).trans ?h⟩; case h => simp only [r45_17, c45, bodyOf, Try.f45, Code.sub, opsOf, List.map_cons, List.map_nil, strip]; rfl
theorem w45_17 : Wd r45_17 21 [25, 32, 39, 56, 75, 80, 97, 125] [] [97] [4, 1, 0, 13] [some 81, some 82, some 83, some 84, some 85, some 86, some 87, some 88, some 89, some 90, some 91, some 92, some 93, some 94, some 95, some 96, some 97] (L45_17).1 [(8, [13]), (12, [13])] := w_loud (by kernel_rfl) (L45_17).2
noncomputable def L45_18 : Lt r45_18 := by refine ⟨?l, ?h⟩; case h => simp only [r45_18, c45, bodyOf, Try.f45, Code.sub, opsOf, List.map_cons, List.map_nil, strip]; rfl
theorem w45_18 : Wp r45_18 21 [25, 32, 39, 56, 75, 80, 97, 125] [15] [] [0, 1, 2, 13, 4] [some 98, some 99, some 100, some 101, some 102, some 103, some 15] (L45_18).1 := w_plain (by kernel_rfl) (L45_18).2
noncomputable def L45_19 : Lt r45_19 := by refine ⟨?l, ?h⟩; case h => simp only [r45_19, c45, bodyOf, Try.f45, Code.sub, opsOf, List.map_cons, List.map_nil, strip]; rfl
theorem w45_19 : Wp r45_19 21 [25, 32, 39, 56, 75, 80, 97, 125] [1] [] [15] [some 104, some 1] (L45_19).1 := w_plain (by kernel_rfl) (L45_19).2
noncomputable def L45_20 : Lt r45_20 := by refine ⟨?l, ?h⟩; case h => simp only [r45_20, c45, bodyOf, Try.f45, Code.sub, opsOf, List.map_cons, List.map_nil, strip]; rfl
theorem w45_20 : Wp r45_20 21 [25, 32, 39, 56, 75, 80, 97, 125] [16, 17] [] [0, 1, 2, 13, 4] [some 106, some 107, some 108, some 109, some 110, some 111, some 105, some 112, some 113, some 16, some 17] (L45_20).1 := w_plain (by kernel_rfl) (L45_20).2
noncomputable def L45_21 : Lt r45_21 := by refine ⟨?l, ?h⟩; case h => simp only [r45_21, c45, bodyOf, Try.f45, Code.sub, opsOf, List.map_cons, List.map_nil, strip]; rfl
theorem w45_21 : Wp r45_21 21 [25, 32, 39, 56, 75, 80, 97, 125] [11] [] [17] [some 114, some 11] (L45_21).1 := w_plain (by kernel_rfl) (L45_21).2
noncomputable def L45_22 : Lt r45_22 := by refine ⟨?l, ?h⟩; case h => simp only [r45_22, c45, bodyOf, Try.f45, Code.sub, opsOf, List.map_cons, List.map_nil, strip]; rfl
theorem w45_22 : Wp r45_22 21 [25, 32, 39, 56, 75, 80, 97, 125] [18, 19] [] [1, 2, 16] [some 115, some 116, some 117, some 118, some 119, some 120, some 18, some 19] (L45_22).1 := w_plain (by kernel_rfl) (L45_22).2
noncomputable def L45_23 : Lt r45_23 := by refine ⟨?l, ?h⟩; case h => simp only [r45_23, c45, bodyOf, Try.f45, Code.sub, opsOf, List.map_cons, List.map_nil, strip]; rfl
theorem w45_23 : Wp r45_23 21 [25, 32, 39, 56, 75, 80, 97, 125] [20] [] [12] [some 121, some 122, some 20] (L45_23).1 := w_plain (by kernel_rfl) (L45_23).2
noncomputable def L45_24 : Lt r45_24 := by refine ⟨?l, ?h⟩; case h => simp only [r45_24, c45, bodyOf, Try.f45, Code.sub, opsOf, List.map_cons, List.map_nil, strip]; rfl
theorem w45_24 : Wp r45_24 21 [25, 32, 39, 56, 75, 80, 97, 125] [] [125] [18, 19] [some 123, some 124, some 125] (L45_24).1 := w_plain (by kernel_rfl) (L45_24).2
noncomputable def L45_25 : Lt r45_25 := by refine ⟨?l, ?h⟩; case h => simp only [r45_25, c45, bodyOf, Try.f45, Code.sub, opsOf, List.map_cons, List.map_nil, strip]; rfl
theorem w45_25 : Wp r45_25 21 [25, 32, 39, 56, 75, 80, 97, 125] [10] [] [18, 20] [some 126, some 127, some 128, some 10] (L45_25).1 := w_plain (by kernel_rfl) (L45_25).2
noncomputable def L45_26 : Lt r45_26 := by refine ⟨?l, ?h⟩; case h => simp only [r45_26, c45, bodyOf, Try.f45, Code.sub, opsOf, List.map_cons, List.map_nil, strip]; rfl
theorem w45_26 : Wp r45_26 21 [25, 32, 39, 56, 75, 80, 97, 125] [] [] [0, 1, 16, 3, 4] [some 129, some 130, some 131, some 132, some 133, some 134] (L45_26).1 := w_plain (by kernel_rfl) (L45_26).2
noncomputable def L45_27 : Lt r45_27 := by refine ⟨?l, ?h⟩; case h => simp only [r45_27, c45, bodyOf, Try.f45, Code.sub, opsOf, List.map_cons, List.map_nil, strip]; rfl
theorem w45_27 : Wp r45_27 21 [25, 32, 39, 56, 75, 80, 97, 125] [1] [] [16] [some 135, some 136, some 1] (L45_27).1 := w_plain (by kernel_rfl) (L45_27).2
noncomputable def L45_28 : Lt r45_28 := by refine ⟨?l, ?h⟩; case h => simp only [r45_28, c45, bodyOf, Try.f45, Code.sub, opsOf, List.map_cons, List.map_nil, strip]; rfl
theorem w45_28 : Wp r45_28 21 [25, 32, 39, 56, 75, 80, 97, 125] [10] [] [19, 20] [some 137, some 138, some 139, some 10] (L45_28).1 := w_plain (by kernel_rfl) (L45_28).2
noncomputable def L45_29 : Lt r45_29 := by refine ⟨?l, ?h⟩; case h => simp only [r45_29, c45, bodyOf, Try.f45, Code.sub, opsOf, List.map_cons, List.map_nil, strip]; rfl
theorem w45_29 : Wp r45_29 21 [25, 32, 39, 56, 75, 80, 97, 125] [] [] [0, 16, 2, 3, 4] [some 140, some 141, some 142, some 143, some 144, some 145, some 146] (L45_29).1 := w_plain (by kernel_rfl) (L45_29).2
noncomputable def L45_30 : Lt r45_30 := by refine ⟨?l, ?h⟩; case h => simp only [r45_30, c45, bodyOf, Try.f45, Code.sub, opsOf, List.map_cons, List.map_nil, strip]; rfl
theorem w45_30 : Wp r45_30 21 [25, 32, 39, 56, 75, 80, 97, 125] [2] [] [16] [some 147, some 2] (L45_30).1 := w_plain (by kernel_rfl) (L45_30).2
theorem k45 : FnIs TT 45 c45 [] 5 := ⟨Try.f45, by kernel_rfl, by simp only [Try.f45, c45, bodyOf], by kernel_rfl, of_decide_eq_true (by kernel_rfl)⟩

/- math/bits.Len -/
noncomputable def c46 : Code := bodyOf Try.f46
noncomputable def r46_0 : Code := Code.sub [0] c46
noncomputable def r46_1 : Code := Code.sub [1, 0, 0, 0] c46
noncomputable def r46_2 : Code := Code.sub [1, 1, 0] c46
theorem body46 : c46 = (.seq r46_0 (.seq (.cond (.const (.bool false)) (.seq r46_1 .ret) .skip) (.seq r46_2 .ret))) := by kernel_rfl
noncomputable def L46_0 : Lt r46_0 := by refine ⟨?l, ?h⟩; case h => simp only [r46_0, c46, bodyOf, Try.f46, Code.sub, opsOf, List.map_cons, List.map_nil, strip]; rfl
theorem w46_0 : Wp r46_0 3 [] [2] [] [] [some 2] (L46_0).1 := w_plain (by kernel_rfl) (L46_0).2
noncomputable def L46_1 : Lt r46_1 := by refine ⟨?l, ?h⟩; case h => simp only [r46_1, c46, bodyOf, Try.f46, Code.sub, opsOf, List.map_cons, List.map_nil, strip]; rfl
theorem w46_1 : Wp r46_1 3 [] [2] [] [0] [some 3, some 4, some 5, some 2] (L46_1).1 := w_plain (by kernel_rfl) (L46_1).2
noncomputable def L46_2 : Lt r46_2 := by refine ⟨?l, ?h⟩; case h => simp only [r46_2, c46, bodyOf, Try.f46, Code.sub, opsOf, List.map_cons, List.map_nil, strip]; rfl
theorem w46_2 : Wp r46_2 3 [] [2] [] [0] [some 6, some 7, some 2] (L46_2).1 := w_plain (by kernel_rfl) (L46_2).2
theorem k46 : FnIs TT 46 c46 [.tmp 2] 1 := ⟨Try.f46, by kernel_rfl, by simp only [Try.f46, c46, bodyOf], by kernel_rfl, of_decide_eq_true (by kernel_rfl)⟩

/- slices.insertionSortCmpFunc[*cache.item] -/
noncomputable def c47 : Code := bodyOf Try.f47
noncomputable def r47_0 : Code := Code.sub [0] c47
noncomputable def r47_1 : Code := Code.sub [1, 0, 0, 0, 0] c47
noncomputable def r47_2 : Code := Code.sub [1, 0, 0, 1, 0, 0, 0] c47
noncomputable def r47_3 : Code := Code.sub [1, 0, 0, 1, 0, 0, 1, 0, 0, 0, 0] c47
noncomputable def r47_4 : Code := Code.sub [1, 0, 0, 1, 0, 0, 1, 0, 0, 1, 0, 0] c47
noncomputable def r47_5 : Code := Code.sub [1, 0, 0, 1, 0, 0, 1, 0, 0, 1, 1] c47
noncomputable def r47_6 : Code := Code.sub [1, 0, 0, 1, 1] c47
theorem body47 : c47 = (.seq r47_0 (.block 0 (.loop (.seq (.seq r47_1 (.cond (.tmp 14) .skip (.exit 0))) (.seq (.block 1 (.seq r47_2 (.block 2 (.loop (.seq (.seq r47_3 (.cond (.tmp 34) .skip (.exit 2))) (.seq (.block 3 r47_4) r47_5)))))) r47_6))))) := by kernel_rfl
noncomputable def L47_0 : Lt r47_0 := by refine ⟨?l, ?h⟩; case h => simp only [r47_0, c47, bodyOf, Try.f47, Code.sub, opsOf, List.map_cons, List.map_nil, strip]; rfl
theorem w47_0 : Wp r47_0 10 [14, 34] [8] [] [1] [some 10, some 11, some 8] (L47_0).1 := w_plain (by kernel_rfl) (L47_0).2
noncomputable def L47_1 : Lt r47_1 := by refine ⟨?l, ?h⟩; case h => simp only [r47_1, c47, bodyOf, Try.f47, Code.sub, opsOf, List.map_cons, List.map_nil, strip]; rfl
theorem w47_1 : Wp r47_1 10 [14, 34] [] [14] [8, 2] [some 12, some 13, some 14] (L47_1).1 := w_plain (by kernel_rfl) (L47_1).2
noncomputable def L47_2 : Lt r47_2 := by refine ⟨?l, ?h⟩; case h => simp only [r47_2, c47, bodyOf, Try.f47, Code.sub, opsOf, List.map_cons, List.map_nil, strip]; rfl
theorem w47_2 : Wp r47_2 10 [14, 34] [9] [] [8] [some 17, some 9] (L47_2).1 := w_plain (by kernel_rfl) (L47_2).2
theorem can47_3 : canonOps (opsOf r47_3) = opsOf r47_3 := by kernel_rfl
noncomputable def L47_3 : Lc r47_3 := by refine ⟨?l, (congrArg (List.map strip) can47_3).trans ?h⟩; case h => simp only [r47_3, c47, bodyOf, Try.f47, Code.sub, opsOf, List.map_cons, List.map_nil, strip]; rfl
theorem w47_3 : Wd r47_3 10 [14, 34] [] [34] [1, 3, 0, 9] [some 18, some 19, some 20, some 21, some 22, some 23, some 24, some 25, some 26, some 27, some 28, some 29, some 30, some 31, some 32, some 33, some 34] (L47_3).1 [(8, [14]), (13, [14])] := w_loud (by kernel_rfl) (L47_3).2
theorem can47_4 : canonOps (opsOf r47_4) = opsOf r47_4 := by kernel_rfl
noncomputable def L47_4 : Lc r47_4 := by refine ⟨?l, (congrArg (List.map strip) can47_4).trans ?h⟩; case h => simp only [r47_4, c47, bodyOf, Try.f47, Code.sub, opsOf, List.map_cons, List.map_nil, strip]; rfl
theorem w47_4 : Wd r47_4 10 [14, 34] [] [] [0, 9] [some 37, some 38, some 39, some 40, some 41, some 42, some 43, some 44, some 45, some 46, some 47, some 48, some 49, some 50, some 51, none, some 52, none] (L47_4).1 [(9, [15]), (13, [15])] := w_loud (by kernel_rfl) (L47_4).2
noncomputable def L47_5 : Lt r47_5 := by refine ⟨?l, ?h⟩; case h => simp only [r47_5, c47, bodyOf, Try.f47, Code.sub, opsOf, List.map_cons, List.map_nil, strip]; rfl
theorem w47_5 : Wp r47_5 10 [14, 34] [9] [] [9] [some 35, some 36, some 9] (L47_5).1 := w_plain (by kernel_rfl) (L47_5).2
noncomputable def L47_6 : Lt r47_6 := by refine ⟨?l, ?h⟩; case h => simp only [r47_6, c47, bodyOf, Try.f47, Code.sub, opsOf, List.map_cons, List.map_nil, strip]; rfl
theorem w47_6 : Wp r47_6 10 [14, 34] [8] [] [8] [some 15, some 16, some 8] (L47_6).1 := w_plain (by kernel_rfl) (L47_6).2
theorem k47 : FnIs TT 47 c47 [] 4 := ⟨Try.f47, by kernel_rfl, by simp only [Try.f47, c47, bodyOf], by kernel_rfl, of_decide_eq_true (by kernel_rfl)⟩

/- math/bits.Len64 -/
noncomputable def c56 : Code := bodyOf Try.f56
noncomputable def r56_0 : Code := Code.sub [0] c56
noncomputable def r56_1 : Code := Code.sub [1, 0, 0] c56
noncomputable def r56_2 : Code := Code.sub [1, 0, 1, 0, 0] c56
noncomputable def r56_3 : Code := Code.sub [1, 0, 1, 0, 1] c56
noncomputable def r56_4 : Code := Code.sub [1, 1, 0, 0] c56
noncomputable def r56_5 : Code := Code.sub [1, 1, 0, 1, 0, 0] c56
noncomputable def r56_6 : Code := Code.sub [1, 1, 0, 1, 0, 1] c56
noncomputable def r56_7 : Code := Code.sub [1, 1, 1, 0, 0] c56
noncomputable def r56_8 : Code := Code.sub [1, 1, 1, 0, 1, 0, 0] c56
noncomputable def r56_9 : Code := Code.sub [1, 1, 1, 0, 1, 0, 1] c56
noncomputable def r56_10 : Code := Code.sub [1, 1, 1, 1, 0] c56
theorem body56 : c56 = (.seq r56_0 (.seq (.seq r56_1 (.cond (.tmp 4) (.seq r56_2 r56_3) .skip)) (.seq (.seq r56_4 (.cond (.tmp 8) (.seq r56_5 r56_6) .skip)) (.seq (.seq r56_7 (.cond (.tmp 14) (.seq r56_8 r56_9) .skip)) (.seq r56_10 .ret))))) := by kernel_rfl
noncomputable def L56_0 : Lt r56_0 := by refine ⟨?l, ?h⟩; case h => simp only [r56_0, c56, bodyOf, Try.f56, Code.sub, opsOf, List.map_cons, List.map_nil, strip]; rfl
theorem w56_0 : Wp r56_0 3 [4, 8, 14] [2] [] [] [some 2] (L56_0).1 := w_plain (by kernel_rfl) (L56_0).2
noncomputable def L56_1 : Lt r56_1 := by refine ⟨?l, ?h⟩; case h => simp only [r56_1, c56, bodyOf, Try.f56, Code.sub, opsOf, List.map_cons, List.map_nil, strip]; rfl
theorem w56_1 : Wp r56_1 3 [4, 8, 14] [] [4] [0] [some 3, some 4] (L56_1).1 := w_plain (by kernel_rfl) (L56_1).2
noncomputable def L56_2 : Lt r56_2 := by refine ⟨?l, ?h⟩; case h => simp only [r56_2, c56, bodyOf, Try.f56, Code.sub, opsOf, List.map_cons, List.map_nil, strip]; rfl
theorem w56_2 : Wp r56_2 3 [4, 8, 14] [0] [] [0] [some 5, some 6, some 0] (L56_2).1 := w_plain (by kernel_rfl) (L56_2).2
noncomputable def L56_3 : Lt r56_3 := by refine ⟨?l, ?h⟩; case h => simp only [r56_3, c56, bodyOf, Try.f56, Code.sub, opsOf, List.map_cons, List.map_nil, strip]; rfl
theorem w56_3 : Wp r56_3 3 [4, 8, 14] [2] [] [] [some 2] (L56_3).1 := w_plain (by kernel_rfl) (L56_3).2
noncomputable def L56_4 : Lt r56_4 := by refine ⟨?l, ?h⟩; case h => simp only [r56_4, c56, bodyOf, Try.f56, Code.sub, opsOf, List.map_cons, List.map_nil, strip]; rfl
theorem w56_4 : Wp r56_4 3 [4, 8, 14] [] [8] [0] [some 7, some 8] (L56_4).1 := w_plain (by kernel_rfl) (L56_4).2
noncomputable def L56_5 : Lt r56_5 := by refine ⟨?l, ?h⟩; case h => simp only [r56_5, c56, bodyOf, Try.f56, Code.sub, opsOf, List.map_cons, List.map_nil, strip]; rfl
theorem w56_5 : Wp r56_5 3 [4, 8, 14] [0] [] [0] [some 9, some 10, some 0] (L56_5).1 := w_plain (by kernel_rfl) (L56_5).2
noncomputable def L56_6 : Lt r56_6 := by refine ⟨?l, ?h⟩; case h => simp only [r56_6, c56, bodyOf, Try.f56, Code.sub, opsOf, List.map_cons, List.map_nil, strip]; rfl
theorem w56_6 : Wp r56_6 3 [4, 8, 14] [2] [] [2] [some 11, some 12, some 2] (L56_6).1 := w_plain (by kernel_rfl) (L56_6).2
noncomputable def L56_7 : Lt r56_7 := by refine ⟨?l, ?h⟩; case h => simp only [r56_7, c56, bodyOf, Try.f56, Code.sub, opsOf, List.map_cons, List.map_nil, strip]; rfl
theorem w56_7 : Wp r56_7 3 [4, 8, 14] [] [14] [0] [some 13, some 14] (L56_7).1 := w_plain (by kernel_rfl) (L56_7).2
noncomputable def L56_8 : Lt r56_8 := by refine ⟨?l, ?h⟩; case h => simp only [r56_8, c56, bodyOf, Try.f56, Code.sub, opsOf, List.map_cons, List.map_nil, strip]; rfl
theorem w56_8 : Wp r56_8 3 [4, 8, 14] [0] [] [0] [some 15, some 16, some 0] (L56_8).1 := w_plain (by kernel_rfl) (L56_8).2
noncomputable def L56_9 : Lt r56_9 := by refine ⟨?l, ?h⟩; case h => simp only [r56_9, c56, bodyOf, Try.f56, Code.sub, opsOf, List.map_cons, List.map_nil, strip]; rfl
theorem w56_9 : Wp r56_9 3 [4, 8, 14] [2] [] [2] [some 17, some 18, some 2] (L56_9).1 := w_plain (by kernel_rfl) (L56_9).2
noncomputable def L56_10 : Lt r56_10 := by refine ⟨?l, ?h⟩; case h => simp only [r56_10, c56, bodyOf, Try.f56, Code.sub, opsOf, List.map_cons, List.map_nil, strip]; rfl
theorem w56_10 : Wp r56_10 3 [4, 8, 14] [2] [] [2, 0] [some 19, some 20, some 21, some 22, some 23, some 24, some 2] (L56_10).1 := w_plain (by kernel_rfl) (L56_10).2
theorem k56 : FnIs TT 56 c56 [.tmp 2] 1 := ⟨Try.f56, by kernel_rfl, by simp only [Try.f56, c56, bodyOf], by kernel_rfl, of_decide_eq_true (by kernel_rfl)⟩

/- (cache.items).Len -/
noncomputable def c79 : Code := bodyOf Try.f79
noncomputable def r79_0 : Code := Code.sub [0] c79
noncomputable def r79_1 : Code := Code.sub [1, 0] c79
theorem body79 : c79 = (.seq r79_0 (.seq r79_1 .ret)) := by kernel_rfl
noncomputable def L79_0 : Lt r79_0 := by refine ⟨?l, ?h⟩; case h => simp only [r79_0, c79, bodyOf, Try.f79, Code.sub, opsOf, List.map_cons, List.map_nil, strip]; rfl
theorem w79_0 : Wp r79_0 3 [] [2] [] [] [some 2] (L79_0).1 := w_plain (by kernel_rfl) (L79_0).2
noncomputable def L79_1 : Lt r79_1 := by refine ⟨?l, ?h⟩; case h => simp only [r79_1, c79, bodyOf, Try.f79, Code.sub, opsOf, List.map_cons, List.map_nil, strip]; rfl
theorem w79_1 : Wp r79_1 3 [] [2] [] [0] [some 3, some 4, some 2] (L79_1).1 := w_plain (by kernel_rfl) (L79_1).2
theorem k79 : FnIs TT 79 c79 [.tmp 2] 1 := ⟨Try.f79, by kernel_rfl, by simp only [Try.f79, c79, bodyOf], by kernel_rfl, of_decide_eq_true (by kernel_rfl)⟩

/- (cache.items).Less -/
noncomputable def c80 : Code := bodyOf Try.f80
noncomputable def r80_0 : Code := Code.sub [0] c80
noncomputable def r80_1 : Code := Code.sub [1, 0] c80
theorem body80 : c80 = (.seq r80_0 (.seq r80_1 .ret)) := by kernel_rfl
noncomputable def L80_0 : Lt r80_0 := by refine ⟨?l, ?h⟩; case h => simp only [r80_0, c80, bodyOf, Try.f80, Code.sub, opsOf, List.map_cons, List.map_nil, strip]; rfl
theorem w80_0 : Wp r80_0 7 [] [6] [] [] [some 6] (L80_0).1 := w_plain (by kernel_rfl) (L80_0).2
noncomputable def L80_1 : Lt r80_1 := by refine ⟨?l, ?h⟩; case h => simp only [r80_1, c80, bodyOf, Try.f80, Code.sub, opsOf, List.map_cons, List.map_nil, strip]; rfl
theorem w80_1 : Wp r80_1 7 [] [6] [] [1, 0, 2] [some 7, some 8, some 9, some 10, some 11, some 12, some 13, some 14, some 15, some 16, some 17, some 18, some 19, some 20, some 21, some 6] (L80_1).1 := w_plain (by kernel_rfl) (L80_1).2
theorem k80 : FnIs TT 80 c80 [.tmp 6] 3 := ⟨Try.f80, by kernel_rfl, by simp only [Try.f80, c80, bodyOf], by kernel_rfl, of_decide_eq_true (by kernel_rfl)⟩

/- (cache.items).Swap -/
noncomputable def c81 : Code := bodyOf Try.f81
noncomputable def r81_0 : Code := Code.sub [] c81
theorem body81 : c81 = r81_0 := by kernel_rfl
theorem can81_0 : canonOps (opsOf r81_0) = opsOf r81_0 := by kernel_rfl
noncomputable def L81_0 : Lc r81_0 := by refine ⟨?l, (congrArg (List.map strip) can81_0).trans ?h⟩; case h => simp only [r81_0, c81, bodyOf, Try.f81, Code.sub, opsOf, List.map_cons, List.map_nil, strip]; rfl
theorem w81_0 : Wd r81_0 3 [] [] [] [2, 0, 1] [some 6, some 7, some 8, some 9, some 10, some 11, some 12, some 13, some 14, some 15, some 16, some 17, some 18, none, some 19, none] (L81_0).1 [(7, [13]), (11, [13])] := w_loud (by kernel_rfl) (L81_0).2
theorem k81 : FnIs TT 81 c81 [] 3 := ⟨Try.f81, by kernel_rfl, by simp only [Try.f81, c81, bodyOf], by kernel_rfl, of_decide_eq_true (by kernel_rfl)⟩

/- (*cache.items).Pop -/
noncomputable def c82 : Code := bodyOf Try.f82
noncomputable def r82_0 : Code := Code.sub [0] c82
noncomputable def r82_1 : Code := Code.sub [1, 0] c82
noncomputable def r82_2 : Code := Code.sub [1, 1, 0] c82
noncomputable def r82_3 : Code := Code.sub [1, 1, 1, 0] c82
noncomputable def r82_4 : Code := Code.sub [1, 1, 1, 1, 0] c82
theorem body82 : c82 = (.seq r82_0 (.seq r82_1 (.seq r82_2 (.seq r82_3 (.seq r82_4 .ret))))) := by kernel_rfl
noncomputable def L82_0 : Lt r82_0 := by refine ⟨?l, ?h⟩; case h => simp only [r82_0, c82, bodyOf, Try.f82, Code.sub, opsOf, List.map_cons, List.map_nil, strip]; rfl
theorem w82_0 : Wp r82_0 5 [] [2] [] [] [some 2] (L82_0).1 := w_plain (by kernel_rfl) (L82_0).2
noncomputable def L82_1 : Lt r82_1 := by refine ⟨?l, ?h⟩; case h => simp only [r82_1, c82, bodyOf, Try.f82, Code.sub, opsOf, List.map_cons, List.map_nil, strip]; rfl
theorem w82_1 : Wp r82_1 5 [] [3] [] [0] [some 5, some 6, some 7, some 8, some 9, some 3] (L82_1).1 := w_plain (by kernel_rfl) (L82_1).2
noncomputable def L82_2 : Lt r82_2 := by refine ⟨?l, ?h⟩; case h => simp only [r82_2, c82, bodyOf, Try.f82, Code.sub, opsOf, List.map_cons, List.map_nil, strip]; rfl
theorem w82_2 : Wp r82_2 5 [] [4] [] [0, 3] [some 10, some 11, some 12, some 13, some 14, some 15, some 4] (L82_2).1 := w_plain (by kernel_rfl) (L82_2).2
noncomputable def L82_3 : Lt r82_3 := by refine ⟨?l, ?h⟩; case h => simp only [r82_3, c82, bodyOf, Try.f82, Code.sub, opsOf, List.map_cons, List.map_nil, strip]; rfl
theorem w82_3 : Wp r82_3 5 [] [] [] [0, 3] [some 16, some 17, some 18, some 19, some 20, some 21, some 22, none] (L82_3).1 := w_plain (by kernel_rfl) (L82_3).2
noncomputable def L82_4 : Lt r82_4 := by refine ⟨?l, ?h⟩; case h => simp only [r82_4, c82, bodyOf, Try.f82, Code.sub, opsOf, List.map_cons, List.map_nil, strip]; rfl
theorem w82_4 : Wp r82_4 5 [] [2] [] [4] [some 23, some 24, some 2] (L82_4).1 := w_plain (by kernel_rfl) (L82_4).2
theorem k82 : FnIs TT 82 c82 [.tmp 2] 1 := ⟨Try.f82, by kernel_rfl, by simp only [Try.f82, c82, bodyOf], by kernel_rfl, of_decide_eq_true (by kernel_rfl)⟩

/- (*cache.items).Push -/
noncomputable def c83 : Code := bodyOf Try.f83
noncomputable def r83_0 : Code := Code.sub [] c83
theorem body83 : c83 = r83_0 := by kernel_rfl
theorem can83_0 : canonOps (opsOf r83_0) = List.filterMap (fun i => ((opsOf r83_0)[i]?).map (renum [0, 1, 2, 3, 4, 5, 6, 7, 8, 9])) [0, 1, 2, 3, 4, 5, 6, 7, 8, 9] := by kernel_rfl
noncomputable def L83_0 : Lc r83_0 := by refine ⟨?l, (congrArg (List.map strip) can83_0).trans ?h⟩; case h => simp only [r83_0, c83, bodyOf, Try.f83, Code.sub, opsOf, List.filterMap_cons, List.filterMap_nil, List.getElem?_cons_succ, List.getElem?_cons_zero, Option.map_some, renum, List.map_cons, List.map_nil, strip]; rfl
theorem w83_0 : Wd r83_0 2 [] [] [] [0, 1] [some 4, some 5, some 6, some 7, some 8, some 9, some 10, some 11, some 12, none] (L83_0).1 [(3, [6, 7])] := w_loud (by kernel_rfl) (L83_0).2
theorem k83 : FnIs TT 83 c83 [] 2 := ⟨Try.f83, by kernel_rfl, by simp only [Try.f83, c83, bodyOf], by kernel_rfl, of_decide_eq_true (by kernel_rfl)⟩

/- (*cache.Cache).Invalidate -/
noncomputable def c16 : Code := bodyOf Try.f16
noncomputable def r16_0 : Code := Code.sub [0] c16
noncomputable def r16_1 : Code := Code.sub [1, 0] c16
noncomputable def r16_2 : Code := Code.sub [1, 1, 0, 0] c16
noncomputable def r16_3 : Code := Code.sub [1, 1, 0, 1, 0, 0, 0] c16
noncomputable def r16_4 : Code := Code.sub [1, 1, 0, 1, 0, 0, 1, 1, 0, 0, 0] c16
noncomputable def r16_5 : Code := Code.sub [1, 1, 0, 1, 0, 0, 1, 1, 0, 0, 1, 0] c16
noncomputable def r16_6 : Code := Code.sub [1, 1, 0, 1, 0, 0, 1, 1, 0, 0, 1, 1, 0] c16
noncomputable def r16_7 : Code := Code.sub [1, 1, 0, 1, 0, 0, 1, 1, 1] c16
noncomputable def r16_8 : Code := Code.sub [1, 1, 1, 0, 0] c16
noncomputable def r16_9 : Code := Code.sub [1, 1, 1, 0, 1, 0, 0, 0] c16
noncomputable def r16_10 : Code := Code.sub [1, 1, 1, 0, 1, 0, 0, 1, 1, 0, 0, 0] c16
noncomputable def r16_11 : Code := Code.sub [1, 1, 1, 0, 1, 0, 0, 1, 1, 0, 0, 1] c16
noncomputable def r16_12 : Code := Code.sub [1, 1, 1, 0, 1, 0, 0, 1, 1, 1] c16
noncomputable def r16_13 : Code := Code.sub [1, 1, 1, 1, 0] c16
theorem body16 : c16 = (.seq r16_0 (.seq r16_1 (.seq (.seq r16_2 (.block 0 (.loop (.seq r16_3 (.seq (.cond (.tmp 14) .skip (.exit 0)) (.seq (.block 1 (.seq r16_4 (.seq r16_5 (.cond (.tmp 33) r16_6 .skip)))) r16_7)))))) (.seq (.seq r16_8 (.block 2 (.loop (.seq r16_9 (.seq (.cond (.tmp 43) .skip (.exit 2)) (.seq (.block 3 (.seq r16_10 r16_11)) r16_12)))))) (.seq r16_13 .ret))))) := by kernel_rfl
noncomputable def L16_0 : Lt r16_0 := by refine ⟨?l, ?h⟩; case h => simp only [r16_0, c16, bodyOf, Try.f16, Code.sub, opsOf, List.map_cons, List.map_nil, strip]; rfl
theorem w16_0 : Wp r16_0 43 [43] [4] [] [] [some 4] (L16_0).1 := w_plain (by kernel_rfl) (L16_0).2
noncomputable def L16_1 : Lt r16_1 := by refine ⟨?l, ?h⟩; case h => simp only [r16_1, c16, bodyOf, Try.f16, Code.sub, opsOf, List.map_cons, List.map_nil, strip]; rfl
theorem w16_1 : Wp r16_1 43 [43] [5] [] [] [some 5] (L16_1).1 := w_plain (by kernel_rfl) (L16_1).2
noncomputable def L16_2 : Lt r16_2 := by refine ⟨?l, ?h⟩; case h => simp only [r16_2, c16, bodyOf, Try.f16, Code.sub, opsOf, List.map_cons, List.map_nil, strip]; rfl
theorem w16_2 : Wp r16_2 43 [43] [10, 11, 12, 13] [] [0] [some 10, some 11, some 12, some 13] (L16_2).1 := w_plain (by kernel_rfl) (L16_2).2
noncomputable def L16_3 : Lt r16_3 := by refine ⟨?l, ?h⟩; case h => simp only [r16_3, c16, bodyOf, Try.f16, Code.sub, opsOf, List.map_cons, List.map_nil, strip]; rfl
theorem w16_3 : Wp r16_3 43 [43] [14] [] [13, 12] [some 14] (L16_3).1 := w_plain (by kernel_rfl) (L16_3).2
noncomputable def L16_4 : Lt r16_4 := by refine ⟨?l, ?h⟩; case h => simp only [r16_4, c16, bodyOf, Try.f16, Code.sub, opsOf, List.map_cons, List.map_nil, strip]; rfl
theorem w16_4 : Wp r16_4 43 [43] [15, 16, 7] [] [11, 13] [some 15, some 16, some 7] (L16_4).1 := w_plain (by kernel_rfl) (L16_4).2
noncomputable def L16_5 : Lt r16_5 := by refine ⟨?l, ?h⟩; case h => simp only [r16_5, c16, bodyOf, Try.f16, Code.sub, opsOf, List.map_cons, List.map_nil, strip]; rfl
theorem w16_5 : Wp r16_5 43 [43] [17, 18, 19, 20, 21, 22, 23, 24, 25, 26, 27, 28, 29, 30, 31, 32, 33] [] [7, 1] [some 17, some 18, some 19, some 20, some 21, some 22, some 23, some 24, some 25, some 26, some 27, some 28, some 29, some 30, some 31, some 32, some 33] (L16_5).1 := w_plain (by kernel_rfl) (L16_5).2
noncomputable def L16_6 : Lt r16_6 := by refine ⟨?l, ?h⟩; case h => simp only [r16_6, c16, bodyOf, Try.f16, Code.sub, opsOf, List.map_cons, List.map_nil, strip]; rfl
theorem w16_6 : Wp r16_6 43 [43] [34, 35, 36, 37, 38, 5] [] [5, 7] [some 34, some 35, some 36, some 37, some 38, some 5] (L16_6).1 := w_plain (by kernel_rfl) (L16_6).2
noncomputable def L16_7 : Lt r16_7 := by refine ⟨?l, ?h⟩; case h => simp only [r16_7, c16, bodyOf, Try.f16, Code.sub, opsOf, List.map_cons, List.map_nil, strip]; rfl
theorem w16_7 : Wp r16_7 43 [43] [39, 13] [] [13] [some 39, some 13] (L16_7).1 := w_plain (by kernel_rfl) (L16_7).2
noncomputable def L16_8 : Lt r16_8 := by refine ⟨?l, ?h⟩; case h => simp only [r16_8, c16, bodyOf, Try.f16, Code.sub, opsOf, List.map_cons, List.map_nil, strip]; rfl
theorem w16_8 : Wp r16_8 43 [43] [40, 41, 42] [] [5] [some 40, some 41, some 42] (L16_8).1 := w_plain (by kernel_rfl) (L16_8).2
noncomputable def L16_9 : Lt r16_9 := by refine ⟨?l, ?h⟩; case h => simp only [r16_9, c16, bodyOf, Try.f16, Code.sub, opsOf, List.map_cons, List.map_nil, strip]; rfl
theorem w16_9 : Wp r16_9 43 [43] [] [43] [42, 41] [some 43] (L16_9).1 := w_plain (by kernel_rfl) (L16_9).2
noncomputable def L16_10 : Lt r16_10 := by refine ⟨?l, ?h⟩; case h => simp only [r16_10, c16, bodyOf, Try.f16, Code.sub, opsOf, List.map_cons, List.map_nil, strip]; rfl
theorem w16_10 : Wp r16_10 43 [43] [9] [] [40, 42] [some 44, some 45, some 9, none] (L16_10).1 := w_plain (by kernel_rfl) (L16_10).2
noncomputable def L16_11 : Lt r16_11 := by refine ⟨?l, ?h⟩; case h => simp only [r16_11, c16, bodyOf, Try.f16, Code.sub, opsOf, List.map_cons, List.map_nil, strip]; rfl
theorem w16_11 : Wp r16_11 43 [43] [] [] [0, 9] [some 46, some 47, some 48, some 49, some 50, some 51] (L16_11).1 := w_plain (by kernel_rfl) (L16_11).2
noncomputable def L16_12 : Lt r16_12 := by refine ⟨?l, ?h⟩; case h => simp only [r16_12, c16, bodyOf, Try.f16, Code.sub, opsOf, List.map_cons, List.map_nil, strip]; rfl
theorem w16_12 : Wp r16_12 43 [43] [42] [] [42] [some 52, some 42] (L16_12).1 := w_plain (by kernel_rfl) (L16_12).2
noncomputable def L16_13 : Lt r16_13 := by refine ⟨?l, ?h⟩; case h => simp only [r16_13, c16, bodyOf, Try.f16, Code.sub, opsOf, List.map_cons, List.map_nil, strip]; rfl
theorem w16_13 : Wp r16_13 43 [43] [4] [] [5] [some 53, some 4] (L16_13).1 := w_plain (by kernel_rfl) (L16_13).2
theorem k16 : FnIs TT 16 c16 [.tmp 4] 2 := ⟨Try.f16, by kernel_rfl, by simp only [Try.f16, c16, bodyOf], by kernel_rfl, of_decide_eq_true (by kernel_rfl)⟩

/- slices.Contains[[]int,int] -/
noncomputable def c33 : Code := bodyOf Try.f33
noncomputable def r33_0 : Code := Code.sub [0] c33
noncomputable def r33_1 : Code := Code.sub [1, 0] c33
theorem body33 : c33 = (.seq r33_0 (.seq r33_1 .ret)) := by kernel_rfl
noncomputable def L33_0 : Lt r33_0 := by refine ⟨?l, ?h⟩; case h => simp only [r33_0, c33, bodyOf, Try.f33, Code.sub, opsOf, List.map_cons, List.map_nil, strip]; rfl
theorem w33_0 : Wp r33_0 5 [] [4] [] [] [some 4] (L33_0).1 := w_plain (by kernel_rfl) (L33_0).2
noncomputable def L33_1 : Lt r33_1 := by refine ⟨?l, ?h⟩; case h => simp only [r33_1, c33, bodyOf, Try.f33, Code.sub, opsOf, List.map_cons, List.map_nil, strip]; rfl
theorem w33_1 : Wp r33_1 5 [] [4] [] [0, 1] [some 5, some 6, some 7, some 8, some 4] (L33_1).1 := w_plain (by kernel_rfl) (L33_1).2
theorem k33 : FnIs TT 33 c33 [.tmp 4] 2 := ⟨Try.f33, by kernel_rfl, by simp only [Try.f33, c33, bodyOf], by kernel_rfl, of_decide_eq_true (by kernel_rfl)⟩

/- slices.Index[[]int,int] -/
noncomputable def c44 : Code := bodyOf Try.f44
noncomputable def r44_0 : Code := Code.sub [0] c44
noncomputable def r44_1 : Code := Code.sub [1, 0, 0] c44
noncomputable def r44_2 : Code := Code.sub [1, 0, 1, 0, 0, 0] c44
noncomputable def r44_3 : Code := Code.sub [1, 0, 1, 0, 0, 1, 1, 0, 0, 0] c44
noncomputable def r44_4 : Code := Code.sub [1, 0, 1, 0, 0, 1, 1, 0, 0, 1, 0] c44
noncomputable def r44_5 : Code := Code.sub [1, 0, 1, 0, 0, 1, 1, 0, 0, 1, 1, 0, 0] c44
noncomputable def r44_6 : Code := Code.sub [1, 0, 1, 0, 0, 1, 1, 1] c44
noncomputable def r44_7 : Code := Code.sub [1, 1, 0] c44
theorem body44 : c44 = (.seq r44_0 (.seq (.seq r44_1 (.block 0 (.loop (.seq r44_2 (.seq (.cond (.tmp 9) .skip (.exit 0)) (.seq (.block 1 (.seq r44_3 (.seq r44_4 (.cond (.tmp 16) (.seq r44_5 .ret) .skip)))) r44_6)))))) (.seq r44_7 .ret))) := by kernel_rfl
noncomputable def L44_0 : Lt r44_0 := by refine ⟨?l, ?h⟩; case h => simp only [r44_0, c44, bodyOf, Try.f44, Code.sub, opsOf, List.map_cons, List.map_nil, strip]; rfl
theorem w44_0 : Wp r44_0 9 [9, 16] [4] [] [] [some 4] (L44_0).1 := w_plain (by kernel_rfl) (L44_0).2
noncomputable def L44_1 : Lt r44_1 := by refine ⟨?l, ?h⟩; case h => simp only [r44_1, c44, bodyOf, Try.f44, Code.sub, opsOf, List.map_cons, List.map_nil, strip]; rfl
theorem w44_1 : Wp r44_1 9 [9, 16] [6, 7, 8] [] [0] [some 6, some 7, some 8] (L44_1).1 := w_plain (by kernel_rfl) (L44_1).2
noncomputable def L44_2 : Lt r44_2 := by refine ⟨?l, ?h⟩; case h => simp only [r44_2, c44, bodyOf, Try.f44, Code.sub, opsOf, List.map_cons, List.map_nil, strip]; rfl
theorem w44_2 : Wp r44_2 9 [9, 16] [] [9] [8, 7] [some 9] (L44_2).1 := w_plain (by kernel_rfl) (L44_2).2
noncomputable def L44_3 : Lt r44_3 := by refine ⟨?l, ?h⟩; case h => simp only [r44_3, c44, bodyOf, Try.f44, Code.sub, opsOf, List.map_cons, List.map_nil, strip]; rfl
theorem w44_3 : Wp r44_3 9 [9, 16] [5] [] [8] [some 10, some 5] (L44_3).1 := w_plain (by kernel_rfl) (L44_3).2
noncomputable def L44_4 : Lt r44_4 := by refine ⟨?l, ?h⟩; case h => simp only [r44_4, c44, bodyOf, Try.f44, Code.sub, opsOf, List.map_cons, List.map_nil, strip]; rfl
theorem w44_4 : Wp r44_4 9 [9, 16] [] [16] [1, 0, 5] [some 11, some 12, some 13, some 14, some 15, some 16] (L44_4).1 := w_plain (by kernel_rfl) (L44_4).2
noncomputable def L44_5 : Lt r44_5 := by refine ⟨?l, ?h⟩; case h => simp only [r44_5, c44, bodyOf, Try.f44, Code.sub, opsOf, List.map_cons, List.map_nil, strip]; rfl
theorem w44_5 : Wp r44_5 9 [9, 16] [4] [] [5] [some 17, some 4] (L44_5).1 := w_plain (by kernel_rfl) (L44_5).2
noncomputable def L44_6 : Lt r44_6 := by refine ⟨?l, ?h⟩; case h => simp only [r44_6, c44, bodyOf, Try.f44, Code.sub, opsOf, List.map_cons, List.map_nil, strip]; rfl
theorem w44_6 : Wp r44_6 9 [9, 16] [8] [] [8] [some 18, some 8] (L44_6).1 := w_plain (by kernel_rfl) (L44_6).2
noncomputable def L44_7 : Lt r44_7 := by refine ⟨?l, ?h⟩; case h => simp only [r44_7, c44, bodyOf, Try.f44, Code.sub, opsOf, List.map_cons, List.map_nil, strip]; rfl
theorem w44_7 : Wp r44_7 9 [9, 16] [4] [] [] [some 4] (L44_7).1 := w_plain (by kernel_rfl) (L44_7).2
theorem k44 : FnIs TT 44 c44 [.tmp 4] 2 := ⟨Try.f44, by kernel_rfl, by simp only [Try.f44, c44, bodyOf], by kernel_rfl, of_decide_eq_true (by kernel_rfl)⟩

/- (*turnstoneref25.Cache).Get -/
noncomputable def c18 : Code := bodyOf Try.f18
noncomputable def r18_0 : Code := Code.sub [0] c18
noncomputable def r18_1 : Code := Code.sub [1, 0] c18
noncomputable def r18_2 : Code := Code.sub [1, 1, 0, 0] c18
noncomputable def r18_3 : Code := Code.sub [1, 1, 0, 1, 0, 0] c18
noncomputable def r18_4 : Code := Code.sub [1, 1, 1, 0] c18
noncomputable def r18_5 : Code := Code.sub [1, 1, 1, 1, 0] c18
noncomputable def r18_6 : Code := Code.sub [1, 1, 1, 1, 1, 0] c18
noncomputable def r18_7 : Code := Code.sub [1, 1, 1, 1, 1, 1, 0] c18
theorem body18 : c18 = (.seq r18_0 (.seq r18_1 (.seq (.seq r18_2 (.cond (.tmp 15) (.seq r18_3 .ret) .skip)) (.seq r18_4 (.seq r18_5 (.seq r18_6 (.seq r18_7 .ret))))))) := by kernel_rfl
noncomputable def L18_0 : Lt r18_0 := by refine ⟨?l, ?h⟩; case h => simp only [r18_0, c18, bodyOf, Try.f18, Code.sub, opsOf, List.map_cons, List.map_nil, strip]; rfl
theorem w18_0 : Wp r18_0 10 [15] [6, 7] [] [] [some 6, some 7] (L18_0).1 := w_plain (by kernel_rfl) (L18_0).2
noncomputable def L18_1 : Lt r18_1 := by refine ⟨?l, ?h⟩; case h => simp only [r18_1, c18, bodyOf, Try.f18, Code.sub, opsOf, List.map_cons, List.map_nil, strip]; rfl
theorem w18_1 : Wp r18_1 10 [15] [8] [] [0, 1, 2] [some 10, some 11, some 12, some 13, some 8] (L18_1).1 := w_plain (by kernel_rfl) (L18_1).2
noncomputable def L18_2 : Lt r18_2 := by refine ⟨?l, ?h⟩; case h => simp only [r18_2, c18, bodyOf, Try.f18, Code.sub, opsOf, List.map_cons, List.map_nil, strip]; rfl
theorem w18_2 : Wp r18_2 10 [15] [] [15] [8] [some 14, some 15] (L18_2).1 := w_plain (by kernel_rfl) (L18_2).2
noncomputable def L18_3 : Lt r18_3 := by refine ⟨?l, ?h⟩; case h => simp only [r18_3, c18, bodyOf, Try.f18, Code.sub, opsOf, List.map_cons, List.map_nil, strip]; rfl
theorem w18_3 : Wp r18_3 10 [15] [7] [] [6] [some 16, none, some 7] (L18_3).1 := w_plain (by kernel_rfl) (L18_3).2
noncomputable def L18_4 : Lt r18_4 := by refine ⟨?l, ?h⟩; case h => simp only [r18_4, c18, bodyOf, Try.f18, Code.sub, opsOf, List.map_cons, List.map_nil, strip]; rfl
theorem w18_4 : Wp r18_4 10 [15] [9] [] [0, 8] [some 17, some 18, some 19, some 20, some 21, some 22, some 23, some 9, none] (L18_4).1 := w_plain (by kernel_rfl) (L18_4).2
noncomputable def L18_5 : Lt r18_5 := by refine ⟨?l, ?h⟩; case h => simp only [r18_5, c18, bodyOf, Try.f18, Code.sub, opsOf, List.map_cons, List.map_nil, strip]; rfl
theorem w18_5 : Wp r18_5 10 [15] [] [] [0, 8] [some 24, some 25, some 26] (L18_5).1 := w_plain (by kernel_rfl) (L18_5).2
theorem can18_6 : canonOps (opsOf r18_6) = List.filterMap (fun i => ((opsOf r18_6)[i]?).map (renum [0, 1, 2, 3, 4, 5, 6, 7, 8, 9, 10])) [0, 1, 2, 3, 4, 5, 6, 7, 8, 9, 10] := by kernel_rfl
noncomputable def L18_6 : Lc r18_6 := by refine ⟨?l, (congrArg (List.map strip) can18_6).trans ?h⟩; case h => simp only [r18_6, c18, bodyOf, Try.f18, Code.sub, opsOf, List.filterMap_cons, List.filterMap_nil, List.getElem?_cons_succ, List.getElem?_cons_zero, Option.map_some, renum, List.map_cons, List.map_nil, strip]; rfl
theorem w18_6 : Wd r18_6 10 [15] [] [] [0, 9] [some 27, some 28, some 29, some 30, some 31, some 32, some 33, some 34, some 35, some 36, none] (L18_6).1 [(4, [6, 7]), (5, [6])] := w_loud (by kernel_rfl) (L18_6).2
noncomputable def L18_7 : Lt r18_7 := by refine ⟨?l, ?h⟩; case h => simp only [r18_7, c18, bodyOf, Try.f18, Code.sub, opsOf, List.map_cons, List.map_nil, strip]; rfl
theorem w18_7 : Wp r18_7 10 [15] [7] [] [9, 6] [some 37, none, some 7] (L18_7).1 := w_plain (by kernel_rfl) (L18_7).2
theorem k18 : FnIs TT 18 c18 [.cell 6 41, .tmp 7] 3 := ⟨Try.f18, by kernel_rfl, by simp only [Try.f18, c18, bodyOf], by kernel_rfl, of_decide_eq_true (by kernel_rfl)⟩

/- (*turnstoneref25.Cache).Drop -/
noncomputable def c19 : Code := bodyOf Try.f19
noncomputable def r19_0 : Code := Code.sub [0] c19
noncomputable def r19_1 : Code := Code.sub [1, 0] c19
noncomputable def r19_2 : Code := Code.sub [1, 1, 0, 0] c19
noncomputable def r19_3 : Code := Code.sub [1, 1, 0, 1, 0] c19
noncomputable def r19_4 : Code := Code.sub [1, 1, 1, 0] c19
theorem body19 : c19 = (.seq r19_0 (.seq r19_1 (.seq (.seq r19_2 (.cond (.tmp 13) r19_3 .skip)) (.seq r19_4 .ret)))) := by kernel_rfl
noncomputable def L19_0 : Lt r19_0 := by refine ⟨?l, ?h⟩; case h => simp only [r19_0, c19, bodyOf, Try.f19, Code.sub, opsOf, List.map_cons, List.map_nil, strip]; rfl
theorem w19_0 : Wp r19_0 8 [13] [6] [] [] [some 6] (L19_0).1 := w_plain (by kernel_rfl) (L19_0).2
noncomputable def L19_1 : Lt r19_1 := by refine ⟨?l, ?h⟩; case h => simp only [r19_1, c19, bodyOf, Try.f19, Code.sub, opsOf, List.map_cons, List.map_nil, strip]; rfl
theorem w19_1 : Wp r19_1 8 [13] [7] [] [0, 1, 2] [some 8, some 9, some 10, some 11, some 7] (L19_1).1 := w_plain (by kernel_rfl) (L19_1).2
noncomputable def L19_2 : Lt r19_2 := by refine ⟨?l, ?h⟩; case h => simp only [r19_2, c19, bodyOf, Try.f19, Code.sub, opsOf, List.map_cons, List.map_nil, strip]; rfl
theorem w19_2 : Wp r19_2 8 [13] [] [13] [7] [some 12, some 13] (L19_2).1 := w_plain (by kernel_rfl) (L19_2).2
noncomputable def L19_3 : Lt r19_3 := by refine ⟨?l, ?h⟩; case h => simp only [r19_3, c19, bodyOf, Try.f19, Code.sub, opsOf, List.map_cons, List.map_nil, strip]; rfl
theorem w19_3 : Wp r19_3 8 [13] [] [] [0, 7] [some 14, some 15, some 16] (L19_3).1 := w_plain (by kernel_rfl) (L19_3).2
noncomputable def L19_4 : Lt r19_4 := by refine ⟨?l, ?h⟩; case h => simp only [r19_4, c19, bodyOf, Try.f19, Code.sub, opsOf, List.map_cons, List.map_nil, strip]; rfl
theorem w19_4 : Wp r19_4 8 [13] [6] [] [7] [some 17, some 18, some 6] (L19_4).1 := w_plain (by kernel_rfl) (L19_4).2
theorem k19 : FnIs TT 19 c19 [.tmp 6] 3 := ⟨Try.f19, by kernel_rfl, by simp only [Try.f19, c19, bodyOf], by kernel_rfl, of_decide_eq_true (by kernel_rfl)⟩

/- turnstoneref25.SameKeys -/
noncomputable def c20 : Code := bodyOf Try.f20
noncomputable def r20_0 : Code := Code.sub [0] c20
noncomputable def r20_1 : Code := Code.sub [1, 0, 0] c20
noncomputable def r20_2 : Code := Code.sub [1, 0, 1, 0, 0] c20
noncomputable def r20_3 : Code := Code.sub [1, 1, 0, 0] c20
noncomputable def r20_4 : Code := Code.sub [1, 1, 0, 1, 0, 0, 0, 0] c20
noncomputable def r20_5 : Code := Code.sub [1, 1, 0, 1, 0, 0, 1, 0, 0, 0] c20
noncomputable def r20_6 : Code := Code.sub [1, 1, 0, 1, 0, 0, 1, 0, 0, 1, 0, 0] c20
noncomputable def r20_7 : Code := Code.sub [1, 1, 0, 1, 0, 0, 1, 1] c20
noncomputable def r20_8 : Code := Code.sub [1, 1, 1, 0] c20
theorem body20 : c20 = (.seq r20_0 (.seq (.seq r20_1 (.cond (.tmp 10) (.seq r20_2 .ret) .skip)) (.seq (.seq r20_3 (.block 0 (.loop (.seq (.seq r20_4 (.cond (.tmp 14) .skip (.exit 0))) (.seq (.block 1 (.seq r20_5 (.cond (.tmp 25) (.seq r20_6 .ret) .skip))) r20_7))))) (.seq r20_8 .ret)))) := by kernel_rfl
noncomputable def L20_0 : Lt r20_0 := by refine ⟨?l, ?h⟩; case h => simp only [r20_0, c20, bodyOf, Try.f20, Code.sub, opsOf, List.map_cons, List.map_nil, strip]; rfl
theorem w20_0 : Wp r20_0 6 [10, 14, 25] [4] [] [] [some 4] (L20_0).1 := w_plain (by kernel_rfl) (L20_0).2
noncomputable def L20_1 : Lt r20_1 := by refine ⟨?l, ?h⟩; case h => simp only [r20_1, c20, bodyOf, Try.f20, Code.sub, opsOf, List.map_cons, List.map_nil, strip]; rfl
theorem w20_1 : Wp r20_1 6 [10, 14, 25] [] [10] [0, 1] [some 6, some 7, some 8, some 9, some 10] (L20_1).1 := w_plain (by kernel_rfl) (L20_1).2
noncomputable def L20_2 : Lt r20_2 := by refine ⟨?l, ?h⟩; case h => simp only [r20_2, c20, bodyOf, Try.f20, Code.sub, opsOf, List.map_cons, List.map_nil, strip]; rfl
theorem w20_2 : Wp r20_2 6 [10, 14, 25] [4] [] [] [some 4] (L20_2).1 := w_plain (by kernel_rfl) (L20_2).2
noncomputable def L20_3 : Lt r20_3 := by refine ⟨?l, ?h⟩; case h => simp only [r20_3, c20, bodyOf, Try.f20, Code.sub, opsOf, List.map_cons, List.map_nil, strip]; rfl
theorem w20_3 : Wp r20_3 6 [10, 14, 25] [5] [] [] [some 5] (L20_3).1 := w_plain (by kernel_rfl) (L20_3).2
noncomputable def L20_4 : Lt r20_4 := by refine ⟨?l, ?h⟩; case h => simp only [r20_4, c20, bodyOf, Try.f20, Code.sub, opsOf, List.map_cons, List.map_nil, strip]; rfl
theorem w20_4 : Wp r20_4 6 [10, 14, 25] [] [14] [5, 0] [some 11, some 12, some 13, some 14] (L20_4).1 := w_plain (by kernel_rfl) (L20_4).2
noncomputable def L20_5 : Lt r20_5 := by refine ⟨?l, ?h⟩; case h => simp only [r20_5, c20, bodyOf, Try.f20, Code.sub, opsOf, List.map_cons, List.map_nil, strip]; rfl
theorem w20_5 : Wp r20_5 6 [10, 14, 25] [] [25] [0, 1, 5] [some 17, some 18, some 19, some 20, some 21, some 22, some 23, some 24, some 25] (L20_5).1 := w_plain (by kernel_rfl) (L20_5).2
noncomputable def L20_6 : Lt r20_6 := by refine ⟨?l, ?h⟩; case h => simp only [r20_6, c20, bodyOf, Try.f20, Code.sub, opsOf, List.map_cons, List.map_nil, strip]; rfl
theorem w20_6 : Wp r20_6 6 [10, 14, 25] [4] [] [] [some 4] (L20_6).1 := w_plain (by kernel_rfl) (L20_6).2
noncomputable def L20_7 : Lt r20_7 := by refine ⟨?l, ?h⟩; case h => simp only [r20_7, c20, bodyOf, Try.f20, Code.sub, opsOf, List.map_cons, List.map_nil, strip]; rfl
theorem w20_7 : Wp r20_7 6 [10, 14, 25] [5] [] [5] [some 15, some 16, some 5] (L20_7).1 := w_plain (by kernel_rfl) (L20_7).2
noncomputable def L20_8 : Lt r20_8 := by refine ⟨?l, ?h⟩; case h => simp only [r20_8, c20, bodyOf, Try.f20, Code.sub, opsOf, List.map_cons, List.map_nil, strip]; rfl
theorem w20_8 : Wp r20_8 6 [10, 14, 25] [4] [] [] [some 4] (L20_8).1 := w_plain (by kernel_rfl) (L20_8).2
theorem k20 : FnIs TT 20 c20 [.tmp 4] 2 := ⟨Try.f20, by kernel_rfl, by simp only [Try.f20, c20, bodyOf], by kernel_rfl, of_decide_eq_true (by kernel_rfl)⟩

/- (*turnstoneref25.Cache).Invalidate -/
noncomputable def c21 : Code := bodyOf Try.f21
noncomputable def r21_0 : Code := Code.sub [0] c21
noncomputable def r21_1 : Code := Code.sub [1, 0] c21
noncomputable def r21_2 : Code := Code.sub [1, 1, 0, 0] c21
noncomputable def r21_3 : Code := Code.sub [1, 1, 0, 1, 0, 0, 0, 0] c21
noncomputable def r21_4 : Code := Code.sub [1, 1, 0, 1, 0, 0, 1, 0, 0] c21
noncomputable def r21_5 : Code := Code.sub [1, 1, 0, 1, 0, 0, 1, 0, 1, 0, 0] c21
noncomputable def r21_6 : Code := Code.sub [1, 1, 0, 1, 0, 0, 1, 0, 1, 0, 1, 0, 0, 0, 0] c21
noncomputable def r21_7 : Code := Code.sub [1, 1, 0, 1, 0, 0, 1, 0, 1, 0, 1, 0, 0, 1, 0, 0] c21
noncomputable def r21_8 : Code := Code.sub [1, 1, 0, 1, 0, 0, 1, 0, 1, 0, 1, 0, 0, 1, 1] c21
noncomputable def r21_9 : Code := Code.sub [1, 1, 0, 1, 0, 0, 1, 0, 1, 1, 0] c21
noncomputable def r21_10 : Code := Code.sub [1, 1, 0, 1, 0, 0, 1, 0, 1, 1, 1, 0, 0] c21
noncomputable def r21_11 : Code := Code.sub [1, 1, 0, 1, 0, 0, 1, 0, 1, 1, 1, 0, 1] c21
noncomputable def r21_12 : Code := Code.sub [1, 1, 0, 1, 0, 0, 1, 0, 1, 1, 1, 1] c21
noncomputable def r21_13 : Code := Code.sub [1, 1, 1, 0] c21
theorem body21 : c21 = (.seq r21_0 (.seq r21_1 (.seq (.seq r21_2 (.block 0 (.loop (.seq (.seq r21_3 (.cond (.tmp 15) .skip (.exit 0))) (.block 1 (.seq r21_4 (.seq (.seq r21_5 (.block 2 (.loop (.seq (.seq r21_6 (.cond (.tmp 37) .skip (.exit 2))) (.seq (.block 3 r21_7) r21_8))))) (.seq r21_9 (.cond (.tmp 56) (.seq r21_10 r21_11) r21_12))))))))) (.seq r21_13 .ret)))) := by kernel_rfl
noncomputable def L21_0 : Lt r21_0 := by refine ⟨?l, ?h⟩; case h => simp only [r21_0, c21, bodyOf, Try.f21, Code.sub, opsOf, List.map_cons, List.map_nil, strip]; rfl
theorem w21_0 : Wp r21_0 9 [15, 37, 56] [4] [] [] [some 4] (L21_0).1 := w_plain (by kernel_rfl) (L21_0).2
noncomputable def L21_1 : Lt r21_1 := by refine ⟨?l, ?h⟩; case h => simp only [r21_1, c21, bodyOf, Try.f21, Code.sub, opsOf, List.map_cons, List.map_nil, strip]; rfl
theorem w21_1 : Wp r21_1 9 [15, 37, 56] [5] [] [] [some 5] (L21_1).1 := w_plain (by kernel_rfl) (L21_1).2
noncomputable def L21_2 : Lt r21_2 := by refine ⟨?l, ?h⟩; case h => simp only [r21_2, c21, bodyOf, Try.f21, Code.sub, opsOf, List.map_cons, List.map_nil, strip]; rfl
theorem w21_2 : Wp r21_2 9 [15, 37, 56] [6] [] [] [some 6] (L21_2).1 := w_plain (by kernel_rfl) (L21_2).2
noncomputable def L21_3 : Lt r21_3 := by refine ⟨?l, ?h⟩; case h => simp only [r21_3, c21, bodyOf, Try.f21, Code.sub, opsOf, List.map_cons, List.map_nil, strip]; rfl
theorem w21_3 : Wp r21_3 9 [15, 37, 56] [] [15] [6, 0] [some 9, some 10, some 11, some 12, some 13, some 14, some 15] (L21_3).1 := w_plain (by kernel_rfl) (L21_3).2
noncomputable def L21_4 : Lt r21_4 := by refine ⟨?l, ?h⟩; case h => simp only [r21_4, c21, bodyOf, Try.f21, Code.sub, opsOf, List.map_cons, List.map_nil, strip]; rfl
theorem w21_4 : Wp r21_4 9 [15, 37, 56] [7] [] [0, 6, 1] [some 16, some 17, some 18, some 19, some 20, some 21, some 22, some 23, some 24, some 25, some 26, some 7] (L21_4).1 := w_plain (by kernel_rfl) (L21_4).2
noncomputable def L21_5 : Lt r21_5 := by refine ⟨?l, ?h⟩; case h => simp only [r21_5, c21, bodyOf, Try.f21, Code.sub, opsOf, List.map_cons, List.map_nil, strip]; rfl
theorem w21_5 : Wp r21_5 9 [15, 37, 56] [8] [] [] [some 8] (L21_5).1 := w_plain (by kernel_rfl) (L21_5).2
noncomputable def L21_6 : Lt r21_6 := by refine ⟨?l, ?h⟩; case h => simp only [r21_6, c21, bodyOf, Try.f21, Code.sub, opsOf, List.map_cons, List.map_nil, strip]; rfl
theorem w21_6 : Wp r21_6 9 [15, 37, 56] [] [37] [8, 0, 6] [some 27, some 28, some 29, some 30, some 31, some 32, some 33, some 34, some 35, some 36, some 37] (L21_6).1 := w_plain (by kernel_rfl) (L21_6).2
noncomputable def L21_7 : Lt r21_7 := by refine ⟨?l, ?h⟩; case h => simp only [r21_7, c21, bodyOf, Try.f21, Code.sub, opsOf, List.map_cons, List.map_nil, strip]; rfl
theorem w21_7 : Wp r21_7 9 [15, 37, 56] [7] [] [7, 0, 6, 8, 1] [some 40, some 41, some 42, some 43, some 44, some 45, some 46, some 47, some 48, some 49, some 50, some 51, some 52, some 53, some 54, some 55, some 7] (L21_7).1 := w_plain (by kernel_rfl) (L21_7).2
noncomputable def L21_8 : Lt r21_8 := by refine ⟨?l, ?h⟩; case h => simp only [r21_8, c21, bodyOf, Try.f21, Code.sub, opsOf, List.map_cons, List.map_nil, strip]; rfl
theorem w21_8 : Wp r21_8 9 [15, 37, 56] [8] [] [8] [some 38, some 39, some 8] (L21_8).1 := w_plain (by kernel_rfl) (L21_8).2
noncomputable def L21_9 : Lt r21_9 := by refine ⟨?l, ?h⟩; case h => simp only [r21_9, c21, bodyOf, Try.f21, Code.sub, opsOf, List.map_cons, List.map_nil, strip]; rfl
theorem w21_9 : Wp r21_9 9 [15, 37, 56] [] [56] [7] [some 56] (L21_9).1 := w_plain (by kernel_rfl) (L21_9).2
noncomputable def L21_10 : Lt r21_10 := by refine ⟨?l, ?h⟩; case h => simp only [r21_10, c21, bodyOf, Try.f21, Code.sub, opsOf, List.map_cons, List.map_nil, strip]; rfl
theorem w21_10 : Wp r21_10 9 [15, 37, 56] [5] [] [5, 0, 6] [some 57, some 58, some 59, some 60, some 61, some 62, some 63, some 64, some 65, some 66, some 67, some 5] (L21_10).1 := w_plain (by kernel_rfl) (L21_10).2
noncomputable def L21_11 : Lt r21_11 := by refine ⟨?l, ?h⟩; case h => simp only [r21_11, c21, bodyOf, Try.f21, Code.sub, opsOf, List.map_cons, List.map_nil, strip]; rfl
theorem w21_11 : Wp r21_11 9 [15, 37, 56] [] [] [0, 6] [some 68, some 69, some 70] (L21_11).1 := w_plain (by kernel_rfl) (L21_11).2
noncomputable def L21_12 : Lt r21_12 := by refine ⟨?l, ?h⟩; case h => simp only [r21_12, c21, bodyOf, Try.f21, Code.sub, opsOf, List.map_cons, List.map_nil, strip]; rfl
theorem w21_12 : Wp r21_12 9 [15, 37, 56] [6] [] [6] [some 71, some 72, some 6] (L21_12).1 := w_plain (by kernel_rfl) (L21_12).2
noncomputable def L21_13 : Lt r21_13 := by refine ⟨?l, ?h⟩; case h => simp only [r21_13, c21, bodyOf, Try.f21, Code.sub, opsOf, List.map_cons, List.map_nil, strip]; rfl
theorem w21_13 : Wp r21_13 9 [15, 37, 56] [4] [] [5] [some 73, some 4] (L21_13).1 := w_plain (by kernel_rfl) (L21_13).2
theorem k21 : FnIs TT 21 c21 [.tmp 4] 2 := ⟨Try.f21, by kernel_rfl, by simp only [Try.f21, c21, bodyOf], by kernel_rfl, of_decide_eq_true (by kernel_rfl)⟩

/- (*turnstoneref25.Cache).Put -/
noncomputable def c22 : Code := bodyOf Try.f22
noncomputable def r22_0 : Code := Code.sub [0] c22
noncomputable def r22_1 : Code := Code.sub [1, 0, 0] c22
noncomputable def r22_2 : Code := Code.sub [1, 0, 1, 0, 0] c22
noncomputable def r22_3 : Code := Code.sub [1, 1, 0] c22
noncomputable def r22_4 : Code := Code.sub [1, 1, 1, 0] c22
noncomputable def r22_5 : Code := Code.sub [1, 1, 1, 1, 0, 0, 0, 0, 0] c22
noncomputable def r22_6 : Code := Code.sub [1, 1, 1, 1, 0, 0, 0, 1, 0, 0] c22
noncomputable def r22_7 : Code := Code.sub [1, 1, 1, 1, 0, 0, 0, 1, 0, 1] c22
noncomputable def r22_8 : Code := Code.sub [1, 1, 1, 1, 1, 0] c22
noncomputable def r22_9 : Code := Code.sub [1, 1, 1, 1, 1, 1, 0] c22
theorem body22 : c22 = (.seq r22_0 (.seq (.seq r22_1 (.cond (.tmp 15) (.seq r22_2 .ret) .skip)) (.seq r22_3 (.seq r22_4 (.seq (.block 0 (.loop (.seq (.seq r22_5 (.cond (.tmp 43) .skip (.exit 0))) (.block 1 (.seq r22_6 r22_7))))) (.seq r22_8 (.seq r22_9 .ret))))))) := by kernel_rfl
noncomputable def L22_0 : Lt r22_0 := by refine ⟨?l, ?h⟩; case h => simp only [r22_0, c22, bodyOf, Try.f22, Code.sub, opsOf, List.map_cons, List.map_nil, strip]; rfl
theorem w22_0 : Wp r22_0 7 [15, 43] [3, 4, 5] [] [1] [some 3, some 4, some 5] (L22_0).1 := w_plain (by kernel_rfl) (L22_0).2
noncomputable def L22_1 : Lt r22_1 := by refine ⟨?l, ?h⟩; case h => simp only [r22_1, c22, bodyOf, Try.f22, Code.sub, opsOf, List.map_cons, List.map_nil, strip]; rfl
theorem w22_1 : Wp r22_1 7 [15, 43] [] [15] [3, 0] [some 7, some 8, some 9, some 10, some 11, some 12, some 13, some 14, some 15] (L22_1).1 := w_plain (by kernel_rfl) (L22_1).2
noncomputable def L22_2 : Lt r22_2 := by refine ⟨?l, ?h⟩; case h => simp only [r22_2, c22, bodyOf, Try.f22, Code.sub, opsOf, List.map_cons, List.map_nil, strip]; rfl
theorem w22_2 : Wp r22_2 7 [15, 43] [4, 5] [] [] [some 4, some 5] (L22_2).1 := w_plain (by kernel_rfl) (L22_2).2
noncomputable def L22_3 : Lt r22_3 := by refine ⟨?l, ?h⟩; case h => simp only [r22_3, c22, bodyOf, Try.f22, Code.sub, opsOf, List.map_cons, List.map_nil, strip]; rfl
theorem w22_3 : Wp r22_3 7 [15, 43] [] [] [0, 3] [some 16, some 17, some 18, some 19, some 20, some 21, some 22, some 23] (L22_3).1 := w_plain (by kernel_rfl) (L22_3).2
noncomputable def L22_4 : Lt r22_4 := by refine ⟨?l, ?h⟩; case h => simp only [r22_4, c22, bodyOf, Try.f22, Code.sub, opsOf, List.map_cons, List.map_nil, strip]; rfl
theorem w22_4 : Wp r22_4 7 [15, 43] [6] [] [] [some 6] (L22_4).1 := w_plain (by kernel_rfl) (L22_4).2
theorem can22_5 : canonOps (opsOf r22_5) = opsOf r22_5 := by kernel_rfl
noncomputable def L22_5 : Lc r22_5 := by refine ⟨?l, (congrArg (List.map strip) can22_5).trans ?h⟩; case h => simp only [r22_5, c22, bodyOf, Try.f22, Code.sub, opsOf, List.map_cons, List.map_nil, strip]; rfl
theorem w22_5 : Wd r22_5 7 [15, 43] [] [43] [3, 0] [some 24, some 25, some 26, some 27, some 28, some 29, some 30, some 31, some 32, some 33, some 34, some 35, some 36, some 37, some 38, some 39, some 40, some 41, some 42, some 43] (L22_5).1 [(4, [1, 20]), (5, [1, 20]), (10, [1, 20]), (16, [20]), (17, [20])] := w_loud (by kernel_rfl) (L22_5).2
noncomputable def L22_6 : Lt r22_6 := by refine ⟨?l, ?h⟩; case h => simp only [r22_6, c22, bodyOf, Try.f22, Code.sub, opsOf, List.map_cons, List.map_nil, strip]; rfl
theorem w22_6 : Wp r22_6 7 [15, 43] [6] [] [6, 0] [some 44, some 45, some 46, some 47, some 48, some 49, some 50, some 51, some 52, some 53, some 6] (L22_6).1 := w_plain (by kernel_rfl) (L22_6).2
noncomputable def L22_7 : Lt r22_7 := by refine ⟨?l, ?h⟩; case h => simp only [r22_7, c22, bodyOf, Try.f22, Code.sub, opsOf, List.map_cons, List.map_nil, strip]; rfl
theorem w22_7 : Wp r22_7 7 [15, 43] [] [] [0] [some 54, some 55] (L22_7).1 := w_plain (by kernel_rfl) (L22_7).2
theorem can22_8 : canonOps (opsOf r22_8) = List.filterMap (fun i => ((opsOf r22_8)[i]?).map (renum [0, 1, 2, 3, 4, 5, 6, 7, 8, 9, 10])) [0, 1, 2, 3, 4, 5, 6, 7, 8, 9, 10] := by kernel_rfl
noncomputable def L22_8 : Lc r22_8 := by refine ⟨?l, (congrArg (List.map strip) can22_8).trans ?h⟩; case h => simp only [r22_8, c22, bodyOf, Try.f22, Code.sub, opsOf, List.filterMap_cons, List.filterMap_nil, List.getElem?_cons_succ, List.getElem?_cons_zero, Option.map_some, renum, List.map_cons, List.map_nil, strip]; rfl
theorem w22_8 : Wd r22_8 7 [15, 43] [] [] [0, 3] [some 56, some 57, some 58, some 59, some 60, some 61, some 62, some 63, some 64, some 65, none] (L22_8).1 [(4, [6, 7]), (5, [6])] := w_loud (by kernel_rfl) (L22_8).2
noncomputable def L22_9 : Lt r22_9 := by refine ⟨?l, ?h⟩; case h => simp only [r22_9, c22, bodyOf, Try.f22, Code.sub, opsOf, List.map_cons, List.map_nil, strip]; rfl
theorem w22_9 : Wp r22_9 7 [15, 43] [4, 5] [] [6] [some 66, some 4, some 5] (L22_9).1 := w_plain (by kernel_rfl) (L22_9).2
theorem k22 : FnIs TT 22 c22 [.tmp 4, .tmp 5] 2 := ⟨Try.f22, by kernel_rfl, by simp only [Try.f22, c22, bodyOf], by kernel_rfl, of_decide_eq_true (by kernel_rfl)⟩

/- (*turnstoneref25.Cache).Size -/
noncomputable def c23 : Code := bodyOf Try.f23
noncomputable def r23_0 : Code := Code.sub [0] c23
noncomputable def r23_1 : Code := Code.sub [1, 0] c23
noncomputable def r23_2 : Code := Code.sub [1, 1, 0, 0] c23
noncomputable def r23_3 : Code := Code.sub [1, 1, 0, 1, 0, 0, 0, 0] c23
noncomputable def r23_4 : Code := Code.sub [1, 1, 0, 1, 0, 0, 1, 0, 0] c23
noncomputable def r23_5 : Code := Code.sub [1, 1, 0, 1, 0, 0, 1, 1] c23
noncomputable def r23_6 : Code := Code.sub [1, 1, 1, 0] c23
theorem body23 : c23 = (.seq r23_0 (.seq r23_1 (.seq (.seq r23_2 (.block 0 (.loop (.seq (.seq r23_3 (.cond (.tmp 11) .skip (.exit 0))) (.seq (.block 1 r23_4) r23_5))))) (.seq r23_6 .ret)))) := by kernel_rfl
noncomputable def L23_0 : Lt r23_0 := by refine ⟨?l, ?h⟩; case h => simp only [r23_0, c23, bodyOf, Try.f23, Code.sub, opsOf, List.map_cons, List.map_nil, strip]; rfl
theorem w23_0 : Wp r23_0 5 [11] [2] [] [] [some 2] (L23_0).1 := w_plain (by kernel_rfl) (L23_0).2
noncomputable def L23_1 : Lt r23_1 := by refine ⟨?l, ?h⟩; case h => simp only [r23_1, c23, bodyOf, Try.f23, Code.sub, opsOf, List.map_cons, List.map_nil, strip]; rfl
theorem w23_1 : Wp r23_1 5 [11] [3] [] [] [some 3] (L23_1).1 := w_plain (by kernel_rfl) (L23_1).2
noncomputable def L23_2 : Lt r23_2 := by refine ⟨?l, ?h⟩; case h => simp only [r23_2, c23, bodyOf, Try.f23, Code.sub, opsOf, List.map_cons, List.map_nil, strip]; rfl
theorem w23_2 : Wp r23_2 5 [11] [4] [] [] [some 4] (L23_2).1 := w_plain (by kernel_rfl) (L23_2).2
noncomputable def L23_3 : Lt r23_3 := by refine ⟨?l, ?h⟩; case h => simp only [r23_3, c23, bodyOf, Try.f23, Code.sub, opsOf, List.map_cons, List.map_nil, strip]; rfl
theorem w23_3 : Wp r23_3 5 [11] [] [11] [4, 0] [some 5, some 6, some 7, some 8, some 9, some 10, some 11] (L23_3).1 := w_plain (by kernel_rfl) (L23_3).2
noncomputable def L23_4 : Lt r23_4 := by refine ⟨?l, ?h⟩; case h => simp only [r23_4, c23, bodyOf, Try.f23, Code.sub, opsOf, List.map_cons, List.map_nil, strip]; rfl
theorem w23_4 : Wp r23_4 5 [11] [3] [] [3, 0, 4] [some 14, some 15, some 16, some 17, some 18, some 19, some 20, some 21, some 22, some 23, some 24, some 25, some 3] (L23_4).1 := w_plain (by kernel_rfl) (L23_4).2
noncomputable def L23_5 : Lt r23_5 := by refine ⟨?l, ?h⟩; case h => simp only [r23_5, c23, bodyOf, Try.f23, Code.sub, opsOf, List.map_cons, List.map_nil, strip]; rfl
theorem w23_5 : Wp r23_5 5 [11] [4] [] [4] [some 12, some 13, some 4] (L23_5).1 := w_plain (by kernel_rfl) (L23_5).2
noncomputable def L23_6 : Lt r23_6 := by refine ⟨?l, ?h⟩; case h => simp only [r23_6, c23, bodyOf, Try.f23, Code.sub, opsOf, List.map_cons, List.map_nil, strip]; rfl
theorem w23_6 : Wp r23_6 5 [11] [2] [] [3] [some 26, some 2] (L23_6).1 := w_plain (by kernel_rfl) (L23_6).2
theorem k23 : FnIs TT 23 c23 [.tmp 2] 1 := ⟨Try.f23, by kernel_rfl, by simp only [Try.f23, c23, bodyOf], by kernel_rfl, of_decide_eq_true (by kernel_rfl)⟩

/- (*turnstoneref25.Cache).Keys -/
noncomputable def c24 : Code := bodyOf Try.f24
noncomputable def r24_0 : Code := Code.sub [0] c24
noncomputable def r24_1 : Code := Code.sub [1, 0] c24
noncomputable def r24_2 : Code := Code.sub [1, 1, 0, 0] c24
noncomputable def r24_3 : Code := Code.sub [1, 1, 0, 1, 0, 0, 0, 0] c24
noncomputable def r24_4 : Code := Code.sub [1, 1, 0, 1, 0, 0, 1, 0, 0] c24
noncomputable def r24_5 : Code := Code.sub [1, 1, 0, 1, 0, 0, 1, 1] c24
noncomputable def r24_6 : Code := Code.sub [1, 1, 1, 0] c24
theorem body24 : c24 = (.seq r24_0 (.seq r24_1 (.seq (.seq r24_2 (.block 0 (.loop (.seq (.seq r24_3 (.cond (.tmp 11) .skip (.exit 0))) (.seq (.block 1 r24_4) r24_5))))) (.seq r24_6 .ret)))) := by kernel_rfl
noncomputable def L24_0 : Lt r24_0 := by refine ⟨?l, ?h⟩; case h => simp only [r24_0, c24, bodyOf, Try.f24, Code.sub, opsOf, List.map_cons, List.map_nil, strip]; rfl
theorem w24_0 : Wp r24_0 5 [11] [2] [] [] [some 2] (L24_0).1 := w_plain (by kernel_rfl) (L24_0).2
noncomputable def L24_1 : Lt r24_1 := by refine ⟨?l, ?h⟩; case h => simp only [r24_1, c24, bodyOf, Try.f24, Code.sub, opsOf, List.map_cons, List.map_nil, strip]; rfl
theorem w24_1 : Wp r24_1 5 [11] [3] [] [] [some 3] (L24_1).1 := w_plain (by kernel_rfl) (L24_1).2
noncomputable def L24_2 : Lt r24_2 := by refine ⟨?l, ?h⟩; case h => simp only [r24_2, c24, bodyOf, Try.f24, Code.sub, opsOf, List.map_cons, List.map_nil, strip]; rfl
theorem w24_2 : Wp r24_2 5 [11] [4] [] [] [some 4] (L24_2).1 := w_plain (by kernel_rfl) (L24_2).2
noncomputable def L24_3 : Lt r24_3 := by refine ⟨?l, ?h⟩; case h => simp only [r24_3, c24, bodyOf, Try.f24, Code.sub, opsOf, List.map_cons, List.map_nil, strip]; rfl
theorem w24_3 : Wp r24_3 5 [11] [] [11] [4, 0] [some 5, some 6, some 7, some 8, some 9, some 10, some 11] (L24_3).1 := w_plain (by kernel_rfl) (L24_3).2
noncomputable def L24_4 : Lt r24_4 := by refine ⟨?l, ?h⟩; case h => simp only [r24_4, c24, bodyOf, Try.f24, Code.sub, opsOf, List.map_cons, List.map_nil, strip]; rfl
theorem w24_4 : Wp r24_4 5 [11] [3] [] [3, 0, 4] [some 14, some 15, some 16, some 17, some 18, some 19, some 20, some 21, some 22, some 23, some 24, some 3] (L24_4).1 := w_plain (by kernel_rfl) (L24_4).2
noncomputable def L24_5 : Lt r24_5 := by refine ⟨?l, ?h⟩; case h => simp only [r24_5, c24, bodyOf, Try.f24, Code.sub, opsOf, List.map_cons, List.map_nil, strip]; rfl
theorem w24_5 : Wp r24_5 5 [11] [4] [] [4] [some 12, some 13, some 4] (L24_5).1 := w_plain (by kernel_rfl) (L24_5).2
noncomputable def L24_6 : Lt r24_6 := by refine ⟨?l, ?h⟩; case h => simp only [r24_6, c24, bodyOf, Try.f24, Code.sub, opsOf, List.map_cons, List.map_nil, strip]; rfl
theorem w24_6 : Wp r24_6 5 [11] [2] [] [3] [some 25, some 2] (L24_6).1 := w_plain (by kernel_rfl) (L24_6).2
theorem k24 : FnIs TT 24 c24 [.tmp 2] 1 := ⟨Try.f24, by kernel_rfl, by simp only [Try.f24, c24, bodyOf], by kernel_rfl, of_decide_eq_true (by kernel_rfl)⟩

/- turnstonelaw27.hasKey -/
noncomputable def c25 : Code := bodyOf Try.f25
noncomputable def r25_0 : Code := Code.sub [0] c25
noncomputable def r25_1 : Code := Code.sub [1, 0, 0] c25
noncomputable def r25_2 : Code := Code.sub [1, 0, 1, 0, 0, 0, 0] c25
noncomputable def r25_3 : Code := Code.sub [1, 0, 1, 0, 0, 1, 0, 0, 0] c25
noncomputable def r25_4 : Code := Code.sub [1, 0, 1, 0, 0, 1, 0, 0, 1, 0, 0] c25
noncomputable def r25_5 : Code := Code.sub [1, 0, 1, 0, 0, 1, 1] c25
noncomputable def r25_6 : Code := Code.sub [1, 1, 0] c25
theorem body25 : c25 = (.seq r25_0 (.seq (.seq r25_1 (.block 0 (.loop (.seq (.seq r25_2 (.cond (.tmp 11) .skip (.exit 0))) (.seq (.block 1 (.seq r25_3 (.cond (.tmp 29) (.seq r25_4 .ret) .skip))) r25_5))))) (.seq r25_6 .ret))) := by kernel_rfl
noncomputable def L25_0 : Lt r25_0 := by refine ⟨?l, ?h⟩; case h => simp only [r25_0, c25, bodyOf, Try.f25, Code.sub, opsOf, List.map_cons, List.map_nil, strip]; rfl
theorem w25_0 : Wp r25_0 8 [11, 29] [6] [] [] [some 6] (L25_0).1 := w_plain (by kernel_rfl) (L25_0).2
noncomputable def L25_1 : Lt r25_1 := by refine ⟨?l, ?h⟩; case h => simp only [r25_1, c25, bodyOf, Try.f25, Code.sub, opsOf, List.map_cons, List.map_nil, strip]; rfl
theorem w25_1 : Wp r25_1 8 [11, 29] [7] [] [] [some 7] (L25_1).1 := w_plain (by kernel_rfl) (L25_1).2
noncomputable def L25_2 : Lt r25_2 := by refine ⟨?l, ?h⟩; case h => simp only [r25_2, c25, bodyOf, Try.f25, Code.sub, opsOf, List.map_cons, List.map_nil, strip]; rfl
theorem w25_2 : Wp r25_2 8 [11, 29] [] [11] [7, 0] [some 8, some 9, some 10, some 11] (L25_2).1 := w_plain (by kernel_rfl) (L25_2).2
noncomputable def L25_3 : Lt r25_3 := by refine ⟨?l, ?h⟩; case h => simp only [r25_3, c25, bodyOf, Try.f25, Code.sub, opsOf, List.map_cons, List.map_nil, strip]; rfl
theorem w25_3 : Wp r25_3 8 [11, 29] [] [29] [1, 0, 7, 2] [some 14, some 15, some 16, some 17, some 18, some 19, some 20, some 21, some 22, some 23, some 24, some 25, some 26, some 27, some 28, some 29] (L25_3).1 := w_plain (by kernel_rfl) (L25_3).2
noncomputable def L25_4 : Lt r25_4 := by refine ⟨?l, ?h⟩; case h => simp only [r25_4, c25, bodyOf, Try.f25, Code.sub, opsOf, List.map_cons, List.map_nil, strip]; rfl
theorem w25_4 : Wp r25_4 8 [11, 29] [6] [] [] [some 6] (L25_4).1 := w_plain (by kernel_rfl) (L25_4).2
noncomputable def L25_5 : Lt r25_5 := by refine ⟨?l, ?h⟩; case h => simp only [r25_5, c25, bodyOf, Try.f25, Code.sub, opsOf, List.map_cons, List.map_nil, strip]; rfl
theorem w25_5 : Wp r25_5 8 [11, 29] [7] [] [7] [some 12, some 13, some 7] (L25_5).1 := w_plain (by kernel_rfl) (L25_5).2
noncomputable def L25_6 : Lt r25_6 := by refine ⟨?l, ?h⟩; case h => simp only [r25_6, c25, bodyOf, Try.f25, Code.sub, opsOf, List.map_cons, List.map_nil, strip]; rfl
theorem w25_6 : Wp r25_6 8 [11, 29] [6] [] [] [some 6] (L25_6).1 := w_plain (by kernel_rfl) (L25_6).2
theorem k25 : FnIs TT 25 c25 [.tmp 6] 3 := ⟨Try.f25, by kernel_rfl, by simp only [Try.f25, c25, bodyOf], by kernel_rfl, of_decide_eq_true (by kernel_rfl)⟩

/- (*turnstoneref25.Cache).find -/
noncomputable def c35 : Code := bodyOf Try.f35
noncomputable def r35_0 : Code := Code.sub [0] c35
noncomputable def r35_1 : Code := Code.sub [1, 0, 0] c35
noncomputable def r35_2 : Code := Code.sub [1, 0, 1, 0, 0, 0, 0] c35
noncomputable def r35_3 : Code := Code.sub [1, 0, 1, 0, 0, 1, 0, 0, 0] c35
noncomputable def r35_4 : Code := Code.sub [1, 0, 1, 0, 0, 1, 0, 0, 1, 0, 0] c35
noncomputable def r35_5 : Code := Code.sub [1, 0, 1, 0, 0, 1, 1] c35
noncomputable def r35_6 : Code := Code.sub [1, 1, 0] c35
theorem body35 : c35 = (.seq r35_0 (.seq (.seq r35_1 (.block 0 (.loop (.seq (.seq r35_2 (.cond (.tmp 14) .skip (.exit 0))) (.seq (.block 1 (.seq r35_3 (.cond (.tmp 40) (.seq r35_4 .ret) .skip))) r35_5))))) (.seq r35_6 .ret))) := by kernel_rfl
noncomputable def L35_0 : Lt r35_0 := by refine ⟨?l, ?h⟩; case h => simp only [r35_0, c35, bodyOf, Try.f35, Code.sub, opsOf, List.map_cons, List.map_nil, strip]; rfl
theorem w35_0 : Wp r35_0 8 [14, 40] [6] [] [] [some 6] (L35_0).1 := w_plain (by kernel_rfl) (L35_0).2
noncomputable def L35_1 : Lt r35_1 := by refine ⟨?l, ?h⟩; case h => simp only [r35_1, c35, bodyOf, Try.f35, Code.sub, opsOf, List.map_cons, List.map_nil, strip]; rfl
theorem w35_1 : Wp r35_1 8 [14, 40] [7] [] [] [some 7] (L35_1).1 := w_plain (by kernel_rfl) (L35_1).2
noncomputable def L35_2 : Lt r35_2 := by refine ⟨?l, ?h⟩; case h => simp only [r35_2, c35, bodyOf, Try.f35, Code.sub, opsOf, List.map_cons, List.map_nil, strip]; rfl
theorem w35_2 : Wp r35_2 8 [14, 40] [] [14] [7, 0] [some 8, some 9, some 10, some 11, some 12, some 13, some 14] (L35_2).1 := w_plain (by kernel_rfl) (L35_2).2
noncomputable def L35_3 : Lt r35_3 := by refine ⟨?l, ?h⟩; case h => simp only [r35_3, c35, bodyOf, Try.f35, Code.sub, opsOf, List.map_cons, List.map_nil, strip]; rfl
theorem w35_3 : Wp r35_3 8 [14, 40] [] [40] [1, 0, 7, 2] [some 17, some 18, some 19, some 20, some 21, some 22, some 23, some 24, some 25, some 26, some 27, some 28, some 29, some 30, some 31, some 32, some 33, some 34, some 35, some 36, some 37, some 38, some 39, some 40] (L35_3).1 := w_plain (by kernel_rfl) (L35_3).2
noncomputable def L35_4 : Lt r35_4 := by refine ⟨?l, ?h⟩; case h => simp only [r35_4, c35, bodyOf, Try.f35, Code.sub, opsOf, List.map_cons, List.map_nil, strip]; rfl
theorem w35_4 : Wp r35_4 8 [14, 40] [6] [] [7] [some 41, some 6] (L35_4).1 := w_plain (by kernel_rfl) (L35_4).2
noncomputable def L35_5 : Lt r35_5 := by refine ⟨?l, ?h⟩; case h => simp only [r35_5, c35, bodyOf, Try.f35, Code.sub, opsOf, List.map_cons, List.map_nil, strip]; rfl
theorem w35_5 : Wp r35_5 8 [14, 40] [7] [] [7] [some 15, some 16, some 7] (L35_5).1 := w_plain (by kernel_rfl) (L35_5).2
noncomputable def L35_6 : Lt r35_6 := by refine ⟨?l, ?h⟩; case h => simp only [r35_6, c35, bodyOf, Try.f35, Code.sub, opsOf, List.map_cons, List.map_nil, strip]; rfl
theorem w35_6 : Wp r35_6 8 [14, 40] [6] [] [] [some 6] (L35_6).1 := w_plain (by kernel_rfl) (L35_6).2
theorem k35 : FnIs TT 35 c35 [.tmp 6] 3 := ⟨Try.f35, by kernel_rfl, by simp only [Try.f35, c35, bodyOf], by kernel_rfl, of_decide_eq_true (by kernel_rfl)⟩

/- (*turnstoneref25.Cache).drop -/
noncomputable def c36 : Code := bodyOf Try.f36
noncomputable def r36_0 : Code := Code.sub [] c36
theorem body36 : c36 = r36_0 := by kernel_rfl
theorem can36_0 : canonOps (opsOf r36_0) = List.filterMap (fun i => ((opsOf r36_0)[i]?).map (renum [0, 2, 3, 4, 5, 6, 7, 1, 8, 9, 10, 11, 12, 13, 14, 15, 16, 17, 18, 19])) [0, 2, 3, 4, 5, 6, 7, 1, 8, 9, 10, 11, 12, 13, 14, 15, 16, 17, 18, 19] := by kernel_rfl
noncomputable def L36_0 : Lc r36_0 := by refine ⟨?l, (congrArg (List.map strip) can36_0).trans ?h⟩; case h => simp only [r36_0, c36, bodyOf, Try.f36, Code.sub, opsOf, List.filterMap_cons, List.filterMap_nil, List.getElem?_cons_succ, List.getElem?_cons_zero, Option.map_some, renum, List.map_cons, List.map_nil, strip]; rfl
theorem w36_0 : Wd r36_0 2 [] [] [] [0, 1] [some 4, some 6, some 7, some 8, some 9, some 10, some 11, some 5, some 12, some 13, some 14, some 15, some 16, some 17, some 18, some 19, some 20, some 21, some 22, none] (L36_0).1 [(4, [7, 8]), (6, [7, 8]), (12, [7, 8, 16]), (15, [7, 8, 16])] := w_loud (by kernel_rfl) (L36_0).2
theorem k36 : FnIs TT 36 c36 [] 2 := ⟨Try.f36, by kernel_rfl, by simp only [Try.f36, c36, bodyOf], by kernel_rfl, of_decide_eq_true (by kernel_rfl)⟩

/- turnstoneref25.key -/
noncomputable def c37 : Code := bodyOf Try.f37
noncomputable def r37_0 : Code := Code.sub [0] c37
noncomputable def r37_1 : Code := Code.sub [1, 0] c37
theorem body37 : c37 = (.seq r37_0 (.seq r37_1 .ret)) := by kernel_rfl
noncomputable def L37_0 : Lt r37_0 := by refine ⟨?l, ?h⟩; case h => simp only [r37_0, c37, bodyOf, Try.f37, Code.sub, opsOf, List.map_cons, List.map_nil, strip]; rfl
theorem w37_0 : Wp r37_0 3 [] [1, 2] [] [0] [some 1, some 2] (L37_0).1 := w_plain (by kernel_rfl) (L37_0).2
noncomputable def L37_1 : Lt r37_1 := by refine ⟨?l, ?h⟩; case h => simp only [r37_1, c37, bodyOf, Try.f37, Code.sub, opsOf, List.map_cons, List.map_nil, strip]; rfl
theorem w37_1 : Wp r37_1 3 [] [] [] [1, 2] [some 3, some 4, some 5, some 6, some 7, some 8, some 9, none] (L37_1).1 := w_plain (by kernel_rfl) (L37_1).2
theorem k37 : FnIs TT 37 c37 [.cell 2 50] 1 := ⟨Try.f37, by kernel_rfl, by simp only [Try.f37, c37, bodyOf], by kernel_rfl, of_decide_eq_true (by kernel_rfl)⟩

/- what rewriting uses in the walks -/
attribute [simp] w_seq w_cond_tmp w_ret w_skip w_exit w_block w_loop r_nil r_seq r_seq_ret r_seq_exit r_block
attribute [simp] r_block_ret r_block_exit r_loop r_loop_ret r_loop_exit cnd_t cnd_f rg_some lgo_n lgo_c lops_nil lops_cons
attribute [simp] lk_some lop1_plain lop1_guard gdv_b gdv_u gd_tt gd_ff gd_tf gd_ft lput_s lput_n lev_t
attribute [simp] lev_c lev_g lev_f lget_n lget_c lset_n lset_c lkeep_n lkeep_c lsets_n lsets_c lconds_n
attribute [simp] lconds_c lfill qf_d okx lresults lresultsL lres_tmp o_move o_assign o_bin o_pick o_nilCheck
attribute [simp] o_fieldAddr o_load o_len o_store o_conv o_un o_extract o_append o_call2 o_callv o_buildSlice o_box
attribute [simp] o_alloc o_build o_indexAddr o_slice o_index o_field o_makeFunc o_makeSlice o_min o_max loOf_none loOf_some
attribute [simp] hiOf_none hiOf_some natOf_int sliceS_some sliceA_some strOp sz_str cat_str list_str s_binOp fastBin s_unOp
attribute [simp] fastUn boolEq int_beq int_bne txt_beq one_int one_slice one_ptr one_bool one_str cells_int cells_slice
attribute [simp] cells_ptr cells_bool cells_str cells_agg flatEq_n flatEq_c ba_beq closedA_l closedL_n closedL_c closedV_int closedV_str
attribute [simp] closedV_bool loadRow_new window over Instr.fill repl lst_nil lst_cons lks_some lkc_some lloud_some lreads_n
attribute [simp] lreads_c lsame_d eqV_int eqV_slice eqV_ptr eqV_agg eqL_n eqL_c eqV_str eqV_bool eqV_undef o_lookup
attribute [simp] o_mapUpdate o_insert o_mapEntry o_entryStore o_makeMap o_makeInterface o_typeAssert o_delete o_invoke inv_of est_int o_sliceData
attribute [simp] o_unsafeString unsM_none unsM_some one_map one_iface cells_map cells_iface eqV_map eqV_ifc
attribute [simp] body6 w6_0 L6_0 w6_1 L6_1 w6_2 L6_2 w6_3 L6_3 w6_4 L6_4 w6_5 L6_5 w6_6 L6_6 w6_7 L6_7 w6_8 L6_8 w6_9 L6_9 w6_10 L6_10 w6_11 L6_11 w6_12 L6_12 w6_13 L6_13 w6_14 L6_14 w6_15 L6_15 w6_16 L6_16 w6_17 L6_17 w6_18 L6_18 w6_19 L6_19 w6_20 L6_20 w6_21 L6_21 w6_22 L6_22 w6_23 L6_23 w6_24 L6_24 w6_25 L6_25 w6_26 L6_26 w6_27 L6_27 w6_28 L6_28 w6_29 L6_29 w6_30 L6_30 w6_31 L6_31 w6_32 L6_32 w6_33 L6_33 w6_34 L6_34
attribute [simp] body7 w7_0 L7_0 w7_1 L7_1 w7_2 L7_2 w7_3 L7_3 w7_4 L7_4
attribute [simp] body8 w8_0 L8_0 w8_1 L8_1 w8_2 L8_2 w8_3 L8_3
attribute [simp] body10 w10_0 L10_0 w10_1 L10_1 w10_2 L10_2 w10_3 L10_3 w10_4 L10_4 w10_5 L10_5 w10_6 L10_6 w10_7 L10_7 w10_8 L10_8 w10_9 L10_9 w10_10 L10_10
attribute [simp] body11 w11_0 L11_0 w11_1 L11_1
attribute [simp] body12 w12_0 L12_0 w12_1 L12_1 w12_2 L12_2 w12_3 L12_3 w12_4 L12_4 w12_5 L12_5 w12_6 L12_6 w12_7 L12_7
attribute [simp] body13 w13_0 L13_0 w13_1 L13_1 w13_2 L13_2 w13_3 L13_3 w13_4 L13_4 w13_5 L13_5 w13_6 L13_6 w13_7 L13_7
attribute [simp] body14 w14_0 L14_0 w14_1 L14_1
attribute [simp] body15 w15_0 L15_0 w15_1 L15_1 w15_2 L15_2 w15_3 L15_3 w15_4 L15_4 w15_5 L15_5 w15_6 L15_6 w15_7 L15_7 w15_8 L15_8
attribute [simp] body17 w17_0 L17_0 w17_1 L17_1 w17_2 L17_2 w17_3 L17_3 w17_4 L17_4 w17_5 L17_5
attribute [simp] body26 w26_0 L26_0 w26_1 L26_1 w26_2 L26_2 w26_3 L26_3 w26_4 L26_4
attribute [simp] body27 w27_0 L27_0 w27_1 L27_1
attribute [simp] body28 w28_0 L28_0 w28_1 L28_1
attribute [simp] body29 w29_0 L29_0 w29_1 L29_1 w29_2 L29_2 w29_3 L29_3 w29_4 L29_4 w29_5 L29_5 w29_6 L29_6 w29_7 L29_7 w29_8 L29_8 w29_9 L29_9 w29_10 L29_10 w29_11 L29_11 w29_12 L29_12 w29_13 L29_13 w29_14 L29_14 w29_15 L29_15 w29_16 L29_16 w29_17 L29_17
attribute [simp] body30 w30_0 L30_0 w30_1 L30_1 w30_2 L30_2 w30_3 L30_3
attribute [simp] body31 w31_0 L31_0 w31_1 L31_1
attribute [simp] body32 w32_0 L32_0 w32_1 L32_1
attribute [simp] body34 w34_0 L34_0 w34_1 L34_1 w34_2 L34_2 w34_3 L34_3 w34_4 L34_4 w34_5 L34_5 w34_6 L34_6
attribute [simp] body38 w38_0 L38_0 w38_1 L38_1 w38_2 L38_2 w38_3 L38_3 w38_4 L38_4 w38_5 L38_5 w38_6 L38_6 w38_7 L38_7 w38_8 L38_8 w38_9 L38_9 w38_10 L38_10 w38_11 L38_11
attribute [simp] body39 w39_0 L39_0 w39_1 L39_1 w39_2 L39_2 w39_3 L39_3
attribute [simp] body40 w40_0 L40_0 w40_1 L40_1
attribute [simp] body41 w41_0 L41_0 w41_1 L41_1 w41_2 L41_2 w41_3 L41_3
attribute [simp] body42 w42_0 L42_0 w42_1 L42_1 w42_2 L42_2 w42_3 L42_3 w42_4 L42_4 w42_5 L42_5 w42_6 L42_6 w42_7 L42_7
attribute [simp] body43 w43_0 L43_0 w43_1 L43_1
attribute [simp] body45 w45_0 L45_0 w45_1 L45_1 w45_2 L45_2 w45_3 L45_3 w45_4 L45_4 w45_5 L45_5 w45_6 L45_6 w45_7 L45_7 w45_8 L45_8 w45_9 L45_9 w45_10 L45_10 w45_11 L45_11 w45_12 L45_12 w45_13 L45_13 w45_14 L45_14 w45_15 L45_15 w45_16 L45_16 w45_17 L45_17 w45_18 L45_18 w45_19 L45_19 w45_20 L45_20 w45_21 L45_21 w45_22 L45_22 w45_23 L45_23 w45_24 L45_24 w45_25 L45_25 w45_26 L45_26 w45_27 L45_27 w45_28 L45_28 w45_29 L45_29 w45_30 L45_30
attribute [simp] body46 w46_0 L46_0 w46_1 L46_1 w46_2 L46_2
attribute [simp] body47 w47_0 L47_0 w47_1 L47_1 w47_2 L47_2 w47_3 L47_3 w47_4 L47_4 w47_5 L47_5 w47_6 L47_6
attribute [simp] body56 w56_0 L56_0 w56_1 L56_1 w56_2 L56_2 w56_3 L56_3 w56_4 L56_4 w56_5 L56_5 w56_6 L56_6 w56_7 L56_7 w56_8 L56_8 w56_9 L56_9 w56_10 L56_10
attribute [simp] body79 w79_0 L79_0 w79_1 L79_1
attribute [simp] body80 w80_0 L80_0 w80_1 L80_1
attribute [simp] body81 w81_0 L81_0
attribute [simp] body82 w82_0 L82_0 w82_1 L82_1 w82_2 L82_2 w82_3 L82_3 w82_4 L82_4
attribute [simp] body83 w83_0 L83_0
attribute [simp] body16 w16_0 L16_0 w16_1 L16_1 w16_2 L16_2 w16_3 L16_3 w16_4 L16_4 w16_5 L16_5 w16_6 L16_6 w16_7 L16_7 w16_8 L16_8 w16_9 L16_9 w16_10 L16_10 w16_11 L16_11 w16_12 L16_12 w16_13 L16_13
attribute [simp] body33 w33_0 L33_0 w33_1 L33_1
attribute [simp] body44 w44_0 L44_0 w44_1 L44_1 w44_2 L44_2 w44_3 L44_3 w44_4 L44_4 w44_5 L44_5 w44_6 L44_6 w44_7 L44_7
attribute [simp] body18 w18_0 L18_0 w18_1 L18_1 w18_2 L18_2 w18_3 L18_3 w18_4 L18_4 w18_5 L18_5 w18_6 L18_6 w18_7 L18_7
attribute [simp] body19 w19_0 L19_0 w19_1 L19_1 w19_2 L19_2 w19_3 L19_3 w19_4 L19_4
attribute [simp] body20 w20_0 L20_0 w20_1 L20_1 w20_2 L20_2 w20_3 L20_3 w20_4 L20_4 w20_5 L20_5 w20_6 L20_6 w20_7 L20_7 w20_8 L20_8
attribute [simp] body21 w21_0 L21_0 w21_1 L21_1 w21_2 L21_2 w21_3 L21_3 w21_4 L21_4 w21_5 L21_5 w21_6 L21_6 w21_7 L21_7 w21_8 L21_8 w21_9 L21_9 w21_10 L21_10 w21_11 L21_11 w21_12 L21_12 w21_13 L21_13
attribute [simp] body22 w22_0 L22_0 w22_1 L22_1 w22_2 L22_2 w22_3 L22_3 w22_4 L22_4 w22_5 L22_5 w22_6 L22_6 w22_7 L22_7 w22_8 L22_8 w22_9 L22_9
attribute [simp] body23 w23_0 L23_0 w23_1 L23_1 w23_2 L23_2 w23_3 L23_3 w23_4 L23_4 w23_5 L23_5 w23_6 L23_6
attribute [simp] body24 w24_0 L24_0 w24_1 L24_1 w24_2 L24_2 w24_3 L24_3 w24_4 L24_4 w24_5 L24_5 w24_6 L24_6
attribute [simp] body25 w25_0 L25_0 w25_1 L25_1 w25_2 L25_2 w25_3 L25_3 w25_4 L25_4 w25_5 L25_5 w25_6 L25_6
attribute [simp] body35 w35_0 L35_0 w35_1 L35_1 w35_2 L35_2 w35_3 L35_3 w35_4 L35_4 w35_5 L35_5 w35_6 L35_6
attribute [simp] body36 w36_0 L36_0
attribute [simp] body37 w37_0 L37_0 w37_1 L37_1
end Go.Proofs.Ytljklfimdanmlaa.gen

