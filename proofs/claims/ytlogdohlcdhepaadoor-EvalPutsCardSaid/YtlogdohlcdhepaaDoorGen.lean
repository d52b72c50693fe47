/-
  This text names the regions of the functions that are walked, with the slots that they read and set, and the facts of the types.
  No condition.
-/
import Derived.Test.YtlogdohlcdhepaaDoorProg
import Derived.Test.YtlogdohlcdhepaaDoorShD
set_option maxRecDepth 100000
set_option linter.unusedSimpArgs false
set_option linter.unusedVariables false
namespace Go.Proofs.YtlogdohlcdhepaaDoor.gen
open Go.Sh
def fns : List FuncId := [8, 9, 10, 15, 16, 19, 20, 21, 22, 23, 24, 25, 26, 27, 28, 29, 30, 36, 37, 38, 39, 40, 41, 42, 44, 46, 47, 48, 49, 50, 51, 52, 53, 54, 55, 56, 57, 58, 59, 60, 61, 62, 64, 65, 66, 67, 68, 69, 70, 71, 72, 73, 74, 75, 76, 77, 78, 79, 81, 82, 83, 12]
noncomputable def TT : FuncId → Option Func := Sh.tabOf Tryd.prog fns
variable {S : Sums} {m : Mem} {k : List Fr} {E : LEnv} {Q : Post}
abbrev Lt (c : Code) := {l : List Oper // (opsOf c).map strip = l}
abbrev Lc (c : Code) := {l : List Oper // (canonOps (opsOf c)).map strip = l}
abbrev Wp (c : Code) (nv : Nat) (C ups cs nd : List Nat) (ds : List (Option Nat)) (l : List Oper) : Prop := ∀ {S : Sums} {m : Mem} {k : List Fr} {E : LEnv} {Q : Post}, W Tryd.prog TT S nv C c k E m Q ↔ Rg Tryd.prog TT S nv C ups cs (lgo E nd (lops Tryd.prog (callw Tryd.prog TT S) ds l E m)) k E Q
abbrev Wd (c : Code) (nv : Nat) (C ups cs nd : List Nat) (ds : List (Option Nat)) (l : List Oper) (places : List (Nat × List Nat)) : Prop := ∀ {S : Sums} {m : Mem} {k : List Fr} {E : LEnv} {Q : Post}, W Tryd.prog TT S nv C c k E m Q ↔ Rg Tryd.prog TT S nv C ups cs (lgo E nd (lloud Tryd.prog (callw Tryd.prog TT S) ds l places (lstates Tryd.prog (callw Tryd.prog TT S) ds l E m))) k E Q
theorem ap124 : apOk Tryd.prog 124 2 16 = true := by kernel_rfl
theorem ap3 : apOk Tryd.prog 3 1 8 = true := by kernel_rfl
theorem ap36 : apOk Tryd.prog 36 1 24 = true := by kernel_rfl
theorem ap4 : apOk Tryd.prog 4 1 1 = true := by kernel_rfl
theorem ap44 : apOk Tryd.prog 44 4 64 = true := by kernel_rfl
theorem ap45 : apOk Tryd.prog 45 1 8 = true := by kernel_rfl
theorem b34 : (Tryd.prog.info? 34).isSome = true := by kernel_rfl
theorem b38 : (Tryd.prog.info? 38).isSome = true := by kernel_rfl
theorem b59 : (Tryd.prog.info? 59).isSome = true := by kernel_rfl
theorem b75 : (Tryd.prog.info? 75).isSome = true := by kernel_rfl
theorem b76 : (Tryd.prog.info? 76).isSome = true := by kernel_rfl
theorem b78 : (Tryd.prog.info? 78).isSome = true := by kernel_rfl
theorem b99 : (Tryd.prog.info? 99).isSome = true := by kernel_rfl
theorem bo124 : buildOk Tryd.prog 124 [.int .i64 0, .int .i64 0] [(0, 1), (1, 1)] = true := by kernel_rfl
theorem bo28 : buildOk Tryd.prog 28 [.int .i64 0, .int .i64 0, .int .i64 0, .slice none 0 0, .int .i64 0] [(0, 1), (1, 1), (2, 1), (3, 1), (4, 1)] = true := by kernel_rfl
theorem bo34 : buildOk Tryd.prog 34 [.int .i64 0, .int .i64 0, .slice none 0 0, .slice none 0 0, .slice none 0 0] [(0, 1), (1, 1), (2, 1), (3, 1), (4, 1)] = true := by kernel_rfl
theorem bo38 : buildOk Tryd.prog 38 [.int .i64 0, .int .i64 0, .int .i64 0, .int .i64 0, .slice none 0 0, .int .i64 0] [(0, 1), (1, 1), (2, 1), (3, 1), (4, 1), (5, 1)] = true := by kernel_rfl
theorem bo40 : buildOk Tryd.prog 40 [.slice none 0 0, .int .i64 0, .int .i64 0, .slice none 0 0, .slice none 0 0, .int .i64 0] [(0, 1), (1, 1), (2, 1), (3, 1), (4, 1), (5, 1)] = true := by kernel_rfl
theorem bo44 : buildOk Tryd.prog 44 [.int .i64 0, .int .i64 0, .slice none 0 0, .slice none 0 0] [(0, 1), (1, 1), (2, 1), (3, 1)] = true := by kernel_rfl
theorem bo59 : buildOk Tryd.prog 59 [.int .i64 0, .slice none 0 0] [(0, 1), (1, 1)] = true := by kernel_rfl
theorem bo64 : buildOk Tryd.prog 64 [.int .i64 0, .int .i64 0, .slice none 0 0, .slice none 0 0] [(0, 1), (1, 1), (2, 1), (3, 1)] = true := by kernel_rfl
theorem bo67 : buildOk Tryd.prog 67 [.slice none 0 0] [(0, 1)] = true := by kernel_rfl
theorem bo75 : buildOk Tryd.prog 75 [.slice none 0 0, .int .i64 0] [(0, 1), (1, 1)] = true := by kernel_rfl
theorem bo78 : buildOk Tryd.prog 78 [.int .i64 0, .int .i64 0, .slice none 0 0, .slice none 0 0, .slice none 0 0, .pointer none, .slice none 0 0, .int .i64 0, .int .i64 0] [(0, 5), (5, 1), (6, 1), (7, 1), (8, 1)] = true := by kernel_rfl
theorem bo99 : buildOk Tryd.prog 99 [.int .i64 0, .int .i64 0, .slice none 0 0, .slice none 0 0, .slice none 0 0, .slice none 0 0, .slice none 0 0, .slice none 0 0] [(0, 5), (5, 1), (6, 1), (7, 1)] = true := by kernel_rfl
theorem bs124 : bsOk Tryd.prog 124 [.int .i64 0, .int .i64 0] = true := by kernel_rfl
theorem bs3 : bsOk Tryd.prog 3 [.int .i64 0] = true := by kernel_rfl
theorem bs38 : bsOk Tryd.prog 38 [.int .i64 0, .int .i64 0, .int .i64 0, .int .i64 0, .slice none 0 0, .int .i64 0] = true := by kernel_rfl
theorem bs40 : bsOk Tryd.prog 40 [.slice none 0 0, .int .i64 0, .int .i64 0, .slice none 0 0, .slice none 0 0, .int .i64 0] = true := by kernel_rfl
theorem bs44 : bsOk Tryd.prog 44 [.int .i64 0, .int .i64 0, .slice none 0 0, .slice none 0 0] = true := by kernel_rfl
theorem bs45 : bsOk Tryd.prog 45 [.int .u64 0] = true := by kernel_rfl
theorem bs64 : bsOk Tryd.prog 64 [.int .i64 0, .int .i64 0, .slice none 0 0, .slice none 0 0] = true := by kernel_rfl
theorem bs67 : bsOk Tryd.prog 67 [.slice none 0 0] = true := by kernel_rfl
theorem fa124_0 : faOk Tryd.prog 124 0 0 = true := by kernel_rfl
theorem fa124_1 : faOk Tryd.prog 124 1 1 = true := by kernel_rfl
theorem fa28_3 : faOk Tryd.prog 28 3 3 = true := by kernel_rfl
theorem fa34_2 : faOk Tryd.prog 34 2 2 = true := by kernel_rfl
theorem fa34_3 : faOk Tryd.prog 34 3 3 = true := by kernel_rfl
theorem fa34_4 : faOk Tryd.prog 34 4 4 = true := by kernel_rfl
theorem fa38_0 : faOk Tryd.prog 38 0 0 = true := by kernel_rfl
theorem fa38_1 : faOk Tryd.prog 38 1 1 = true := by kernel_rfl
theorem fa38_2 : faOk Tryd.prog 38 2 2 = true := by kernel_rfl
theorem fa38_3 : faOk Tryd.prog 38 3 3 = true := by kernel_rfl
theorem fa38_4 : faOk Tryd.prog 38 4 4 = true := by kernel_rfl
theorem fa38_5 : faOk Tryd.prog 38 5 5 = true := by kernel_rfl
theorem fa40_0 : faOk Tryd.prog 40 0 0 = true := by kernel_rfl
theorem fa40_1 : faOk Tryd.prog 40 1 1 = true := by kernel_rfl
theorem fa40_2 : faOk Tryd.prog 40 2 2 = true := by kernel_rfl
theorem fa40_3 : faOk Tryd.prog 40 3 3 = true := by kernel_rfl
theorem fa40_4 : faOk Tryd.prog 40 4 4 = true := by kernel_rfl
theorem fa40_5 : faOk Tryd.prog 40 5 5 = true := by kernel_rfl
theorem fa44_2 : faOk Tryd.prog 44 2 2 = true := by kernel_rfl
theorem fa59_0 : faOk Tryd.prog 59 0 0 = true := by kernel_rfl
theorem fa59_1 : faOk Tryd.prog 59 1 1 = true := by kernel_rfl
theorem fa64_0 : faOk Tryd.prog 64 0 0 = true := by kernel_rfl
theorem fa64_1 : faOk Tryd.prog 64 1 1 = true := by kernel_rfl
theorem fa64_2 : faOk Tryd.prog 64 2 2 = true := by kernel_rfl
theorem fa64_3 : faOk Tryd.prog 64 3 3 = true := by kernel_rfl
theorem fa67_0 : faOk Tryd.prog 67 0 0 = true := by kernel_rfl
theorem fa75_0 : faOk Tryd.prog 75 0 0 = true := by kernel_rfl
theorem fa75_1 : faOk Tryd.prog 75 1 1 = true := by kernel_rfl
theorem fa78_0 : faOk Tryd.prog 78 0 0 = true := by kernel_rfl
theorem fa78_1 : faOk Tryd.prog 78 1 5 = true := by kernel_rfl
theorem fa78_2 : faOk Tryd.prog 78 2 6 = true := by kernel_rfl
theorem fa78_3 : faOk Tryd.prog 78 3 7 = true := by kernel_rfl
theorem fa78_4 : faOk Tryd.prog 78 4 8 = true := by kernel_rfl
theorem fa99_0 : faOk Tryd.prog 99 0 0 = true := by kernel_rfl
theorem fa99_1 : faOk Tryd.prog 99 1 5 = true := by kernel_rfl
theorem fa99_2 : faOk Tryd.prog 99 2 6 = true := by kernel_rfl
theorem fa99_3 : faOk Tryd.prog 99 3 7 = true := by kernel_rfl
theorem ld2 : ldOk Tryd.prog 2 = true := by kernel_rfl
theorem ld22 : ldOk Tryd.prog 22 = true := by kernel_rfl
theorem ld26 : ldOk Tryd.prog 26 = true := by kernel_rfl
theorem ld28 : agOk Tryd.prog 28 5 = true := by kernel_rfl
theorem ld3 : ldOk Tryd.prog 3 = true := by kernel_rfl
theorem ld30 : ldOk Tryd.prog 30 = true := by kernel_rfl
theorem ld31 : ldOk Tryd.prog 31 = true := by kernel_rfl
theorem ld32 : ldOk Tryd.prog 32 = true := by kernel_rfl
theorem ld34 : agOk Tryd.prog 34 5 = true := by kernel_rfl
theorem ld36 : ldOk Tryd.prog 36 = true := by kernel_rfl
theorem ld38 : agOk Tryd.prog 38 6 = true := by kernel_rfl
theorem ld4 : ldOk Tryd.prog 4 = true := by kernel_rfl
theorem ld40 : agOk Tryd.prog 40 6 = true := by kernel_rfl
theorem ld42 : ldOk Tryd.prog 42 = true := by kernel_rfl
theorem ld45 : ldOk Tryd.prog 45 = true := by kernel_rfl
theorem ld64 : agOk Tryd.prog 64 4 = true := by kernel_rfl
theorem ld65 : ldOk Tryd.prog 65 = true := by kernel_rfl
theorem ld67 : agOk Tryd.prog 67 1 = true := by kernel_rfl
theorem ld76 : ldOk Tryd.prog 76 = true := by kernel_rfl
theorem sz124 : sizeOfT Tryd.prog 124 = some 2 := by kernel_rfl
theorem sz26 : sizeOfT Tryd.prog 26 = some 1 := by kernel_rfl
theorem sz28 : sizeOfT Tryd.prog 28 = some 5 := by kernel_rfl
theorem sz3 : sizeOfT Tryd.prog 3 = some 1 := by kernel_rfl
theorem sz34 : sizeOfT Tryd.prog 34 = some 5 := by kernel_rfl
theorem sz36 : sizeOfT Tryd.prog 36 = some 1 := by kernel_rfl
theorem sz38 : sizeOfT Tryd.prog 38 = some 6 := by kernel_rfl
theorem sz4 : sizeOfT Tryd.prog 4 = some 1 := by kernel_rfl
theorem sz40 : sizeOfT Tryd.prog 40 = some 6 := by kernel_rfl
theorem sz42 : sizeOfT Tryd.prog 42 = some 1 := by kernel_rfl
theorem sz44 : sizeOfT Tryd.prog 44 = some 4 := by kernel_rfl
theorem sz45 : sizeOfT Tryd.prog 45 = some 1 := by kernel_rfl
theorem sz64 : sizeOfT Tryd.prog 64 = some 4 := by kernel_rfl
theorem sz67 : sizeOfT Tryd.prog 67 = some 1 := by kernel_rfl
theorem u112 : Tryd.prog.underlying 112 = some (.slice 36) := by kernel_rfl
theorem u121 : Tryd.prog.underlying 121 = some (.slice 4) := by kernel_rfl
theorem u122 : Tryd.prog.underlying 122 = some (.slice 124) := by kernel_rfl
theorem u2 : Tryd.prog.underlying 2 = some (.int .i64) := by kernel_rfl
theorem u22 : Tryd.prog.underlying 22 = some (.pointer 75) := by kernel_rfl
theorem u26 : Tryd.prog.underlying 26 = some (.slice 44) := by kernel_rfl
theorem u3 : Tryd.prog.underlying 3 = some (.int .i64) := by kernel_rfl
theorem u30 : Tryd.prog.underlying 30 = some (.slice 38) := by kernel_rfl
theorem u31 : Tryd.prog.underlying 31 = some (.slice 40) := by kernel_rfl
theorem u32 : Tryd.prog.underlying 32 = some (.slice 67) := by kernel_rfl
theorem u36 : Tryd.prog.underlying 36 = some (.slice 3) := by kernel_rfl
theorem u4 : Tryd.prog.underlying 4 = some .bool := by kernel_rfl
theorem u42 : Tryd.prog.underlying 42 = some (.slice 45) := by kernel_rfl
theorem u45 : Tryd.prog.underlying 45 = some (.int .u64) := by kernel_rfl
theorem u65 : Tryd.prog.underlying 65 = some (.slice 64) := by kernel_rfl
theorem zo28 : zeroOk Tryd.prog 28 [.int .i64 0, .int .i64 0, .int .i64 0, .slice none 0 0, .int .i64 0] = true := by kernel_rfl
theorem zo34 : zeroOk Tryd.prog 34 [.int .i64 0, .int .i64 0, .slice none 0 0, .slice none 0 0, .slice none 0 0] = true := by kernel_rfl
theorem zo36 : zeroOk Tryd.prog 36 [.slice none 0 0] = true := by kernel_rfl
theorem zo38 : zeroOk Tryd.prog 38 [.int .i64 0, .int .i64 0, .int .i64 0, .int .i64 0, .slice none 0 0, .int .i64 0] = true := by kernel_rfl
theorem zo40 : zeroOk Tryd.prog 40 [.slice none 0 0, .int .i64 0, .int .i64 0, .slice none 0 0, .slice none 0 0, .int .i64 0] = true := by kernel_rfl
theorem zo64 : zeroOk Tryd.prog 64 [.int .i64 0, .int .i64 0, .slice none 0 0, .slice none 0 0] = true := by kernel_rfl
theorem zo67 : zeroOk Tryd.prog 67 [.slice none 0 0] = true := by kernel_rfl
noncomputable def c8 : Code := bodyOf Tryd.f8
noncomputable def r8_0 : Code := Code.sub [0] c8
noncomputable def r8_1 : Code := Code.sub [1, 0] c8
noncomputable def r8_2 : Code := Code.sub [1, 1, 0] c8
noncomputable def r8_3 : Code := Code.sub [1, 1, 1, 0] c8
noncomputable def r8_4 : Code := Code.sub [1, 1, 1, 1, 0] c8
noncomputable def r8_5 : Code := Code.sub [1, 1, 1, 1, 1, 0] c8
noncomputable def r8_6 : Code := Code.sub [1, 1, 1, 1, 1, 1, 0, 0] c8
noncomputable def r8_7 : Code := Code.sub [1, 1, 1, 1, 1, 1, 0, 1, 0, 0] c8
noncomputable def r8_8 : Code := Code.sub [1, 1, 1, 1, 1, 1, 1, 0] c8
noncomputable def r8_9 : Code := Code.sub [1, 1, 1, 1, 1, 1, 1, 1, 0, 0] c8
noncomputable def r8_10 : Code := Code.sub [1, 1, 1, 1, 1, 1, 1, 1, 0, 1, 0, 0] c8
noncomputable def r8_11 : Code := Code.sub [1, 1, 1, 1, 1, 1, 1, 1, 1, 0] c8
noncomputable def r8_12 : Code := Code.sub [1, 1, 1, 1, 1, 1, 1, 1, 1, 1, 0, 0] c8
noncomputable def r8_13 : Code := Code.sub [1, 1, 1, 1, 1, 1, 1, 1, 1, 1, 0, 1, 0, 0] c8
noncomputable def r8_14 : Code := Code.sub [1, 1, 1, 1, 1, 1, 1, 1, 1, 1, 1, 0] c8
noncomputable def r8_15 : Code := Code.sub [1, 1, 1, 1, 1, 1, 1, 1, 1, 1, 1, 1, 0] c8
noncomputable def r8_16 : Code := Code.sub [1, 1, 1, 1, 1, 1, 1, 1, 1, 1, 1, 1, 1, 0] c8
theorem body8 : c8 = (.seq r8_0 (.seq r8_1 (.seq r8_2 (.seq r8_3 (.seq r8_4 (.seq r8_5 (.seq (.seq r8_6 (.cond (.tmp 51) (.seq r8_7 .ret) .skip)) (.seq r8_8 (.seq (.seq r8_9 (.cond (.tmp 71) (.seq r8_10 .ret) .skip)) (.seq r8_11 (.seq (.seq r8_12 (.cond (.tmp 107) (.seq r8_13 .ret) .skip)) (.seq r8_14 (.seq r8_15 (.seq r8_16 .ret)))))))))))))) := by kernel_rfl
noncomputable def L8_0 : Lt r8_0 := by refine ⟨?l, ?h⟩; case h => simp only [r8_0, c8, bodyOf, Tryd.f8, Code.sub, opsOf, List.map_cons, List.map_nil, strip]; rfl
theorem w8_0 : Wp r8_0 15 [51, 71, 107] [6] [] [] [some 6] (L8_0).1 := w_plain (by kernel_rfl) (L8_0).2
noncomputable def L8_1 : Lt r8_1 := by refine ⟨?l, ?h⟩; case h => simp only [r8_1, c8, bodyOf, Tryd.f8, Code.sub, opsOf, List.map_cons, List.map_nil, strip]; rfl
theorem w8_1 : Wp r8_1 15 [51, 71, 107] [7] [] [] [some 15, some 7] (L8_1).1 := w_plain (by kernel_rfl) (L8_1).2
noncomputable def L8_2 : Lt r8_2 := by refine ⟨?l, ?h⟩; case h => simp only [r8_2, c8, bodyOf, Tryd.f8, Code.sub, opsOf, List.map_cons, List.map_nil, strip]; rfl
theorem w8_2 : Wp r8_2 15 [51, 71, 107] [] [] [7] [some 16, some 17] (L8_2).1 := w_plain (by kernel_rfl) (L8_2).2
noncomputable def L8_3 : Lt r8_3 := by refine ⟨?l, ?h⟩; case h => simp only [r8_3, c8, bodyOf, Tryd.f8, Code.sub, opsOf, List.map_cons, List.map_nil, strip]; rfl
theorem w8_3 : Wp r8_3 15 [51, 71, 107] [8, 9] [] [7] [some 19, some 20, some 18, some 21, some 22, some 8, some 9] (L8_3).1 := w_plain (by kernel_rfl) (L8_3).2
noncomputable def L8_4 : Lt r8_4 := by refine ⟨?l, ?h⟩; case h => simp only [r8_4, c8, bodyOf, Tryd.f8, Code.sub, opsOf, List.map_cons, List.map_nil, strip]; rfl
theorem w8_4 : Wp r8_4 15 [51, 71, 107] [2] [] [2] [some 23, some 24, some 2] (L8_4).1 := w_plain (by kernel_rfl) (L8_4).2
noncomputable def L8_5 : Lt r8_5 := by refine ⟨?l, ?h⟩; case h => simp only [r8_5, c8, bodyOf, Tryd.f8, Code.sub, opsOf, List.map_cons, List.map_nil, strip]; rfl
theorem w8_5 : Wp r8_5 15 [51, 71, 107] [10] [] [2] [some 25, some 26, some 27, some 28, some 29, some 30, some 31, some 32, some 33, some 34, some 35, some 36, some 37, some 38, some 39, some 40, some 41, some 42, some 43, some 44, some 45, some 10, none] (L8_5).1 := w_plain (by kernel_rfl) (L8_5).2
noncomputable def L8_6 : Lt r8_6 := by refine ⟨?l, ?h⟩; case h => simp only [r8_6, c8, bodyOf, Tryd.f8, Code.sub, opsOf, List.map_cons, List.map_nil, strip]; rfl
theorem w8_6 : Wp r8_6 15 [51, 71, 107] [] [51] [9] [some 46, some 47, some 48, some 49, some 50, some 51] (L8_6).1 := w_plain (by kernel_rfl) (L8_6).2
noncomputable def L8_7 : Lt r8_7 := by refine ⟨?l, ?h⟩; case h => simp only [r8_7, c8, bodyOf, Tryd.f8, Code.sub, opsOf, List.map_cons, List.map_nil, strip]; rfl
theorem w8_7 : Wp r8_7 15 [51, 71, 107] [6] [] [] [some 6] (L8_7).1 := w_plain (by kernel_rfl) (L8_7).2
noncomputable def L8_8 : Lt r8_8 := by refine ⟨?l, ?h⟩; case h => simp only [r8_8, c8, bodyOf, Tryd.f8, Code.sub, opsOf, List.map_cons, List.map_nil, strip]; rfl
theorem w8_8 : Wp r8_8 15 [51, 71, 107] [11] [] [10, 8, 2, 0] [some 52, some 53, some 54, some 55, some 56, some 57, some 58, some 11, none] (L8_8).1 := w_plain (by kernel_rfl) (L8_8).2
noncomputable def L8_9 : Lt r8_9 := by refine ⟨?l, ?h⟩; case h => simp only [r8_9, c8, bodyOf, Tryd.f8, Code.sub, opsOf, List.map_cons, List.map_nil, strip]; rfl
theorem w8_9 : Wp r8_9 15 [51, 71, 107] [] [71] [11] [some 59, some 60, some 61, some 62, some 63, some 64, some 65, some 66, some 67, some 68, some 69, some 70, some 71] (L8_9).1 := w_plain (by kernel_rfl) (L8_9).2
noncomputable def L8_10 : Lt r8_10 := by refine ⟨?l, ?h⟩; case h => simp only [r8_10, c8, bodyOf, Tryd.f8, Code.sub, opsOf, List.map_cons, List.map_nil, strip]; rfl
theorem w8_10 : Wp r8_10 15 [51, 71, 107] [6] [] [] [some 6] (L8_10).1 := w_plain (by kernel_rfl) (L8_10).2
noncomputable def L8_11 : Lt r8_11 := by refine ⟨?l, ?h⟩; case h => simp only [r8_11, c8, bodyOf, Tryd.f8, Code.sub, opsOf, List.map_cons, List.map_nil, strip]; rfl
theorem w8_11 : Wp r8_11 15 [51, 71, 107] [12] [] [11] [some 72, some 73, some 74, some 75, some 76, some 12] (L8_11).1 := w_plain (by kernel_rfl) (L8_11).2
noncomputable def L8_12 : Lt r8_12 := by refine ⟨?l, ?h⟩; case h => simp only [r8_12, c8, bodyOf, Tryd.f8, Code.sub, opsOf, List.map_cons, List.map_nil, strip]; rfl
theorem w8_12 : Wp r8_12 15 [51, 71, 107] [] [107] [12, 8, 2, 0] [some 77, some 78, some 79, some 80, some 81, some 82, some 83, some 84, some 85, some 86, some 87, some 88, some 89, some 90, some 91, some 92, some 93, some 94, some 95, some 96, some 97, some 98, some 99, some 100, some 101, some 102, some 103, some 104, some 105, some 106, some 107] (L8_12).1 := w_plain (by kernel_rfl) (L8_12).2
noncomputable def L8_13 : Lt r8_13 := by refine ⟨?l, ?h⟩; case h => simp only [r8_13, c8, bodyOf, Tryd.f8, Code.sub, opsOf, List.map_cons, List.map_nil, strip]; rfl
theorem w8_13 : Wp r8_13 15 [51, 71, 107] [6] [] [] [some 6] (L8_13).1 := w_plain (by kernel_rfl) (L8_13).2
noncomputable def L8_14 : Lt r8_14 := by refine ⟨?l, ?h⟩; case h => simp only [r8_14, c8, bodyOf, Tryd.f8, Code.sub, opsOf, List.map_cons, List.map_nil, strip]; rfl
theorem w8_14 : Wp r8_14 15 [51, 71, 107] [13] [] [8] [some 108, some 109, some 13] (L8_14).1 := w_plain (by kernel_rfl) (L8_14).2
noncomputable def L8_15 : Lt r8_15 := by refine ⟨?l, ?h⟩; case h => simp only [r8_15, c8, bodyOf, Tryd.f8, Code.sub, opsOf, List.map_cons, List.map_nil, strip]; rfl
theorem w8_15 : Wp r8_15 15 [51, 71, 107] [14] [] [10, 8, 1, 2, 0] [some 110, some 111, some 112, some 113, some 114, some 115, some 116, some 117, some 118, some 119, some 14, none] (L8_15).1 := w_plain (by kernel_rfl) (L8_15).2
noncomputable def L8_16 : Lt r8_16 := by refine ⟨?l, ?h⟩; case h => simp only [r8_16, c8, bodyOf, Tryd.f8, Code.sub, opsOf, List.map_cons, List.map_nil, strip]; rfl
theorem w8_16 : Wp r8_16 15 [51, 71, 107] [6] [] [14, 8, 13] [some 120, some 121, some 122, some 123, some 124, some 125, some 126, some 127, some 128, some 129, some 130, some 131, some 132, some 133, some 134, some 135, some 136, some 137, some 138, some 139, some 140, some 141, some 142, some 143, some 144, some 145, some 146, some 147, some 148, some 149, some 6] (L8_16).1 := w_plain (by kernel_rfl) (L8_16).2
theorem k8 : FnIs TT 8 c8 [.tmp 6] 3 := ⟨Tryd.f8, by kernel_rfl, by simp only [Tryd.f8, c8, bodyOf], by kernel_rfl, of_decide_eq_true (by kernel_rfl)⟩
noncomputable def c9 : Code := bodyOf Tryd.f9
noncomputable def r9_0 : Code := Code.sub [0] c9
noncomputable def r9_1 : Code := Code.sub [1, 0, 0] c9
noncomputable def r9_2 : Code := Code.sub [1, 0, 1, 0, 0] c9
noncomputable def r9_3 : Code := Code.sub [1, 1, 0] c9
theorem body9 : c9 = (.seq r9_0 (.seq (.seq r9_1 (.cond (.tmp 9) (.seq r9_2 .ret) .skip)) (.seq r9_3 .ret))) := by kernel_rfl
noncomputable def L9_0 : Lt r9_0 := by refine ⟨?l, ?h⟩; case h => simp only [r9_0, c9, bodyOf, Tryd.f9, Code.sub, opsOf, List.map_cons, List.map_nil, strip]; rfl
theorem w9_0 : Wp r9_0 4 [9] [2, 3] [] [] [some 2, some 3] (L9_0).1 := w_plain (by kernel_rfl) (L9_0).2
noncomputable def L9_1 : Lt r9_1 := by refine ⟨?l, ?h⟩; case h => simp only [r9_1, c9, bodyOf, Tryd.f9, Code.sub, opsOf, List.map_cons, List.map_nil, strip]; rfl
theorem w9_1 : Wp r9_1 4 [9] [] [9] [0] [some 4, some 5, some 6, some 7, some 8, some 9] (L9_1).1 := w_plain (by kernel_rfl) (L9_1).2
noncomputable def L9_2 : Lt r9_2 := by refine ⟨?l, ?h⟩; case h => simp only [r9_2, c9, bodyOf, Tryd.f9, Code.sub, opsOf, List.map_cons, List.map_nil, strip]; rfl
theorem w9_2 : Wp r9_2 4 [9] [2, 3] [] [] [some 2, some 3] (L9_2).1 := w_plain (by kernel_rfl) (L9_2).2
noncomputable def L9_3 : Lt r9_3 := by refine ⟨?l, ?h⟩; case h => simp only [r9_3, c9, bodyOf, Tryd.f9, Code.sub, opsOf, List.map_cons, List.map_nil, strip]; rfl
theorem w9_3 : Wp r9_3 4 [9] [2, 3] [] [0] [some 10, some 11, some 12, some 13, some 2, some 3] (L9_3).1 := w_plain (by kernel_rfl) (L9_3).2
theorem k9 : FnIs TT 9 c9 [.tmp 2, .tmp 3] 1 := ⟨Tryd.f9, by kernel_rfl, by simp only [Tryd.f9, c9, bodyOf], by kernel_rfl, of_decide_eq_true (by kernel_rfl)⟩
noncomputable def c10 : Code := bodyOf Tryd.f10
noncomputable def r10_0 : Code := Code.sub [0] c10
noncomputable def r10_1 : Code := Code.sub [1, 0, 0] c10
noncomputable def r10_2 : Code := Code.sub [1, 0, 1, 0, 0] c10
noncomputable def r10_3 : Code := Code.sub [1, 1, 0] c10
noncomputable def r10_4 : Code := Code.sub [1, 1, 1, 0] c10
noncomputable def r10_5 : Code := Code.sub [1, 1, 1, 1, 0] c10
noncomputable def r10_6 : Code := Code.sub [1, 1, 1, 1, 1, 0, 0, 0, 0] c10
noncomputable def r10_7 : Code := Code.sub [1, 1, 1, 1, 1, 0, 0, 0, 1, 0, 0] c10
noncomputable def r10_8 : Code := Code.sub [1, 1, 1, 1, 1, 0, 0, 0, 1, 0, 1, 0, 0, 0] c10
noncomputable def r10_9 : Code := Code.sub [1, 1, 1, 1, 1, 0, 0, 0, 1, 0, 1, 0, 0, 1, 1, 0, 0, 0] c10
noncomputable def r10_10 : Code := Code.sub [1, 1, 1, 1, 1, 0, 0, 0, 1, 0, 1, 0, 0, 1, 1, 0, 0, 1, 0] c10
noncomputable def r10_11 : Code := Code.sub [1, 1, 1, 1, 1, 0, 0, 0, 1, 0, 1, 0, 0, 1, 1, 0, 0, 1, 1, 0, 0, 0] c10
noncomputable def r10_12 : Code := Code.sub [1, 1, 1, 1, 1, 0, 0, 0, 1, 0, 1, 0, 0, 1, 1, 0, 0, 1, 1, 0, 0, 1, 1, 0] c10
noncomputable def r10_13 : Code := Code.sub [1, 1, 1, 1, 1, 0, 0, 0, 1, 0, 1, 0, 0, 1, 1, 0, 0, 1, 1, 0, 0, 1, 1, 1, 0, 0] c10
noncomputable def r10_14 : Code := Code.sub [1, 1, 1, 1, 1, 0, 0, 0, 1, 0, 1, 0, 0, 1, 1, 0, 0, 1, 1, 1, 0] c10
noncomputable def r10_15 : Code := Code.sub [1, 1, 1, 1, 1, 0, 0, 0, 1, 0, 1, 0, 0, 1, 1, 0, 0, 1, 1, 1, 1, 0, 0] c10
noncomputable def r10_16 : Code := Code.sub [1, 1, 1, 1, 1, 0, 0, 0, 1, 0, 1, 0, 0, 1, 1, 0, 0, 1, 1, 1, 1, 0, 1, 0, 0] c10
noncomputable def r10_17 : Code := Code.sub [1, 1, 1, 1, 1, 0, 0, 0, 1, 0, 1, 0, 0, 1, 1, 0, 0, 1, 1, 1, 1, 1] c10
noncomputable def r10_18 : Code := Code.sub [1, 1, 1, 1, 1, 0, 0, 0, 1, 0, 1, 0, 0, 1, 1, 1] c10
noncomputable def r10_19 : Code := Code.sub [1, 1, 1, 1, 1, 0, 0, 0, 1, 1, 0, 0] c10
noncomputable def r10_20 : Code := Code.sub [1, 1, 1, 1, 1, 0, 0, 0, 1, 1, 0, 1, 0, 0] c10
noncomputable def r10_21 : Code := Code.sub [1, 1, 1, 1, 1, 0, 0, 0, 1, 1, 1, 0] c10
noncomputable def r10_22 : Code := Code.sub [1, 1, 1, 1, 1, 0, 0, 0, 1, 1, 1, 1, 0] c10
noncomputable def r10_23 : Code := Code.sub [1, 1, 1, 1, 1, 0, 0, 0, 1, 1, 1, 1, 1, 0, 0] c10
noncomputable def r10_24 : Code := Code.sub [1, 1, 1, 1, 1, 0, 0, 0, 1, 1, 1, 1, 1, 0, 1, 0, 0] c10
noncomputable def r10_25 : Code := Code.sub [1, 1, 1, 1, 1, 0, 0, 0, 1, 1, 1, 1, 1, 0, 1, 0, 1, 0, 0] c10
noncomputable def r10_26 : Code := Code.sub [1, 1, 1, 1, 1, 0, 0, 0, 1, 1, 1, 1, 1, 0, 1, 0, 1, 1, 0] c10
noncomputable def r10_27 : Code := Code.sub [1, 1, 1, 1, 1, 0, 0, 0, 1, 1, 1, 1, 1, 0, 1, 0, 1, 1, 1, 0, 0] c10
noncomputable def r10_28 : Code := Code.sub [1, 1, 1, 1, 1, 0, 0, 0, 1, 1, 1, 1, 1, 0, 1, 0, 1, 1, 1, 0, 1, 0] c10
noncomputable def r10_29 : Code := Code.sub [1, 1, 1, 1, 1, 0, 0, 0, 1, 1, 1, 1, 1, 1, 0] c10
noncomputable def r10_30 : Code := Code.sub [1, 1, 1, 1, 1, 0, 0, 0, 1, 1, 1, 1, 1, 1, 1] c10
theorem body10 : c10 = (.seq r10_0 (.seq (.seq r10_1 (.cond (.tmp 24) (.seq r10_2 .ret) .skip)) (.seq r10_3 (.seq r10_4 (.seq r10_5 (.block 0 (.loop (.block 1 (.seq r10_6 (.seq (.seq r10_7 (.block 2 (.loop (.seq r10_8 (.seq (.cond (.tmp 47) .skip (.exit 2)) (.seq (.block 3 (.seq r10_9 (.seq r10_10 (.seq (.block 4 (.seq r10_11 (.cond (.tmp 56) (.exit 3) (.seq r10_12 (.cond (.tmp 63) (.seq r10_13 .ret) .skip))))) (.seq r10_14 (.seq (.seq r10_15 (.cond (.tmp 81) (.seq r10_16 .ret) .skip)) r10_17)))))) r10_18)))))) (.seq (.seq r10_19 (.cond (.tmp 100) (.seq r10_20 .ret) .skip)) (.seq r10_21 (.seq r10_22 (.seq (.seq r10_23 (.block 5 (.seq r10_24 (.cond (.tmp 112) (.seq r10_25 .ret) (.seq r10_26 (.cond (.tmp 118) (.seq r10_27 (.cond (.tmp 128) r10_28 .skip)) .skip)))))) (.seq r10_29 r10_30))))))))))))))) := by kernel_rfl
noncomputable def L10_0 : Lt r10_0 := by refine ⟨?l, ?h⟩; case h => simp only [r10_0, c10, bodyOf, Tryd.f10, Code.sub, opsOf, List.map_cons, List.map_nil, strip]; rfl
theorem w10_0 : Wp r10_0 112 [112, 118, 128] [5, 10] [] [0] [some 5, some 10] (L10_0).1 := w_plain (by kernel_rfl) (L10_0).2
noncomputable def L10_1 : Lt r10_1 := by refine ⟨?l, ?h⟩; case h => simp only [r10_1, c10, bodyOf, Tryd.f10, Code.sub, opsOf, List.map_cons, List.map_nil, strip]; rfl
theorem w10_1 : Wp r10_1 112 [112, 118, 128] [18, 19, 20, 21, 22, 23, 24] [] [1, 5] [some 18, some 19, some 20, some 21, some 22, some 23, some 24] (L10_1).1 := w_plain (by kernel_rfl) (L10_1).2
noncomputable def L10_2 : Lt r10_2 := by refine ⟨?l, ?h⟩; case h => simp only [r10_2, c10, bodyOf, Tryd.f10, Code.sub, opsOf, List.map_cons, List.map_nil, strip]; rfl
theorem w10_2 : Wp r10_2 112 [112, 118, 128] [25] [] [10] [some 25, none] (L10_2).1 := w_plain (by kernel_rfl) (L10_2).2
theorem can10_3 : canonOps (opsOf r10_3) = List.filterMap (fun i => ((opsOf r10_3)[i]?).map (renum [0, 1, 2, 3, 4, 6, 5, 7, 8, 9])) [0, 1, 2, 3, 4, 6, 5, 7, 8, 9] := by kernel_rfl
noncomputable def L10_3 : Lc r10_3 := by refine ⟨?l, (congrArg (List.map strip) can10_3).trans ?h⟩; case h => simp only [r10_3, c10, bodyOf, Tryd.f10, Code.sub, opsOf, List.filterMap_cons, List.filterMap_nil, List.getElem?_cons_succ, List.getElem?_cons_zero, Option.map_some, renum, List.map_cons, List.map_nil, strip]; rfl
theorem w10_3 : Wd r10_3 112 [112, 118, 128] [26, 27, 28, 29, 30, 32, 31, 33, 34, 11] [] [1, 5, 3] [some 26, some 27, some 28, some 29, some 30, some 32, some 31, some 33, some 34, some 11] (L10_3).1 [(0, [6, 8]), (3, [6]), (4, [6])] := w_loud (by kernel_rfl) (L10_3).2
noncomputable def L10_4 : Lt r10_4 := by refine ⟨?l, ?h⟩; case h => simp only [r10_4, c10, bodyOf, Tryd.f10, Code.sub, opsOf, List.map_cons, List.map_nil, strip]; rfl
theorem w10_4 : Wp r10_4 112 [112, 118, 128] [35, 36, 37] [] [11, 2] [some 35, some 36, some 37] (L10_4).1 := w_plain (by kernel_rfl) (L10_4).2
noncomputable def L10_5 : Lt r10_5 := by refine ⟨?l, ?h⟩; case h => simp only [r10_5, c10, bodyOf, Tryd.f10, Code.sub, opsOf, List.map_cons, List.map_nil, strip]; rfl
theorem w10_5 : Wp r10_5 112 [112, 118, 128] [12] [] [] [some 12] (L10_5).1 := w_plain (by kernel_rfl) (L10_5).2
noncomputable def L10_6 : Lt r10_6 := by refine ⟨?l, ?h⟩; case h => simp only [r10_6, c10, bodyOf, Tryd.f10, Code.sub, opsOf, List.map_cons, List.map_nil, strip]; rfl
theorem w10_6 : Wp r10_6 112 [112, 118, 128] [38, 39, 40, 41, 42, 13] [] [5, 12] [some 38, some 39, some 40, some 41, some 42, some 13, none] (L10_6).1 := w_plain (by kernel_rfl) (L10_6).2
noncomputable def L10_7 : Lt r10_7 := by refine ⟨?l, ?h⟩; case h => simp only [r10_7, c10, bodyOf, Tryd.f10, Code.sub, opsOf, List.map_cons, List.map_nil, strip]; rfl
theorem w10_7 : Wp r10_7 112 [112, 118, 128] [43, 44, 45, 46] [] [13] [some 43, some 44, some 45, some 46] (L10_7).1 := w_plain (by kernel_rfl) (L10_7).2
noncomputable def L10_8 : Lt r10_8 := by refine ⟨?l, ?h⟩; case h => simp only [r10_8, c10, bodyOf, Tryd.f10, Code.sub, opsOf, List.map_cons, List.map_nil, strip]; rfl
theorem w10_8 : Wp r10_8 112 [112, 118, 128] [47] [] [46, 45] [some 47] (L10_8).1 := w_plain (by kernel_rfl) (L10_8).2
noncomputable def L10_9 : Lt r10_9 := by refine ⟨?l, ?h⟩; case h => simp only [r10_9, c10, bodyOf, Tryd.f10, Code.sub, opsOf, List.map_cons, List.map_nil, strip]; rfl
theorem w10_9 : Wp r10_9 112 [112, 118, 128] [48, 49, 15] [] [44, 46] [some 48, some 49, some 15] (L10_9).1 := w_plain (by kernel_rfl) (L10_9).2
noncomputable def L10_10 : Lt r10_10 := by refine ⟨?l, ?h⟩; case h => simp only [r10_10, c10, bodyOf, Tryd.f10, Code.sub, opsOf, List.map_cons, List.map_nil, strip]; rfl
theorem w10_10 : Wp r10_10 112 [112, 118, 128] [50, 51, 52, 53, 54, 55, 16] [] [5, 15] [some 50, some 51, some 52, some 53, some 54, some 55, some 16] (L10_10).1 := w_plain (by kernel_rfl) (L10_10).2
noncomputable def L10_11 : Lt r10_11 := by refine ⟨?l, ?h⟩; case h => simp only [r10_11, c10, bodyOf, Tryd.f10, Code.sub, opsOf, List.map_cons, List.map_nil, strip]; rfl
theorem w10_11 : Wp r10_11 112 [112, 118, 128] [57, 58, 59, 60, 61, 62, 56] [] [16] [some 57, some 58, some 59, some 60, some 61, some 62, some 56] (L10_11).1 := w_plain (by kernel_rfl) (L10_11).2
noncomputable def L10_12 : Lt r10_12 := by refine ⟨?l, ?h⟩; case h => simp only [r10_12, c10, bodyOf, Tryd.f10, Code.sub, opsOf, List.map_cons, List.map_nil, strip]; rfl
theorem w10_12 : Wp r10_12 112 [112, 118, 128] [64, 65, 66, 67, 68, 69, 63] [] [11, 4] [some 64, some 65, some 66, some 67, some 68, some 69, some 63] (L10_12).1 := w_plain (by kernel_rfl) (L10_12).2
noncomputable def L10_13 : Lt r10_13 := by refine ⟨?l, ?h⟩; case h => simp only [r10_13, c10, bodyOf, Tryd.f10, Code.sub, opsOf, List.map_cons, List.map_nil, strip]; rfl
theorem w10_13 : Wp r10_13 112 [112, 118, 128] [70, 71] [] [11, 10] [some 70, some 71, none] (L10_13).1 := w_plain (by kernel_rfl) (L10_13).2
noncomputable def L10_14 : Lt r10_14 := by refine ⟨?l, ?h⟩; case h => simp only [r10_14, c10, bodyOf, Tryd.f10, Code.sub, opsOf, List.map_cons, List.map_nil, strip]; rfl
theorem w10_14 : Wp r10_14 112 [112, 118, 128] [72, 73, 74, 75, 76, 77, 78] [] [11] [some 72, some 73, some 74, some 75, some 76, some 77, some 78, none] (L10_14).1 := w_plain (by kernel_rfl) (L10_14).2
noncomputable def L10_15 : Lt r10_15 := by refine ⟨?l, ?h⟩; case h => simp only [r10_15, c10, bodyOf, Tryd.f10, Code.sub, opsOf, List.map_cons, List.map_nil, strip]; rfl
theorem w10_15 : Wp r10_15 112 [112, 118, 128] [79, 80, 81] [] [11, 15] [some 79, some 80, some 81] (L10_15).1 := w_plain (by kernel_rfl) (L10_15).2
noncomputable def L10_16 : Lt r10_16 := by refine ⟨?l, ?h⟩; case h => simp only [r10_16, c10, bodyOf, Tryd.f10, Code.sub, opsOf, List.map_cons, List.map_nil, strip]; rfl
theorem w10_16 : Wp r10_16 112 [112, 118, 128] [82, 83, 84, 85, 86, 87, 88, 89, 90] [] [11, 5, 15, 10] [some 82, some 83, some 84, some 85, some 86, some 87, some 88, some 89, some 90, none] (L10_16).1 := w_plain (by kernel_rfl) (L10_16).2
noncomputable def L10_17 : Lt r10_17 := by refine ⟨?l, ?h⟩; case h => simp only [r10_17, c10, bodyOf, Tryd.f10, Code.sub, opsOf, List.map_cons, List.map_nil, strip]; rfl
theorem w10_17 : Wp r10_17 112 [112, 118, 128] [91, 92, 93] [] [11, 15] [some 91, some 92, some 93] (L10_17).1 := w_plain (by kernel_rfl) (L10_17).2
noncomputable def L10_18 : Lt r10_18 := by refine ⟨?l, ?h⟩; case h => simp only [r10_18, c10, bodyOf, Tryd.f10, Code.sub, opsOf, List.map_cons, List.map_nil, strip]; rfl
theorem w10_18 : Wp r10_18 112 [112, 118, 128] [94, 46] [] [46] [some 94, some 46] (L10_18).1 := w_plain (by kernel_rfl) (L10_18).2
noncomputable def L10_19 : Lt r10_19 := by refine ⟨?l, ?h⟩; case h => simp only [r10_19, c10, bodyOf, Tryd.f10, Code.sub, opsOf, List.map_cons, List.map_nil, strip]; rfl
theorem w10_19 : Wp r10_19 112 [112, 118, 128] [95, 96, 97, 98, 99, 100] [] [11, 4] [some 95, some 96, some 97, some 98, some 99, some 100] (L10_19).1 := w_plain (by kernel_rfl) (L10_19).2
noncomputable def L10_20 : Lt r10_20 := by refine ⟨?l, ?h⟩; case h => simp only [r10_20, c10, bodyOf, Tryd.f10, Code.sub, opsOf, List.map_cons, List.map_nil, strip]; rfl
theorem w10_20 : Wp r10_20 112 [112, 118, 128] [101, 102] [] [11, 10] [some 101, some 102, none] (L10_20).1 := w_plain (by kernel_rfl) (L10_20).2
noncomputable def L10_21 : Lt r10_21 := by refine ⟨?l, ?h⟩; case h => simp only [r10_21, c10, bodyOf, Tryd.f10, Code.sub, opsOf, List.map_cons, List.map_nil, strip]; rfl
theorem w10_21 : Wp r10_21 112 [112, 118, 128] [103, 104, 105, 106, 107, 108, 109] [] [11] [some 103, some 104, some 105, some 106, some 107, some 108, some 109, none] (L10_21).1 := w_plain (by kernel_rfl) (L10_21).2
noncomputable def L10_22 : Lt r10_22 := by refine ⟨?l, ?h⟩; case h => simp only [r10_22, c10, bodyOf, Tryd.f10, Code.sub, opsOf, List.map_cons, List.map_nil, strip]; rfl
theorem w10_22 : Wp r10_22 112 [112, 118, 128] [17] [] [] [some 17] (L10_22).1 := w_plain (by kernel_rfl) (L10_22).2
noncomputable def L10_23 : Lt r10_23 := by refine ⟨?l, ?h⟩; case h => simp only [r10_23, c10, bodyOf, Tryd.f10, Code.sub, opsOf, List.map_cons, List.map_nil, strip]; rfl
theorem w10_23 : Wp r10_23 112 [112, 118, 128] [110, 111] [] [13] [some 110, some 111] (L10_23).1 := w_plain (by kernel_rfl) (L10_23).2
noncomputable def L10_24 : Lt r10_24 := by refine ⟨?l, ?h⟩; case h => simp only [r10_24, c10, bodyOf, Tryd.f10, Code.sub, opsOf, List.map_cons, List.map_nil, strip]; rfl
theorem w10_24 : Wp r10_24 112 [112, 118, 128] [] [112] [111] [some 113, some 112] (L10_24).1 := w_plain (by kernel_rfl) (L10_24).2
noncomputable def L10_25 : Lt r10_25 := by refine ⟨?l, ?h⟩; case h => simp only [r10_25, c10, bodyOf, Tryd.f10, Code.sub, opsOf, List.map_cons, List.map_nil, strip]; rfl
theorem w10_25 : Wp r10_25 112 [112, 118, 128] [] [] [11, 13, 10] [some 114, some 115, some 116, some 117, none] (L10_25).1 := w_plain (by kernel_rfl) (L10_25).2
noncomputable def L10_26 : Lt r10_26 := by refine ⟨?l, ?h⟩; case h => simp only [r10_26, c10, bodyOf, Tryd.f10, Code.sub, opsOf, List.map_cons, List.map_nil, strip]; rfl
theorem w10_26 : Wp r10_26 112 [112, 118, 128] [] [118] [111] [some 119, some 118] (L10_26).1 := w_plain (by kernel_rfl) (L10_26).2
noncomputable def L10_27 : Lt r10_27 := by refine ⟨?l, ?h⟩; case h => simp only [r10_27, c10, bodyOf, Tryd.f10, Code.sub, opsOf, List.map_cons, List.map_nil, strip]; rfl
theorem w10_27 : Wp r10_27 112 [112, 118, 128] [] [128] [11, 13] [some 120, some 121, some 122, some 123, some 124, some 125, some 126, some 127, some 128] (L10_27).1 := w_plain (by kernel_rfl) (L10_27).2
noncomputable def L10_28 : Lt r10_28 := by refine ⟨?l, ?h⟩; case h => simp only [r10_28, c10, bodyOf, Tryd.f10, Code.sub, opsOf, List.map_cons, List.map_nil, strip]; rfl
theorem w10_28 : Wp r10_28 112 [112, 118, 128] [17] [] [] [some 17] (L10_28).1 := w_plain (by kernel_rfl) (L10_28).2
noncomputable def L10_29 : Lt r10_29 := by refine ⟨?l, ?h⟩; case h => simp only [r10_29, c10, bodyOf, Tryd.f10, Code.sub, opsOf, List.map_cons, List.map_nil, strip]; rfl
theorem w10_29 : Wp r10_29 112 [112, 118, 128] [] [] [11, 12, 13, 17] [some 129, some 130, some 131, some 132, some 133, some 134, some 135, some 136] (L10_29).1 := w_plain (by kernel_rfl) (L10_29).2
noncomputable def L10_30 : Lt r10_30 := by refine ⟨?l, ?h⟩; case h => simp only [r10_30, c10, bodyOf, Tryd.f10, Code.sub, opsOf, List.map_cons, List.map_nil, strip]; rfl
theorem w10_30 : Wp r10_30 112 [112, 118, 128] [12] [] [13, 17] [some 137, some 138, some 139, some 140, some 141, some 12] (L10_30).1 := w_plain (by kernel_rfl) (L10_30).2
theorem k10 : FnIs TT 10 c10 [.cell 10 28] 5 := ⟨Tryd.f10, by kernel_rfl, by simp only [Tryd.f10, c10, bodyOf], by kernel_rfl, of_decide_eq_true (by kernel_rfl)⟩
noncomputable def c15 : Code := bodyOf Tryd.f15
noncomputable def r15_0 : Code := Code.sub [0] c15
noncomputable def r15_1 : Code := Code.sub [1, 0] c15
noncomputable def r15_2 : Code := Code.sub [1, 1, 0, 0] c15
noncomputable def r15_3 : Code := Code.sub [1, 1, 0, 1, 0, 0] c15
noncomputable def r15_4 : Code := Code.sub [1, 1, 1, 0, 0] c15
noncomputable def r15_5 : Code := Code.sub [1, 1, 1, 0, 1, 0, 0, 0, 0] c15
noncomputable def r15_6 : Code := Code.sub [1, 1, 1, 0, 1, 0, 0, 1, 0, 0] c15
noncomputable def r15_7 : Code := Code.sub [1, 1, 1, 0, 1, 0, 0, 1, 0, 1, 0, 0] c15
noncomputable def r15_8 : Code := Code.sub [1, 1, 1, 0, 1, 0, 0, 1, 0, 1, 0, 1, 0] c15
noncomputable def r15_9 : Code := Code.sub [1, 1, 1, 0, 1, 0, 0, 1, 0, 1, 0, 1, 1, 0, 0] c15
noncomputable def r15_10 : Code := Code.sub [1, 1, 1, 0, 1, 0, 0, 1, 0, 1, 1, 0, 0] c15
noncomputable def r15_11 : Code := Code.sub [1, 1, 1, 0, 1, 0, 0, 1, 0, 1, 1, 0, 1, 0, 0, 0, 0] c15
noncomputable def r15_12 : Code := Code.sub [1, 1, 1, 0, 1, 0, 0, 1, 0, 1, 1, 0, 1, 0, 0, 1, 0, 0] c15
noncomputable def r15_13 : Code := Code.sub [1, 1, 1, 0, 1, 0, 0, 1, 0, 1, 1, 0, 1, 0, 0, 1, 1] c15
noncomputable def r15_14 : Code := Code.sub [1, 1, 1, 0, 1, 0, 0, 1, 0, 1, 1, 1] c15
noncomputable def r15_15 : Code := Code.sub [1, 1, 1, 1, 0] c15
theorem body15 : c15 = (.seq r15_0 (.seq r15_1 (.seq (.seq r15_2 (.cond (.tmp 25) (.seq r15_3 .ret) .skip)) (.seq (.seq r15_4 (.block 0 (.loop (.seq (.seq r15_5 (.cond (.tmp 32) .skip (.exit 0))) (.block 1 (.seq r15_6 (.seq (.seq r15_7 (.seq r15_8 (.cond (.tmp 67) (.seq r15_9 .ret) .skip))) (.seq (.seq r15_10 (.block 2 (.loop (.seq (.seq r15_11 (.cond (.tmp 70) .skip (.exit 2))) (.seq (.block 3 r15_12) r15_13))))) r15_14)))))))) (.seq r15_15 .ret))))) := by kernel_rfl
noncomputable def L15_0 : Lt r15_0 := by refine ⟨?l, ?h⟩; case h => simp only [r15_0, c15, bodyOf, Tryd.f15, Code.sub, opsOf, List.map_cons, List.map_nil, strip]; rfl
theorem w15_0 : Wp r15_0 11 [25, 32, 67, 70] [2, 3] [] [] [some 2, some 3] (L15_0).1 := w_plain (by kernel_rfl) (L15_0).2
noncomputable def L15_1 : Lt r15_1 := by refine ⟨?l, ?h⟩; case h => simp only [r15_1, c15, bodyOf, Tryd.f15, Code.sub, opsOf, List.map_cons, List.map_nil, strip]; rfl
theorem w15_1 : Wp r15_1 11 [25, 32, 67, 70] [4, 5] [] [0] [some 12, some 13, some 14, some 15, some 16, some 17, some 11, some 18, some 19, some 4, some 5] (L15_1).1 := w_plain (by kernel_rfl) (L15_1).2
noncomputable def L15_2 : Lt r15_2 := by refine ⟨?l, ?h⟩; case h => simp only [r15_2, c15, bodyOf, Tryd.f15, Code.sub, opsOf, List.map_cons, List.map_nil, strip]; rfl
theorem w15_2 : Wp r15_2 11 [25, 32, 67, 70] [] [25] [5, 4] [some 20, some 21, some 22, some 23, some 24, some 25] (L15_2).1 := w_plain (by kernel_rfl) (L15_2).2
noncomputable def L15_3 : Lt r15_3 := by refine ⟨?l, ?h⟩; case h => simp only [r15_3, c15, bodyOf, Tryd.f15, Code.sub, opsOf, List.map_cons, List.map_nil, strip]; rfl
theorem w15_3 : Wp r15_3 11 [25, 32, 67, 70] [2, 3] [] [] [some 2, some 3] (L15_3).1 := w_plain (by kernel_rfl) (L15_3).2
noncomputable def L15_4 : Lt r15_4 := by refine ⟨?l, ?h⟩; case h => simp only [r15_4, c15, bodyOf, Tryd.f15, Code.sub, opsOf, List.map_cons, List.map_nil, strip]; rfl
theorem w15_4 : Wp r15_4 11 [25, 32, 67, 70] [6] [] [] [some 6] (L15_4).1 := w_plain (by kernel_rfl) (L15_4).2
noncomputable def L15_5 : Lt r15_5 := by refine ⟨?l, ?h⟩; case h => simp only [r15_5, c15, bodyOf, Tryd.f15, Code.sub, opsOf, List.map_cons, List.map_nil, strip]; rfl
theorem w15_5 : Wp r15_5 11 [25, 32, 67, 70] [] [32] [6, 0] [some 26, some 27, some 28, some 29, some 30, some 31, some 32] (L15_5).1 := w_plain (by kernel_rfl) (L15_5).2
noncomputable def L15_6 : Lt r15_6 := by refine ⟨?l, ?h⟩; case h => simp only [r15_6, c15, bodyOf, Tryd.f15, Code.sub, opsOf, List.map_cons, List.map_nil, strip]; rfl
theorem w15_6 : Wp r15_6 11 [25, 32, 67, 70] [7] [] [0, 6] [some 33, some 34, some 35, some 36, some 37, some 38, some 39, some 40, some 41, some 42, some 43, some 44, some 45, some 46, some 47, some 48, some 49, some 50, some 7] (L15_6).1 := w_plain (by kernel_rfl) (L15_6).2
noncomputable def L15_7 : Lt r15_7 := by refine ⟨?l, ?h⟩; case h => simp only [r15_7, c15, bodyOf, Tryd.f15, Code.sub, opsOf, List.map_cons, List.map_nil, strip]; rfl
theorem w15_7 : Wp r15_7 11 [25, 32, 67, 70] [8, 9] [] [4, 0, 6, 7] [some 52, some 53, some 54, some 55, some 56, some 57, some 58, some 59, some 60, some 61, some 62, some 63, some 51, some 64, some 65, some 8, some 9] (L15_7).1 := w_plain (by kernel_rfl) (L15_7).2
noncomputable def L15_8 : Lt r15_8 := by refine ⟨?l, ?h⟩; case h => simp only [r15_8, c15, bodyOf, Tryd.f15, Code.sub, opsOf, List.map_cons, List.map_nil, strip]; rfl
theorem w15_8 : Wp r15_8 11 [25, 32, 67, 70] [] [67] [9] [some 66, some 67] (L15_8).1 := w_plain (by kernel_rfl) (L15_8).2
noncomputable def L15_9 : Lt r15_9 := by refine ⟨?l, ?h⟩; case h => simp only [r15_9, c15, bodyOf, Tryd.f15, Code.sub, opsOf, List.map_cons, List.map_nil, strip]; rfl
theorem w15_9 : Wp r15_9 11 [25, 32, 67, 70] [2, 3] [] [] [some 2, some 3] (L15_9).1 := w_plain (by kernel_rfl) (L15_9).2
noncomputable def L15_10 : Lt r15_10 := by refine ⟨?l, ?h⟩; case h => simp only [r15_10, c15, bodyOf, Tryd.f15, Code.sub, opsOf, List.map_cons, List.map_nil, strip]; rfl
theorem w15_10 : Wp r15_10 11 [25, 32, 67, 70] [10] [] [] [some 10] (L15_10).1 := w_plain (by kernel_rfl) (L15_10).2
noncomputable def L15_11 : Lt r15_11 := by refine ⟨?l, ?h⟩; case h => simp only [r15_11, c15, bodyOf, Tryd.f15, Code.sub, opsOf, List.map_cons, List.map_nil, strip]; rfl
theorem w15_11 : Wp r15_11 11 [25, 32, 67, 70] [] [70] [10, 7] [some 68, some 69, some 70] (L15_11).1 := w_plain (by kernel_rfl) (L15_11).2
noncomputable def L15_12 : Lt r15_12 := by refine ⟨?l, ?h⟩; case h => simp only [r15_12, c15, bodyOf, Tryd.f15, Code.sub, opsOf, List.map_cons, List.map_nil, strip]; rfl
theorem w15_12 : Wp r15_12 11 [25, 32, 67, 70] [] [] [4, 0, 6, 10] [some 73, some 74, some 75, some 76, some 77, some 78, some 79, some 80, some 81, some 82, some 83, some 84, some 85, some 86, some 87] (L15_12).1 := w_plain (by kernel_rfl) (L15_12).2
noncomputable def L15_13 : Lt r15_13 := by refine ⟨?l, ?h⟩; case h => simp only [r15_13, c15, bodyOf, Tryd.f15, Code.sub, opsOf, List.map_cons, List.map_nil, strip]; rfl
theorem w15_13 : Wp r15_13 11 [25, 32, 67, 70] [10] [] [10] [some 71, some 72, some 10] (L15_13).1 := w_plain (by kernel_rfl) (L15_13).2
noncomputable def L15_14 : Lt r15_14 := by refine ⟨?l, ?h⟩; case h => simp only [r15_14, c15, bodyOf, Tryd.f15, Code.sub, opsOf, List.map_cons, List.map_nil, strip]; rfl
theorem w15_14 : Wp r15_14 11 [25, 32, 67, 70] [6] [] [6, 7] [some 88, some 89, some 90, some 91, some 6] (L15_14).1 := w_plain (by kernel_rfl) (L15_14).2
theorem can15_15 : canonOps (opsOf r15_15) = opsOf r15_15 := by kernel_rfl
noncomputable def L15_15 : Lc r15_15 := by refine ⟨?l, (congrArg (List.map strip) can15_15).trans ?h⟩; case h => simp only [r15_15, c15, bodyOf, Tryd.f15, Code.sub, opsOf, List.map_cons, List.map_nil, strip]; rfl
theorem w15_15 : Wd r15_15 11 [25, 32, 67, 70] [2, 3] [] [4, 0] [some 92, some 93, some 94, some 95, some 96, some 97, some 98, some 99, some 2, some 3] (L15_15).1 [(6, [2, 7])] := w_loud (by kernel_rfl) (L15_15).2
theorem k15 : FnIs TT 15 c15 [.tmp 2, .tmp 3] 1 := ⟨Tryd.f15, by kernel_rfl, by simp only [Tryd.f15, c15, bodyOf], by kernel_rfl, of_decide_eq_true (by kernel_rfl)⟩
noncomputable def c16 : Code := bodyOf Tryd.f16
noncomputable def r16_0 : Code := Code.sub [0] c16
noncomputable def r16_1 : Code := Code.sub [1, 0] c16
noncomputable def r16_2 : Code := Code.sub [1, 1, 0, 0] c16
noncomputable def r16_3 : Code := Code.sub [1, 1, 0, 1, 0] c16
noncomputable def r16_4 : Code := Code.sub [1, 1, 1, 0] c16
theorem body16 : c16 = (.seq r16_0 (.seq r16_1 (.seq (.seq r16_2 (.cond (.tmp 9) r16_3 .skip)) (.seq r16_4 .ret)))) := by kernel_rfl
noncomputable def L16_0 : Lt r16_0 := by refine ⟨?l, ?h⟩; case h => simp only [r16_0, c16, bodyOf, Tryd.f16, Code.sub, opsOf, List.map_cons, List.map_nil, strip]; rfl
theorem w16_0 : Wp r16_0 5 [9] [4] [] [] [some 4] (L16_0).1 := w_plain (by kernel_rfl) (L16_0).2
noncomputable def L16_1 : Lt r16_1 := by refine ⟨?l, ?h⟩; case h => simp only [r16_1, c16, bodyOf, Tryd.f16, Code.sub, opsOf, List.map_cons, List.map_nil, strip]; rfl
theorem w16_1 : Wp r16_1 5 [9] [0] [] [0, 1] [some 5, some 6, some 7, some 0] (L16_1).1 := w_plain (by kernel_rfl) (L16_1).2
noncomputable def L16_2 : Lt r16_2 := by refine ⟨?l, ?h⟩; case h => simp only [r16_2, c16, bodyOf, Tryd.f16, Code.sub, opsOf, List.map_cons, List.map_nil, strip]; rfl
theorem w16_2 : Wp r16_2 5 [9] [] [9] [0] [some 8, some 9] (L16_2).1 := w_plain (by kernel_rfl) (L16_2).2
noncomputable def L16_3 : Lt r16_3 := by refine ⟨?l, ?h⟩; case h => simp only [r16_3, c16, bodyOf, Tryd.f16, Code.sub, opsOf, List.map_cons, List.map_nil, strip]; rfl
theorem w16_3 : Wp r16_3 5 [9] [0] [] [0, 1] [some 10, some 11, some 12, some 0] (L16_3).1 := w_plain (by kernel_rfl) (L16_3).2
noncomputable def L16_4 : Lt r16_4 := by refine ⟨?l, ?h⟩; case h => simp only [r16_4, c16, bodyOf, Tryd.f16, Code.sub, opsOf, List.map_cons, List.map_nil, strip]; rfl
theorem w16_4 : Wp r16_4 5 [9] [4] [] [0] [some 13, some 4] (L16_4).1 := w_plain (by kernel_rfl) (L16_4).2
theorem k16 : FnIs TT 16 c16 [.tmp 4] 2 := ⟨Tryd.f16, by kernel_rfl, by simp only [Tryd.f16, c16, bodyOf], by kernel_rfl, of_decide_eq_true (by kernel_rfl)⟩
noncomputable def c19 : Code := bodyOf Tryd.f19
noncomputable def r19_0 : Code := Code.sub [0] c19
noncomputable def r19_1 : Code := Code.sub [1, 0, 0] c19
noncomputable def r19_2 : Code := Code.sub [1, 0, 1, 0, 0] c19
noncomputable def r19_3 : Code := Code.sub [1, 1, 0, 0] c19
noncomputable def r19_4 : Code := Code.sub [1, 1, 0, 1, 0, 0, 0, 0] c19
noncomputable def r19_5 : Code := Code.sub [1, 1, 0, 1, 0, 0, 1, 0, 0, 0] c19
noncomputable def r19_6 : Code := Code.sub [1, 1, 0, 1, 0, 0, 1, 0, 0, 1, 0, 0] c19
noncomputable def r19_7 : Code := Code.sub [1, 1, 0, 1, 0, 0, 1, 1] c19
noncomputable def r19_8 : Code := Code.sub [1, 1, 1, 0] c19
theorem body19 : c19 = (.seq r19_0 (.seq (.seq r19_1 (.cond (.tmp 10) (.seq r19_2 .ret) .skip)) (.seq (.seq r19_3 (.block 0 (.loop (.seq (.seq r19_4 (.cond (.tmp 14) .skip (.exit 0))) (.seq (.block 1 (.seq r19_5 (.cond (.tmp 25) (.seq r19_6 .ret) .skip))) r19_7))))) (.seq r19_8 .ret)))) := by kernel_rfl
noncomputable def L19_0 : Lt r19_0 := by refine ⟨?l, ?h⟩; case h => simp only [r19_0, c19, bodyOf, Tryd.f19, Code.sub, opsOf, List.map_cons, List.map_nil, strip]; rfl
theorem w19_0 : Wp r19_0 6 [10, 14, 25] [4] [] [] [some 4] (L19_0).1 := w_plain (by kernel_rfl) (L19_0).2
noncomputable def L19_1 : Lt r19_1 := by refine ⟨?l, ?h⟩; case h => simp only [r19_1, c19, bodyOf, Tryd.f19, Code.sub, opsOf, List.map_cons, List.map_nil, strip]; rfl
theorem w19_1 : Wp r19_1 6 [10, 14, 25] [] [10] [0, 1] [some 6, some 7, some 8, some 9, some 10] (L19_1).1 := w_plain (by kernel_rfl) (L19_1).2
noncomputable def L19_2 : Lt r19_2 := by refine ⟨?l, ?h⟩; case h => simp only [r19_2, c19, bodyOf, Tryd.f19, Code.sub, opsOf, List.map_cons, List.map_nil, strip]; rfl
theorem w19_2 : Wp r19_2 6 [10, 14, 25] [4] [] [] [some 4] (L19_2).1 := w_plain (by kernel_rfl) (L19_2).2
noncomputable def L19_3 : Lt r19_3 := by refine ⟨?l, ?h⟩; case h => simp only [r19_3, c19, bodyOf, Tryd.f19, Code.sub, opsOf, List.map_cons, List.map_nil, strip]; rfl
theorem w19_3 : Wp r19_3 6 [10, 14, 25] [5] [] [] [some 5] (L19_3).1 := w_plain (by kernel_rfl) (L19_3).2
noncomputable def L19_4 : Lt r19_4 := by refine ⟨?l, ?h⟩; case h => simp only [r19_4, c19, bodyOf, Tryd.f19, Code.sub, opsOf, List.map_cons, List.map_nil, strip]; rfl
theorem w19_4 : Wp r19_4 6 [10, 14, 25] [] [14] [5, 0] [some 11, some 12, some 13, some 14] (L19_4).1 := w_plain (by kernel_rfl) (L19_4).2
noncomputable def L19_5 : Lt r19_5 := by refine ⟨?l, ?h⟩; case h => simp only [r19_5, c19, bodyOf, Tryd.f19, Code.sub, opsOf, List.map_cons, List.map_nil, strip]; rfl
theorem w19_5 : Wp r19_5 6 [10, 14, 25] [] [25] [0, 1, 5] [some 17, some 18, some 19, some 20, some 21, some 22, some 23, some 24, some 25] (L19_5).1 := w_plain (by kernel_rfl) (L19_5).2
noncomputable def L19_6 : Lt r19_6 := by refine ⟨?l, ?h⟩; case h => simp only [r19_6, c19, bodyOf, Tryd.f19, Code.sub, opsOf, List.map_cons, List.map_nil, strip]; rfl
theorem w19_6 : Wp r19_6 6 [10, 14, 25] [4] [] [] [some 4] (L19_6).1 := w_plain (by kernel_rfl) (L19_6).2
noncomputable def L19_7 : Lt r19_7 := by refine ⟨?l, ?h⟩; case h => simp only [r19_7, c19, bodyOf, Tryd.f19, Code.sub, opsOf, List.map_cons, List.map_nil, strip]; rfl
theorem w19_7 : Wp r19_7 6 [10, 14, 25] [5] [] [5] [some 15, some 16, some 5] (L19_7).1 := w_plain (by kernel_rfl) (L19_7).2
noncomputable def L19_8 : Lt r19_8 := by refine ⟨?l, ?h⟩; case h => simp only [r19_8, c19, bodyOf, Tryd.f19, Code.sub, opsOf, List.map_cons, List.map_nil, strip]; rfl
theorem w19_8 : Wp r19_8 6 [10, 14, 25] [4] [] [] [some 4] (L19_8).1 := w_plain (by kernel_rfl) (L19_8).2
theorem k19 : FnIs TT 19 c19 [.tmp 4] 2 := ⟨Tryd.f19, by kernel_rfl, by simp only [Tryd.f19, c19, bodyOf], by kernel_rfl, of_decide_eq_true (by kernel_rfl)⟩
noncomputable def c20 : Code := bodyOf Tryd.f20
noncomputable def r20_0 : Code := Code.sub [0] c20
noncomputable def r20_1 : Code := Code.sub [1, 0] c20
theorem body20 : c20 = (.seq r20_0 (.seq r20_1 .ret)) := by kernel_rfl
noncomputable def L20_0 : Lt r20_0 := by refine ⟨?l, ?h⟩; case h => simp only [r20_0, c20, bodyOf, Tryd.f20, Code.sub, opsOf, List.map_cons, List.map_nil, strip]; rfl
theorem w20_0 : Wp r20_0 3 [] [2] [] [] [some 2] (L20_0).1 := w_plain (by kernel_rfl) (L20_0).2
noncomputable def L20_1 : Lt r20_1 := by refine ⟨?l, ?h⟩; case h => simp only [r20_1, c20, bodyOf, Tryd.f20, Code.sub, opsOf, List.map_cons, List.map_nil, strip]; rfl
theorem w20_1 : Wp r20_1 3 [] [2] [] [0] [some 3, some 4, some 5, some 6, some 7, some 8, some 2] (L20_1).1 := w_plain (by kernel_rfl) (L20_1).2
theorem k20 : FnIs TT 20 c20 [.tmp 2] 1 := ⟨Tryd.f20, by kernel_rfl, by simp only [Tryd.f20, c20, bodyOf], by kernel_rfl, of_decide_eq_true (by kernel_rfl)⟩
noncomputable def c21 : Code := bodyOf Tryd.f21
noncomputable def r21_0 : Code := Code.sub [0] c21
noncomputable def r21_1 : Code := Code.sub [1, 0] c21
theorem body21 : c21 = (.seq r21_0 (.seq r21_1 .ret)) := by kernel_rfl
noncomputable def L21_0 : Lt r21_0 := by refine ⟨?l, ?h⟩; case h => simp only [r21_0, c21, bodyOf, Tryd.f21, Code.sub, opsOf, List.map_cons, List.map_nil, strip]; rfl
theorem w21_0 : Wp r21_0 3 [] [2] [] [] [some 2] (L21_0).1 := w_plain (by kernel_rfl) (L21_0).2
noncomputable def L21_1 : Lt r21_1 := by refine ⟨?l, ?h⟩; case h => simp only [r21_1, c21, bodyOf, Tryd.f21, Code.sub, opsOf, List.map_cons, List.map_nil, strip]; rfl
theorem w21_1 : Wp r21_1 3 [] [2] [] [0] [some 3, some 4, some 5, some 6, some 2] (L21_1).1 := w_plain (by kernel_rfl) (L21_1).2
theorem k21 : FnIs TT 21 c21 [.tmp 2] 1 := ⟨Tryd.f21, by kernel_rfl, by simp only [Tryd.f21, c21, bodyOf], by kernel_rfl, of_decide_eq_true (by kernel_rfl)⟩
noncomputable def c22 : Code := bodyOf Tryd.f22
noncomputable def r22_0 : Code := Code.sub [0] c22
noncomputable def r22_1 : Code := Code.sub [1, 0, 0] c22
noncomputable def r22_2 : Code := Code.sub [1, 0, 1, 0, 0] c22
noncomputable def r22_3 : Code := Code.sub [1, 1, 0] c22
noncomputable def r22_4 : Code := Code.sub [1, 1, 1, 0, 0] c22
noncomputable def r22_5 : Code := Code.sub [1, 1, 1, 0, 1, 0, 0] c22
noncomputable def r22_6 : Code := Code.sub [1, 1, 1, 1, 0] c22
noncomputable def r22_7 : Code := Code.sub [1, 1, 1, 1, 1, 0, 0] c22
noncomputable def r22_8 : Code := Code.sub [1, 1, 1, 1, 1, 0, 1, 0, 0] c22
noncomputable def r22_9 : Code := Code.sub [1, 1, 1, 1, 1, 1, 0] c22
noncomputable def r22_10 : Code := Code.sub [1, 1, 1, 1, 1, 1, 1, 0] c22
theorem body22 : c22 = (.seq r22_0 (.seq (.seq r22_1 (.cond (.tmp 26) (.seq r22_2 .ret) .skip)) (.seq r22_3 (.seq (.seq r22_4 (.cond (.tmp 72) (.seq r22_5 .ret) .skip)) (.seq r22_6 (.seq (.seq r22_7 (.cond (.tmp 80) (.seq r22_8 .ret) .skip)) (.seq r22_9 (.seq r22_10 .ret)))))))) := by kernel_rfl
noncomputable def L22_0 : Lt r22_0 := by refine ⟨?l, ?h⟩; case h => simp only [r22_0, c22, bodyOf, Tryd.f22, Code.sub, opsOf, List.map_cons, List.map_nil, strip]; rfl
theorem w22_0 : Wp r22_0 5 [26, 72, 80] [1, 2] [] [0] [some 1, some 2] (L22_0).1 := w_plain (by kernel_rfl) (L22_0).2
noncomputable def L22_1 : Lt r22_1 := by refine ⟨?l, ?h⟩; case h => simp only [r22_1, c22, bodyOf, Tryd.f22, Code.sub, opsOf, List.map_cons, List.map_nil, strip]; rfl
theorem w22_1 : Wp r22_1 5 [26, 72, 80] [] [26] [1] [some 5, some 6, some 7, some 8, some 9, some 10, some 11, some 12, some 13, some 14, some 15, some 16, some 17, some 18, some 19, some 20, some 21, some 22, some 23, some 24, some 25, some 26] (L22_1).1 := w_plain (by kernel_rfl) (L22_1).2
noncomputable def L22_2 : Lt r22_2 := by refine ⟨?l, ?h⟩; case h => simp only [r22_2, c22, bodyOf, Tryd.f22, Code.sub, opsOf, List.map_cons, List.map_nil, strip]; rfl
theorem w22_2 : Wp r22_2 5 [26, 72, 80] [2] [] [] [some 2] (L22_2).1 := w_plain (by kernel_rfl) (L22_2).2
noncomputable def L22_3 : Lt r22_3 := by refine ⟨?l, ?h⟩; case h => simp only [r22_3, c22, bodyOf, Tryd.f22, Code.sub, opsOf, List.map_cons, List.map_nil, strip]; rfl
theorem w22_3 : Wp r22_3 5 [26, 72, 80] [3] [] [1] [some 27, some 28, some 29, some 3] (L22_3).1 := w_plain (by kernel_rfl) (L22_3).2
noncomputable def L22_4 : Lt r22_4 := by refine ⟨?l, ?h⟩; case h => simp only [r22_4, c22, bodyOf, Tryd.f22, Code.sub, opsOf, List.map_cons, List.map_nil, strip]; rfl
theorem w22_4 : Wp r22_4 5 [26, 72, 80] [] [72] [1, 3] [some 30, some 31, some 32, some 33, some 34, some 35, some 36, some 37, some 38, some 39, some 40, some 41, some 42, some 43, some 44, some 45, some 46, some 47, some 48, some 49, some 50, some 51, some 52, some 53, some 54, some 55, some 56, some 57, some 58, some 59, some 60, some 61, some 62, some 63, some 64, some 65, some 66, some 67, some 68, some 69, some 70, some 71, some 72] (L22_4).1 := w_plain (by kernel_rfl) (L22_4).2
noncomputable def L22_5 : Lt r22_5 := by refine ⟨?l, ?h⟩; case h => simp only [r22_5, c22, bodyOf, Tryd.f22, Code.sub, opsOf, List.map_cons, List.map_nil, strip]; rfl
theorem w22_5 : Wp r22_5 5 [26, 72, 80] [2] [] [] [some 2] (L22_5).1 := w_plain (by kernel_rfl) (L22_5).2
noncomputable def L22_6 : Lt r22_6 := by refine ⟨?l, ?h⟩; case h => simp only [r22_6, c22, bodyOf, Tryd.f22, Code.sub, opsOf, List.map_cons, List.map_nil, strip]; rfl
theorem w22_6 : Wp r22_6 5 [26, 72, 80] [4] [] [3] [some 73, some 74, some 4] (L22_6).1 := w_plain (by kernel_rfl) (L22_6).2
noncomputable def L22_7 : Lt r22_7 := by refine ⟨?l, ?h⟩; case h => simp only [r22_7, c22, bodyOf, Tryd.f22, Code.sub, opsOf, List.map_cons, List.map_nil, strip]; rfl
theorem w22_7 : Wp r22_7 5 [26, 72, 80] [] [80] [4, 1] [some 75, some 76, some 77, some 78, some 79, some 80] (L22_7).1 := w_plain (by kernel_rfl) (L22_7).2
noncomputable def L22_8 : Lt r22_8 := by refine ⟨?l, ?h⟩; case h => simp only [r22_8, c22, bodyOf, Tryd.f22, Code.sub, opsOf, List.map_cons, List.map_nil, strip]; rfl
theorem w22_8 : Wp r22_8 5 [26, 72, 80] [2] [] [] [some 2] (L22_8).1 := w_plain (by kernel_rfl) (L22_8).2
noncomputable def L22_9 : Lt r22_9 := by refine ⟨?l, ?h⟩; case h => simp only [r22_9, c22, bodyOf, Tryd.f22, Code.sub, opsOf, List.map_cons, List.map_nil, strip]; rfl
theorem w22_9 : Wp r22_9 5 [26, 72, 80] [] [] [3, 1] [some 81, some 82, some 83, some 84, some 85, none] (L22_9).1 := w_plain (by kernel_rfl) (L22_9).2
noncomputable def L22_10 : Lt r22_10 := by refine ⟨?l, ?h⟩; case h => simp only [r22_10, c22, bodyOf, Tryd.f22, Code.sub, opsOf, List.map_cons, List.map_nil, strip]; rfl
theorem w22_10 : Wp r22_10 5 [26, 72, 80] [2] [] [1, 3] [some 86, some 87, some 88, some 89, some 90, some 91, some 92, some 2] (L22_10).1 := w_plain (by kernel_rfl) (L22_10).2
theorem k22 : FnIs TT 22 c22 [.tmp 2] 1 := ⟨Tryd.f22, by kernel_rfl, by simp only [Tryd.f22, c22, bodyOf], by kernel_rfl, of_decide_eq_true (by kernel_rfl)⟩
noncomputable def c23 : Code := bodyOf Tryd.f23
noncomputable def r23_0 : Code := Code.sub [0] c23
noncomputable def r23_1 : Code := Code.sub [1, 0, 0] c23
noncomputable def r23_2 : Code := Code.sub [1, 0, 1, 0, 0] c23
noncomputable def r23_3 : Code := Code.sub [1, 1, 0] c23
noncomputable def r23_4 : Code := Code.sub [1, 1, 1, 0] c23
noncomputable def r23_5 : Code := Code.sub [1, 1, 1, 1, 0, 0] c23
noncomputable def r23_6 : Code := Code.sub [1, 1, 1, 1, 0, 1, 0, 0, 0, 0] c23
noncomputable def r23_7 : Code := Code.sub [1, 1, 1, 1, 0, 1, 0, 0, 1, 0, 0] c23
noncomputable def r23_8 : Code := Code.sub [1, 1, 1, 1, 0, 1, 0, 0, 1, 1] c23
noncomputable def r23_9 : Code := Code.sub [1, 1, 1, 1, 1, 0] c23
theorem body23 : c23 = (.seq r23_0 (.seq (.seq r23_1 (.cond (.tmp 38) (.seq r23_2 .ret) .skip)) (.seq r23_3 (.seq r23_4 (.seq (.seq r23_5 (.block 0 (.loop (.seq (.seq r23_6 (.cond (.tmp 62) .skip (.exit 0))) (.seq (.block 1 r23_7) r23_8))))) (.seq r23_9 .ret)))))) := by kernel_rfl
noncomputable def L23_0 : Lt r23_0 := by refine ⟨?l, ?h⟩; case h => simp only [r23_0, c23, bodyOf, Tryd.f23, Code.sub, opsOf, List.map_cons, List.map_nil, strip]; rfl
theorem w23_0 : Wp r23_0 10 [38, 62] [6, 7] [] [] [some 6, some 7] (L23_0).1 := w_plain (by kernel_rfl) (L23_0).2
noncomputable def L23_1 : Lt r23_1 := by refine ⟨?l, ?h⟩; case h => simp only [r23_1, c23, bodyOf, Tryd.f23, Code.sub, opsOf, List.map_cons, List.map_nil, strip]; rfl
theorem w23_1 : Wp r23_1 10 [38, 62] [] [38] [1, 2, 0] [some 10, some 11, some 12, some 13, some 14, some 15, some 16, some 17, some 18, some 19, some 20, some 21, some 22, some 23, some 24, some 25, some 26, some 27, some 28, some 29, some 30, some 31, some 32, some 33, some 34, some 35, some 36, some 37, some 38] (L23_1).1 := w_plain (by kernel_rfl) (L23_1).2
noncomputable def L23_2 : Lt r23_2 := by refine ⟨?l, ?h⟩; case h => simp only [r23_2, c23, bodyOf, Tryd.f23, Code.sub, opsOf, List.map_cons, List.map_nil, strip]; rfl
theorem w23_2 : Wp r23_2 10 [38, 62] [6, 7] [] [] [some 6, some 7] (L23_2).1 := w_plain (by kernel_rfl) (L23_2).2
noncomputable def L23_3 : Lt r23_3 := by refine ⟨?l, ?h⟩; case h => simp only [r23_3, c23, bodyOf, Tryd.f23, Code.sub, opsOf, List.map_cons, List.map_nil, strip]; rfl
theorem w23_3 : Wp r23_3 10 [38, 62] [8] [] [0] [some 39, some 40, some 41, some 42, some 43, some 44, some 8] (L23_3).1 := w_plain (by kernel_rfl) (L23_3).2
noncomputable def L23_4 : Lt r23_4 := by refine ⟨?l, ?h⟩; case h => simp only [r23_4, c23, bodyOf, Tryd.f23, Code.sub, opsOf, List.map_cons, List.map_nil, strip]; rfl
theorem w23_4 : Wp r23_4 10 [38, 62] [] [] [0, 1, 2] [some 45, some 46, some 47, some 48, some 49, some 50, some 51, some 52, some 53, some 54, some 55, some 56, some 57, some 58, some 59, none] (L23_4).1 := w_plain (by kernel_rfl) (L23_4).2
noncomputable def L23_5 : Lt r23_5 := by refine ⟨?l, ?h⟩; case h => simp only [r23_5, c23, bodyOf, Tryd.f23, Code.sub, opsOf, List.map_cons, List.map_nil, strip]; rfl
theorem w23_5 : Wp r23_5 10 [38, 62] [9] [] [] [some 9] (L23_5).1 := w_plain (by kernel_rfl) (L23_5).2
noncomputable def L23_6 : Lt r23_6 := by refine ⟨?l, ?h⟩; case h => simp only [r23_6, c23, bodyOf, Tryd.f23, Code.sub, opsOf, List.map_cons, List.map_nil, strip]; rfl
theorem w23_6 : Wp r23_6 10 [38, 62] [] [62] [9, 2] [some 60, some 61, some 62] (L23_6).1 := w_plain (by kernel_rfl) (L23_6).2
noncomputable def L23_7 : Lt r23_7 := by refine ⟨?l, ?h⟩; case h => simp only [r23_7, c23, bodyOf, Tryd.f23, Code.sub, opsOf, List.map_cons, List.map_nil, strip]; rfl
theorem w23_7 : Wp r23_7 10 [38, 62] [] [] [0] [some 65, some 66, some 67, some 68, some 69, some 70, some 71, some 72, some 73, none] (L23_7).1 := w_plain (by kernel_rfl) (L23_7).2
noncomputable def L23_8 : Lt r23_8 := by refine ⟨?l, ?h⟩; case h => simp only [r23_8, c23, bodyOf, Tryd.f23, Code.sub, opsOf, List.map_cons, List.map_nil, strip]; rfl
theorem w23_8 : Wp r23_8 10 [38, 62] [9] [] [9] [some 63, some 64, some 9] (L23_8).1 := w_plain (by kernel_rfl) (L23_8).2
noncomputable def L23_9 : Lt r23_9 := by refine ⟨?l, ?h⟩; case h => simp only [r23_9, c23, bodyOf, Tryd.f23, Code.sub, opsOf, List.map_cons, List.map_nil, strip]; rfl
theorem w23_9 : Wp r23_9 10 [38, 62] [6, 7] [] [8] [some 74, some 6, some 7] (L23_9).1 := w_plain (by kernel_rfl) (L23_9).2
theorem k23 : FnIs TT 23 c23 [.tmp 6, .tmp 7] 3 := ⟨Tryd.f23, by kernel_rfl, by simp only [Tryd.f23, c23, bodyOf], by kernel_rfl, of_decide_eq_true (by kernel_rfl)⟩
noncomputable def c24 : Code := bodyOf Tryd.f24
noncomputable def r24_0 : Code := Code.sub [0] c24
noncomputable def r24_1 : Code := Code.sub [1, 0] c24
theorem body24 : c24 = (.seq r24_0 (.seq r24_1 .ret)) := by kernel_rfl
noncomputable def L24_0 : Lt r24_0 := by refine ⟨?l, ?h⟩; case h => simp only [r24_0, c24, bodyOf, Tryd.f24, Code.sub, opsOf, List.map_cons, List.map_nil, strip]; rfl
theorem w24_0 : Wp r24_0 7 [] [6] [] [] [some 6] (L24_0).1 := w_plain (by kernel_rfl) (L24_0).2
noncomputable def L24_1 : Lt r24_1 := by refine ⟨?l, ?h⟩; case h => simp only [r24_1, c24, bodyOf, Tryd.f24, Code.sub, opsOf, List.map_cons, List.map_nil, strip]; rfl
theorem w24_1 : Wp r24_1 7 [] [6] [] [0, 1, 2] [some 7, some 8, some 9, some 10, some 11, some 12, some 6] (L24_1).1 := w_plain (by kernel_rfl) (L24_1).2
theorem k24 : FnIs TT 24 c24 [.tmp 6] 3 := ⟨Tryd.f24, by kernel_rfl, by simp only [Tryd.f24, c24, bodyOf], by kernel_rfl, of_decide_eq_true (by kernel_rfl)⟩
noncomputable def c25 : Code := bodyOf Tryd.f25
noncomputable def r25_0 : Code := Code.sub [0] c25
noncomputable def r25_1 : Code := Code.sub [1, 0, 0, 0] c25
noncomputable def r25_2 : Code := Code.sub [1, 0, 0, 1, 1, 0, 0, 0] c25
noncomputable def r25_3 : Code := Code.sub [1, 0, 0, 1, 1, 0, 0, 1, 0] c25
noncomputable def r25_4 : Code := Code.sub [1, 0, 0, 1, 1, 0, 0, 1, 1, 0] c25
noncomputable def r25_5 : Code := Code.sub [1, 0, 0, 1, 1, 0, 0, 1, 1, 1, 0, 0, 0] c25
noncomputable def r25_6 : Code := Code.sub [1, 0, 0, 1, 1, 0, 0, 1, 1, 1, 0, 0, 1, 0] c25
noncomputable def r25_7 : Code := Code.sub [1, 0, 0, 1, 1, 0, 0, 1, 1, 1, 0, 1] c25
noncomputable def r25_8 : Code := Code.sub [1, 0, 0, 1, 1, 1] c25
theorem body25 : c25 = (.seq r25_0 (.block 0 (.loop (.seq r25_1 (.seq (.cond (.tmp 17) .skip (.exit 0)) (.seq (.block 1 (.seq r25_2 (.seq r25_3 (.seq r25_4 (.cond (.tmp 30) (.seq (.seq r25_5 (.cond (.tmp 35) r25_6 .skip)) r25_7) .skip))))) r25_8)))))) := by kernel_rfl
noncomputable def L25_0 : Lt r25_0 := by refine ⟨?l, ?h⟩; case h => simp only [r25_0, c25, bodyOf, Tryd.f25, Code.sub, opsOf, List.map_cons, List.map_nil, strip]; rfl
theorem w25_0 : Wp r25_0 17 [17, 30, 35] [7, 8, 9, 10, 11, 12, 13, 14, 15, 16] [] [0] [some 7, some 8, some 9, some 10, some 11, some 12, some 13, some 14, some 15, some 16] (L25_0).1 := w_plain (by kernel_rfl) (L25_0).2
noncomputable def L25_1 : Lt r25_1 := by refine ⟨?l, ?h⟩; case h => simp only [r25_1, c25, bodyOf, Tryd.f25, Code.sub, opsOf, List.map_cons, List.map_nil, strip]; rfl
theorem w25_1 : Wp r25_1 17 [17, 30, 35] [] [17] [16, 15] [some 17] (L25_1).1 := w_plain (by kernel_rfl) (L25_1).2
noncomputable def L25_2 : Lt r25_2 := by refine ⟨?l, ?h⟩; case h => simp only [r25_2, c25, bodyOf, Tryd.f25, Code.sub, opsOf, List.map_cons, List.map_nil, strip]; rfl
theorem w25_2 : Wp r25_2 17 [17, 30, 35] [5] [] [14, 16] [some 18, some 19, some 5] (L25_2).1 := w_plain (by kernel_rfl) (L25_2).2
noncomputable def L25_3 : Lt r25_3 := by refine ⟨?l, ?h⟩; case h => simp only [r25_3, c25, bodyOf, Tryd.f25, Code.sub, opsOf, List.map_cons, List.map_nil, strip]; rfl
theorem w25_3 : Wp r25_3 17 [17, 30, 35] [6] [] [0, 5] [some 20, some 21, some 22, some 23, some 24, some 25, some 26, some 27, some 6, none] (L25_3).1 := w_plain (by kernel_rfl) (L25_3).2
noncomputable def L25_4 : Lt r25_4 := by refine ⟨?l, ?h⟩; case h => simp only [r25_4, c25, bodyOf, Tryd.f25, Code.sub, opsOf, List.map_cons, List.map_nil, strip]; rfl
theorem w25_4 : Wp r25_4 17 [17, 30, 35] [] [30] [6] [some 28, some 29, some 30] (L25_4).1 := w_plain (by kernel_rfl) (L25_4).2
noncomputable def L25_5 : Lt r25_5 := by refine ⟨?l, ?h⟩; case h => simp only [r25_5, c25, bodyOf, Tryd.f25, Code.sub, opsOf, List.map_cons, List.map_nil, strip]; rfl
theorem w25_5 : Wp r25_5 17 [17, 30, 35] [] [35] [6, 1] [some 31, some 32, some 33, some 34, some 35] (L25_5).1 := w_plain (by kernel_rfl) (L25_5).2
theorem can25_6 : canonOps (opsOf r25_6) = opsOf r25_6 := by kernel_rfl
noncomputable def L25_6 : Lc r25_6 := by refine ⟨?l, (congrArg (List.map strip) can25_6).trans ?h⟩; case h => simp only [r25_6, c25, bodyOf, Tryd.f25, Code.sub, opsOf, List.map_cons, List.map_nil, strip]; rfl
theorem w25_6 : Wd r25_6 17 [17, 30, 35] [] [] [0, 5, 1, 6] [some 36, some 37, some 38, some 39, some 40, some 41, some 42, some 43, some 44, some 45, some 46, none] (L25_6).1 [(3, [11]), (7, [11]), (9, [11])] := w_loud (by kernel_rfl) (L25_6).2
noncomputable def L25_7 : Lt r25_7 := by refine ⟨?l, ?h⟩; case h => simp only [r25_7, c25, bodyOf, Tryd.f25, Code.sub, opsOf, List.map_cons, List.map_nil, strip]; rfl
theorem w25_7 : Wp r25_7 17 [17, 30, 35] [] [] [0] [some 47, some 48, some 49, some 50, some 51, some 52, some 53, none] (L25_7).1 := w_plain (by kernel_rfl) (L25_7).2
noncomputable def L25_8 : Lt r25_8 := by refine ⟨?l, ?h⟩; case h => simp only [r25_8, c25, bodyOf, Tryd.f25, Code.sub, opsOf, List.map_cons, List.map_nil, strip]; rfl
theorem w25_8 : Wp r25_8 17 [17, 30, 35] [16] [] [16] [some 54, some 16] (L25_8).1 := w_plain (by kernel_rfl) (L25_8).2
theorem k25 : FnIs TT 25 c25 [] 2 := ⟨Tryd.f25, by kernel_rfl, by simp only [Tryd.f25, c25, bodyOf], by kernel_rfl, of_decide_eq_true (by kernel_rfl)⟩
noncomputable def c26 : Code := bodyOf Tryd.f26
noncomputable def r26_0 : Code := Code.sub [0] c26
noncomputable def r26_1 : Code := Code.sub [1, 0] c26
theorem body26 : c26 = (.seq r26_0 (.seq r26_1 .ret)) := by kernel_rfl
noncomputable def L26_0 : Lt r26_0 := by refine ⟨?l, ?h⟩; case h => simp only [r26_0, c26, bodyOf, Tryd.f26, Code.sub, opsOf, List.map_cons, List.map_nil, strip]; rfl
theorem w26_0 : Wp r26_0 3 [] [2] [] [] [some 2] (L26_0).1 := w_plain (by kernel_rfl) (L26_0).2
noncomputable def L26_1 : Lt r26_1 := by refine ⟨?l, ?h⟩; case h => simp only [r26_1, c26, bodyOf, Tryd.f26, Code.sub, opsOf, List.map_cons, List.map_nil, strip]; rfl
theorem w26_1 : Wp r26_1 3 [] [] [] [0, 2] [some 3, some 4, some 5, some 6, some 7, none] (L26_1).1 := w_plain (by kernel_rfl) (L26_1).2
theorem k26 : FnIs TT 26 c26 [.cell 2 28] 1 := ⟨Tryd.f26, by kernel_rfl, by simp only [Tryd.f26, c26, bodyOf], by kernel_rfl, of_decide_eq_true (by kernel_rfl)⟩
noncomputable def c27 : Code := bodyOf Tryd.f27
noncomputable def r27_0 : Code := Code.sub [0] c27
noncomputable def r27_1 : Code := Code.sub [1, 0, 0] c27
noncomputable def r27_2 : Code := Code.sub [1, 0, 1, 0] c27
noncomputable def r27_3 : Code := Code.sub [1, 0, 1, 1, 0, 0] c27
noncomputable def r27_4 : Code := Code.sub [1, 0, 1, 1, 0, 1, 0, 0] c27
noncomputable def r27_5 : Code := Code.sub [1, 0, 1, 1, 0, 1, 1, 0] c27
noncomputable def r27_6 : Code := Code.sub [1, 0, 1, 1, 0, 1, 1, 1, 0, 0, 0] c27
noncomputable def r27_7 : Code := Code.sub [1, 0, 1, 1, 0, 1, 1, 1, 0, 0, 1, 0, 0] c27
noncomputable def r27_8 : Code := Code.sub [1, 0, 1, 1, 0, 1, 1, 1, 0, 1, 0] c27
noncomputable def r27_9 : Code := Code.sub [1, 0, 1, 1, 0, 1, 1, 1, 0, 1, 1, 0] c27
noncomputable def r27_10 : Code := Code.sub [1, 1, 0] c27
theorem body27 : c27 = (.seq r27_0 (.seq (.seq r27_1 (.seq r27_2 (.block 0 (.seq r27_3 (.cond (.tmp 16) (.seq r27_4 .ret) (.seq r27_5 (.cond (.tmp 27) (.seq (.seq r27_6 (.cond (.tmp 33) (.seq r27_7 .ret) .skip)) (.seq r27_8 (.cond (.tmp 38) r27_9 .skip))) .skip))))))) (.seq r27_10 .ret))) := by kernel_rfl
noncomputable def L27_0 : Lt r27_0 := by refine ⟨?l, ?h⟩; case h => simp only [r27_0, c27, bodyOf, Tryd.f27, Code.sub, opsOf, List.map_cons, List.map_nil, strip]; rfl
theorem w27_0 : Wp r27_0 16 [16, 27, 33, 38] [4] [] [] [some 4] (L27_0).1 := w_plain (by kernel_rfl) (L27_0).2
noncomputable def L27_1 : Lt r27_1 := by refine ⟨?l, ?h⟩; case h => simp only [r27_1, c27, bodyOf, Tryd.f27, Code.sub, opsOf, List.map_cons, List.map_nil, strip]; rfl
theorem w27_1 : Wp r27_1 16 [16, 27, 33, 38] [6, 7, 8, 9, 10, 11, 12, 13, 5] [] [0, 1] [some 6, some 7, some 8, some 9, some 10, some 11, some 12, some 13, some 5, none] (L27_1).1 := w_plain (by kernel_rfl) (L27_1).2
noncomputable def L27_2 : Lt r27_2 := by refine ⟨?l, ?h⟩; case h => simp only [r27_2, c27, bodyOf, Tryd.f27, Code.sub, opsOf, List.map_cons, List.map_nil, strip]; rfl
theorem w27_2 : Wp r27_2 16 [16, 27, 33, 38] [14, 15] [] [5] [some 14, some 15] (L27_2).1 := w_plain (by kernel_rfl) (L27_2).2
noncomputable def L27_3 : Lt r27_3 := by refine ⟨?l, ?h⟩; case h => simp only [r27_3, c27, bodyOf, Tryd.f27, Code.sub, opsOf, List.map_cons, List.map_nil, strip]; rfl
theorem w27_3 : Wp r27_3 16 [16, 27, 33, 38] [] [16] [15] [some 17, some 16] (L27_3).1 := w_plain (by kernel_rfl) (L27_3).2
noncomputable def L27_4 : Lt r27_4 := by refine ⟨?l, ?h⟩; case h => simp only [r27_4, c27, bodyOf, Tryd.f27, Code.sub, opsOf, List.map_cons, List.map_nil, strip]; rfl
theorem w27_4 : Wp r27_4 16 [16, 27, 33, 38] [4] [] [0, 5] [some 18, some 19, some 20, some 21, some 22, some 23, some 24, some 25, some 26, some 4] (L27_4).1 := w_plain (by kernel_rfl) (L27_4).2
noncomputable def L27_5 : Lt r27_5 := by refine ⟨?l, ?h⟩; case h => simp only [r27_5, c27, bodyOf, Tryd.f27, Code.sub, opsOf, List.map_cons, List.map_nil, strip]; rfl
theorem w27_5 : Wp r27_5 16 [16, 27, 33, 38] [] [27] [15] [some 28, some 27] (L27_5).1 := w_plain (by kernel_rfl) (L27_5).2
noncomputable def L27_6 : Lt r27_6 := by refine ⟨?l, ?h⟩; case h => simp only [r27_6, c27, bodyOf, Tryd.f27, Code.sub, opsOf, List.map_cons, List.map_nil, strip]; rfl
theorem w27_6 : Wp r27_6 16 [16, 27, 33, 38] [] [33] [0] [some 29, some 30, some 31, some 32, some 33] (L27_6).1 := w_plain (by kernel_rfl) (L27_6).2
noncomputable def L27_7 : Lt r27_7 := by refine ⟨?l, ?h⟩; case h => simp only [r27_7, c27, bodyOf, Tryd.f27, Code.sub, opsOf, List.map_cons, List.map_nil, strip]; rfl
theorem w27_7 : Wp r27_7 16 [16, 27, 33, 38] [4] [] [] [some 4] (L27_7).1 := w_plain (by kernel_rfl) (L27_7).2
noncomputable def L27_8 : Lt r27_8 := by refine ⟨?l, ?h⟩; case h => simp only [r27_8, c27, bodyOf, Tryd.f27, Code.sub, opsOf, List.map_cons, List.map_nil, strip]; rfl
theorem w27_8 : Wp r27_8 16 [16, 27, 33, 38] [] [38] [0] [some 34, some 35, some 36, some 37, some 38] (L27_8).1 := w_plain (by kernel_rfl) (L27_8).2
noncomputable def L27_9 : Lt r27_9 := by refine ⟨?l, ?h⟩; case h => simp only [r27_9, c27, bodyOf, Tryd.f27, Code.sub, opsOf, List.map_cons, List.map_nil, strip]; rfl
theorem w27_9 : Wp r27_9 16 [16, 27, 33, 38] [] [] [0] [some 39, some 40, some 41, some 42, some 43, some 44, some 45, none] (L27_9).1 := w_plain (by kernel_rfl) (L27_9).2
noncomputable def L27_10 : Lt r27_10 := by refine ⟨?l, ?h⟩; case h => simp only [r27_10, c27, bodyOf, Tryd.f27, Code.sub, opsOf, List.map_cons, List.map_nil, strip]; rfl
theorem w27_10 : Wp r27_10 16 [16, 27, 33, 38] [4] [] [] [some 4] (L27_10).1 := w_plain (by kernel_rfl) (L27_10).2
theorem k27 : FnIs TT 27 c27 [.tmp 4] 2 := ⟨Tryd.f27, by kernel_rfl, by simp only [Tryd.f27, c27, bodyOf], by kernel_rfl, of_decide_eq_true (by kernel_rfl)⟩
noncomputable def c28 : Code := bodyOf Tryd.f28
noncomputable def r28_0 : Code := Code.sub [0] c28
noncomputable def r28_1 : Code := Code.sub [1, 0] c28
noncomputable def r28_2 : Code := Code.sub [1, 1, 0] c28
noncomputable def r28_3 : Code := Code.sub [1, 1, 1, 0, 0] c28
noncomputable def r28_4 : Code := Code.sub [1, 1, 1, 0, 1, 0, 0, 0] c28
noncomputable def r28_5 : Code := Code.sub [1, 1, 1, 0, 1, 0, 0, 1, 1, 0, 0, 0] c28
noncomputable def r28_6 : Code := Code.sub [1, 1, 1, 0, 1, 0, 0, 1, 1, 0, 0, 1] c28
noncomputable def r28_7 : Code := Code.sub [1, 1, 1, 0, 1, 0, 0, 1, 1, 1] c28
noncomputable def r28_8 : Code := Code.sub [1, 1, 1, 1, 0] c28
theorem body28 : c28 = (.seq r28_0 (.seq r28_1 (.seq r28_2 (.seq (.seq r28_3 (.block 0 (.loop (.seq r28_4 (.seq (.cond (.tmp 30) .skip (.exit 0)) (.seq (.block 1 (.seq r28_5 r28_6)) r28_7)))))) (.seq r28_8 .ret))))) := by kernel_rfl
noncomputable def L28_0 : Lt r28_0 := by refine ⟨?l, ?h⟩; case h => simp only [r28_0, c28, bodyOf, Tryd.f28, Code.sub, opsOf, List.map_cons, List.map_nil, strip]; rfl
theorem w28_0 : Wp r28_0 30 [30] [3, 6] [] [0] [some 3, some 6] (L28_0).1 := w_plain (by kernel_rfl) (L28_0).2
noncomputable def L28_1 : Lt r28_1 := by refine ⟨?l, ?h⟩; case h => simp only [r28_1, c28, bodyOf, Tryd.f28, Code.sub, opsOf, List.map_cons, List.map_nil, strip]; rfl
theorem w28_1 : Wp r28_1 30 [30] [11, 12, 13, 14, 15, 16, 17, 7] [] [1, 2, 3] [some 11, some 12, some 13, some 14, some 15, some 16, some 17, some 7, none] (L28_1).1 := w_plain (by kernel_rfl) (L28_1).2
noncomputable def L28_2 : Lt r28_2 := by refine ⟨?l, ?h⟩; case h => simp only [r28_2, c28, bodyOf, Tryd.f28, Code.sub, opsOf, List.map_cons, List.map_nil, strip]; rfl
theorem w28_2 : Wp r28_2 30 [30] [18, 8] [] [3] [some 18, some 8] (L28_2).1 := w_plain (by kernel_rfl) (L28_2).2
noncomputable def L28_3 : Lt r28_3 := by refine ⟨?l, ?h⟩; case h => simp only [r28_3, c28, bodyOf, Tryd.f28, Code.sub, opsOf, List.map_cons, List.map_nil, strip]; rfl
theorem w28_3 : Wp r28_3 30 [30] [19, 20, 21, 22, 23, 24, 25, 26, 27, 28, 29] [] [3, 1] [some 19, some 20, some 21, some 22, some 23, some 24, some 25, some 26, some 27, some 28, some 29] (L28_3).1 := w_plain (by kernel_rfl) (L28_3).2
noncomputable def L28_4 : Lt r28_4 := by refine ⟨?l, ?h⟩; case h => simp only [r28_4, c28, bodyOf, Tryd.f28, Code.sub, opsOf, List.map_cons, List.map_nil, strip]; rfl
theorem w28_4 : Wp r28_4 30 [30] [] [30] [29, 28] [some 30] (L28_4).1 := w_plain (by kernel_rfl) (L28_4).2
noncomputable def L28_5 : Lt r28_5 := by refine ⟨?l, ?h⟩; case h => simp only [r28_5, c28, bodyOf, Tryd.f28, Code.sub, opsOf, List.map_cons, List.map_nil, strip]; rfl
theorem w28_5 : Wp r28_5 30 [30] [10] [] [27, 29] [some 31, some 32, some 10, none] (L28_5).1 := w_plain (by kernel_rfl) (L28_5).2
theorem can28_6 : canonOps (opsOf r28_6) = List.filterMap (fun i => ((opsOf r28_6)[i]?).map (renum [0, 1, 2, 3, 4, 5, 6, 7, 8, 9, 10, 11, 12, 13, 14, 15, 16, 17, 18])) [0, 1, 2, 3, 4, 5, 6, 7, 8, 9, 10, 11, 12, 13, 14, 15, 16, 17, 18] := by kernel_rfl
noncomputable def L28_6 : Lc r28_6 := by refine ⟨?l, (congrArg (List.map strip) can28_6).trans ?h⟩; case h => simp only [r28_6, c28, bodyOf, Tryd.f28, Code.sub, opsOf, List.filterMap_cons, List.filterMap_nil, List.getElem?_cons_succ, List.getElem?_cons_zero, Option.map_some, renum, List.map_cons, List.map_nil, strip]; rfl
theorem w28_6 : Wd r28_6 30 [30] [] [] [8, 10, 7] [some 33, some 34, some 35, some 36, some 37, some 38, some 39, some 40, some 41, some 42, some 43, some 44, some 45, some 46, some 47, some 48, some 49, some 50, none] (L28_6).1 [(1, [9, 13, 15, 16]), (3, [9, 13, 15]), (5, [9, 13, 15]), (8, [9]), (12, [9, 13])] := w_loud (by kernel_rfl) (L28_6).2
noncomputable def L28_7 : Lt r28_7 := by refine ⟨?l, ?h⟩; case h => simp only [r28_7, c28, bodyOf, Tryd.f28, Code.sub, opsOf, List.map_cons, List.map_nil, strip]; rfl
theorem w28_7 : Wp r28_7 30 [30] [29] [] [29] [some 51, some 29] (L28_7).1 := w_plain (by kernel_rfl) (L28_7).2
noncomputable def L28_8 : Lt r28_8 := by refine ⟨?l, ?h⟩; case h => simp only [r28_8, c28, bodyOf, Tryd.f28, Code.sub, opsOf, List.map_cons, List.map_nil, strip]; rfl
theorem w28_8 : Wp r28_8 30 [30] [] [] [7, 6] [some 52, none] (L28_8).1 := w_plain (by kernel_rfl) (L28_8).2
theorem k28 : FnIs TT 28 c28 [.cell 6 28] 3 := ⟨Tryd.f28, by kernel_rfl, by simp only [Tryd.f28, c28, bodyOf], by kernel_rfl, of_decide_eq_true (by kernel_rfl)⟩
noncomputable def c29 : Code := bodyOf Tryd.f29
noncomputable def r29_0 : Code := Code.sub [0] c29
noncomputable def r29_1 : Code := Code.sub [1, 0] c29
noncomputable def r29_2 : Code := Code.sub [1, 1, 0, 0] c29
noncomputable def r29_3 : Code := Code.sub [1, 1, 0, 1, 0] c29
noncomputable def r29_4 : Code := Code.sub [1, 1, 0, 1, 1, 0, 0] c29
noncomputable def r29_5 : Code := Code.sub [1, 1, 0, 1, 1, 0, 1, 1, 0] c29
noncomputable def r29_6 : Code := Code.sub [1, 1, 0, 1, 1, 0, 1, 1, 1, 0] c29
noncomputable def r29_7 : Code := Code.sub [1, 1, 0, 1, 1, 0, 1, 1, 1, 1] c29
noncomputable def r29_8 : Code := Code.sub [1, 1, 1, 0] c29
noncomputable def r29_9 : Code := Code.sub [1, 1, 1, 1, 0] c29
noncomputable def r29_10 : Code := Code.sub [1, 1, 1, 1, 1, 0, 0] c29
noncomputable def r29_11 : Code := Code.sub [1, 1, 1, 1, 1, 0, 1, 0] c29
noncomputable def r29_12 : Code := Code.sub [1, 1, 1, 1, 1, 0, 1, 1, 0] c29
noncomputable def r29_13 : Code := Code.sub [1, 1, 1, 1, 1, 0, 1, 1, 1, 0] c29
noncomputable def r29_14 : Code := Code.sub [1, 1, 1, 1, 1, 0, 1, 1, 1, 1, 0] c29
noncomputable def r29_15 : Code := Code.sub [1, 1, 1, 1, 1, 0, 1, 1, 1, 1, 1, 0] c29
noncomputable def r29_16 : Code := Code.sub [1, 1, 1, 1, 1, 0, 1, 1, 1, 1, 1, 1, 0] c29
noncomputable def r29_17 : Code := Code.sub [1, 1, 1, 1, 1, 0, 1, 1, 1, 1, 1, 1, 1, 0] c29
noncomputable def r29_18 : Code := Code.sub [1, 1, 1, 1, 1, 0, 1, 1, 1, 1, 1, 1, 1, 1, 0] c29
noncomputable def r29_19 : Code := Code.sub [1, 1, 1, 1, 1, 0, 1, 1, 1, 1, 1, 1, 1, 1, 1, 0] c29
noncomputable def r29_20 : Code := Code.sub [1, 1, 1, 1, 1, 0, 1, 1, 1, 1, 1, 1, 1, 1, 1, 1, 0] c29
noncomputable def r29_21 : Code := Code.sub [1, 1, 1, 1, 1, 0, 1, 1, 1, 1, 1, 1, 1, 1, 1, 1, 1, 0] c29
noncomputable def r29_22 : Code := Code.sub [1, 1, 1, 1, 1, 0, 1, 1, 1, 1, 1, 1, 1, 1, 1, 1, 1, 1, 0] c29
noncomputable def r29_23 : Code := Code.sub [1, 1, 1, 1, 1, 0, 1, 1, 1, 1, 1, 1, 1, 1, 1, 1, 1, 1, 1, 0] c29
noncomputable def r29_24 : Code := Code.sub [1, 1, 1, 1, 1, 0, 1, 1, 1, 1, 1, 1, 1, 1, 1, 1, 1, 1, 1, 1, 0, 0] c29
noncomputable def r29_25 : Code := Code.sub [1, 1, 1, 1, 1, 0, 1, 1, 1, 1, 1, 1, 1, 1, 1, 1, 1, 1, 1, 1, 0, 1, 1] c29
noncomputable def r29_26 : Code := Code.sub [1, 1, 1, 1, 1, 0, 1, 1, 1, 1, 1, 1, 1, 1, 1, 1, 1, 1, 1, 1, 1, 1] c29
theorem body29 : c29 = (.seq r29_0 (.seq r29_1 (.seq (.seq r29_2 (.seq r29_3 (.block 0 (.seq r29_4 (.cond (.tmp 39) .skip (.seq r29_5 (.cond (.tmp 41) r29_6 r29_7))))))) (.seq r29_8 (.seq r29_9 (.block 1 (.seq r29_10 (.cond (.tmp 68) r29_11 (.seq r29_12 (.cond (.tmp 77) r29_13 (.seq r29_14 (.cond (.tmp 92) r29_15 (.seq r29_16 (.cond (.tmp 107) r29_17 (.seq r29_18 (.cond (.tmp 123) r29_19 (.seq r29_20 (.cond (.tmp 140) r29_21 (.seq r29_22 (.cond (.tmp 151) r29_23 (.seq (.seq r29_24 (.cond (.tmp 172) .skip r29_25)) (.cond (.tmp 172) .skip r29_26)))))))))))))))))))))) := by kernel_rfl
noncomputable def L29_0 : Lt r29_0 := by refine ⟨?l, ?h⟩; case h => simp only [r29_0, c29, bodyOf, Tryd.f29, Code.sub, opsOf, List.map_cons, List.map_nil, strip]; rfl
theorem w29_0 : Wp r29_0 57 [68, 77, 92, 107, 123, 140, 151, 172, 172] [9, 10, 11, 12, 13, 14, 15, 16, 4] [] [0, 1] [some 9, some 10, some 11, some 12, some 13, some 14, some 15, some 16, some 4, none] (L29_0).1 := w_plain (by kernel_rfl) (L29_0).2
noncomputable def L29_1 : Lt r29_1 := by refine ⟨?l, ?h⟩; case h => simp only [r29_1, c29, bodyOf, Tryd.f29, Code.sub, opsOf, List.map_cons, List.map_nil, strip]; rfl
theorem w29_1 : Wp r29_1 57 [68, 77, 92, 107, 123, 140, 151, 172, 172] [5, 6] [] [] [some 5, some 6] (L29_1).1 := w_plain (by kernel_rfl) (L29_1).2
noncomputable def L29_2 : Lt r29_2 := by refine ⟨?l, ?h⟩; case h => simp only [r29_2, c29, bodyOf, Tryd.f29, Code.sub, opsOf, List.map_cons, List.map_nil, strip]; rfl
theorem w29_2 : Wp r29_2 57 [68, 77, 92, 107, 123, 140, 151, 172, 172] [17, 18, 7] [] [4] [some 17, some 18, some 7] (L29_2).1 := w_plain (by kernel_rfl) (L29_2).2
noncomputable def L29_3 : Lt r29_3 := by refine ⟨?l, ?h⟩; case h => simp only [r29_3, c29, bodyOf, Tryd.f29, Code.sub, opsOf, List.map_cons, List.map_nil, strip]; rfl
theorem w29_3 : Wp r29_3 57 [68, 77, 92, 107, 123, 140, 151, 172, 172] [19, 20] [] [7] [some 19, some 20] (L29_3).1 := w_plain (by kernel_rfl) (L29_3).2
noncomputable def L29_4 : Lt r29_4 := by refine ⟨?l, ?h⟩; case h => simp only [r29_4, c29, bodyOf, Tryd.f29, Code.sub, opsOf, List.map_cons, List.map_nil, strip]; rfl
theorem w29_4 : Wp r29_4 57 [68, 77, 92, 107, 123, 140, 151, 172, 172] [40, 39] [] [20] [some 40, some 39] (L29_4).1 := w_plain (by kernel_rfl) (L29_4).2
noncomputable def L29_5 : Lt r29_5 := by refine ⟨?l, ?h⟩; case h => simp only [r29_5, c29, bodyOf, Tryd.f29, Code.sub, opsOf, List.map_cons, List.map_nil, strip]; rfl
theorem w29_5 : Wp r29_5 57 [68, 77, 92, 107, 123, 140, 151, 172, 172] [42, 41] [] [20] [some 42, some 41] (L29_5).1 := w_plain (by kernel_rfl) (L29_5).2
noncomputable def L29_6 : Lt r29_6 := by refine ⟨?l, ?h⟩; case h => simp only [r29_6, c29, bodyOf, Tryd.f29, Code.sub, opsOf, List.map_cons, List.map_nil, strip]; rfl
theorem w29_6 : Wp r29_6 57 [68, 77, 92, 107, 123, 140, 151, 172, 172] [43, 44, 45, 46, 47, 48, 49, 50, 51, 5] [] [0, 7] [some 43, some 44, some 45, some 46, some 47, some 48, some 49, some 50, some 51, some 5] (L29_6).1 := w_plain (by kernel_rfl) (L29_6).2
noncomputable def L29_7 : Lt r29_7 := by refine ⟨?l, ?h⟩; case h => simp only [r29_7, c29, bodyOf, Tryd.f29, Code.sub, opsOf, List.map_cons, List.map_nil, strip]; rfl
theorem w29_7 : Wp r29_7 57 [68, 77, 92, 107, 123, 140, 151, 172, 172] [21, 22, 23, 24, 25, 26, 27, 28, 29, 30, 31, 32, 33, 34, 35, 36, 37, 38, 5, 6] [] [0, 7] [some 21, some 22, some 23, some 24, some 25, some 26, some 27, some 28, some 29, some 30, some 31, some 32, some 33, some 34, some 35, some 36, some 37, some 38, some 5, some 6] (L29_7).1 := w_plain (by kernel_rfl) (L29_7).2
noncomputable def L29_8 : Lt r29_8 := by refine ⟨?l, ?h⟩; case h => simp only [r29_8, c29, bodyOf, Tryd.f29, Code.sub, opsOf, List.map_cons, List.map_nil, strip]; rfl
theorem w29_8 : Wp r29_8 57 [68, 77, 92, 107, 123, 140, 151, 172, 172] [52, 53, 54, 8] [] [4] [some 52, some 53, some 54, some 8] (L29_8).1 := w_plain (by kernel_rfl) (L29_8).2
noncomputable def L29_9 : Lt r29_9 := by refine ⟨?l, ?h⟩; case h => simp only [r29_9, c29, bodyOf, Tryd.f29, Code.sub, opsOf, List.map_cons, List.map_nil, strip]; rfl
theorem w29_9 : Wp r29_9 57 [68, 77, 92, 107, 123, 140, 151, 172, 172] [55, 56] [] [4] [some 55, some 56] (L29_9).1 := w_plain (by kernel_rfl) (L29_9).2
noncomputable def L29_10 : Lt r29_10 := by refine ⟨?l, ?h⟩; case h => simp only [r29_10, c29, bodyOf, Tryd.f29, Code.sub, opsOf, List.map_cons, List.map_nil, strip]; rfl
theorem w29_10 : Wp r29_10 57 [68, 77, 92, 107, 123, 140, 151, 172, 172] [] [68] [56] [some 69, some 68] (L29_10).1 := w_plain (by kernel_rfl) (L29_10).2
noncomputable def L29_11 : Lt r29_11 := by refine ⟨?l, ?h⟩; case h => simp only [r29_11, c29, bodyOf, Tryd.f29, Code.sub, opsOf, List.map_cons, List.map_nil, strip]; rfl
theorem w29_11 : Wp r29_11 57 [68, 77, 92, 107, 123, 140, 151, 172, 172] [] [] [0, 1, 8] [some 70, some 71, some 72, some 73, some 74, some 75, some 76, none] (L29_11).1 := w_plain (by kernel_rfl) (L29_11).2
noncomputable def L29_12 : Lt r29_12 := by refine ⟨?l, ?h⟩; case h => simp only [r29_12, c29, bodyOf, Tryd.f29, Code.sub, opsOf, List.map_cons, List.map_nil, strip]; rfl
theorem w29_12 : Wp r29_12 57 [68, 77, 92, 107, 123, 140, 151, 172, 172] [] [77] [56] [some 78, some 77] (L29_12).1 := w_plain (by kernel_rfl) (L29_12).2
theorem can29_13 : canonOps (opsOf r29_13) = opsOf r29_13 := by kernel_rfl
noncomputable def L29_13 : Lc r29_13 := by refine ⟨?l, (congrArg (List.map strip) can29_13).trans ?h⟩; case h => simp only [r29_13, c29, bodyOf, Tryd.f29, Code.sub, opsOf, List.map_cons, List.map_nil, strip]; rfl
theorem w29_13 : Wd r29_13 57 [68, 77, 92, 107, 123, 140, 151, 172, 172] [] [] [1, 0, 5] [some 79, some 80, some 81, some 82, some 83, some 84, some 85, some 86, some 87, some 88, some 89, some 90, some 91, none] (L29_13).1 [(3, [10, 13]), (8, [10]), (11, [13])] := w_loud (by kernel_rfl) (L29_13).2
noncomputable def L29_14 : Lt r29_14 := by refine ⟨?l, ?h⟩; case h => simp only [r29_14, c29, bodyOf, Tryd.f29, Code.sub, opsOf, List.map_cons, List.map_nil, strip]; rfl
theorem w29_14 : Wp r29_14 57 [68, 77, 92, 107, 123, 140, 151, 172, 172] [] [92] [56] [some 93, some 92] (L29_14).1 := w_plain (by kernel_rfl) (L29_14).2
theorem can29_15 : canonOps (opsOf r29_15) = opsOf r29_15 := by kernel_rfl
noncomputable def L29_15 : Lc r29_15 := by refine ⟨?l, (congrArg (List.map strip) can29_15).trans ?h⟩; case h => simp only [r29_15, c29, bodyOf, Tryd.f29, Code.sub, opsOf, List.map_cons, List.map_nil, strip]; rfl
theorem w29_15 : Wd r29_15 57 [68, 77, 92, 107, 123, 140, 151, 172, 172] [] [] [1, 0, 5] [some 94, some 95, some 96, some 97, some 98, some 99, some 100, some 101, some 102, some 103, some 104, some 105, some 106, none] (L29_15).1 [(3, [10, 13]), (8, [10]), (11, [13])] := w_loud (by kernel_rfl) (L29_15).2
noncomputable def L29_16 : Lt r29_16 := by refine ⟨?l, ?h⟩; case h => simp only [r29_16, c29, bodyOf, Tryd.f29, Code.sub, opsOf, List.map_cons, List.map_nil, strip]; rfl
theorem w29_16 : Wp r29_16 57 [68, 77, 92, 107, 123, 140, 151, 172, 172] [] [107] [56] [some 108, some 107] (L29_16).1 := w_plain (by kernel_rfl) (L29_16).2
theorem can29_17 : canonOps (opsOf r29_17) = opsOf r29_17 := by kernel_rfl
noncomputable def L29_17 : Lc r29_17 := by refine ⟨?l, (congrArg (List.map strip) can29_17).trans ?h⟩; case h => simp only [r29_17, c29, bodyOf, Tryd.f29, Code.sub, opsOf, List.map_cons, List.map_nil, strip]; rfl
theorem w29_17 : Wd r29_17 57 [68, 77, 92, 107, 123, 140, 151, 172, 172] [] [] [1, 0, 5, 8] [some 109, some 110, some 111, some 112, some 113, some 114, some 115, some 116, some 117, some 118, some 119, some 120, some 121, some 122, none] (L29_17).1 [(3, [12, 14]), (8, [12])] := w_loud (by kernel_rfl) (L29_17).2
noncomputable def L29_18 : Lt r29_18 := by refine ⟨?l, ?h⟩; case h => simp only [r29_18, c29, bodyOf, Tryd.f29, Code.sub, opsOf, List.map_cons, List.map_nil, strip]; rfl
theorem w29_18 : Wp r29_18 57 [68, 77, 92, 107, 123, 140, 151, 172, 172] [] [123] [56] [some 124, some 123] (L29_18).1 := w_plain (by kernel_rfl) (L29_18).2
theorem can29_19 : canonOps (opsOf r29_19) = opsOf r29_19 := by kernel_rfl
noncomputable def L29_19 : Lc r29_19 := by refine ⟨?l, (congrArg (List.map strip) can29_19).trans ?h⟩; case h => simp only [r29_19, c29, bodyOf, Tryd.f29, Code.sub, opsOf, List.map_cons, List.map_nil, strip]; rfl
theorem w29_19 : Wd r29_19 57 [68, 77, 92, 107, 123, 140, 151, 172, 172] [] [] [1, 0, 5, 6] [some 125, some 126, some 127, some 128, some 129, some 130, some 131, some 132, some 133, some 134, some 135, some 136, some 137, some 138, some 139, none] (L29_19).1 [(3, [13, 15]), (8, [13])] := w_loud (by kernel_rfl) (L29_19).2
noncomputable def L29_20 : Lt r29_20 := by refine ⟨?l, ?h⟩; case h => simp only [r29_20, c29, bodyOf, Tryd.f29, Code.sub, opsOf, List.map_cons, List.map_nil, strip]; rfl
theorem w29_20 : Wp r29_20 57 [68, 77, 92, 107, 123, 140, 151, 172, 172] [] [140] [56] [some 141, some 140] (L29_20).1 := w_plain (by kernel_rfl) (L29_20).2
noncomputable def L29_21 : Lt r29_21 := by refine ⟨?l, ?h⟩; case h => simp only [r29_21, c29, bodyOf, Tryd.f29, Code.sub, opsOf, List.map_cons, List.map_nil, strip]; rfl
theorem w29_21 : Wp r29_21 57 [68, 77, 92, 107, 123, 140, 151, 172, 172] [] [] [0, 5, 8, 6] [some 142, some 143, some 144, some 145, some 146, some 147, some 148, some 149, some 150] (L29_21).1 := w_plain (by kernel_rfl) (L29_21).2
noncomputable def L29_22 : Lt r29_22 := by refine ⟨?l, ?h⟩; case h => simp only [r29_22, c29, bodyOf, Tryd.f29, Code.sub, opsOf, List.map_cons, List.map_nil, strip]; rfl
theorem w29_22 : Wp r29_22 57 [68, 77, 92, 107, 123, 140, 151, 172, 172] [] [151] [56] [some 152, some 151] (L29_22).1 := w_plain (by kernel_rfl) (L29_22).2
theorem can29_23 : canonOps (opsOf r29_23) = opsOf r29_23 := by kernel_rfl
noncomputable def L29_23 : Lc r29_23 := by refine ⟨?l, (congrArg (List.map strip) can29_23).trans ?h⟩; case h => simp only [r29_23, c29, bodyOf, Tryd.f29, Code.sub, opsOf, List.map_cons, List.map_nil, strip]; rfl
theorem w29_23 : Wd r29_23 57 [68, 77, 92, 107, 123, 140, 151, 172, 172] [] [] [5, 6, 0, 4] [some 153, some 154, some 155, some 156, some 157, some 158, some 159, some 160, some 161, some 162, some 163, some 164, some 165, some 166, some 167, some 168, some 169, some 170, some 171] (L29_23).1 [(3, [18]), (11, [18]), (13, [18]), (15, [18]), (17, [18])] := w_loud (by kernel_rfl) (L29_23).2
noncomputable def L29_24 : Lt r29_24 := by refine ⟨?l, ?h⟩; case h => simp only [r29_24, c29, bodyOf, Tryd.f29, Code.sub, opsOf, List.map_cons, List.map_nil, strip]; rfl
theorem w29_24 : Wp r29_24 57 [68, 77, 92, 107, 123, 140, 151, 172, 172] [] [172] [56] [some 173, some 172] (L29_24).1 := w_plain (by kernel_rfl) (L29_24).2
noncomputable def L29_25 : Lt r29_25 := by refine ⟨?l, ?h⟩; case h => simp only [r29_25, c29, bodyOf, Tryd.f29, Code.sub, opsOf, List.map_cons, List.map_nil, strip]; rfl
theorem w29_25 : Wp r29_25 57 [68, 77, 92, 107, 123, 140, 151, 172, 172] [] [172] [56] [some 174, some 172] (L29_25).1 := w_plain (by kernel_rfl) (L29_25).2
theorem can29_26 : canonOps (opsOf r29_26) = opsOf r29_26 := by kernel_rfl
noncomputable def L29_26 : Lc r29_26 := by refine ⟨?l, (congrArg (List.map strip) can29_26).trans ?h⟩; case h => simp only [r29_26, c29, bodyOf, Tryd.f29, Code.sub, opsOf, List.map_cons, List.map_nil, strip]; rfl
theorem w29_26 : Wd r29_26 57 [68, 77, 92, 107, 123, 140, 151, 172, 172] [] [] [0, 1, 4, 5, 6] [some 57, some 58, some 59, some 60, some 61, some 62, some 63, some 64, some 65, some 66, some 67, none] (L29_26).1 [(3, [9, 11]), (6, [9])] := w_loud (by kernel_rfl) (L29_26).2
theorem k29 : FnIs TT 29 c29 [] 2 := ⟨Tryd.f29, by kernel_rfl, by simp only [Tryd.f29, c29, bodyOf], by kernel_rfl, of_decide_eq_true (by kernel_rfl)⟩
noncomputable def c30 : Code := bodyOf Tryd.f30
noncomputable def r30_0 : Code := Code.sub [0] c30
noncomputable def r30_1 : Code := Code.sub [1, 0] c30
noncomputable def r30_2 : Code := Code.sub [1, 1, 0, 0, 0, 0, 0] c30
noncomputable def r30_3 : Code := Code.sub [1, 1, 0, 0, 0, 1, 0] c30
noncomputable def r30_4 : Code := Code.sub [1, 1, 1, 0] c30
noncomputable def r30_5 : Code := Code.sub [1, 1, 1, 1, 0, 0] c30
noncomputable def r30_6 : Code := Code.sub [1, 1, 1, 1, 0, 1, 0, 0, 0] c30
noncomputable def r30_7 : Code := Code.sub [1, 1, 1, 1, 0, 1, 0, 0, 1, 1, 0, 0, 0] c30
noncomputable def r30_8 : Code := Code.sub [1, 1, 1, 1, 0, 1, 0, 0, 1, 1, 0, 0, 1, 0] c30
noncomputable def r30_9 : Code := Code.sub [1, 1, 1, 1, 0, 1, 0, 0, 1, 1, 0, 0, 1, 1, 0] c30
noncomputable def r30_10 : Code := Code.sub [1, 1, 1, 1, 0, 1, 0, 0, 1, 1, 0, 0, 1, 1, 1, 0] c30
noncomputable def r30_11 : Code := Code.sub [1, 1, 1, 1, 0, 1, 0, 0, 1, 1, 1] c30
noncomputable def r30_12 : Code := Code.sub [1, 1, 1, 1, 1, 0] c30
noncomputable def r30_13 : Code := Code.sub [1, 1, 1, 1, 1, 1, 0, 0, 0] c30
noncomputable def r30_14 : Code := Code.sub [1, 1, 1, 1, 1, 1, 0, 0, 1, 1, 0, 0, 0] c30
noncomputable def r30_15 : Code := Code.sub [1, 1, 1, 1, 1, 1, 0, 0, 1, 1, 0, 0, 1, 0] c30
noncomputable def r30_16 : Code := Code.sub [1, 1, 1, 1, 1, 1, 0, 0, 1, 1, 0, 0, 1, 1] c30
noncomputable def r30_17 : Code := Code.sub [1, 1, 1, 1, 1, 1, 0, 0, 1, 1, 1] c30
theorem body30 : c30 = (.seq r30_0 (.seq r30_1 (.seq (.block 0 (.loop (.seq (.seq r30_2 (.cond (.tmp 36) .skip (.exit 0))) (.block 1 r30_3)))) (.seq r30_4 (.seq (.seq r30_5 (.block 2 (.loop (.seq r30_6 (.seq (.cond (.tmp 43) .skip (.exit 2)) (.seq (.block 3 (.seq r30_7 (.seq r30_8 (.seq r30_9 (.cond (.tmp 56) r30_10 .skip))))) r30_11)))))) (.seq r30_12 (.block 4 (.loop (.seq r30_13 (.seq (.cond (.tmp 75) .skip (.exit 4)) (.seq (.block 5 (.seq r30_14 (.seq r30_15 r30_16))) r30_17))))))))))) := by kernel_rfl
noncomputable def L30_0 : Lt r30_0 := by refine ⟨?l, ?h⟩; case h => simp only [r30_0, c30, bodyOf, Tryd.f30, Code.sub, opsOf, List.map_cons, List.map_nil, strip]; rfl
theorem w30_0 : Wp r30_0 75 [75] [14, 15, 16, 17, 18, 19, 20, 21, 6] [] [0, 2] [some 14, some 15, some 16, some 17, some 18, some 19, some 20, some 21, some 6, none] (L30_0).1 := w_plain (by kernel_rfl) (L30_0).2
noncomputable def L30_1 : Lt r30_1 := by refine ⟨?l, ?h⟩; case h => simp only [r30_1, c30, bodyOf, Tryd.f30, Code.sub, opsOf, List.map_cons, List.map_nil, strip]; rfl
theorem w30_1 : Wp r30_1 75 [75] [7] [] [] [some 7] (L30_1).1 := w_plain (by kernel_rfl) (L30_1).2
noncomputable def L30_2 : Lt r30_2 := by refine ⟨?l, ?h⟩; case h => simp only [r30_2, c30, bodyOf, Tryd.f30, Code.sub, opsOf, List.map_cons, List.map_nil, strip]; rfl
theorem w30_2 : Wp r30_2 75 [75] [22, 23, 24, 25, 26, 27, 28, 29, 30, 31, 32, 33, 34, 35, 36] [] [6, 7, 1] [some 22, some 23, some 24, some 25, some 26, some 27, some 28, some 29, some 30, some 31, some 32, some 33, some 34, some 35, some 36] (L30_2).1 := w_plain (by kernel_rfl) (L30_2).2
noncomputable def L30_3 : Lt r30_3 := by refine ⟨?l, ?h⟩; case h => simp only [r30_3, c30, bodyOf, Tryd.f30, Code.sub, opsOf, List.map_cons, List.map_nil, strip]; rfl
theorem w30_3 : Wp r30_3 75 [75] [37, 38, 7] [] [7] [some 37, some 38, some 7] (L30_3).1 := w_plain (by kernel_rfl) (L30_3).2
noncomputable def L30_4 : Lt r30_4 := by refine ⟨?l, ?h⟩; case h => simp only [r30_4, c30, bodyOf, Tryd.f30, Code.sub, opsOf, List.map_cons, List.map_nil, strip]; rfl
theorem w30_4 : Wp r30_4 75 [75] [8] [] [] [some 8] (L30_4).1 := w_plain (by kernel_rfl) (L30_4).2
noncomputable def L30_5 : Lt r30_5 := by refine ⟨?l, ?h⟩; case h => simp only [r30_5, c30, bodyOf, Tryd.f30, Code.sub, opsOf, List.map_cons, List.map_nil, strip]; rfl
theorem w30_5 : Wp r30_5 75 [75] [39, 40, 41, 42] [] [6] [some 39, some 40, some 41, some 42] (L30_5).1 := w_plain (by kernel_rfl) (L30_5).2
noncomputable def L30_6 : Lt r30_6 := by refine ⟨?l, ?h⟩; case h => simp only [r30_6, c30, bodyOf, Tryd.f30, Code.sub, opsOf, List.map_cons, List.map_nil, strip]; rfl
theorem w30_6 : Wp r30_6 75 [75] [43] [] [42, 41] [some 43] (L30_6).1 := w_plain (by kernel_rfl) (L30_6).2
noncomputable def L30_7 : Lt r30_7 := by refine ⟨?l, ?h⟩; case h => simp only [r30_7, c30, bodyOf, Tryd.f30, Code.sub, opsOf, List.map_cons, List.map_nil, strip]; rfl
theorem w30_7 : Wp r30_7 75 [75] [44, 45, 10] [] [40, 42] [some 44, some 45, some 10] (L30_7).1 := w_plain (by kernel_rfl) (L30_7).2
noncomputable def L30_8 : Lt r30_8 := by refine ⟨?l, ?h⟩; case h => simp only [r30_8, c30, bodyOf, Tryd.f30, Code.sub, opsOf, List.map_cons, List.map_nil, strip]; rfl
theorem w30_8 : Wp r30_8 75 [75] [46, 47, 48, 49, 50, 51, 52, 53, 11] [] [0, 10] [some 46, some 47, some 48, some 49, some 50, some 51, some 52, some 53, some 11, none] (L30_8).1 := w_plain (by kernel_rfl) (L30_8).2
noncomputable def L30_9 : Lt r30_9 := by refine ⟨?l, ?h⟩; case h => simp only [r30_9, c30, bodyOf, Tryd.f30, Code.sub, opsOf, List.map_cons, List.map_nil, strip]; rfl
theorem w30_9 : Wp r30_9 75 [75] [54, 55, 56] [] [11] [some 54, some 55, some 56] (L30_9).1 := w_plain (by kernel_rfl) (L30_9).2
theorem can30_10 : canonOps (opsOf r30_10) = List.filterMap (fun i => ((opsOf r30_10)[i]?).map (renum [0, 1, 2, 3, 4, 5, 6, 7, 8, 9, 10, 11, 12, 13, 14])) [0, 1, 2, 3, 4, 5, 6, 7, 8, 9, 10, 11, 12, 13, 14] := by kernel_rfl
noncomputable def L30_10 : Lc r30_10 := by refine ⟨?l, (congrArg (List.map strip) can30_10).trans ?h⟩; case h => simp only [r30_10, c30, bodyOf, Tryd.f30, Code.sub, opsOf, List.filterMap_cons, List.filterMap_nil, List.getElem?_cons_succ, List.getElem?_cons_zero, Option.map_some, renum, List.map_cons, List.map_nil, strip]; rfl
theorem w30_10 : Wd r30_10 75 [75] [57, 58, 59, 60, 61, 62, 63, 64, 65, 66, 67, 68, 69, 70, 8] [] [8, 0, 11, 7] [some 57, some 58, some 59, some 60, some 61, some 62, some 63, some 64, some 65, some 66, some 67, some 68, some 69, some 70, some 8] (L30_10).1 [(4, [12]), (6, [12]), (9, [12]), (11, [12])] := w_loud (by kernel_rfl) (L30_10).2
noncomputable def L30_11 : Lt r30_11 := by refine ⟨?l, ?h⟩; case h => simp only [r30_11, c30, bodyOf, Tryd.f30, Code.sub, opsOf, List.map_cons, List.map_nil, strip]; rfl
theorem w30_11 : Wp r30_11 75 [75] [71, 42] [] [42] [some 71, some 42] (L30_11).1 := w_plain (by kernel_rfl) (L30_11).2
noncomputable def L30_12 : Lt r30_12 := by refine ⟨?l, ?h⟩; case h => simp only [r30_12, c30, bodyOf, Tryd.f30, Code.sub, opsOf, List.map_cons, List.map_nil, strip]; rfl
theorem w30_12 : Wp r30_12 75 [75] [72, 73, 74] [] [8] [some 72, some 73, some 74] (L30_12).1 := w_plain (by kernel_rfl) (L30_12).2
noncomputable def L30_13 : Lt r30_13 := by refine ⟨?l, ?h⟩; case h => simp only [r30_13, c30, bodyOf, Tryd.f30, Code.sub, opsOf, List.map_cons, List.map_nil, strip]; rfl
theorem w30_13 : Wp r30_13 75 [75] [] [75] [74, 73] [some 75] (L30_13).1 := w_plain (by kernel_rfl) (L30_13).2
noncomputable def L30_14 : Lt r30_14 := by refine ⟨?l, ?h⟩; case h => simp only [r30_14, c30, bodyOf, Tryd.f30, Code.sub, opsOf, List.map_cons, List.map_nil, strip]; rfl
theorem w30_14 : Wp r30_14 75 [75] [12, 13] [] [72, 74] [some 76, some 77, some 78, some 12, some 13] (L30_14).1 := w_plain (by kernel_rfl) (L30_14).2
theorem can30_15 : canonOps (opsOf r30_15) = opsOf r30_15 := by kernel_rfl
noncomputable def L30_15 : Lc r30_15 := by refine ⟨?l, (congrArg (List.map strip) can30_15).trans ?h⟩; case h => simp only [r30_15, c30, bodyOf, Tryd.f30, Code.sub, opsOf, List.map_cons, List.map_nil, strip]; rfl
theorem w30_15 : Wd r30_15 75 [75] [] [] [0, 6, 12, 13] [some 79, some 80, some 81, some 82, some 83, some 84, some 85, some 86, some 87, some 88, some 89, none] (L30_15).1 [(3, [11]), (5, [11]), (8, [11])] := w_loud (by kernel_rfl) (L30_15).2
noncomputable def L30_16 : Lt r30_16 := by refine ⟨?l, ?h⟩; case h => simp only [r30_16, c30, bodyOf, Tryd.f30, Code.sub, opsOf, List.map_cons, List.map_nil, strip]; rfl
theorem w30_16 : Wp r30_16 75 [75] [] [] [0] [some 90, some 91, some 92, some 93, some 94, some 95, some 96, none] (L30_16).1 := w_plain (by kernel_rfl) (L30_16).2
noncomputable def L30_17 : Lt r30_17 := by refine ⟨?l, ?h⟩; case h => simp only [r30_17, c30, bodyOf, Tryd.f30, Code.sub, opsOf, List.map_cons, List.map_nil, strip]; rfl
theorem w30_17 : Wp r30_17 75 [75] [74] [] [74] [some 97, some 74] (L30_17).1 := w_plain (by kernel_rfl) (L30_17).2
theorem k30 : FnIs TT 30 c30 [] 3 := ⟨Tryd.f30, by kernel_rfl, by simp only [Tryd.f30, c30, bodyOf], by kernel_rfl, of_decide_eq_true (by kernel_rfl)⟩
noncomputable def c37 : Code := bodyOf Tryd.f37
noncomputable def r37_0 : Code := Code.sub [0] c37
noncomputable def r37_1 : Code := Code.sub [1, 0, 0] c37
noncomputable def r37_2 : Code := Code.sub [1, 0, 1, 0, 0] c37
noncomputable def r37_3 : Code := Code.sub [1, 1, 0] c37
noncomputable def r37_4 : Code := Code.sub [1, 1, 1, 0] c37
noncomputable def r37_5 : Code := Code.sub [1, 1, 1, 1, 0] c37
noncomputable def r37_6 : Code := Code.sub [1, 1, 1, 1, 1, 0] c37
theorem body37 : c37 = (.seq r37_0 (.seq (.seq r37_1 (.cond (.tmp 36) (.seq r37_2 .ret) .skip)) (.seq r37_3 (.seq r37_4 (.seq r37_5 (.seq r37_6 .ret)))))) := by kernel_rfl
noncomputable def L37_0 : Lt r37_0 := by refine ⟨?l, ?h⟩; case h => simp only [r37_0, c37, bodyOf, Tryd.f37, Code.sub, opsOf, List.map_cons, List.map_nil, strip]; rfl
theorem w37_0 : Wp r37_0 9 [36] [6, 7] [] [] [some 6, some 7] (L37_0).1 := w_plain (by kernel_rfl) (L37_0).2
noncomputable def L37_1 : Lt r37_1 := by refine ⟨?l, ?h⟩; case h => simp only [r37_1, c37, bodyOf, Tryd.f37, Code.sub, opsOf, List.map_cons, List.map_nil, strip]; rfl
theorem w37_1 : Wp r37_1 9 [36] [] [36] [1, 2, 0] [some 9, some 10, some 11, some 12, some 13, some 14, some 15, some 16, some 17, some 18, some 19, some 20, some 21, some 22, some 23, some 24, some 25, some 26, some 27, some 28, some 29, some 30, some 31, some 32, some 33, some 34, some 35, some 36] (L37_1).1 := w_plain (by kernel_rfl) (L37_1).2
noncomputable def L37_2 : Lt r37_2 := by refine ⟨?l, ?h⟩; case h => simp only [r37_2, c37, bodyOf, Tryd.f37, Code.sub, opsOf, List.map_cons, List.map_nil, strip]; rfl
theorem w37_2 : Wp r37_2 9 [36] [6, 7] [] [] [some 6, some 7] (L37_2).1 := w_plain (by kernel_rfl) (L37_2).2
noncomputable def L37_3 : Lt r37_3 := by refine ⟨?l, ?h⟩; case h => simp only [r37_3, c37, bodyOf, Tryd.f37, Code.sub, opsOf, List.map_cons, List.map_nil, strip]; rfl
theorem w37_3 : Wp r37_3 9 [36] [8] [] [0] [some 37, some 38, some 39, some 40, some 41, some 42, some 8] (L37_3).1 := w_plain (by kernel_rfl) (L37_3).2
noncomputable def L37_4 : Lt r37_4 := by refine ⟨?l, ?h⟩; case h => simp only [r37_4, c37, bodyOf, Tryd.f37, Code.sub, opsOf, List.map_cons, List.map_nil, strip]; rfl
theorem w37_4 : Wp r37_4 9 [36] [] [] [0, 1, 2] [some 43, some 44, some 45, some 46, some 47, some 48, some 49, some 50, some 51, some 52, some 53, some 54, some 55, some 56, some 57, none] (L37_4).1 := w_plain (by kernel_rfl) (L37_4).2
noncomputable def L37_5 : Lt r37_5 := by refine ⟨?l, ?h⟩; case h => simp only [r37_5, c37, bodyOf, Tryd.f37, Code.sub, opsOf, List.map_cons, List.map_nil, strip]; rfl
theorem w37_5 : Wp r37_5 9 [36] [] [] [0, 2] [some 58, some 59, some 60, some 61, some 62, some 63, some 64, some 65, some 66, none] (L37_5).1 := w_plain (by kernel_rfl) (L37_5).2
noncomputable def L37_6 : Lt r37_6 := by refine ⟨?l, ?h⟩; case h => simp only [r37_6, c37, bodyOf, Tryd.f37, Code.sub, opsOf, List.map_cons, List.map_nil, strip]; rfl
theorem w37_6 : Wp r37_6 9 [36] [6, 7] [] [8] [some 67, some 6, some 7] (L37_6).1 := w_plain (by kernel_rfl) (L37_6).2
theorem k37 : FnIs TT 37 c37 [.tmp 6, .tmp 7] 3 := ⟨Tryd.f37, by kernel_rfl, by simp only [Tryd.f37, c37, bodyOf], by kernel_rfl, of_decide_eq_true (by kernel_rfl)⟩
noncomputable def c38 : Code := bodyOf Tryd.f38
noncomputable def r38_0 : Code := Code.sub [0] c38
noncomputable def r38_1 : Code := Code.sub [1, 0, 0] c38
noncomputable def r38_2 : Code := Code.sub [1, 0, 1, 0, 0] c38
noncomputable def r38_3 : Code := Code.sub [1, 1, 0] c38
noncomputable def r38_4 : Code := Code.sub [1, 1, 1, 0] c38
theorem body38 : c38 = (.seq r38_0 (.seq (.seq r38_1 (.cond (.tmp 18) (.seq r38_2 .ret) .skip)) (.seq r38_3 (.seq r38_4 .ret)))) := by kernel_rfl
noncomputable def L38_0 : Lt r38_0 := by refine ⟨?l, ?h⟩; case h => simp only [r38_0, c38, bodyOf, Tryd.f38, Code.sub, opsOf, List.map_cons, List.map_nil, strip]; rfl
theorem w38_0 : Wp r38_0 7 [18] [6] [] [] [some 6] (L38_0).1 := w_plain (by kernel_rfl) (L38_0).2
noncomputable def L38_1 : Lt r38_1 := by refine ⟨?l, ?h⟩; case h => simp only [r38_1, c38, bodyOf, Tryd.f38, Code.sub, opsOf, List.map_cons, List.map_nil, strip]; rfl
theorem w38_1 : Wp r38_1 7 [18] [] [18] [1, 0] [some 7, some 8, some 9, some 10, some 11, some 12, some 13, some 14, some 15, some 16, some 17, some 18] (L38_1).1 := w_plain (by kernel_rfl) (L38_1).2
noncomputable def L38_2 : Lt r38_2 := by refine ⟨?l, ?h⟩; case h => simp only [r38_2, c38, bodyOf, Tryd.f38, Code.sub, opsOf, List.map_cons, List.map_nil, strip]; rfl
theorem w38_2 : Wp r38_2 7 [18] [6] [] [] [some 6] (L38_2).1 := w_plain (by kernel_rfl) (L38_2).2
noncomputable def L38_3 : Lt r38_3 := by refine ⟨?l, ?h⟩; case h => simp only [r38_3, c38, bodyOf, Tryd.f38, Code.sub, opsOf, List.map_cons, List.map_nil, strip]; rfl
theorem w38_3 : Wp r38_3 7 [18] [] [] [0, 1, 2] [some 19, some 20, some 21, some 22, some 23, some 24, some 25, none] (L38_3).1 := w_plain (by kernel_rfl) (L38_3).2
noncomputable def L38_4 : Lt r38_4 := by refine ⟨?l, ?h⟩; case h => simp only [r38_4, c38, bodyOf, Tryd.f38, Code.sub, opsOf, List.map_cons, List.map_nil, strip]; rfl
theorem w38_4 : Wp r38_4 7 [18] [6] [] [] [some 6] (L38_4).1 := w_plain (by kernel_rfl) (L38_4).2
theorem k38 : FnIs TT 38 c38 [.tmp 6] 3 := ⟨Tryd.f38, by kernel_rfl, by simp only [Tryd.f38, c38, bodyOf], by kernel_rfl, of_decide_eq_true (by kernel_rfl)⟩
noncomputable def c44 : Code := bodyOf Tryd.f44
noncomputable def r44_0 : Code := Code.sub [0] c44
noncomputable def r44_1 : Code := Code.sub [1, 0] c44
noncomputable def r44_2 : Code := Code.sub [1, 1, 0] c44
noncomputable def r44_3 : Code := Code.sub [1, 1, 1, 0, 0] c44
noncomputable def r44_4 : Code := Code.sub [1, 1, 1, 0, 1, 0, 0] c44
noncomputable def r44_5 : Code := Code.sub [1, 1, 1, 0, 1, 0, 1, 0, 0] c44
noncomputable def r44_6 : Code := Code.sub [1, 1, 1, 0, 1, 0, 1, 1, 0] c44
noncomputable def r44_7 : Code := Code.sub [1, 1, 1, 0, 1, 0, 1, 1, 1, 0, 0] c44
noncomputable def r44_8 : Code := Code.sub [1, 1, 1, 0, 1, 0, 1, 1, 1, 1, 0] c44
noncomputable def r44_9 : Code := Code.sub [1, 1, 1, 0, 1, 0, 1, 1, 1, 1, 1, 0, 0] c44
noncomputable def r44_10 : Code := Code.sub [1, 1, 1, 0, 1, 0, 1, 1, 1, 1, 1, 1, 0] c44
noncomputable def r44_11 : Code := Code.sub [1, 1, 1, 0, 1, 0, 1, 1, 1, 1, 1, 1, 1, 0, 0, 0] c44
noncomputable def r44_12 : Code := Code.sub [1, 1, 1, 0, 1, 0, 1, 1, 1, 1, 1, 1, 1, 0, 0, 1, 0, 0] c44
noncomputable def r44_13 : Code := Code.sub [1, 1, 1, 0, 1, 0, 1, 1, 1, 1, 1, 1, 1, 0, 1, 0, 0] c44
noncomputable def r44_14 : Code := Code.sub [1, 1, 1, 0, 1, 0, 1, 1, 1, 1, 1, 1, 1, 0, 1, 0, 1, 0, 0] c44
noncomputable def r44_15 : Code := Code.sub [1, 1, 1, 0, 1, 0, 1, 1, 1, 1, 1, 1, 1, 0, 1, 1, 0] c44
noncomputable def r44_16 : Code := Code.sub [1, 1, 1, 0, 1, 0, 1, 1, 1, 1, 1, 1, 1, 1, 0] c44
noncomputable def r44_17 : Code := Code.sub [1, 1, 1, 0, 1, 0, 1, 1, 1, 1, 1, 1, 1, 1, 1, 0, 0, 0] c44
noncomputable def r44_18 : Code := Code.sub [1, 1, 1, 0, 1, 0, 1, 1, 1, 1, 1, 1, 1, 1, 1, 0, 0, 1, 0, 0] c44
noncomputable def r44_19 : Code := Code.sub [1, 1, 1, 0, 1, 0, 1, 1, 1, 1, 1, 1, 1, 1, 1, 0, 1, 0] c44
noncomputable def r44_20 : Code := Code.sub [1, 1, 1, 0, 1, 0, 1, 1, 1, 1, 1, 1, 1, 1, 1, 1, 0] c44
noncomputable def r44_21 : Code := Code.sub [1, 1, 1, 0, 1, 0, 1, 1, 1, 1, 1, 1, 1, 1, 1, 1, 1, 0, 0] c44
noncomputable def r44_22 : Code := Code.sub [1, 1, 1, 0, 1, 0, 1, 1, 1, 1, 1, 1, 1, 1, 1, 1, 1, 1, 0] c44
noncomputable def r44_23 : Code := Code.sub [1, 1, 1, 0, 1, 0, 1, 1, 1, 1, 1, 1, 1, 1, 1, 1, 1, 1, 1, 0, 0] c44
noncomputable def r44_24 : Code := Code.sub [1, 1, 1, 0, 1, 0, 1, 1, 1, 1, 1, 1, 1, 1, 1, 1, 1, 1, 1, 1, 0] c44
noncomputable def r44_25 : Code := Code.sub [1, 1, 1, 0, 1, 0, 1, 1, 1, 1, 1, 1, 1, 1, 1, 1, 1, 1, 1, 1, 1, 0, 0] c44
noncomputable def r44_26 : Code := Code.sub [1, 1, 1, 0, 1, 0, 1, 1, 1, 1, 1, 1, 1, 1, 1, 1, 1, 1, 1, 1, 1, 1, 0] c44
noncomputable def r44_27 : Code := Code.sub [1, 1, 1, 0, 1, 0, 1, 1, 1, 1, 1, 1, 1, 1, 1, 1, 1, 1, 1, 1, 1, 1, 1, 0, 0] c44
noncomputable def r44_28 : Code := Code.sub [1, 1, 1, 0, 1, 0, 1, 1, 1, 1, 1, 1, 1, 1, 1, 1, 1, 1, 1, 1, 1, 1, 1, 1, 0] c44
noncomputable def r44_29 : Code := Code.sub [1, 1, 1, 0, 1, 0, 1, 1, 1, 1, 1, 1, 1, 1, 1, 1, 1, 1, 1, 1, 1, 1, 1, 1, 1, 0, 0] c44
noncomputable def r44_30 : Code := Code.sub [1, 1, 1, 0, 1, 0, 1, 1, 1, 1, 1, 1, 1, 1, 1, 1, 1, 1, 1, 1, 1, 1, 1, 1, 1, 1, 0] c44
noncomputable def r44_31 : Code := Code.sub [1, 1, 1, 0, 1, 0, 1, 1, 1, 1, 1, 1, 1, 1, 1, 1, 1, 1, 1, 1, 1, 1, 1, 1, 1, 1, 1, 0, 0] c44
noncomputable def r44_32 : Code := Code.sub [1, 1, 1, 0, 1, 0, 1, 1, 1, 1, 1, 1, 1, 1, 1, 1, 1, 1, 1, 1, 1, 1, 1, 1, 1, 1, 1, 1, 0] c44
noncomputable def r44_33 : Code := Code.sub [1, 1, 1, 0, 1, 0, 1, 1, 1, 1, 1, 1, 1, 1, 1, 1, 1, 1, 1, 1, 1, 1, 1, 1, 1, 1, 1, 1, 1, 0, 0] c44
noncomputable def r44_34 : Code := Code.sub [1, 1, 1, 1, 0] c44
theorem body44 : c44 = (.seq r44_0 (.seq r44_1 (.seq r44_2 (.seq (.seq r44_3 (.block 0 (.seq r44_4 (.cond (.tmp 15) (.seq r44_5 .ret) (.seq r44_6 (.cond (.tmp 20) (.seq r44_7 .ret) (.seq r44_8 (.cond (.tmp 25) (.seq r44_9 .ret) (.seq r44_10 (.cond (.tmp 30) (.seq (.seq r44_11 (.cond (.tmp 33) (.seq r44_12 .ret) .skip)) (.seq (.seq r44_13 (.cond (.tmp 35) (.seq r44_14 .ret) .skip)) (.seq r44_15 .ret))) (.seq r44_16 (.cond (.tmp 42) (.seq (.seq r44_17 (.cond (.tmp 49) (.seq r44_18 .ret) .skip)) (.seq r44_19 .ret)) (.seq r44_20 (.cond (.tmp 54) (.seq r44_21 .ret) (.seq r44_22 (.cond (.tmp 58) (.seq r44_23 .ret) (.seq r44_24 (.cond (.tmp 63) (.seq r44_25 .ret) (.seq r44_26 (.cond (.tmp 69) (.seq r44_27 .ret) (.seq r44_28 (.cond (.tmp 75) (.seq r44_29 .ret) (.seq r44_30 (.cond (.tmp 81) (.seq r44_31 .ret) (.seq r44_32 (.cond (.tmp 87) (.seq r44_33 .ret) .skip)))))))))))))))))))))))))) (.seq r44_34 .ret))))) := by kernel_rfl
noncomputable def L44_0 : Lt r44_0 := by refine ⟨?l, ?h⟩; case h => simp only [r44_0, c44, bodyOf, Tryd.f44, Code.sub, opsOf, List.map_cons, List.map_nil, strip]; rfl
theorem w44_0 : Wp r44_0 15 [15, 20, 25, 30, 33, 35, 42, 49, 54, 58, 63, 69, 75, 81, 87] [6, 7] [] [] [some 6, some 7] (L44_0).1 := w_plain (by kernel_rfl) (L44_0).2
noncomputable def L44_1 : Lt r44_1 := by refine ⟨?l, ?h⟩; case h => simp only [r44_1, c44, bodyOf, Tryd.f44, Code.sub, opsOf, List.map_cons, List.map_nil, strip]; rfl
theorem w44_1 : Wp r44_1 15 [15, 20, 25, 30, 33, 35, 42, 49, 54, 58, 63, 69, 75, 81, 87] [10, 11, 8] [] [1] [some 10, some 11, some 8] (L44_1).1 := w_plain (by kernel_rfl) (L44_1).2
noncomputable def L44_2 : Lt r44_2 := by refine ⟨?l, ?h⟩; case h => simp only [r44_2, c44, bodyOf, Tryd.f44, Code.sub, opsOf, List.map_cons, List.map_nil, strip]; rfl
theorem w44_2 : Wp r44_2 15 [15, 20, 25, 30, 33, 35, 42, 49, 54, 58, 63, 69, 75, 81, 87] [12, 13, 9] [] [2] [some 12, some 13, some 9] (L44_2).1 := w_plain (by kernel_rfl) (L44_2).2
noncomputable def L44_3 : Lt r44_3 := by refine ⟨?l, ?h⟩; case h => simp only [r44_3, c44, bodyOf, Tryd.f44, Code.sub, opsOf, List.map_cons, List.map_nil, strip]; rfl
theorem w44_3 : Wp r44_3 15 [15, 20, 25, 30, 33, 35, 42, 49, 54, 58, 63, 69, 75, 81, 87] [14] [] [0] [some 14] (L44_3).1 := w_plain (by kernel_rfl) (L44_3).2
noncomputable def L44_4 : Lt r44_4 := by refine ⟨?l, ?h⟩; case h => simp only [r44_4, c44, bodyOf, Tryd.f44, Code.sub, opsOf, List.map_cons, List.map_nil, strip]; rfl
theorem w44_4 : Wp r44_4 15 [15, 20, 25, 30, 33, 35, 42, 49, 54, 58, 63, 69, 75, 81, 87] [] [15] [14] [some 16, some 15] (L44_4).1 := w_plain (by kernel_rfl) (L44_4).2
noncomputable def L44_5 : Lt r44_5 := by refine ⟨?l, ?h⟩; case h => simp only [r44_5, c44, bodyOf, Tryd.f44, Code.sub, opsOf, List.map_cons, List.map_nil, strip]; rfl
theorem w44_5 : Wp r44_5 15 [15, 20, 25, 30, 33, 35, 42, 49, 54, 58, 63, 69, 75, 81, 87] [6, 7] [] [1, 2] [some 17, some 18, some 19, some 6, some 7] (L44_5).1 := w_plain (by kernel_rfl) (L44_5).2
noncomputable def L44_6 : Lt r44_6 := by refine ⟨?l, ?h⟩; case h => simp only [r44_6, c44, bodyOf, Tryd.f44, Code.sub, opsOf, List.map_cons, List.map_nil, strip]; rfl
theorem w44_6 : Wp r44_6 15 [15, 20, 25, 30, 33, 35, 42, 49, 54, 58, 63, 69, 75, 81, 87] [] [20] [14] [some 21, some 20] (L44_6).1 := w_plain (by kernel_rfl) (L44_6).2
noncomputable def L44_7 : Lt r44_7 := by refine ⟨?l, ?h⟩; case h => simp only [r44_7, c44, bodyOf, Tryd.f44, Code.sub, opsOf, List.map_cons, List.map_nil, strip]; rfl
theorem w44_7 : Wp r44_7 15 [15, 20, 25, 30, 33, 35, 42, 49, 54, 58, 63, 69, 75, 81, 87] [6, 7] [] [1, 2] [some 22, some 23, some 24, some 6, some 7] (L44_7).1 := w_plain (by kernel_rfl) (L44_7).2
noncomputable def L44_8 : Lt r44_8 := by refine ⟨?l, ?h⟩; case h => simp only [r44_8, c44, bodyOf, Tryd.f44, Code.sub, opsOf, List.map_cons, List.map_nil, strip]; rfl
theorem w44_8 : Wp r44_8 15 [15, 20, 25, 30, 33, 35, 42, 49, 54, 58, 63, 69, 75, 81, 87] [] [25] [14] [some 26, some 25] (L44_8).1 := w_plain (by kernel_rfl) (L44_8).2
noncomputable def L44_9 : Lt r44_9 := by refine ⟨?l, ?h⟩; case h => simp only [r44_9, c44, bodyOf, Tryd.f44, Code.sub, opsOf, List.map_cons, List.map_nil, strip]; rfl
theorem w44_9 : Wp r44_9 15 [15, 20, 25, 30, 33, 35, 42, 49, 54, 58, 63, 69, 75, 81, 87] [6, 7] [] [1, 2] [some 27, some 28, some 29, some 6, some 7] (L44_9).1 := w_plain (by kernel_rfl) (L44_9).2
noncomputable def L44_10 : Lt r44_10 := by refine ⟨?l, ?h⟩; case h => simp only [r44_10, c44, bodyOf, Tryd.f44, Code.sub, opsOf, List.map_cons, List.map_nil, strip]; rfl
theorem w44_10 : Wp r44_10 15 [15, 20, 25, 30, 33, 35, 42, 49, 54, 58, 63, 69, 75, 81, 87] [] [30] [14] [some 31, some 30] (L44_10).1 := w_plain (by kernel_rfl) (L44_10).2
noncomputable def L44_11 : Lt r44_11 := by refine ⟨?l, ?h⟩; case h => simp only [r44_11, c44, bodyOf, Tryd.f44, Code.sub, opsOf, List.map_cons, List.map_nil, strip]; rfl
theorem w44_11 : Wp r44_11 15 [15, 20, 25, 30, 33, 35, 42, 49, 54, 58, 63, 69, 75, 81, 87] [] [33] [9] [some 32, some 33] (L44_11).1 := w_plain (by kernel_rfl) (L44_11).2
noncomputable def L44_12 : Lt r44_12 := by refine ⟨?l, ?h⟩; case h => simp only [r44_12, c44, bodyOf, Tryd.f44, Code.sub, opsOf, List.map_cons, List.map_nil, strip]; rfl
theorem w44_12 : Wp r44_12 15 [15, 20, 25, 30, 33, 35, 42, 49, 54, 58, 63, 69, 75, 81, 87] [6, 7] [] [] [some 6, some 7] (L44_12).1 := w_plain (by kernel_rfl) (L44_12).2
noncomputable def L44_13 : Lt r44_13 := by refine ⟨?l, ?h⟩; case h => simp only [r44_13, c44, bodyOf, Tryd.f44, Code.sub, opsOf, List.map_cons, List.map_nil, strip]; rfl
theorem w44_13 : Wp r44_13 15 [15, 20, 25, 30, 33, 35, 42, 49, 54, 58, 63, 69, 75, 81, 87] [] [35] [9] [some 34, some 35] (L44_13).1 := w_plain (by kernel_rfl) (L44_13).2
noncomputable def L44_14 : Lt r44_14 := by refine ⟨?l, ?h⟩; case h => simp only [r44_14, c44, bodyOf, Tryd.f44, Code.sub, opsOf, List.map_cons, List.map_nil, strip]; rfl
theorem w44_14 : Wp r44_14 15 [15, 20, 25, 30, 33, 35, 42, 49, 54, 58, 63, 69, 75, 81, 87] [6, 7] [] [1] [some 36, some 37, some 6, some 7] (L44_14).1 := w_plain (by kernel_rfl) (L44_14).2
noncomputable def L44_15 : Lt r44_15 := by refine ⟨?l, ?h⟩; case h => simp only [r44_15, c44, bodyOf, Tryd.f44, Code.sub, opsOf, List.map_cons, List.map_nil, strip]; rfl
theorem w44_15 : Wp r44_15 15 [15, 20, 25, 30, 33, 35, 42, 49, 54, 58, 63, 69, 75, 81, 87] [6, 7] [] [8, 9] [some 38, some 39, some 40, some 41, some 6, some 7] (L44_15).1 := w_plain (by kernel_rfl) (L44_15).2
noncomputable def L44_16 : Lt r44_16 := by refine ⟨?l, ?h⟩; case h => simp only [r44_16, c44, bodyOf, Tryd.f44, Code.sub, opsOf, List.map_cons, List.map_nil, strip]; rfl
theorem w44_16 : Wp r44_16 15 [15, 20, 25, 30, 33, 35, 42, 49, 54, 58, 63, 69, 75, 81, 87] [] [42] [14] [some 43, some 42] (L44_16).1 := w_plain (by kernel_rfl) (L44_16).2
noncomputable def L44_17 : Lt r44_17 := by refine ⟨?l, ?h⟩; case h => simp only [r44_17, c44, bodyOf, Tryd.f44, Code.sub, opsOf, List.map_cons, List.map_nil, strip]; rfl
theorem w44_17 : Wp r44_17 15 [15, 20, 25, 30, 33, 35, 42, 49, 54, 58, 63, 69, 75, 81, 87] [] [49] [9] [some 44, some 45, some 46, some 47, some 48, some 49] (L44_17).1 := w_plain (by kernel_rfl) (L44_17).2
noncomputable def L44_18 : Lt r44_18 := by refine ⟨?l, ?h⟩; case h => simp only [r44_18, c44, bodyOf, Tryd.f44, Code.sub, opsOf, List.map_cons, List.map_nil, strip]; rfl
theorem w44_18 : Wp r44_18 15 [15, 20, 25, 30, 33, 35, 42, 49, 54, 58, 63, 69, 75, 81, 87] [6, 7] [] [] [some 6, some 7] (L44_18).1 := w_plain (by kernel_rfl) (L44_18).2
noncomputable def L44_19 : Lt r44_19 := by refine ⟨?l, ?h⟩; case h => simp only [r44_19, c44, bodyOf, Tryd.f44, Code.sub, opsOf, List.map_cons, List.map_nil, strip]; rfl
theorem w44_19 : Wp r44_19 15 [15, 20, 25, 30, 33, 35, 42, 49, 54, 58, 63, 69, 75, 81, 87] [6, 7] [] [8, 9] [some 50, some 51, some 52, some 53, some 6, some 7] (L44_19).1 := w_plain (by kernel_rfl) (L44_19).2
noncomputable def L44_20 : Lt r44_20 := by refine ⟨?l, ?h⟩; case h => simp only [r44_20, c44, bodyOf, Tryd.f44, Code.sub, opsOf, List.map_cons, List.map_nil, strip]; rfl
theorem w44_20 : Wp r44_20 15 [15, 20, 25, 30, 33, 35, 42, 49, 54, 58, 63, 69, 75, 81, 87] [] [54] [14] [some 55, some 54] (L44_20).1 := w_plain (by kernel_rfl) (L44_20).2
noncomputable def L44_21 : Lt r44_21 := by refine ⟨?l, ?h⟩; case h => simp only [r44_21, c44, bodyOf, Tryd.f44, Code.sub, opsOf, List.map_cons, List.map_nil, strip]; rfl
theorem w44_21 : Wp r44_21 15 [15, 20, 25, 30, 33, 35, 42, 49, 54, 58, 63, 69, 75, 81, 87] [6, 7] [] [1] [some 56, some 57, some 6, some 7] (L44_21).1 := w_plain (by kernel_rfl) (L44_21).2
noncomputable def L44_22 : Lt r44_22 := by refine ⟨?l, ?h⟩; case h => simp only [r44_22, c44, bodyOf, Tryd.f44, Code.sub, opsOf, List.map_cons, List.map_nil, strip]; rfl
theorem w44_22 : Wp r44_22 15 [15, 20, 25, 30, 33, 35, 42, 49, 54, 58, 63, 69, 75, 81, 87] [] [58] [14] [some 59, some 58] (L44_22).1 := w_plain (by kernel_rfl) (L44_22).2
noncomputable def L44_23 : Lt r44_23 := by refine ⟨?l, ?h⟩; case h => simp only [r44_23, c44, bodyOf, Tryd.f44, Code.sub, opsOf, List.map_cons, List.map_nil, strip]; rfl
theorem w44_23 : Wp r44_23 15 [15, 20, 25, 30, 33, 35, 42, 49, 54, 58, 63, 69, 75, 81, 87] [6, 7] [] [1] [some 60, some 61, some 62, some 6, some 7] (L44_23).1 := w_plain (by kernel_rfl) (L44_23).2
noncomputable def L44_24 : Lt r44_24 := by refine ⟨?l, ?h⟩; case h => simp only [r44_24, c44, bodyOf, Tryd.f44, Code.sub, opsOf, List.map_cons, List.map_nil, strip]; rfl
theorem w44_24 : Wp r44_24 15 [15, 20, 25, 30, 33, 35, 42, 49, 54, 58, 63, 69, 75, 81, 87] [] [63] [14] [some 64, some 63] (L44_24).1 := w_plain (by kernel_rfl) (L44_24).2
noncomputable def L44_25 : Lt r44_25 := by refine ⟨?l, ?h⟩; case h => simp only [r44_25, c44, bodyOf, Tryd.f44, Code.sub, opsOf, List.map_cons, List.map_nil, strip]; rfl
theorem w44_25 : Wp r44_25 15 [15, 20, 25, 30, 33, 35, 42, 49, 54, 58, 63, 69, 75, 81, 87] [6, 7] [] [1, 2] [some 65, some 66, some 67, some 68, some 6, some 7] (L44_25).1 := w_plain (by kernel_rfl) (L44_25).2
noncomputable def L44_26 : Lt r44_26 := by refine ⟨?l, ?h⟩; case h => simp only [r44_26, c44, bodyOf, Tryd.f44, Code.sub, opsOf, List.map_cons, List.map_nil, strip]; rfl
theorem w44_26 : Wp r44_26 15 [15, 20, 25, 30, 33, 35, 42, 49, 54, 58, 63, 69, 75, 81, 87] [] [69] [14] [some 70, some 69] (L44_26).1 := w_plain (by kernel_rfl) (L44_26).2
noncomputable def L44_27 : Lt r44_27 := by refine ⟨?l, ?h⟩; case h => simp only [r44_27, c44, bodyOf, Tryd.f44, Code.sub, opsOf, List.map_cons, List.map_nil, strip]; rfl
theorem w44_27 : Wp r44_27 15 [15, 20, 25, 30, 33, 35, 42, 49, 54, 58, 63, 69, 75, 81, 87] [6, 7] [] [1, 2] [some 71, some 72, some 73, some 74, some 6, some 7] (L44_27).1 := w_plain (by kernel_rfl) (L44_27).2
noncomputable def L44_28 : Lt r44_28 := by refine ⟨?l, ?h⟩; case h => simp only [r44_28, c44, bodyOf, Tryd.f44, Code.sub, opsOf, List.map_cons, List.map_nil, strip]; rfl
theorem w44_28 : Wp r44_28 15 [15, 20, 25, 30, 33, 35, 42, 49, 54, 58, 63, 69, 75, 81, 87] [] [75] [14] [some 76, some 75] (L44_28).1 := w_plain (by kernel_rfl) (L44_28).2
noncomputable def L44_29 : Lt r44_29 := by refine ⟨?l, ?h⟩; case h => simp only [r44_29, c44, bodyOf, Tryd.f44, Code.sub, opsOf, List.map_cons, List.map_nil, strip]; rfl
theorem w44_29 : Wp r44_29 15 [15, 20, 25, 30, 33, 35, 42, 49, 54, 58, 63, 69, 75, 81, 87] [6, 7] [] [8, 9] [some 77, some 78, some 79, some 80, some 6, some 7] (L44_29).1 := w_plain (by kernel_rfl) (L44_29).2
noncomputable def L44_30 : Lt r44_30 := by refine ⟨?l, ?h⟩; case h => simp only [r44_30, c44, bodyOf, Tryd.f44, Code.sub, opsOf, List.map_cons, List.map_nil, strip]; rfl
theorem w44_30 : Wp r44_30 15 [15, 20, 25, 30, 33, 35, 42, 49, 54, 58, 63, 69, 75, 81, 87] [] [81] [14] [some 82, some 81] (L44_30).1 := w_plain (by kernel_rfl) (L44_30).2
noncomputable def L44_31 : Lt r44_31 := by refine ⟨?l, ?h⟩; case h => simp only [r44_31, c44, bodyOf, Tryd.f44, Code.sub, opsOf, List.map_cons, List.map_nil, strip]; rfl
theorem w44_31 : Wp r44_31 15 [15, 20, 25, 30, 33, 35, 42, 49, 54, 58, 63, 69, 75, 81, 87] [6, 7] [] [8, 9] [some 83, some 84, some 85, some 86, some 6, some 7] (L44_31).1 := w_plain (by kernel_rfl) (L44_31).2
noncomputable def L44_32 : Lt r44_32 := by refine ⟨?l, ?h⟩; case h => simp only [r44_32, c44, bodyOf, Tryd.f44, Code.sub, opsOf, List.map_cons, List.map_nil, strip]; rfl
theorem w44_32 : Wp r44_32 15 [15, 20, 25, 30, 33, 35, 42, 49, 54, 58, 63, 69, 75, 81, 87] [] [87] [14] [some 88, some 87] (L44_32).1 := w_plain (by kernel_rfl) (L44_32).2
noncomputable def L44_33 : Lt r44_33 := by refine ⟨?l, ?h⟩; case h => simp only [r44_33, c44, bodyOf, Tryd.f44, Code.sub, opsOf, List.map_cons, List.map_nil, strip]; rfl
theorem w44_33 : Wp r44_33 15 [15, 20, 25, 30, 33, 35, 42, 49, 54, 58, 63, 69, 75, 81, 87] [6, 7] [] [1, 2] [some 89, some 90, some 91, some 92, some 6, some 7] (L44_33).1 := w_plain (by kernel_rfl) (L44_33).2
noncomputable def L44_34 : Lt r44_34 := by refine ⟨?l, ?h⟩; case h => simp only [r44_34, c44, bodyOf, Tryd.f44, Code.sub, opsOf, List.map_cons, List.map_nil, strip]; rfl
theorem w44_34 : Wp r44_34 15 [15, 20, 25, 30, 33, 35, 42, 49, 54, 58, 63, 69, 75, 81, 87] [6, 7] [] [] [some 6, some 7] (L44_34).1 := w_plain (by kernel_rfl) (L44_34).2
theorem k44 : FnIs TT 44 c44 [.tmp 6, .tmp 7] 3 := ⟨Tryd.f44, by kernel_rfl, by simp only [Tryd.f44, c44, bodyOf], by kernel_rfl, of_decide_eq_true (by kernel_rfl)⟩
noncomputable def c46 : Code := bodyOf Tryd.f46
noncomputable def r46_0 : Code := Code.sub [0] c46
noncomputable def r46_1 : Code := Code.sub [1, 0, 0] c46
noncomputable def r46_2 : Code := Code.sub [1, 0, 1, 0, 0, 0, 0] c46
noncomputable def r46_3 : Code := Code.sub [1, 0, 1, 0, 0, 1, 0, 0, 0] c46
noncomputable def r46_4 : Code := Code.sub [1, 0, 1, 0, 0, 1, 0, 0, 1, 0, 0] c46
noncomputable def r46_5 : Code := Code.sub [1, 0, 1, 0, 0, 1, 1] c46
noncomputable def r46_6 : Code := Code.sub [1, 1, 0] c46
theorem body46 : c46 = (.seq r46_0 (.seq (.seq r46_1 (.block 0 (.loop (.seq (.seq r46_2 (.cond (.tmp 10) .skip (.exit 0))) (.seq (.block 1 (.seq r46_3 (.cond (.tmp 16) (.seq r46_4 .ret) .skip))) r46_5))))) (.seq r46_6 .ret))) := by kernel_rfl
noncomputable def L46_0 : Lt r46_0 := by refine ⟨?l, ?h⟩; case h => simp only [r46_0, c46, bodyOf, Tryd.f46, Code.sub, opsOf, List.map_cons, List.map_nil, strip]; rfl
theorem w46_0 : Wp r46_0 8 [10, 16] [6] [] [] [some 6] (L46_0).1 := w_plain (by kernel_rfl) (L46_0).2
noncomputable def L46_1 : Lt r46_1 := by refine ⟨?l, ?h⟩; case h => simp only [r46_1, c46, bodyOf, Tryd.f46, Code.sub, opsOf, List.map_cons, List.map_nil, strip]; rfl
theorem w46_1 : Wp r46_1 8 [10, 16] [7] [] [] [some 7] (L46_1).1 := w_plain (by kernel_rfl) (L46_1).2
noncomputable def L46_2 : Lt r46_2 := by refine ⟨?l, ?h⟩; case h => simp only [r46_2, c46, bodyOf, Tryd.f46, Code.sub, opsOf, List.map_cons, List.map_nil, strip]; rfl
theorem w46_2 : Wp r46_2 8 [10, 16] [] [10] [7, 1] [some 8, some 9, some 10] (L46_2).1 := w_plain (by kernel_rfl) (L46_2).2
noncomputable def L46_3 : Lt r46_3 := by refine ⟨?l, ?h⟩; case h => simp only [r46_3, c46, bodyOf, Tryd.f46, Code.sub, opsOf, List.map_cons, List.map_nil, strip]; rfl
theorem w46_3 : Wp r46_3 8 [10, 16] [] [16] [2, 7] [some 13, some 14, some 15, some 16] (L46_3).1 := w_plain (by kernel_rfl) (L46_3).2
noncomputable def L46_4 : Lt r46_4 := by refine ⟨?l, ?h⟩; case h => simp only [r46_4, c46, bodyOf, Tryd.f46, Code.sub, opsOf, List.map_cons, List.map_nil, strip]; rfl
theorem w46_4 : Wp r46_4 8 [10, 16] [6] [] [] [some 6] (L46_4).1 := w_plain (by kernel_rfl) (L46_4).2
noncomputable def L46_5 : Lt r46_5 := by refine ⟨?l, ?h⟩; case h => simp only [r46_5, c46, bodyOf, Tryd.f46, Code.sub, opsOf, List.map_cons, List.map_nil, strip]; rfl
theorem w46_5 : Wp r46_5 8 [10, 16] [7] [] [7] [some 11, some 12, some 7] (L46_5).1 := w_plain (by kernel_rfl) (L46_5).2
noncomputable def L46_6 : Lt r46_6 := by refine ⟨?l, ?h⟩; case h => simp only [r46_6, c46, bodyOf, Tryd.f46, Code.sub, opsOf, List.map_cons, List.map_nil, strip]; rfl
theorem w46_6 : Wp r46_6 8 [10, 16] [6] [] [] [some 6] (L46_6).1 := w_plain (by kernel_rfl) (L46_6).2
theorem k46 : FnIs TT 46 c46 [.tmp 6] 3 := ⟨Tryd.f46, by kernel_rfl, by simp only [Tryd.f46, c46, bodyOf], by kernel_rfl, of_decide_eq_true (by kernel_rfl)⟩
noncomputable def c47 : Code := bodyOf Tryd.f47
noncomputable def r47_0 : Code := Code.sub [0] c47
noncomputable def r47_1 : Code := Code.sub [1, 0] c47
noncomputable def r47_2 : Code := Code.sub [1, 1, 0, 0] c47
noncomputable def r47_3 : Code := Code.sub [1, 1, 0, 1, 0, 0] c47
noncomputable def r47_4 : Code := Code.sub [1, 1, 1, 0, 0] c47
noncomputable def r47_5 : Code := Code.sub [1, 1, 1, 0, 1, 0, 0, 0] c47
noncomputable def r47_6 : Code := Code.sub [1, 1, 1, 0, 1, 0, 0, 1, 1, 0, 0, 0] c47
noncomputable def r47_7 : Code := Code.sub [1, 1, 1, 0, 1, 0, 0, 1, 1, 0, 0, 1, 0] c47
noncomputable def r47_8 : Code := Code.sub [1, 1, 1, 0, 1, 0, 0, 1, 1, 0, 0, 1, 1, 0, 0] c47
noncomputable def r47_9 : Code := Code.sub [1, 1, 1, 0, 1, 0, 0, 1, 1, 1] c47
noncomputable def r47_10 : Code := Code.sub [1, 1, 1, 1, 0] c47
theorem body47 : c47 = (.seq r47_0 (.seq r47_1 (.seq (.seq r47_2 (.cond (.tmp 25) (.seq r47_3 .ret) .skip)) (.seq (.seq r47_4 (.block 0 (.loop (.seq r47_5 (.seq (.cond (.tmp 30) .skip (.exit 0)) (.seq (.block 1 (.seq r47_6 (.seq r47_7 (.cond (.tmp 56) (.seq r47_8 .ret) .skip)))) r47_9)))))) (.seq r47_10 .ret))))) := by kernel_rfl
noncomputable def L47_0 : Lt r47_0 := by refine ⟨?l, ?h⟩; case h => simp only [r47_0, c47, bodyOf, Tryd.f47, Code.sub, opsOf, List.map_cons, List.map_nil, strip]; rfl
theorem w47_0 : Wp r47_0 30 [30, 56] [4] [] [] [some 4] (L47_0).1 := w_plain (by kernel_rfl) (L47_0).2
noncomputable def L47_1 : Lt r47_1 := by refine ⟨?l, ?h⟩; case h => simp only [r47_1, c47, bodyOf, Tryd.f47, Code.sub, opsOf, List.map_cons, List.map_nil, strip]; rfl
theorem w47_1 : Wp r47_1 30 [30, 56] [8, 9, 10, 11, 12, 13, 14, 15, 5] [] [0, 1] [some 8, some 9, some 10, some 11, some 12, some 13, some 14, some 15, some 5, none] (L47_1).1 := w_plain (by kernel_rfl) (L47_1).2
noncomputable def L47_2 : Lt r47_2 := by refine ⟨?l, ?h⟩; case h => simp only [r47_2, c47, bodyOf, Tryd.f47, Code.sub, opsOf, List.map_cons, List.map_nil, strip]; rfl
theorem w47_2 : Wp r47_2 30 [30, 56] [16, 17, 18, 19, 20, 21, 22, 23, 24, 25] [] [5] [some 16, some 17, some 18, some 19, some 20, some 21, some 22, some 23, some 24, some 25] (L47_2).1 := w_plain (by kernel_rfl) (L47_2).2
noncomputable def L47_3 : Lt r47_3 := by refine ⟨?l, ?h⟩; case h => simp only [r47_3, c47, bodyOf, Tryd.f47, Code.sub, opsOf, List.map_cons, List.map_nil, strip]; rfl
theorem w47_3 : Wp r47_3 30 [30, 56] [4] [] [] [some 4] (L47_3).1 := w_plain (by kernel_rfl) (L47_3).2
noncomputable def L47_4 : Lt r47_4 := by refine ⟨?l, ?h⟩; case h => simp only [r47_4, c47, bodyOf, Tryd.f47, Code.sub, opsOf, List.map_cons, List.map_nil, strip]; rfl
theorem w47_4 : Wp r47_4 30 [30, 56] [26, 27, 28, 29] [] [5] [some 26, some 27, some 28, some 29] (L47_4).1 := w_plain (by kernel_rfl) (L47_4).2
noncomputable def L47_5 : Lt r47_5 := by refine ⟨?l, ?h⟩; case h => simp only [r47_5, c47, bodyOf, Tryd.f47, Code.sub, opsOf, List.map_cons, List.map_nil, strip]; rfl
theorem w47_5 : Wp r47_5 30 [30, 56] [] [30] [29, 28] [some 30] (L47_5).1 := w_plain (by kernel_rfl) (L47_5).2
noncomputable def L47_6 : Lt r47_6 := by refine ⟨?l, ?h⟩; case h => simp only [r47_6, c47, bodyOf, Tryd.f47, Code.sub, opsOf, List.map_cons, List.map_nil, strip]; rfl
theorem w47_6 : Wp r47_6 30 [30, 56] [7] [] [27, 29] [some 31, some 32, some 7, none] (L47_6).1 := w_plain (by kernel_rfl) (L47_6).2
noncomputable def L47_7 : Lt r47_7 := by refine ⟨?l, ?h⟩; case h => simp only [r47_7, c47, bodyOf, Tryd.f47, Code.sub, opsOf, List.map_cons, List.map_nil, strip]; rfl
theorem w47_7 : Wp r47_7 30 [30, 56] [] [56] [0, 7] [some 33, some 34, some 35, some 36, some 37, some 38, some 39, some 40, some 41, some 42, some 43, some 44, some 45, some 46, some 47, some 48, some 49, some 50, some 51, some 52, some 53, some 54, some 55, some 56] (L47_7).1 := w_plain (by kernel_rfl) (L47_7).2
noncomputable def L47_8 : Lt r47_8 := by refine ⟨?l, ?h⟩; case h => simp only [r47_8, c47, bodyOf, Tryd.f47, Code.sub, opsOf, List.map_cons, List.map_nil, strip]; rfl
theorem w47_8 : Wp r47_8 30 [30, 56] [4] [] [] [some 4] (L47_8).1 := w_plain (by kernel_rfl) (L47_8).2
noncomputable def L47_9 : Lt r47_9 := by refine ⟨?l, ?h⟩; case h => simp only [r47_9, c47, bodyOf, Tryd.f47, Code.sub, opsOf, List.map_cons, List.map_nil, strip]; rfl
theorem w47_9 : Wp r47_9 30 [30, 56] [29] [] [29] [some 57, some 29] (L47_9).1 := w_plain (by kernel_rfl) (L47_9).2
noncomputable def L47_10 : Lt r47_10 := by refine ⟨?l, ?h⟩; case h => simp only [r47_10, c47, bodyOf, Tryd.f47, Code.sub, opsOf, List.map_cons, List.map_nil, strip]; rfl
theorem w47_10 : Wp r47_10 30 [30, 56] [4] [] [] [some 4] (L47_10).1 := w_plain (by kernel_rfl) (L47_10).2
theorem k47 : FnIs TT 47 c47 [.tmp 4] 2 := ⟨Tryd.f47, by kernel_rfl, by simp only [Tryd.f47, c47, bodyOf], by kernel_rfl, of_decide_eq_true (by kernel_rfl)⟩
noncomputable def c48 : Code := bodyOf Tryd.f48
noncomputable def r48_0 : Code := Code.sub [0] c48
noncomputable def r48_1 : Code := Code.sub [1, 0] c48
noncomputable def r48_2 : Code := Code.sub [1, 1, 0, 0] c48
noncomputable def r48_3 : Code := Code.sub [1, 1, 0, 1, 0, 0, 0] c48
noncomputable def r48_4 : Code := Code.sub [1, 1, 0, 1, 0, 0, 1, 1, 0, 0, 0] c48
noncomputable def r48_5 : Code := Code.sub [1, 1, 0, 1, 0, 0, 1, 1, 0, 0, 1] c48
noncomputable def r48_6 : Code := Code.sub [1, 1, 0, 1, 0, 0, 1, 1, 1] c48
noncomputable def r48_7 : Code := Code.sub [1, 1, 1, 0] c48
noncomputable def r48_8 : Code := Code.sub [1, 1, 1, 1, 0, 0] c48
noncomputable def r48_9 : Code := Code.sub [1, 1, 1, 1, 0, 1, 0, 0, 0] c48
noncomputable def r48_10 : Code := Code.sub [1, 1, 1, 1, 0, 1, 0, 0, 1, 1, 0, 0, 0] c48
noncomputable def r48_11 : Code := Code.sub [1, 1, 1, 1, 0, 1, 0, 0, 1, 1, 0, 0, 1, 0] c48
noncomputable def r48_12 : Code := Code.sub [1, 1, 1, 1, 0, 1, 0, 0, 1, 1, 0, 0, 1, 1, 0] c48
noncomputable def r48_13 : Code := Code.sub [1, 1, 1, 1, 0, 1, 0, 0, 1, 1, 0, 0, 1, 1, 1, 0, 0, 0] c48
noncomputable def r48_14 : Code := Code.sub [1, 1, 1, 1, 0, 1, 0, 0, 1, 1, 0, 0, 1, 1, 1, 0, 0, 1, 1, 0, 0, 0] c48
noncomputable def r48_15 : Code := Code.sub [1, 1, 1, 1, 0, 1, 0, 0, 1, 1, 0, 0, 1, 1, 1, 0, 0, 1, 1, 0, 0, 1, 0, 0] c48
noncomputable def r48_16 : Code := Code.sub [1, 1, 1, 1, 0, 1, 0, 0, 1, 1, 0, 0, 1, 1, 1, 0, 0, 1, 1, 0, 0, 1, 0, 1, 0, 0] c48
noncomputable def r48_17 : Code := Code.sub [1, 1, 1, 1, 0, 1, 0, 0, 1, 1, 0, 0, 1, 1, 1, 0, 0, 1, 1, 0, 0, 1, 1, 0] c48
noncomputable def r48_18 : Code := Code.sub [1, 1, 1, 1, 0, 1, 0, 0, 1, 1, 0, 0, 1, 1, 1, 0, 0, 1, 1, 0, 0, 1, 1, 1, 0] c48
noncomputable def r48_19 : Code := Code.sub [1, 1, 1, 1, 0, 1, 0, 0, 1, 1, 0, 0, 1, 1, 1, 0, 0, 1, 1, 0, 0, 1, 1, 1, 1, 0, 0] c48
noncomputable def r48_20 : Code := Code.sub [1, 1, 1, 1, 0, 1, 0, 0, 1, 1, 0, 0, 1, 1, 1, 0, 0, 1, 1, 0, 0, 1, 1, 1, 1, 0, 1, 0, 0] c48
noncomputable def r48_21 : Code := Code.sub [1, 1, 1, 1, 0, 1, 0, 0, 1, 1, 0, 0, 1, 1, 1, 0, 0, 1, 1, 0, 0, 1, 1, 1, 1, 1, 0] c48
noncomputable def r48_22 : Code := Code.sub [1, 1, 1, 1, 0, 1, 0, 0, 1, 1, 0, 0, 1, 1, 1, 0, 0, 1, 1, 0, 0, 1, 1, 1, 1, 1, 1, 0] c48
noncomputable def r48_23 : Code := Code.sub [1, 1, 1, 1, 0, 1, 0, 0, 1, 1, 0, 0, 1, 1, 1, 0, 0, 1, 1, 0, 0, 1, 1, 1, 1, 1, 1, 1] c48
noncomputable def r48_24 : Code := Code.sub [1, 1, 1, 1, 0, 1, 0, 0, 1, 1, 0, 0, 1, 1, 1, 0, 0, 1, 1, 1] c48
noncomputable def r48_25 : Code := Code.sub [1, 1, 1, 1, 0, 1, 0, 0, 1, 1, 1] c48
noncomputable def r48_26 : Code := Code.sub [1, 1, 1, 1, 1, 0] c48
theorem body48 : c48 = (.seq r48_0 (.seq r48_1 (.seq (.seq r48_2 (.block 0 (.loop (.seq r48_3 (.seq (.cond (.tmp 38) .skip (.exit 0)) (.seq (.block 1 (.seq r48_4 r48_5)) r48_6)))))) (.seq r48_7 (.seq (.seq r48_8 (.block 2 (.loop (.seq r48_9 (.seq (.cond (.tmp 54) .skip (.exit 2)) (.seq (.block 3 (.seq r48_10 (.seq r48_11 (.seq r48_12 (.block 4 (.loop (.seq r48_13 (.seq (.cond (.tmp 62) .skip (.exit 4)) (.seq (.block 5 (.seq r48_14 (.seq (.seq r48_15 (.cond (.tmp 84) (.seq r48_16 .ret) .skip)) (.seq r48_17 (.seq r48_18 (.seq (.seq r48_19 (.cond (.tmp 114) (.seq r48_20 .ret) .skip)) (.seq r48_21 (.seq r48_22 r48_23)))))))) r48_24))))))))) r48_25)))))) (.seq r48_26 .ret)))))) := by kernel_rfl
noncomputable def L48_0 : Lt r48_0 := by refine ⟨?l, ?h⟩; case h => simp only [r48_0, c48, bodyOf, Tryd.f48, Code.sub, opsOf, List.map_cons, List.map_nil, strip]; rfl
theorem w48_0 : Wp r48_0 62 [62, 84, 114] [2] [] [] [some 2] (L48_0).1 := w_plain (by kernel_rfl) (L48_0).2
theorem can48_1 : canonOps (opsOf r48_1) = List.filterMap (fun i => ((opsOf r48_1)[i]?).map (renum [0, 1, 2, 3, 4, 5, 6, 7, 9, 10, 11, 12, 13, 14, 8, 16, 17, 18, 15, 19, 20, 21])) [0, 1, 2, 3, 4, 5, 6, 7, 9, 10, 11, 12, 13, 14, 8, 16, 17, 18, 15, 19, 20, 21] := by kernel_rfl
noncomputable def L48_1 : Lc r48_1 := by refine ⟨?l, (congrArg (List.map strip) can48_1).trans ?h⟩; case h => simp only [r48_1, c48, bodyOf, Tryd.f48, Code.sub, opsOf, List.filterMap_cons, List.filterMap_nil, List.getElem?_cons_succ, List.getElem?_cons_zero, Option.map_some, renum, List.map_cons, List.map_nil, strip]; rfl
theorem w48_1 : Wd r48_1 62 [62, 84, 114] [12, 13, 14, 15, 16, 17, 18, 19, 21, 22, 23, 24, 25, 26, 20, 28, 29, 27, 30, 31] [] [0] [some 12, some 13, some 14, some 15, some 16, some 17, some 18, some 19, some 21, some 22, some 23, some 24, some 25, some 26, some 20, some 28, some 29, none, some 27, some 30, some 31, none] (L48_1).1 [(6, [14]), (7, [14]), (12, [14, 17]), (13, [14, 17, 18])] := w_loud (by kernel_rfl) (L48_1).2
noncomputable def L48_2 : Lt r48_2 := by refine ⟨?l, ?h⟩; case h => simp only [r48_2, c48, bodyOf, Tryd.f48, Code.sub, opsOf, List.map_cons, List.map_nil, strip]; rfl
theorem w48_2 : Wp r48_2 62 [62, 84, 114] [32, 33, 34, 35, 36, 37] [] [0] [some 32, some 33, some 34, some 35, some 36, some 37] (L48_2).1 := w_plain (by kernel_rfl) (L48_2).2
noncomputable def L48_3 : Lt r48_3 := by refine ⟨?l, ?h⟩; case h => simp only [r48_3, c48, bodyOf, Tryd.f48, Code.sub, opsOf, List.map_cons, List.map_nil, strip]; rfl
theorem w48_3 : Wp r48_3 62 [62, 84, 114] [38] [] [37, 36] [some 38] (L48_3).1 := w_plain (by kernel_rfl) (L48_3).2
noncomputable def L48_4 : Lt r48_4 := by refine ⟨?l, ?h⟩; case h => simp only [r48_4, c48, bodyOf, Tryd.f48, Code.sub, opsOf, List.map_cons, List.map_nil, strip]; rfl
theorem w48_4 : Wp r48_4 62 [62, 84, 114] [39, 3] [] [37] [some 39, some 3] (L48_4).1 := w_plain (by kernel_rfl) (L48_4).2
noncomputable def L48_5 : Lt r48_5 := by refine ⟨?l, ?h⟩; case h => simp only [r48_5, c48, bodyOf, Tryd.f48, Code.sub, opsOf, List.map_cons, List.map_nil, strip]; rfl
theorem w48_5 : Wp r48_5 62 [62, 84, 114] [40, 41, 42, 43, 44, 45] [] [0, 3] [some 40, some 41, some 42, some 43, some 44, some 45, none] (L48_5).1 := w_plain (by kernel_rfl) (L48_5).2
noncomputable def L48_6 : Lt r48_6 := by refine ⟨?l, ?h⟩; case h => simp only [r48_6, c48, bodyOf, Tryd.f48, Code.sub, opsOf, List.map_cons, List.map_nil, strip]; rfl
theorem w48_6 : Wp r48_6 62 [62, 84, 114] [46, 37] [] [37] [some 46, some 37] (L48_6).1 := w_plain (by kernel_rfl) (L48_6).2
noncomputable def L48_7 : Lt r48_7 := by refine ⟨?l, ?h⟩; case h => simp only [r48_7, c48, bodyOf, Tryd.f48, Code.sub, opsOf, List.map_cons, List.map_nil, strip]; rfl
theorem w48_7 : Wp r48_7 62 [62, 84, 114] [4] [] [] [some 4] (L48_7).1 := w_plain (by kernel_rfl) (L48_7).2
noncomputable def L48_8 : Lt r48_8 := by refine ⟨?l, ?h⟩; case h => simp only [r48_8, c48, bodyOf, Tryd.f48, Code.sub, opsOf, List.map_cons, List.map_nil, strip]; rfl
theorem w48_8 : Wp r48_8 62 [62, 84, 114] [47, 48, 49, 50, 51, 52, 53] [] [0] [some 47, some 48, some 49, some 50, some 51, some 52, some 53] (L48_8).1 := w_plain (by kernel_rfl) (L48_8).2
noncomputable def L48_9 : Lt r48_9 := by refine ⟨?l, ?h⟩; case h => simp only [r48_9, c48, bodyOf, Tryd.f48, Code.sub, opsOf, List.map_cons, List.map_nil, strip]; rfl
theorem w48_9 : Wp r48_9 62 [62, 84, 114] [54] [] [53, 52] [some 54] (L48_9).1 := w_plain (by kernel_rfl) (L48_9).2
noncomputable def L48_10 : Lt r48_10 := by refine ⟨?l, ?h⟩; case h => simp only [r48_10, c48, bodyOf, Tryd.f48, Code.sub, opsOf, List.map_cons, List.map_nil, strip]; rfl
theorem w48_10 : Wp r48_10 62 [62, 84, 114] [55, 56, 57, 6, 5] [] [51, 53] [some 55, some 56, some 57, some 6, some 5, none] (L48_10).1 := w_plain (by kernel_rfl) (L48_10).2
noncomputable def L48_11 : Lt r48_11 := by refine ⟨?l, ?h⟩; case h => simp only [r48_11, c48, bodyOf, Tryd.f48, Code.sub, opsOf, List.map_cons, List.map_nil, strip]; rfl
theorem w48_11 : Wp r48_11 62 [62, 84, 114] [7] [] [] [some 7] (L48_11).1 := w_plain (by kernel_rfl) (L48_11).2
noncomputable def L48_12 : Lt r48_12 := by refine ⟨?l, ?h⟩; case h => simp only [r48_12, c48, bodyOf, Tryd.f48, Code.sub, opsOf, List.map_cons, List.map_nil, strip]; rfl
theorem w48_12 : Wp r48_12 62 [62, 84, 114] [58, 59, 60, 61] [] [6] [some 58, some 59, some 60, some 61] (L48_12).1 := w_plain (by kernel_rfl) (L48_12).2
noncomputable def L48_13 : Lt r48_13 := by refine ⟨?l, ?h⟩; case h => simp only [r48_13, c48, bodyOf, Tryd.f48, Code.sub, opsOf, List.map_cons, List.map_nil, strip]; rfl
theorem w48_13 : Wp r48_13 62 [62, 84, 114] [] [62] [61, 60] [some 62] (L48_13).1 := w_plain (by kernel_rfl) (L48_13).2
noncomputable def L48_14 : Lt r48_14 := by refine ⟨?l, ?h⟩; case h => simp only [r48_14, c48, bodyOf, Tryd.f48, Code.sub, opsOf, List.map_cons, List.map_nil, strip]; rfl
theorem w48_14 : Wp r48_14 62 [62, 84, 114] [8, 9] [] [59, 61] [some 63, some 64, some 65, some 8, some 9] (L48_14).1 := w_plain (by kernel_rfl) (L48_14).2
noncomputable def L48_15 : Lt r48_15 := by refine ⟨?l, ?h⟩; case h => simp only [r48_15, c48, bodyOf, Tryd.f48, Code.sub, opsOf, List.map_cons, List.map_nil, strip]; rfl
theorem w48_15 : Wp r48_15 62 [62, 84, 114] [] [84] [0, 9] [some 66, some 67, some 68, some 69, some 70, some 71, some 72, some 73, some 74, some 75, some 76, some 77, some 78, some 79, some 80, some 81, some 82, some 83, some 84] (L48_15).1 := w_plain (by kernel_rfl) (L48_15).2
noncomputable def L48_16 : Lt r48_16 := by refine ⟨?l, ?h⟩; case h => simp only [r48_16, c48, bodyOf, Tryd.f48, Code.sub, opsOf, List.map_cons, List.map_nil, strip]; rfl
theorem w48_16 : Wp r48_16 62 [62, 84, 114] [2] [] [] [some 2] (L48_16).1 := w_plain (by kernel_rfl) (L48_16).2
noncomputable def L48_17 : Lt r48_17 := by refine ⟨?l, ?h⟩; case h => simp only [r48_17, c48, bodyOf, Tryd.f48, Code.sub, opsOf, List.map_cons, List.map_nil, strip]; rfl
theorem w48_17 : Wp r48_17 62 [62, 84, 114] [10] [] [0, 9] [some 85, some 86, some 87, some 88, some 89, some 90, some 91, some 92, some 93, some 10] (L48_17).1 := w_plain (by kernel_rfl) (L48_17).2
noncomputable def L48_18 : Lt r48_18 := by refine ⟨?l, ?h⟩; case h => simp only [r48_18, c48, bodyOf, Tryd.f48, Code.sub, opsOf, List.map_cons, List.map_nil, strip]; rfl
theorem w48_18 : Wp r48_18 62 [62, 84, 114] [11] [] [10] [some 94, some 95, some 96, some 97, some 98, some 99, some 11] (L48_18).1 := w_plain (by kernel_rfl) (L48_18).2
noncomputable def L48_19 : Lt r48_19 := by refine ⟨?l, ?h⟩; case h => simp only [r48_19, c48, bodyOf, Tryd.f48, Code.sub, opsOf, List.map_cons, List.map_nil, strip]; rfl
theorem w48_19 : Wp r48_19 62 [62, 84, 114] [] [114] [7, 10, 5, 11] [some 100, some 101, some 102, some 103, some 104, some 105, some 106, some 107, some 108, some 109, some 110, some 111, some 112, some 113, some 114] (L48_19).1 := w_plain (by kernel_rfl) (L48_19).2
noncomputable def L48_20 : Lt r48_20 := by refine ⟨?l, ?h⟩; case h => simp only [r48_20, c48, bodyOf, Tryd.f48, Code.sub, opsOf, List.map_cons, List.map_nil, strip]; rfl
theorem w48_20 : Wp r48_20 62 [62, 84, 114] [2] [] [] [some 2] (L48_20).1 := w_plain (by kernel_rfl) (L48_20).2
noncomputable def L48_21 : Lt r48_21 := by refine ⟨?l, ?h⟩; case h => simp only [r48_21, c48, bodyOf, Tryd.f48, Code.sub, opsOf, List.map_cons, List.map_nil, strip]; rfl
theorem w48_21 : Wp r48_21 62 [62, 84, 114] [7] [] [11] [some 115, some 7] (L48_21).1 := w_plain (by kernel_rfl) (L48_21).2
theorem can48_22 : canonOps (opsOf r48_22) = opsOf r48_22 := by kernel_rfl
noncomputable def L48_22 : Lc r48_22 := by refine ⟨?l, (congrArg (List.map strip) can48_22).trans ?h⟩; case h => simp only [r48_22, c48, bodyOf, Tryd.f48, Code.sub, opsOf, List.map_cons, List.map_nil, strip]; rfl
theorem w48_22 : Wd r48_22 62 [62, 84, 114] [] [] [0, 9, 5, 8] [some 116, some 117, some 118, some 119, some 120, some 121, some 122, some 123, some 124, some 125, some 126, some 127, some 128, none, some 129, none] (L48_22).1 [(3, [13]), (8, [13])] := w_loud (by kernel_rfl) (L48_22).2
noncomputable def L48_23 : Lt r48_23 := by refine ⟨?l, ?h⟩; case h => simp only [r48_23, c48, bodyOf, Tryd.f48, Code.sub, opsOf, List.map_cons, List.map_nil, strip]; rfl
theorem w48_23 : Wp r48_23 62 [62, 84, 114] [4] [] [4] [some 130, some 131, some 4] (L48_23).1 := w_plain (by kernel_rfl) (L48_23).2
noncomputable def L48_24 : Lt r48_24 := by refine ⟨?l, ?h⟩; case h => simp only [r48_24, c48, bodyOf, Tryd.f48, Code.sub, opsOf, List.map_cons, List.map_nil, strip]; rfl
theorem w48_24 : Wp r48_24 62 [62, 84, 114] [61] [] [61] [some 132, some 61] (L48_24).1 := w_plain (by kernel_rfl) (L48_24).2
noncomputable def L48_25 : Lt r48_25 := by refine ⟨?l, ?h⟩; case h => simp only [r48_25, c48, bodyOf, Tryd.f48, Code.sub, opsOf, List.map_cons, List.map_nil, strip]; rfl
theorem w48_25 : Wp r48_25 62 [62, 84, 114] [53] [] [53] [some 133, some 53] (L48_25).1 := w_plain (by kernel_rfl) (L48_25).2
noncomputable def L48_26 : Lt r48_26 := by refine ⟨?l, ?h⟩; case h => simp only [r48_26, c48, bodyOf, Tryd.f48, Code.sub, opsOf, List.map_cons, List.map_nil, strip]; rfl
theorem w48_26 : Wp r48_26 62 [62, 84, 114] [2] [] [4, 0] [some 134, some 135, some 136, some 137, some 138, some 139, some 140, some 141, some 2] (L48_26).1 := w_plain (by kernel_rfl) (L48_26).2
theorem k48 : FnIs TT 48 c48 [.tmp 2] 1 := ⟨Tryd.f48, by kernel_rfl, by simp only [Tryd.f48, c48, bodyOf], by kernel_rfl, of_decide_eq_true (by kernel_rfl)⟩
noncomputable def c49 : Code := bodyOf Tryd.f49
noncomputable def r49_0 : Code := Code.sub [0] c49
noncomputable def r49_1 : Code := Code.sub [1, 0] c49
noncomputable def r49_2 : Code := Code.sub [1, 1, 0, 0] c49
noncomputable def r49_3 : Code := Code.sub [1, 1, 0, 1, 0, 0] c49
noncomputable def r49_4 : Code := Code.sub [1, 1, 1, 0, 0] c49
noncomputable def r49_5 : Code := Code.sub [1, 1, 1, 0, 1, 0, 0] c49
noncomputable def r49_6 : Code := Code.sub [1, 1, 1, 0, 1, 0, 1, 0, 0] c49
noncomputable def r49_7 : Code := Code.sub [1, 1, 1, 0, 1, 0, 1, 1, 0] c49
noncomputable def r49_8 : Code := Code.sub [1, 1, 1, 0, 1, 0, 1, 1, 1, 0, 0] c49
noncomputable def r49_9 : Code := Code.sub [1, 1, 1, 0, 1, 0, 1, 1, 1, 1, 0] c49
noncomputable def r49_10 : Code := Code.sub [1, 1, 1, 0, 1, 0, 1, 1, 1, 1, 1, 0, 0] c49
noncomputable def r49_11 : Code := Code.sub [1, 1, 1, 1, 0] c49
theorem body49 : c49 = (.seq r49_0 (.seq r49_1 (.seq (.seq r49_2 (.cond (.tmp 41) (.seq r49_3 .ret) .skip)) (.seq (.seq r49_4 (.block 0 (.seq r49_5 (.cond (.tmp 44) (.seq r49_6 .ret) (.seq r49_7 (.cond (.tmp 50) (.seq r49_8 .ret) (.seq r49_9 (.cond (.tmp 72) (.seq r49_10 .ret) .skip)))))))) (.seq r49_11 .ret))))) := by kernel_rfl
noncomputable def L49_0 : Lt r49_0 := by refine ⟨?l, ?h⟩; case h => simp only [r49_0, c49, bodyOf, Tryd.f49, Code.sub, opsOf, List.map_cons, List.map_nil, strip]; rfl
theorem w49_0 : Wp r49_0 44 [44, 50, 72] [4] [] [] [some 4] (L49_0).1 := w_plain (by kernel_rfl) (L49_0).2
noncomputable def L49_1 : Lt r49_1 := by refine ⟨?l, ?h⟩; case h => simp only [r49_1, c49, bodyOf, Tryd.f49, Code.sub, opsOf, List.map_cons, List.map_nil, strip]; rfl
theorem w49_1 : Wp r49_1 44 [44, 50, 72] [6, 7, 8, 9, 10, 11, 12, 13, 5] [] [0, 1] [some 6, some 7, some 8, some 9, some 10, some 11, some 12, some 13, some 5, none] (L49_1).1 := w_plain (by kernel_rfl) (L49_1).2
theorem can49_2 : canonOps (opsOf r49_2) = opsOf r49_2 := by kernel_rfl
noncomputable def L49_2 : Lc r49_2 := by refine ⟨?l, (congrArg (List.map strip) can49_2).trans ?h⟩; case h => simp only [r49_2, c49, bodyOf, Tryd.f49, Code.sub, opsOf, List.map_cons, List.map_nil, strip]; rfl
theorem w49_2 : Wd r49_2 44 [44, 50, 72] [14, 15, 16, 17, 18, 19, 20, 21, 22, 23, 24, 25, 26, 27, 28, 29, 30, 31, 32, 33, 34, 35, 36, 37, 38, 39, 40, 41] [] [5, 0] [some 14, some 15, some 16, some 17, some 18, some 19, some 20, some 21, some 22, some 23, some 24, some 25, some 26, some 27, some 28, some 29, some 30, some 31, some 32, some 33, some 34, some 35, some 36, some 37, some 38, some 39, some 40, some 41] (L49_2).1 [(1, [2]), (6, [7]), (13, [14]), (17, [24]), (22, [24]), (23, [24])] := w_loud (by kernel_rfl) (L49_2).2
noncomputable def L49_3 : Lt r49_3 := by refine ⟨?l, ?h⟩; case h => simp only [r49_3, c49, bodyOf, Tryd.f49, Code.sub, opsOf, List.map_cons, List.map_nil, strip]; rfl
theorem w49_3 : Wp r49_3 44 [44, 50, 72] [4] [] [] [some 4] (L49_3).1 := w_plain (by kernel_rfl) (L49_3).2
noncomputable def L49_4 : Lt r49_4 := by refine ⟨?l, ?h⟩; case h => simp only [r49_4, c49, bodyOf, Tryd.f49, Code.sub, opsOf, List.map_cons, List.map_nil, strip]; rfl
theorem w49_4 : Wp r49_4 44 [44, 50, 72] [42, 43] [] [5] [some 42, some 43] (L49_4).1 := w_plain (by kernel_rfl) (L49_4).2
noncomputable def L49_5 : Lt r49_5 := by refine ⟨?l, ?h⟩; case h => simp only [r49_5, c49, bodyOf, Tryd.f49, Code.sub, opsOf, List.map_cons, List.map_nil, strip]; rfl
theorem w49_5 : Wp r49_5 44 [44, 50, 72] [] [44] [43] [some 45, some 44] (L49_5).1 := w_plain (by kernel_rfl) (L49_5).2
noncomputable def L49_6 : Lt r49_6 := by refine ⟨?l, ?h⟩; case h => simp only [r49_6, c49, bodyOf, Tryd.f49, Code.sub, opsOf, List.map_cons, List.map_nil, strip]; rfl
theorem w49_6 : Wp r49_6 44 [44, 50, 72] [4] [] [5] [some 46, some 47, some 48, some 49, some 4] (L49_6).1 := w_plain (by kernel_rfl) (L49_6).2
noncomputable def L49_7 : Lt r49_7 := by refine ⟨?l, ?h⟩; case h => simp only [r49_7, c49, bodyOf, Tryd.f49, Code.sub, opsOf, List.map_cons, List.map_nil, strip]; rfl
theorem w49_7 : Wp r49_7 44 [44, 50, 72] [] [50] [43] [some 51, some 50] (L49_7).1 := w_plain (by kernel_rfl) (L49_7).2
noncomputable def L49_8 : Lt r49_8 := by refine ⟨?l, ?h⟩; case h => simp only [r49_8, c49, bodyOf, Tryd.f49, Code.sub, opsOf, List.map_cons, List.map_nil, strip]; rfl
theorem w49_8 : Wp r49_8 44 [44, 50, 72] [4] [] [5, 0, 1] [some 52, some 53, some 54, some 55, some 56, some 57, some 58, some 59, some 60, some 61, some 62, some 63, some 64, some 65, some 66, some 67, some 68, some 69, some 70, some 71, some 4] (L49_8).1 := w_plain (by kernel_rfl) (L49_8).2
noncomputable def L49_9 : Lt r49_9 := by refine ⟨?l, ?h⟩; case h => simp only [r49_9, c49, bodyOf, Tryd.f49, Code.sub, opsOf, List.map_cons, List.map_nil, strip]; rfl
theorem w49_9 : Wp r49_9 44 [44, 50, 72] [] [72] [43] [some 73, some 72] (L49_9).1 := w_plain (by kernel_rfl) (L49_9).2
noncomputable def L49_10 : Lt r49_10 := by refine ⟨?l, ?h⟩; case h => simp only [r49_10, c49, bodyOf, Tryd.f49, Code.sub, opsOf, List.map_cons, List.map_nil, strip]; rfl
theorem w49_10 : Wp r49_10 44 [44, 50, 72] [4] [] [0, 1, 5] [some 74, some 75, some 76, some 77, some 78, some 79, some 80, some 81, some 82, some 83, some 84, some 85, some 86, some 87, some 88, some 89, some 90, some 91, some 92, some 93, some 4] (L49_10).1 := w_plain (by kernel_rfl) (L49_10).2
noncomputable def L49_11 : Lt r49_11 := by refine ⟨?l, ?h⟩; case h => simp only [r49_11, c49, bodyOf, Tryd.f49, Code.sub, opsOf, List.map_cons, List.map_nil, strip]; rfl
theorem w49_11 : Wp r49_11 44 [44, 50, 72] [4] [] [] [some 4] (L49_11).1 := w_plain (by kernel_rfl) (L49_11).2
theorem k49 : FnIs TT 49 c49 [.tmp 4] 2 := ⟨Tryd.f49, by kernel_rfl, by simp only [Tryd.f49, c49, bodyOf], by kernel_rfl, of_decide_eq_true (by kernel_rfl)⟩
noncomputable def c50 : Code := bodyOf Tryd.f50
noncomputable def r50_0 : Code := Code.sub [0] c50
noncomputable def r50_1 : Code := Code.sub [1, 0] c50
noncomputable def r50_2 : Code := Code.sub [1, 1, 0, 0] c50
noncomputable def r50_3 : Code := Code.sub [1, 1, 0, 1, 0, 0, 0] c50
noncomputable def r50_4 : Code := Code.sub [1, 1, 0, 1, 0, 0, 1, 1, 0, 0, 0] c50
noncomputable def r50_5 : Code := Code.sub [1, 1, 0, 1, 0, 0, 1, 1, 0, 0, 1, 0] c50
noncomputable def r50_6 : Code := Code.sub [1, 1, 0, 1, 0, 0, 1, 1, 0, 0, 1, 1, 0, 0] c50
noncomputable def r50_7 : Code := Code.sub [1, 1, 0, 1, 0, 0, 1, 1, 1] c50
noncomputable def r50_8 : Code := Code.sub [1, 1, 1, 0, 0] c50
noncomputable def r50_9 : Code := Code.sub [1, 1, 1, 0, 1, 0, 0] c50
noncomputable def r50_10 : Code := Code.sub [1, 1, 1, 0, 1, 0, 1, 0, 0] c50
noncomputable def r50_11 : Code := Code.sub [1, 1, 1, 0, 1, 0, 1, 1, 0] c50
noncomputable def r50_12 : Code := Code.sub [1, 1, 1, 0, 1, 0, 1, 1, 1, 0, 0] c50
noncomputable def r50_13 : Code := Code.sub [1, 1, 1, 0, 1, 0, 1, 1, 1, 1, 0] c50
noncomputable def r50_14 : Code := Code.sub [1, 1, 1, 0, 1, 0, 1, 1, 1, 1, 1, 0, 0] c50
noncomputable def r50_15 : Code := Code.sub [1, 1, 1, 1, 0] c50
theorem body50 : c50 = (.seq r50_0 (.seq r50_1 (.seq (.seq r50_2 (.block 0 (.loop (.seq r50_3 (.seq (.cond (.tmp 20) .skip (.exit 0)) (.seq (.block 1 (.seq r50_4 (.seq r50_5 (.cond (.tmp 31) (.seq r50_6 .ret) .skip)))) r50_7)))))) (.seq (.seq r50_8 (.block 2 (.seq r50_9 (.cond (.tmp 35) (.seq r50_10 .ret) (.seq r50_11 (.cond (.tmp 41) (.seq r50_12 .ret) (.seq r50_13 (.cond (.tmp 54) (.seq r50_14 .ret) .skip)))))))) (.seq r50_15 .ret))))) := by kernel_rfl
noncomputable def L50_0 : Lt r50_0 := by refine ⟨?l, ?h⟩; case h => simp only [r50_0, c50, bodyOf, Tryd.f50, Code.sub, opsOf, List.map_cons, List.map_nil, strip]; rfl
theorem w50_0 : Wp r50_0 35 [35, 41, 54] [4] [] [] [some 4] (L50_0).1 := w_plain (by kernel_rfl) (L50_0).2
noncomputable def L50_1 : Lt r50_1 := by refine ⟨?l, ?h⟩; case h => simp only [r50_1, c50, bodyOf, Tryd.f50, Code.sub, opsOf, List.map_cons, List.map_nil, strip]; rfl
theorem w50_1 : Wp r50_1 35 [35, 41, 54] [8, 9, 10, 11, 12, 13, 14, 15, 5] [] [0, 1] [some 8, some 9, some 10, some 11, some 12, some 13, some 14, some 15, some 5, none] (L50_1).1 := w_plain (by kernel_rfl) (L50_1).2
noncomputable def L50_2 : Lt r50_2 := by refine ⟨?l, ?h⟩; case h => simp only [r50_2, c50, bodyOf, Tryd.f50, Code.sub, opsOf, List.map_cons, List.map_nil, strip]; rfl
theorem w50_2 : Wp r50_2 35 [35, 41, 54] [16, 17, 18, 19] [] [5] [some 16, some 17, some 18, some 19] (L50_2).1 := w_plain (by kernel_rfl) (L50_2).2
noncomputable def L50_3 : Lt r50_3 := by refine ⟨?l, ?h⟩; case h => simp only [r50_3, c50, bodyOf, Tryd.f50, Code.sub, opsOf, List.map_cons, List.map_nil, strip]; rfl
theorem w50_3 : Wp r50_3 35 [35, 41, 54] [20] [] [19, 18] [some 20] (L50_3).1 := w_plain (by kernel_rfl) (L50_3).2
noncomputable def L50_4 : Lt r50_4 := by refine ⟨?l, ?h⟩; case h => simp only [r50_4, c50, bodyOf, Tryd.f50, Code.sub, opsOf, List.map_cons, List.map_nil, strip]; rfl
theorem w50_4 : Wp r50_4 35 [35, 41, 54] [21, 22, 7] [] [17, 19] [some 21, some 22, some 7] (L50_4).1 := w_plain (by kernel_rfl) (L50_4).2
noncomputable def L50_5 : Lt r50_5 := by refine ⟨?l, ?h⟩; case h => simp only [r50_5, c50, bodyOf, Tryd.f50, Code.sub, opsOf, List.map_cons, List.map_nil, strip]; rfl
theorem w50_5 : Wp r50_5 35 [35, 41, 54] [23, 24, 25, 26, 27, 28, 29, 30, 31] [] [7, 0] [some 23, some 24, some 25, some 26, some 27, some 28, some 29, some 30, some 31] (L50_5).1 := w_plain (by kernel_rfl) (L50_5).2
noncomputable def L50_6 : Lt r50_6 := by refine ⟨?l, ?h⟩; case h => simp only [r50_6, c50, bodyOf, Tryd.f50, Code.sub, opsOf, List.map_cons, List.map_nil, strip]; rfl
theorem w50_6 : Wp r50_6 35 [35, 41, 54] [4] [] [] [some 4] (L50_6).1 := w_plain (by kernel_rfl) (L50_6).2
noncomputable def L50_7 : Lt r50_7 := by refine ⟨?l, ?h⟩; case h => simp only [r50_7, c50, bodyOf, Tryd.f50, Code.sub, opsOf, List.map_cons, List.map_nil, strip]; rfl
theorem w50_7 : Wp r50_7 35 [35, 41, 54] [32, 19] [] [19] [some 32, some 19] (L50_7).1 := w_plain (by kernel_rfl) (L50_7).2
noncomputable def L50_8 : Lt r50_8 := by refine ⟨?l, ?h⟩; case h => simp only [r50_8, c50, bodyOf, Tryd.f50, Code.sub, opsOf, List.map_cons, List.map_nil, strip]; rfl
theorem w50_8 : Wp r50_8 35 [35, 41, 54] [33, 34] [] [5] [some 33, some 34] (L50_8).1 := w_plain (by kernel_rfl) (L50_8).2
noncomputable def L50_9 : Lt r50_9 := by refine ⟨?l, ?h⟩; case h => simp only [r50_9, c50, bodyOf, Tryd.f50, Code.sub, opsOf, List.map_cons, List.map_nil, strip]; rfl
theorem w50_9 : Wp r50_9 35 [35, 41, 54] [] [35] [34] [some 36, some 35] (L50_9).1 := w_plain (by kernel_rfl) (L50_9).2
noncomputable def L50_10 : Lt r50_10 := by refine ⟨?l, ?h⟩; case h => simp only [r50_10, c50, bodyOf, Tryd.f50, Code.sub, opsOf, List.map_cons, List.map_nil, strip]; rfl
theorem w50_10 : Wp r50_10 35 [35, 41, 54] [4] [] [5] [some 37, some 38, some 39, some 40, some 4] (L50_10).1 := w_plain (by kernel_rfl) (L50_10).2
noncomputable def L50_11 : Lt r50_11 := by refine ⟨?l, ?h⟩; case h => simp only [r50_11, c50, bodyOf, Tryd.f50, Code.sub, opsOf, List.map_cons, List.map_nil, strip]; rfl
theorem w50_11 : Wp r50_11 35 [35, 41, 54] [] [41] [34] [some 42, some 41] (L50_11).1 := w_plain (by kernel_rfl) (L50_11).2
noncomputable def L50_12 : Lt r50_12 := by refine ⟨?l, ?h⟩; case h => simp only [r50_12, c50, bodyOf, Tryd.f50, Code.sub, opsOf, List.map_cons, List.map_nil, strip]; rfl
theorem w50_12 : Wp r50_12 35 [35, 41, 54] [4] [] [0, 5] [some 43, some 44, some 45, some 46, some 47, some 48, some 49, some 50, some 51, some 52, some 53, some 4] (L50_12).1 := w_plain (by kernel_rfl) (L50_12).2
noncomputable def L50_13 : Lt r50_13 := by refine ⟨?l, ?h⟩; case h => simp only [r50_13, c50, bodyOf, Tryd.f50, Code.sub, opsOf, List.map_cons, List.map_nil, strip]; rfl
theorem w50_13 : Wp r50_13 35 [35, 41, 54] [] [54] [34] [some 55, some 54] (L50_13).1 := w_plain (by kernel_rfl) (L50_13).2
theorem can50_14 : canonOps (opsOf r50_14) = opsOf r50_14 := by kernel_rfl
noncomputable def L50_14 : Lc r50_14 := by refine ⟨?l, (congrArg (List.map strip) can50_14).trans ?h⟩; case h => simp only [r50_14, c50, bodyOf, Tryd.f50, Code.sub, opsOf, List.map_cons, List.map_nil, strip]; rfl
theorem w50_14 : Wd r50_14 35 [35, 41, 54] [4] [] [5, 0] [some 56, some 57, some 58, some 59, some 60, some 61, some 62, some 63, some 64, some 65, some 66, some 67, some 68, some 69, some 70, some 4] (L50_14).1 [(1, [13]), (2, [13]), (6, [13]), (11, [13]), (12, [13])] := w_loud (by kernel_rfl) (L50_14).2
noncomputable def L50_15 : Lt r50_15 := by refine ⟨?l, ?h⟩; case h => simp only [r50_15, c50, bodyOf, Tryd.f50, Code.sub, opsOf, List.map_cons, List.map_nil, strip]; rfl
theorem w50_15 : Wp r50_15 35 [35, 41, 54] [4] [] [] [some 4] (L50_15).1 := w_plain (by kernel_rfl) (L50_15).2
theorem k50 : FnIs TT 50 c50 [.tmp 4] 2 := ⟨Tryd.f50, by kernel_rfl, by simp only [Tryd.f50, c50, bodyOf], by kernel_rfl, of_decide_eq_true (by kernel_rfl)⟩
noncomputable def c51 : Code := bodyOf Tryd.f51
noncomputable def r51_0 : Code := Code.sub [0] c51
noncomputable def r51_1 : Code := Code.sub [1, 0, 0] c51
noncomputable def r51_2 : Code := Code.sub [1, 0, 1, 0, 0] c51
noncomputable def r51_3 : Code := Code.sub [1, 0, 1, 0, 1, 0, 0, 0] c51
noncomputable def r51_4 : Code := Code.sub [1, 0, 1, 0, 1, 0, 0, 1, 1, 0, 0, 0] c51
noncomputable def r51_5 : Code := Code.sub [1, 0, 1, 0, 1, 0, 0, 1, 1, 0, 0, 1, 0] c51
noncomputable def r51_6 : Code := Code.sub [1, 0, 1, 0, 1, 0, 0, 1, 1, 0, 0, 1, 1, 0, 0] c51
noncomputable def r51_7 : Code := Code.sub [1, 0, 1, 0, 1, 0, 0, 1, 1, 1] c51
noncomputable def r51_8 : Code := Code.sub [1, 1, 0] c51
noncomputable def r51_9 : Code := Code.sub [1, 1, 1, 0, 0] c51
noncomputable def r51_10 : Code := Code.sub [1, 1, 1, 0, 1, 0, 0, 0] c51
noncomputable def r51_11 : Code := Code.sub [1, 1, 1, 0, 1, 0, 0, 1, 1, 0, 0, 0] c51
noncomputable def r51_12 : Code := Code.sub [1, 1, 1, 0, 1, 0, 0, 1, 1, 0, 0, 1, 0] c51
noncomputable def r51_13 : Code := Code.sub [1, 1, 1, 0, 1, 0, 0, 1, 1, 0, 0, 1, 1, 0, 0] c51
noncomputable def r51_14 : Code := Code.sub [1, 1, 1, 0, 1, 0, 0, 1, 1, 1] c51
noncomputable def r51_15 : Code := Code.sub [1, 1, 1, 1, 0] c51
theorem body51 : c51 = (.seq r51_0 (.seq (.seq r51_1 (.cond (.tmp 11) (.seq r51_2 (.block 0 (.loop (.seq r51_3 (.seq (.cond (.tmp 19) .skip (.exit 0)) (.seq (.block 1 (.seq r51_4 (.seq r51_5 (.cond (.tmp 43) (.seq r51_6 .ret) .skip)))) r51_7)))))) .skip)) (.seq r51_8 (.seq (.seq r51_9 (.block 2 (.loop (.seq r51_10 (.seq (.cond (.tmp 57) .skip (.exit 2)) (.seq (.block 3 (.seq r51_11 (.seq r51_12 (.cond (.tmp 75) (.seq r51_13 .ret) .skip)))) r51_14)))))) (.seq r51_15 .ret))))) := by kernel_rfl
noncomputable def L51_0 : Lt r51_0 := by refine ⟨?l, ?h⟩; case h => simp only [r51_0, c51, bodyOf, Tryd.f51, Code.sub, opsOf, List.map_cons, List.map_nil, strip]; rfl
theorem w51_0 : Wp r51_0 57 [57, 75] [4] [] [] [some 4] (L51_0).1 := w_plain (by kernel_rfl) (L51_0).2
noncomputable def L51_1 : Lt r51_1 := by refine ⟨?l, ?h⟩; case h => simp only [r51_1, c51, bodyOf, Tryd.f51, Code.sub, opsOf, List.map_cons, List.map_nil, strip]; rfl
theorem w51_1 : Wp r51_1 57 [57, 75] [10, 11] [] [1] [some 10, some 11] (L51_1).1 := w_plain (by kernel_rfl) (L51_1).2
noncomputable def L51_2 : Lt r51_2 := by refine ⟨?l, ?h⟩; case h => simp only [r51_2, c51, bodyOf, Tryd.f51, Code.sub, opsOf, List.map_cons, List.map_nil, strip]; rfl
theorem w51_2 : Wp r51_2 57 [57, 75] [12, 13, 14, 15, 16, 17, 18] [] [0] [some 12, some 13, some 14, some 15, some 16, some 17, some 18] (L51_2).1 := w_plain (by kernel_rfl) (L51_2).2
noncomputable def L51_3 : Lt r51_3 := by refine ⟨?l, ?h⟩; case h => simp only [r51_3, c51, bodyOf, Tryd.f51, Code.sub, opsOf, List.map_cons, List.map_nil, strip]; rfl
theorem w51_3 : Wp r51_3 57 [57, 75] [19] [] [18, 17] [some 19] (L51_3).1 := w_plain (by kernel_rfl) (L51_3).2
noncomputable def L51_4 : Lt r51_4 := by refine ⟨?l, ?h⟩; case h => simp only [r51_4, c51, bodyOf, Tryd.f51, Code.sub, opsOf, List.map_cons, List.map_nil, strip]; rfl
theorem w51_4 : Wp r51_4 57 [57, 75] [20, 21, 22, 5, 6] [] [16, 18] [some 20, some 21, some 22, some 5, some 6] (L51_4).1 := w_plain (by kernel_rfl) (L51_4).2
noncomputable def L51_5 : Lt r51_5 := by refine ⟨?l, ?h⟩; case h => simp only [r51_5, c51, bodyOf, Tryd.f51, Code.sub, opsOf, List.map_cons, List.map_nil, strip]; rfl
theorem w51_5 : Wp r51_5 57 [57, 75] [23, 24, 25, 26, 27, 28, 29, 30, 31, 32, 33, 34, 35, 36, 37, 38, 39, 40, 41, 42, 43] [] [0, 5, 6] [some 23, some 24, some 25, some 26, some 27, some 28, some 29, some 30, some 31, some 32, some 33, some 34, some 35, some 36, some 37, some 38, some 39, some 40, some 41, some 42, some 43] (L51_5).1 := w_plain (by kernel_rfl) (L51_5).2
noncomputable def L51_6 : Lt r51_6 := by refine ⟨?l, ?h⟩; case h => simp only [r51_6, c51, bodyOf, Tryd.f51, Code.sub, opsOf, List.map_cons, List.map_nil, strip]; rfl
theorem w51_6 : Wp r51_6 57 [57, 75] [4] [] [] [some 4] (L51_6).1 := w_plain (by kernel_rfl) (L51_6).2
noncomputable def L51_7 : Lt r51_7 := by refine ⟨?l, ?h⟩; case h => simp only [r51_7, c51, bodyOf, Tryd.f51, Code.sub, opsOf, List.map_cons, List.map_nil, strip]; rfl
theorem w51_7 : Wp r51_7 57 [57, 75] [44, 18] [] [18] [some 44, some 18] (L51_7).1 := w_plain (by kernel_rfl) (L51_7).2
noncomputable def L51_8 : Lt r51_8 := by refine ⟨?l, ?h⟩; case h => simp only [r51_8, c51, bodyOf, Tryd.f51, Code.sub, opsOf, List.map_cons, List.map_nil, strip]; rfl
theorem w51_8 : Wp r51_8 57 [57, 75] [45, 46, 47, 48, 49, 50, 51, 52, 7] [] [0, 1] [some 45, some 46, some 47, some 48, some 49, some 50, some 51, some 52, some 7, none] (L51_8).1 := w_plain (by kernel_rfl) (L51_8).2
noncomputable def L51_9 : Lt r51_9 := by refine ⟨?l, ?h⟩; case h => simp only [r51_9, c51, bodyOf, Tryd.f51, Code.sub, opsOf, List.map_cons, List.map_nil, strip]; rfl
theorem w51_9 : Wp r51_9 57 [57, 75] [53, 54, 55, 56] [] [7] [some 53, some 54, some 55, some 56] (L51_9).1 := w_plain (by kernel_rfl) (L51_9).2
noncomputable def L51_10 : Lt r51_10 := by refine ⟨?l, ?h⟩; case h => simp only [r51_10, c51, bodyOf, Tryd.f51, Code.sub, opsOf, List.map_cons, List.map_nil, strip]; rfl
theorem w51_10 : Wp r51_10 57 [57, 75] [] [57] [56, 55] [some 57] (L51_10).1 := w_plain (by kernel_rfl) (L51_10).2
noncomputable def L51_11 : Lt r51_11 := by refine ⟨?l, ?h⟩; case h => simp only [r51_11, c51, bodyOf, Tryd.f51, Code.sub, opsOf, List.map_cons, List.map_nil, strip]; rfl
theorem w51_11 : Wp r51_11 57 [57, 75] [9] [] [54, 56] [some 58, some 59, some 9] (L51_11).1 := w_plain (by kernel_rfl) (L51_11).2
noncomputable def L51_12 : Lt r51_12 := by refine ⟨?l, ?h⟩; case h => simp only [r51_12, c51, bodyOf, Tryd.f51, Code.sub, opsOf, List.map_cons, List.map_nil, strip]; rfl
theorem w51_12 : Wp r51_12 57 [57, 75] [] [75] [7, 0, 9] [some 60, some 61, some 62, some 63, some 64, some 65, some 66, some 67, some 68, some 69, some 70, some 71, some 72, some 73, some 74, some 75] (L51_12).1 := w_plain (by kernel_rfl) (L51_12).2
noncomputable def L51_13 : Lt r51_13 := by refine ⟨?l, ?h⟩; case h => simp only [r51_13, c51, bodyOf, Tryd.f51, Code.sub, opsOf, List.map_cons, List.map_nil, strip]; rfl
theorem w51_13 : Wp r51_13 57 [57, 75] [4] [] [] [some 4] (L51_13).1 := w_plain (by kernel_rfl) (L51_13).2
noncomputable def L51_14 : Lt r51_14 := by refine ⟨?l, ?h⟩; case h => simp only [r51_14, c51, bodyOf, Tryd.f51, Code.sub, opsOf, List.map_cons, List.map_nil, strip]; rfl
theorem w51_14 : Wp r51_14 57 [57, 75] [56] [] [56] [some 76, some 56] (L51_14).1 := w_plain (by kernel_rfl) (L51_14).2
noncomputable def L51_15 : Lt r51_15 := by refine ⟨?l, ?h⟩; case h => simp only [r51_15, c51, bodyOf, Tryd.f51, Code.sub, opsOf, List.map_cons, List.map_nil, strip]; rfl
theorem w51_15 : Wp r51_15 57 [57, 75] [4] [] [] [some 4] (L51_15).1 := w_plain (by kernel_rfl) (L51_15).2
theorem k51 : FnIs TT 51 c51 [.tmp 4] 2 := ⟨Tryd.f51, by kernel_rfl, by simp only [Tryd.f51, c51, bodyOf], by kernel_rfl, of_decide_eq_true (by kernel_rfl)⟩
noncomputable def c52 : Code := bodyOf Tryd.f52
noncomputable def r52_0 : Code := Code.sub [0] c52
noncomputable def r52_1 : Code := Code.sub [1, 0] c52
theorem body52 : c52 = (.seq r52_0 (.seq r52_1 .ret)) := by kernel_rfl
noncomputable def L52_0 : Lt r52_0 := by refine ⟨?l, ?h⟩; case h => simp only [r52_0, c52, bodyOf, Tryd.f52, Code.sub, opsOf, List.map_cons, List.map_nil, strip]; rfl
theorem w52_0 : Wp r52_0 3 [] [2] [] [] [some 2] (L52_0).1 := w_plain (by kernel_rfl) (L52_0).2
noncomputable def L52_1 : Lt r52_1 := by refine ⟨?l, ?h⟩; case h => simp only [r52_1, c52, bodyOf, Tryd.f52, Code.sub, opsOf, List.map_cons, List.map_nil, strip]; rfl
theorem w52_1 : Wp r52_1 3 [] [2] [] [0] [some 3, some 4, some 5, some 6, some 7, some 2] (L52_1).1 := w_plain (by kernel_rfl) (L52_1).2
theorem k52 : FnIs TT 52 c52 [.tmp 2] 1 := ⟨Tryd.f52, by kernel_rfl, by simp only [Tryd.f52, c52, bodyOf], by kernel_rfl, of_decide_eq_true (by kernel_rfl)⟩
noncomputable def c53 : Code := bodyOf Tryd.f53
noncomputable def r53_0 : Code := Code.sub [0] c53
noncomputable def r53_1 : Code := Code.sub [1, 0] c53
noncomputable def r53_2 : Code := Code.sub [1, 1, 0] c53
noncomputable def r53_3 : Code := Code.sub [1, 1, 1, 0, 0] c53
noncomputable def r53_4 : Code := Code.sub [1, 1, 1, 0, 1, 0, 0, 0] c53
noncomputable def r53_5 : Code := Code.sub [1, 1, 1, 0, 1, 0, 0, 1, 1, 0, 0, 0] c53
noncomputable def r53_6 : Code := Code.sub [1, 1, 1, 0, 1, 0, 0, 1, 1, 0, 0, 1] c53
noncomputable def r53_7 : Code := Code.sub [1, 1, 1, 0, 1, 0, 0, 1, 1, 1] c53
noncomputable def r53_8 : Code := Code.sub [1, 1, 1, 1, 0, 0] c53
noncomputable def r53_9 : Code := Code.sub [1, 1, 1, 1, 0, 1, 0, 0, 0] c53
noncomputable def r53_10 : Code := Code.sub [1, 1, 1, 1, 0, 1, 0, 0, 1, 1, 0, 0, 0] c53
noncomputable def r53_11 : Code := Code.sub [1, 1, 1, 1, 0, 1, 0, 0, 1, 1, 0, 0, 1] c53
noncomputable def r53_12 : Code := Code.sub [1, 1, 1, 1, 0, 1, 0, 0, 1, 1, 1] c53
noncomputable def r53_13 : Code := Code.sub [1, 1, 1, 1, 1, 0, 0] c53
noncomputable def r53_14 : Code := Code.sub [1, 1, 1, 1, 1, 0, 1, 0, 0] c53
noncomputable def r53_15 : Code := Code.sub [1, 1, 1, 1, 1, 1, 0] c53
noncomputable def r53_16 : Code := Code.sub [1, 1, 1, 1, 1, 1, 1, 0] c53
noncomputable def r53_17 : Code := Code.sub [1, 1, 1, 1, 1, 1, 1, 1, 0, 0] c53
noncomputable def r53_18 : Code := Code.sub [1, 1, 1, 1, 1, 1, 1, 1, 0, 1, 0, 0, 0, 0] c53
noncomputable def r53_19 : Code := Code.sub [1, 1, 1, 1, 1, 1, 1, 1, 0, 1, 0, 0, 1, 0, 0] c53
noncomputable def r53_20 : Code := Code.sub [1, 1, 1, 1, 1, 1, 1, 1, 0, 1, 0, 0, 1, 0, 1, 0] c53
noncomputable def r53_21 : Code := Code.sub [1, 1, 1, 1, 1, 1, 1, 1, 0, 1, 0, 0, 1, 0, 1, 1, 0, 0, 0] c53
noncomputable def r53_22 : Code := Code.sub [1, 1, 1, 1, 1, 1, 1, 1, 0, 1, 0, 0, 1, 0, 1, 1, 0, 0, 1, 1, 0, 0, 0] c53
noncomputable def r53_23 : Code := Code.sub [1, 1, 1, 1, 1, 1, 1, 1, 0, 1, 0, 0, 1, 0, 1, 1, 0, 0, 1, 1, 0, 0, 1, 0] c53
noncomputable def r53_24 : Code := Code.sub [1, 1, 1, 1, 1, 1, 1, 1, 0, 1, 0, 0, 1, 0, 1, 1, 0, 0, 1, 1, 0, 0, 1, 1, 0, 0] c53
noncomputable def r53_25 : Code := Code.sub [1, 1, 1, 1, 1, 1, 1, 1, 0, 1, 0, 0, 1, 0, 1, 1, 0, 0, 1, 1, 0, 0, 1, 1, 0, 1, 0, 0, 0] c53
noncomputable def r53_26 : Code := Code.sub [1, 1, 1, 1, 1, 1, 1, 1, 0, 1, 0, 0, 1, 0, 1, 1, 0, 0, 1, 1, 0, 0, 1, 1, 0, 1, 0, 0, 1, 1, 0, 0, 0] c53
noncomputable def r53_27 : Code := Code.sub [1, 1, 1, 1, 1, 1, 1, 1, 0, 1, 0, 0, 1, 0, 1, 1, 0, 0, 1, 1, 0, 0, 1, 1, 0, 1, 0, 0, 1, 1, 0, 0, 1, 0, 0] c53
noncomputable def r53_28 : Code := Code.sub [1, 1, 1, 1, 1, 1, 1, 1, 0, 1, 0, 0, 1, 0, 1, 1, 0, 0, 1, 1, 0, 0, 1, 1, 0, 1, 0, 0, 1, 1, 0, 0, 1, 0, 1, 1, 0] c53
noncomputable def r53_29 : Code := Code.sub [1, 1, 1, 1, 1, 1, 1, 1, 0, 1, 0, 0, 1, 0, 1, 1, 0, 0, 1, 1, 0, 0, 1, 1, 0, 1, 0, 0, 1, 1, 0, 0, 1, 0, 1, 1, 1, 0] c53
noncomputable def r53_30 : Code := Code.sub [1, 1, 1, 1, 1, 1, 1, 1, 0, 1, 0, 0, 1, 0, 1, 1, 0, 0, 1, 1, 0, 0, 1, 1, 0, 1, 0, 0, 1, 1, 0, 0, 1, 0, 1, 1, 1, 1] c53
noncomputable def r53_31 : Code := Code.sub [1, 1, 1, 1, 1, 1, 1, 1, 0, 1, 0, 0, 1, 0, 1, 1, 0, 0, 1, 1, 0, 0, 1, 1, 0, 1, 0, 0, 1, 1, 1] c53
noncomputable def r53_32 : Code := Code.sub [1, 1, 1, 1, 1, 1, 1, 1, 0, 1, 0, 0, 1, 0, 1, 1, 0, 0, 1, 1, 0, 0, 1, 1, 1, 0] c53
noncomputable def r53_33 : Code := Code.sub [1, 1, 1, 1, 1, 1, 1, 1, 0, 1, 0, 0, 1, 0, 1, 1, 0, 0, 1, 1, 0, 0, 1, 1, 1, 1, 0] c53
noncomputable def r53_34 : Code := Code.sub [1, 1, 1, 1, 1, 1, 1, 1, 0, 1, 0, 0, 1, 0, 1, 1, 0, 0, 1, 1, 1] c53
noncomputable def r53_35 : Code := Code.sub [1, 1, 1, 1, 1, 1, 1, 1, 1, 0] c53
noncomputable def r53_36 : Code := Code.sub [1, 1, 1, 1, 1, 1, 1, 1, 1, 1, 0] c53
theorem body53 : c53 = (.seq r53_0 (.seq r53_1 (.seq r53_2 (.seq (.seq r53_3 (.block 0 (.loop (.seq r53_4 (.seq (.cond (.tmp 32) .skip (.exit 0)) (.seq (.block 1 (.seq r53_5 r53_6)) r53_7)))))) (.seq (.seq r53_8 (.block 2 (.loop (.seq r53_9 (.seq (.cond (.tmp 41) .skip (.exit 2)) (.seq (.block 3 (.seq r53_10 r53_11)) r53_12)))))) (.seq (.seq r53_13 (.cond (.tmp 52) (.seq r53_14 .ret) .skip)) (.seq r53_15 (.seq r53_16 (.seq (.seq r53_17 (.block 4 (.loop (.seq (.seq r53_18 (.cond (.tmp 57) .skip (.exit 4))) (.block 5 (.seq r53_19 (.seq r53_20 (.block 6 (.loop (.seq r53_21 (.seq (.cond (.tmp 62) .skip (.exit 6)) (.seq (.block 7 (.seq r53_22 (.seq r53_23 (.seq (.seq r53_24 (.block 8 (.loop (.seq r53_25 (.seq (.cond (.tmp 71) .skip (.exit 8)) (.seq (.block 9 (.seq r53_26 (.block 10 (.seq r53_27 (.cond (.tmp 78) .skip (.seq r53_28 (.cond (.tmp 84) r53_29 r53_30))))))) r53_31)))))) (.seq r53_32 (.cond (.tmp 94) r53_33 .skip)))))) r53_34)))))))))))) (.seq r53_35 (.seq r53_36 .ret))))))))))) := by kernel_rfl
noncomputable def L53_0 : Lt r53_0 := by refine ⟨?l, ?h⟩; case h => simp only [r53_0, c53, bodyOf, Tryd.f53, Code.sub, opsOf, List.map_cons, List.map_nil, strip]; rfl
theorem w53_0 : Wp r53_0 71 [71, 78, 84, 94] [1, 2] [] [0] [some 1, some 2] (L53_0).1 := w_plain (by kernel_rfl) (L53_0).2
theorem can53_1 : canonOps (opsOf r53_1) = opsOf r53_1 := by kernel_rfl
noncomputable def L53_1 : Lc r53_1 := by refine ⟨?l, (congrArg (List.map strip) can53_1).trans ?h⟩; case h => simp only [r53_1, c53, bodyOf, Tryd.f53, Code.sub, opsOf, List.map_cons, List.map_nil, strip]; rfl
theorem w53_1 : Wd r53_1 71 [71, 78, 84, 94] [17, 18, 19, 20, 3, 4] [] [1] [some 17, some 18, some 19, some 20, some 3, some 4] (L53_1).1 [(0, [1]), (2, [1, 3])] := w_loud (by kernel_rfl) (L53_1).2
theorem can53_2 : canonOps (opsOf r53_2) = List.filterMap (fun i => ((opsOf r53_2)[i]?).map (renum [0, 1, 2, 4, 5, 6, 3, 8, 9, 10, 7, 11])) [0, 1, 2, 4, 5, 6, 3, 8, 9, 10, 7, 11] := by kernel_rfl
noncomputable def L53_2 : Lc r53_2 := by refine ⟨?l, (congrArg (List.map strip) can53_2).trans ?h⟩; case h => simp only [r53_2, c53, bodyOf, Tryd.f53, Code.sub, opsOf, List.filterMap_cons, List.filterMap_nil, List.getElem?_cons_succ, List.getElem?_cons_zero, Option.map_some, renum, List.map_cons, List.map_nil, strip]; rfl
theorem w53_2 : Wd r53_2 71 [71, 78, 84, 94] [21, 22, 23, 25, 26, 27, 24, 5, 6, 28] [] [1] [some 21, some 22, some 23, some 25, some 26, some 27, some 24, some 5, some 6, none, some 28, none] (L53_2).1 [(1, [6]), (2, [6]), (4, [6, 7, 8, 9, 10]), (5, [6, 7, 8, 9, 10])] := w_loud (by kernel_rfl) (L53_2).2
noncomputable def L53_3 : Lt r53_3 := by refine ⟨?l, ?h⟩; case h => simp only [r53_3, c53, bodyOf, Tryd.f53, Code.sub, opsOf, List.map_cons, List.map_nil, strip]; rfl
theorem w53_3 : Wp r53_3 71 [71, 78, 84, 94] [29, 30, 31] [] [5] [some 29, some 30, some 31] (L53_3).1 := w_plain (by kernel_rfl) (L53_3).2
noncomputable def L53_4 : Lt r53_4 := by refine ⟨?l, ?h⟩; case h => simp only [r53_4, c53, bodyOf, Tryd.f53, Code.sub, opsOf, List.map_cons, List.map_nil, strip]; rfl
theorem w53_4 : Wp r53_4 71 [71, 78, 84, 94] [32] [] [31, 30] [some 32] (L53_4).1 := w_plain (by kernel_rfl) (L53_4).2
noncomputable def L53_5 : Lt r53_5 := by refine ⟨?l, ?h⟩; case h => simp only [r53_5, c53, bodyOf, Tryd.f53, Code.sub, opsOf, List.map_cons, List.map_nil, strip]; rfl
theorem w53_5 : Wp r53_5 71 [71, 78, 84, 94] [33, 7] [] [31] [some 33, some 7] (L53_5).1 := w_plain (by kernel_rfl) (L53_5).2
noncomputable def L53_6 : Lt r53_6 := by refine ⟨?l, ?h⟩; case h => simp only [r53_6, c53, bodyOf, Tryd.f53, Code.sub, opsOf, List.map_cons, List.map_nil, strip]; rfl
theorem w53_6 : Wp r53_6 71 [71, 78, 84, 94] [34, 35, 36] [] [5, 7] [some 34, some 35, some 36, none] (L53_6).1 := w_plain (by kernel_rfl) (L53_6).2
noncomputable def L53_7 : Lt r53_7 := by refine ⟨?l, ?h⟩; case h => simp only [r53_7, c53, bodyOf, Tryd.f53, Code.sub, opsOf, List.map_cons, List.map_nil, strip]; rfl
theorem w53_7 : Wp r53_7 71 [71, 78, 84, 94] [37, 31] [] [31] [some 37, some 31] (L53_7).1 := w_plain (by kernel_rfl) (L53_7).2
noncomputable def L53_8 : Lt r53_8 := by refine ⟨?l, ?h⟩; case h => simp only [r53_8, c53, bodyOf, Tryd.f53, Code.sub, opsOf, List.map_cons, List.map_nil, strip]; rfl
theorem w53_8 : Wp r53_8 71 [71, 78, 84, 94] [38, 39, 40] [] [3] [some 38, some 39, some 40] (L53_8).1 := w_plain (by kernel_rfl) (L53_8).2
noncomputable def L53_9 : Lt r53_9 := by refine ⟨?l, ?h⟩; case h => simp only [r53_9, c53, bodyOf, Tryd.f53, Code.sub, opsOf, List.map_cons, List.map_nil, strip]; rfl
theorem w53_9 : Wp r53_9 71 [71, 78, 84, 94] [41] [] [40, 39] [some 41] (L53_9).1 := w_plain (by kernel_rfl) (L53_9).2
noncomputable def L53_10 : Lt r53_10 := by refine ⟨?l, ?h⟩; case h => simp only [r53_10, c53, bodyOf, Tryd.f53, Code.sub, opsOf, List.map_cons, List.map_nil, strip]; rfl
theorem w53_10 : Wp r53_10 71 [71, 78, 84, 94] [42, 43, 44, 8, 9] [] [38, 40] [some 42, some 43, some 44, some 8, some 9] (L53_10).1 := w_plain (by kernel_rfl) (L53_10).2
noncomputable def L53_11 : Lt r53_11 := by refine ⟨?l, ?h⟩; case h => simp only [r53_11, c53, bodyOf, Tryd.f53, Code.sub, opsOf, List.map_cons, List.map_nil, strip]; rfl
theorem w53_11 : Wp r53_11 71 [71, 78, 84, 94] [45, 46, 47, 48] [] [6, 9, 8] [some 45, some 46, some 47, some 48, none] (L53_11).1 := w_plain (by kernel_rfl) (L53_11).2
noncomputable def L53_12 : Lt r53_12 := by refine ⟨?l, ?h⟩; case h => simp only [r53_12, c53, bodyOf, Tryd.f53, Code.sub, opsOf, List.map_cons, List.map_nil, strip]; rfl
theorem w53_12 : Wp r53_12 71 [71, 78, 84, 94] [49, 40] [] [40] [some 49, some 40] (L53_12).1 := w_plain (by kernel_rfl) (L53_12).2
noncomputable def L53_13 : Lt r53_13 := by refine ⟨?l, ?h⟩; case h => simp only [r53_13, c53, bodyOf, Tryd.f53, Code.sub, opsOf, List.map_cons, List.map_nil, strip]; rfl
theorem w53_13 : Wp r53_13 71 [71, 78, 84, 94] [50, 51, 52] [] [3] [some 50, some 51, some 52] (L53_13).1 := w_plain (by kernel_rfl) (L53_13).2
noncomputable def L53_14 : Lt r53_14 := by refine ⟨?l, ?h⟩; case h => simp only [r53_14, c53, bodyOf, Tryd.f53, Code.sub, opsOf, List.map_cons, List.map_nil, strip]; rfl
theorem w53_14 : Wp r53_14 71 [71, 78, 84, 94] [53, 2] [] [5] [some 53, some 2] (L53_14).1 := w_plain (by kernel_rfl) (L53_14).2
noncomputable def L53_15 : Lt r53_15 := by refine ⟨?l, ?h⟩; case h => simp only [r53_15, c53, bodyOf, Tryd.f53, Code.sub, opsOf, List.map_cons, List.map_nil, strip]; rfl
theorem w53_15 : Wp r53_15 71 [71, 78, 84, 94] [54, 55] [] [5] [some 54, some 55, none] (L53_15).1 := w_plain (by kernel_rfl) (L53_15).2
noncomputable def L53_16 : Lt r53_16 := by refine ⟨?l, ?h⟩; case h => simp only [r53_16, c53, bodyOf, Tryd.f53, Code.sub, opsOf, List.map_cons, List.map_nil, strip]; rfl
theorem w53_16 : Wp r53_16 71 [71, 78, 84, 94] [56, 10] [] [6, 5] [some 56, some 10] (L53_16).1 := w_plain (by kernel_rfl) (L53_16).2
noncomputable def L53_17 : Lt r53_17 := by refine ⟨?l, ?h⟩; case h => simp only [r53_17, c53, bodyOf, Tryd.f53, Code.sub, opsOf, List.map_cons, List.map_nil, strip]; rfl
theorem w53_17 : Wp r53_17 71 [71, 78, 84, 94] [11] [] [] [some 11] (L53_17).1 := w_plain (by kernel_rfl) (L53_17).2
noncomputable def L53_18 : Lt r53_18 := by refine ⟨?l, ?h⟩; case h => simp only [r53_18, c53, bodyOf, Tryd.f53, Code.sub, opsOf, List.map_cons, List.map_nil, strip]; rfl
theorem w53_18 : Wp r53_18 71 [71, 78, 84, 94] [57] [] [11] [some 57] (L53_18).1 := w_plain (by kernel_rfl) (L53_18).2
noncomputable def L53_19 : Lt r53_19 := by refine ⟨?l, ?h⟩; case h => simp only [r53_19, c53, bodyOf, Tryd.f53, Code.sub, opsOf, List.map_cons, List.map_nil, strip]; rfl
theorem w53_19 : Wp r53_19 71 [71, 78, 84, 94] [11] [] [] [some 11] (L53_19).1 := w_plain (by kernel_rfl) (L53_19).2
noncomputable def L53_20 : Lt r53_20 := by refine ⟨?l, ?h⟩; case h => simp only [r53_20, c53, bodyOf, Tryd.f53, Code.sub, opsOf, List.map_cons, List.map_nil, strip]; rfl
theorem w53_20 : Wp r53_20 71 [71, 78, 84, 94] [58, 59, 60, 61] [] [3] [some 58, some 59, some 60, some 61] (L53_20).1 := w_plain (by kernel_rfl) (L53_20).2
noncomputable def L53_21 : Lt r53_21 := by refine ⟨?l, ?h⟩; case h => simp only [r53_21, c53, bodyOf, Tryd.f53, Code.sub, opsOf, List.map_cons, List.map_nil, strip]; rfl
theorem w53_21 : Wp r53_21 71 [71, 78, 84, 94] [62] [] [61, 60] [some 62] (L53_21).1 := w_plain (by kernel_rfl) (L53_21).2
noncomputable def L53_22 : Lt r53_22 := by refine ⟨?l, ?h⟩; case h => simp only [r53_22, c53, bodyOf, Tryd.f53, Code.sub, opsOf, List.map_cons, List.map_nil, strip]; rfl
theorem w53_22 : Wp r53_22 71 [71, 78, 84, 94] [63, 64, 13] [] [59, 61] [some 63, some 64, some 13] (L53_22).1 := w_plain (by kernel_rfl) (L53_22).2
noncomputable def L53_23 : Lt r53_23 := by refine ⟨?l, ?h⟩; case h => simp only [r53_23, c53, bodyOf, Tryd.f53, Code.sub, opsOf, List.map_cons, List.map_nil, strip]; rfl
theorem w53_23 : Wp r53_23 71 [71, 78, 84, 94] [14] [] [] [some 14] (L53_23).1 := w_plain (by kernel_rfl) (L53_23).2
noncomputable def L53_24 : Lt r53_24 := by refine ⟨?l, ?h⟩; case h => simp only [r53_24, c53, bodyOf, Tryd.f53, Code.sub, opsOf, List.map_cons, List.map_nil, strip]; rfl
theorem w53_24 : Wp r53_24 71 [71, 78, 84, 94] [65, 66, 67, 68, 69, 70] [] [4, 13] [some 65, some 66, some 67, some 68, some 69, some 70] (L53_24).1 := w_plain (by kernel_rfl) (L53_24).2
noncomputable def L53_25 : Lt r53_25 := by refine ⟨?l, ?h⟩; case h => simp only [r53_25, c53, bodyOf, Tryd.f53, Code.sub, opsOf, List.map_cons, List.map_nil, strip]; rfl
theorem w53_25 : Wp r53_25 71 [71, 78, 84, 94] [] [71] [70, 69] [some 71] (L53_25).1 := w_plain (by kernel_rfl) (L53_25).2
noncomputable def L53_26 : Lt r53_26 := by refine ⟨?l, ?h⟩; case h => simp only [r53_26, c53, bodyOf, Tryd.f53, Code.sub, opsOf, List.map_cons, List.map_nil, strip]; rfl
theorem w53_26 : Wp r53_26 71 [71, 78, 84, 94] [16] [] [68, 70] [some 72, some 73, some 16] (L53_26).1 := w_plain (by kernel_rfl) (L53_26).2
noncomputable def L53_27 : Lt r53_27 := by refine ⟨?l, ?h⟩; case h => simp only [r53_27, c53, bodyOf, Tryd.f53, Code.sub, opsOf, List.map_cons, List.map_nil, strip]; rfl
theorem w53_27 : Wp r53_27 71 [71, 78, 84, 94] [] [78] [5, 16] [some 79, some 80, some 81, some 82, some 83, some 78] (L53_27).1 := w_plain (by kernel_rfl) (L53_27).2
noncomputable def L53_28 : Lt r53_28 := by refine ⟨?l, ?h⟩; case h => simp only [r53_28, c53, bodyOf, Tryd.f53, Code.sub, opsOf, List.map_cons, List.map_nil, strip]; rfl
theorem w53_28 : Wp r53_28 71 [71, 78, 84, 94] [] [84] [14] [some 85, some 86, some 84] (L53_28).1 := w_plain (by kernel_rfl) (L53_28).2
noncomputable def L53_29 : Lt r53_29 := by refine ⟨?l, ?h⟩; case h => simp only [r53_29, c53, bodyOf, Tryd.f53, Code.sub, opsOf, List.map_cons, List.map_nil, strip]; rfl
theorem w53_29 : Wp r53_29 71 [71, 78, 84, 94] [14] [] [16] [some 87, some 14] (L53_29).1 := w_plain (by kernel_rfl) (L53_29).2
noncomputable def L53_30 : Lt r53_30 := by refine ⟨?l, ?h⟩; case h => simp only [r53_30, c53, bodyOf, Tryd.f53, Code.sub, opsOf, List.map_cons, List.map_nil, strip]; rfl
theorem w53_30 : Wp r53_30 71 [71, 78, 84, 94] [14] [] [10, 14, 16] [some 74, some 75, some 76, some 77, some 14] (L53_30).1 := w_plain (by kernel_rfl) (L53_30).2
noncomputable def L53_31 : Lt r53_31 := by refine ⟨?l, ?h⟩; case h => simp only [r53_31, c53, bodyOf, Tryd.f53, Code.sub, opsOf, List.map_cons, List.map_nil, strip]; rfl
theorem w53_31 : Wp r53_31 71 [71, 78, 84, 94] [70] [] [70] [some 88, some 70] (L53_31).1 := w_plain (by kernel_rfl) (L53_31).2
noncomputable def L53_32 : Lt r53_32 := by refine ⟨?l, ?h⟩; case h => simp only [r53_32, c53, bodyOf, Tryd.f53, Code.sub, opsOf, List.map_cons, List.map_nil, strip]; rfl
theorem w53_32 : Wp r53_32 71 [71, 78, 84, 94] [] [94] [5, 13, 14] [some 89, some 90, some 91, some 92, some 93, some 94] (L53_32).1 := w_plain (by kernel_rfl) (L53_32).2
noncomputable def L53_33 : Lt r53_33 := by refine ⟨?l, ?h⟩; case h => simp only [r53_33, c53, bodyOf, Tryd.f53, Code.sub, opsOf, List.map_cons, List.map_nil, strip]; rfl
theorem w53_33 : Wp r53_33 71 [71, 78, 84, 94] [11] [] [5, 13, 14] [some 95, some 96, some 97, some 98, none, some 11] (L53_33).1 := w_plain (by kernel_rfl) (L53_33).2
noncomputable def L53_34 : Lt r53_34 := by refine ⟨?l, ?h⟩; case h => simp only [r53_34, c53, bodyOf, Tryd.f53, Code.sub, opsOf, List.map_cons, List.map_nil, strip]; rfl
theorem w53_34 : Wp r53_34 71 [71, 78, 84, 94] [61] [] [61] [some 99, some 61] (L53_34).1 := w_plain (by kernel_rfl) (L53_34).2
noncomputable def L53_35 : Lt r53_35 := by refine ⟨?l, ?h⟩; case h => simp only [r53_35, c53, bodyOf, Tryd.f53, Code.sub, opsOf, List.map_cons, List.map_nil, strip]; rfl
theorem w53_35 : Wp r53_35 71 [71, 78, 84, 94] [] [] [5] [some 100, some 101, none] (L53_35).1 := w_plain (by kernel_rfl) (L53_35).2
noncomputable def L53_36 : Lt r53_36 := by refine ⟨?l, ?h⟩; case h => simp only [r53_36, c53, bodyOf, Tryd.f53, Code.sub, opsOf, List.map_cons, List.map_nil, strip]; rfl
theorem w53_36 : Wp r53_36 71 [71, 78, 84, 94] [2] [] [5] [some 102, some 2] (L53_36).1 := w_plain (by kernel_rfl) (L53_36).2
theorem k53 : FnIs TT 53 c53 [.tmp 2] 1 := ⟨Tryd.f53, by kernel_rfl, by simp only [Tryd.f53, c53, bodyOf], by kernel_rfl, of_decide_eq_true (by kernel_rfl)⟩
noncomputable def c54 : Code := bodyOf Tryd.f54
noncomputable def r54_0 : Code := Code.sub [0] c54
noncomputable def r54_1 : Code := Code.sub [1, 0] c54
noncomputable def r54_2 : Code := Code.sub [1, 1, 0] c54
noncomputable def r54_3 : Code := Code.sub [1, 1, 1, 0, 0] c54
noncomputable def r54_4 : Code := Code.sub [1, 1, 1, 0, 1, 0, 0, 0] c54
noncomputable def r54_5 : Code := Code.sub [1, 1, 1, 0, 1, 0, 0, 1, 1, 0, 0, 0] c54
noncomputable def r54_6 : Code := Code.sub [1, 1, 1, 0, 1, 0, 0, 1, 1, 0, 0, 1, 0] c54
noncomputable def r54_7 : Code := Code.sub [1, 1, 1, 0, 1, 0, 0, 1, 1, 0, 0, 1, 1, 0, 0] c54
noncomputable def r54_8 : Code := Code.sub [1, 1, 1, 0, 1, 0, 0, 1, 1, 0, 0, 1, 1, 0, 1, 0, 0, 0] c54
noncomputable def r54_9 : Code := Code.sub [1, 1, 1, 0, 1, 0, 0, 1, 1, 0, 0, 1, 1, 0, 1, 0, 0, 1, 0, 0, 0] c54
noncomputable def r54_10 : Code := Code.sub [1, 1, 1, 0, 1, 0, 0, 1, 1, 0, 0, 1, 1, 0, 1, 0, 0, 1, 0, 0, 1, 1, 0, 0, 0] c54
noncomputable def r54_11 : Code := Code.sub [1, 1, 1, 0, 1, 0, 0, 1, 1, 0, 0, 1, 1, 0, 1, 0, 0, 1, 0, 0, 1, 1, 0, 0, 1, 0] c54
noncomputable def r54_12 : Code := Code.sub [1, 1, 1, 0, 1, 0, 0, 1, 1, 0, 0, 1, 1, 0, 1, 0, 0, 1, 0, 0, 1, 1, 0, 0, 1, 1, 0, 0] c54
noncomputable def r54_13 : Code := Code.sub [1, 1, 1, 0, 1, 0, 0, 1, 1, 0, 0, 1, 1, 0, 1, 0, 0, 1, 0, 0, 1, 1, 1] c54
noncomputable def r54_14 : Code := Code.sub [1, 1, 1, 0, 1, 0, 0, 1, 1, 0, 0, 1, 1, 1, 0] c54
noncomputable def r54_15 : Code := Code.sub [1, 1, 1, 0, 1, 0, 0, 1, 1, 0, 0, 1, 1, 1, 1, 0, 0] c54
noncomputable def r54_16 : Code := Code.sub [1, 1, 1, 0, 1, 0, 0, 1, 1, 1] c54
noncomputable def r54_17 : Code := Code.sub [1, 1, 1, 1, 0, 0] c54
noncomputable def r54_18 : Code := Code.sub [1, 1, 1, 1, 0, 1, 0, 0] c54
noncomputable def r54_19 : Code := Code.sub [1, 1, 1, 1, 0, 1, 0, 1, 0, 0] c54
noncomputable def r54_20 : Code := Code.sub [1, 1, 1, 1, 0, 1, 0, 1, 1, 0] c54
noncomputable def r54_21 : Code := Code.sub [1, 1, 1, 1, 0, 1, 0, 1, 1, 1, 0, 0] c54
noncomputable def r54_22 : Code := Code.sub [1, 1, 1, 1, 1, 0] c54
theorem body54 : c54 = (.seq r54_0 (.seq r54_1 (.seq r54_2 (.seq (.seq r54_3 (.block 0 (.loop (.seq r54_4 (.seq (.cond (.tmp 27) .skip (.exit 0)) (.seq (.block 1 (.seq r54_5 (.seq r54_6 (.seq (.seq r54_7 (.cond (.tmp 41) (.seq (.seq r54_8 (.block 2 (.loop (.seq r54_9 (.seq (.cond (.tmp 46) .skip (.exit 2)) (.seq (.block 3 (.seq r54_10 (.seq r54_11 (.cond (.tmp 73) (.seq r54_12 .ret) .skip)))) r54_13)))))) (.exit 1)) .skip)) (.seq r54_14 (.cond (.tmp 95) (.seq r54_15 .ret) .skip)))))) r54_16)))))) (.seq (.seq r54_17 (.block 4 (.seq r54_18 (.cond (.tmp 99) (.seq r54_19 .ret) (.seq r54_20 (.cond (.tmp 108) (.seq r54_21 .ret) .skip)))))) (.seq r54_22 .ret)))))) := by kernel_rfl
noncomputable def L54_0 : Lt r54_0 := by refine ⟨?l, ?h⟩; case h => simp only [r54_0, c54, bodyOf, Tryd.f54, Code.sub, opsOf, List.map_cons, List.map_nil, strip]; rfl
theorem w54_0 : Wp r54_0 99 [99, 108] [4] [] [] [some 4] (L54_0).1 := w_plain (by kernel_rfl) (L54_0).2
noncomputable def L54_1 : Lt r54_1 := by refine ⟨?l, ?h⟩; case h => simp only [r54_1, c54, bodyOf, Tryd.f54, Code.sub, opsOf, List.map_cons, List.map_nil, strip]; rfl
theorem w54_1 : Wp r54_1 99 [99, 108] [12, 13, 14, 15, 16, 17, 18, 19, 5] [] [0, 1] [some 12, some 13, some 14, some 15, some 16, some 17, some 18, some 19, some 5, none] (L54_1).1 := w_plain (by kernel_rfl) (L54_1).2
noncomputable def L54_2 : Lt r54_2 := by refine ⟨?l, ?h⟩; case h => simp only [r54_2, c54, bodyOf, Tryd.f54, Code.sub, opsOf, List.map_cons, List.map_nil, strip]; rfl
theorem w54_2 : Wp r54_2 99 [99, 108] [20, 21, 22, 6] [] [5] [some 20, some 21, some 22, some 6] (L54_2).1 := w_plain (by kernel_rfl) (L54_2).2
noncomputable def L54_3 : Lt r54_3 := by refine ⟨?l, ?h⟩; case h => simp only [r54_3, c54, bodyOf, Tryd.f54, Code.sub, opsOf, List.map_cons, List.map_nil, strip]; rfl
theorem w54_3 : Wp r54_3 99 [99, 108] [23, 24, 25, 26] [] [5] [some 23, some 24, some 25, some 26] (L54_3).1 := w_plain (by kernel_rfl) (L54_3).2
noncomputable def L54_4 : Lt r54_4 := by refine ⟨?l, ?h⟩; case h => simp only [r54_4, c54, bodyOf, Tryd.f54, Code.sub, opsOf, List.map_cons, List.map_nil, strip]; rfl
theorem w54_4 : Wp r54_4 99 [99, 108] [27] [] [26, 25] [some 27] (L54_4).1 := w_plain (by kernel_rfl) (L54_4).2
noncomputable def L54_5 : Lt r54_5 := by refine ⟨?l, ?h⟩; case h => simp only [r54_5, c54, bodyOf, Tryd.f54, Code.sub, opsOf, List.map_cons, List.map_nil, strip]; rfl
theorem w54_5 : Wp r54_5 99 [99, 108] [28, 29, 30, 7, 8] [] [24, 26] [some 28, some 29, some 30, some 7, some 8] (L54_5).1 := w_plain (by kernel_rfl) (L54_5).2
noncomputable def L54_6 : Lt r54_6 := by refine ⟨?l, ?h⟩; case h => simp only [r54_6, c54, bodyOf, Tryd.f54, Code.sub, opsOf, List.map_cons, List.map_nil, strip]; rfl
theorem w54_6 : Wp r54_6 99 [99, 108] [31, 32, 33, 34, 35, 36, 37, 38, 9] [] [0, 8] [some 31, some 32, some 33, some 34, some 35, some 36, some 37, some 38, some 9, none] (L54_6).1 := w_plain (by kernel_rfl) (L54_6).2
noncomputable def L54_7 : Lt r54_7 := by refine ⟨?l, ?h⟩; case h => simp only [r54_7, c54, bodyOf, Tryd.f54, Code.sub, opsOf, List.map_cons, List.map_nil, strip]; rfl
theorem w54_7 : Wp r54_7 99 [99, 108] [39, 40, 41] [] [9] [some 39, some 40, some 41] (L54_7).1 := w_plain (by kernel_rfl) (L54_7).2
noncomputable def L54_8 : Lt r54_8 := by refine ⟨?l, ?h⟩; case h => simp only [r54_8, c54, bodyOf, Tryd.f54, Code.sub, opsOf, List.map_cons, List.map_nil, strip]; rfl
theorem w54_8 : Wp r54_8 99 [99, 108] [42, 43, 44, 45] [] [9] [some 42, some 43, some 44, some 45] (L54_8).1 := w_plain (by kernel_rfl) (L54_8).2
noncomputable def L54_9 : Lt r54_9 := by refine ⟨?l, ?h⟩; case h => simp only [r54_9, c54, bodyOf, Tryd.f54, Code.sub, opsOf, List.map_cons, List.map_nil, strip]; rfl
theorem w54_9 : Wp r54_9 99 [99, 108] [46] [] [45, 44] [some 46] (L54_9).1 := w_plain (by kernel_rfl) (L54_9).2
noncomputable def L54_10 : Lt r54_10 := by refine ⟨?l, ?h⟩; case h => simp only [r54_10, c54, bodyOf, Tryd.f54, Code.sub, opsOf, List.map_cons, List.map_nil, strip]; rfl
theorem w54_10 : Wp r54_10 99 [99, 108] [47, 48, 49, 10, 11] [] [43, 45] [some 47, some 48, some 49, some 10, some 11] (L54_10).1 := w_plain (by kernel_rfl) (L54_10).2
theorem can54_11 : canonOps (opsOf r54_11) = List.filterMap (fun i => ((opsOf r54_11)[i]?).map (renum [0, 1, 3, 4, 5, 6, 7, 8, 9, 10, 11, 12, 13, 14, 15, 16, 17, 18, 19, 20, 21, 2, 22, 23])) [0, 1, 3, 4, 5, 6, 7, 8, 9, 10, 11, 12, 13, 14, 15, 16, 17, 18, 19, 20, 21, 2, 22, 23] := by kernel_rfl
noncomputable def L54_11 : Lc r54_11 := by refine ⟨?l, (congrArg (List.map strip) can54_11).trans ?h⟩; case h => simp only [r54_11, c54, bodyOf, Tryd.f54, Code.sub, opsOf, List.filterMap_cons, List.filterMap_nil, List.getElem?_cons_succ, List.getElem?_cons_zero, Option.map_some, renum, List.map_cons, List.map_nil, strip]; rfl
theorem w54_11 : Wd r54_11 99 [99, 108] [50, 51, 53, 54, 55, 56, 57, 58, 59, 60, 61, 62, 63, 64, 65, 66, 67, 68, 69, 70, 71, 52, 72, 73] [] [11, 0, 5, 10] [some 50, some 51, some 53, some 54, some 55, some 56, some 57, some 58, some 59, some 60, some 61, some 62, some 63, some 64, some 65, some 66, some 67, some 68, some 69, some 70, some 71, some 52, some 72, some 73] (L54_11).1 [(3, [21, 22]), (6, [21, 22]), (11, [21, 22]), (13, [21, 22]), (16, [21, 22]), (19, [21, 22]), (20, [21, 22])] := w_loud (by kernel_rfl) (L54_11).2
noncomputable def L54_12 : Lt r54_12 := by refine ⟨?l, ?h⟩; case h => simp only [r54_12, c54, bodyOf, Tryd.f54, Code.sub, opsOf, List.map_cons, List.map_nil, strip]; rfl
theorem w54_12 : Wp r54_12 99 [99, 108] [4] [] [] [some 4] (L54_12).1 := w_plain (by kernel_rfl) (L54_12).2
noncomputable def L54_13 : Lt r54_13 := by refine ⟨?l, ?h⟩; case h => simp only [r54_13, c54, bodyOf, Tryd.f54, Code.sub, opsOf, List.map_cons, List.map_nil, strip]; rfl
theorem w54_13 : Wp r54_13 99 [99, 108] [74, 45] [] [45] [some 74, some 45] (L54_13).1 := w_plain (by kernel_rfl) (L54_13).2
noncomputable def L54_14 : Lt r54_14 := by refine ⟨?l, ?h⟩; case h => simp only [r54_14, c54, bodyOf, Tryd.f54, Code.sub, opsOf, List.map_cons, List.map_nil, strip]; rfl
theorem w54_14 : Wp r54_14 99 [99, 108] [75, 76, 77, 78, 79, 80, 81, 82, 83, 84, 85, 86, 87, 88, 89, 90, 91, 92, 93, 94, 95] [] [0, 9, 1, 7] [some 75, some 76, some 77, some 78, some 79, some 80, some 81, some 82, some 83, some 84, some 85, some 86, some 87, some 88, some 89, some 90, some 91, some 92, some 93, some 94, some 95] (L54_14).1 := w_plain (by kernel_rfl) (L54_14).2
noncomputable def L54_15 : Lt r54_15 := by refine ⟨?l, ?h⟩; case h => simp only [r54_15, c54, bodyOf, Tryd.f54, Code.sub, opsOf, List.map_cons, List.map_nil, strip]; rfl
theorem w54_15 : Wp r54_15 99 [99, 108] [4] [] [] [some 4] (L54_15).1 := w_plain (by kernel_rfl) (L54_15).2
noncomputable def L54_16 : Lt r54_16 := by refine ⟨?l, ?h⟩; case h => simp only [r54_16, c54, bodyOf, Tryd.f54, Code.sub, opsOf, List.map_cons, List.map_nil, strip]; rfl
theorem w54_16 : Wp r54_16 99 [99, 108] [96, 26] [] [26] [some 96, some 26] (L54_16).1 := w_plain (by kernel_rfl) (L54_16).2
noncomputable def L54_17 : Lt r54_17 := by refine ⟨?l, ?h⟩; case h => simp only [r54_17, c54, bodyOf, Tryd.f54, Code.sub, opsOf, List.map_cons, List.map_nil, strip]; rfl
theorem w54_17 : Wp r54_17 99 [99, 108] [97, 98] [] [5] [some 97, some 98] (L54_17).1 := w_plain (by kernel_rfl) (L54_17).2
noncomputable def L54_18 : Lt r54_18 := by refine ⟨?l, ?h⟩; case h => simp only [r54_18, c54, bodyOf, Tryd.f54, Code.sub, opsOf, List.map_cons, List.map_nil, strip]; rfl
theorem w54_18 : Wp r54_18 99 [99, 108] [] [99] [98] [some 100, some 99] (L54_18).1 := w_plain (by kernel_rfl) (L54_18).2
noncomputable def L54_19 : Lt r54_19 := by refine ⟨?l, ?h⟩; case h => simp only [r54_19, c54, bodyOf, Tryd.f54, Code.sub, opsOf, List.map_cons, List.map_nil, strip]; rfl
theorem w54_19 : Wp r54_19 99 [99, 108] [4] [] [0, 5, 1, 6] [some 101, some 102, some 103, some 104, some 105, some 106, some 107, some 4] (L54_19).1 := w_plain (by kernel_rfl) (L54_19).2
noncomputable def L54_20 : Lt r54_20 := by refine ⟨?l, ?h⟩; case h => simp only [r54_20, c54, bodyOf, Tryd.f54, Code.sub, opsOf, List.map_cons, List.map_nil, strip]; rfl
theorem w54_20 : Wp r54_20 99 [99, 108] [] [108] [98] [some 109, some 108] (L54_20).1 := w_plain (by kernel_rfl) (L54_20).2
noncomputable def L54_21 : Lt r54_21 := by refine ⟨?l, ?h⟩; case h => simp only [r54_21, c54, bodyOf, Tryd.f54, Code.sub, opsOf, List.map_cons, List.map_nil, strip]; rfl
theorem w54_21 : Wp r54_21 99 [99, 108] [4] [] [0, 5, 1, 6] [some 110, some 111, some 112, some 113, some 114, some 115, some 4] (L54_21).1 := w_plain (by kernel_rfl) (L54_21).2
noncomputable def L54_22 : Lt r54_22 := by refine ⟨?l, ?h⟩; case h => simp only [r54_22, c54, bodyOf, Tryd.f54, Code.sub, opsOf, List.map_cons, List.map_nil, strip]; rfl
theorem w54_22 : Wp r54_22 99 [99, 108] [4] [] [] [some 4] (L54_22).1 := w_plain (by kernel_rfl) (L54_22).2
theorem k54 : FnIs TT 54 c54 [.tmp 4] 2 := ⟨Tryd.f54, by kernel_rfl, by simp only [Tryd.f54, c54, bodyOf], by kernel_rfl, of_decide_eq_true (by kernel_rfl)⟩
noncomputable def c55 : Code := bodyOf Tryd.f55
noncomputable def r55_0 : Code := Code.sub [0] c55
noncomputable def r55_1 : Code := Code.sub [1, 0, 0] c55
noncomputable def r55_2 : Code := Code.sub [1, 0, 1, 0, 0] c55
noncomputable def r55_3 : Code := Code.sub [1, 1, 0] c55
theorem body55 : c55 = (.seq r55_0 (.seq (.seq r55_1 (.cond (.tmp 12) (.seq r55_2 .ret) .skip)) (.seq r55_3 .ret))) := by kernel_rfl
noncomputable def L55_0 : Lt r55_0 := by refine ⟨?l, ?h⟩; case h => simp only [r55_0, c55, bodyOf, Tryd.f55, Code.sub, opsOf, List.map_cons, List.map_nil, strip]; rfl
theorem w55_0 : Wp r55_0 5 [12] [4] [] [] [some 4] (L55_0).1 := w_plain (by kernel_rfl) (L55_0).2
noncomputable def L55_1 : Lt r55_1 := by refine ⟨?l, ?h⟩; case h => simp only [r55_1, c55, bodyOf, Tryd.f55, Code.sub, opsOf, List.map_cons, List.map_nil, strip]; rfl
theorem w55_1 : Wp r55_1 5 [12] [] [12] [1, 0] [some 5, some 6, some 7, some 8, some 9, some 10, some 11, some 12] (L55_1).1 := w_plain (by kernel_rfl) (L55_1).2
noncomputable def L55_2 : Lt r55_2 := by refine ⟨?l, ?h⟩; case h => simp only [r55_2, c55, bodyOf, Tryd.f55, Code.sub, opsOf, List.map_cons, List.map_nil, strip]; rfl
theorem w55_2 : Wp r55_2 5 [12] [4] [] [] [some 4] (L55_2).1 := w_plain (by kernel_rfl) (L55_2).2
noncomputable def L55_3 : Lt r55_3 := by refine ⟨?l, ?h⟩; case h => simp only [r55_3, c55, bodyOf, Tryd.f55, Code.sub, opsOf, List.map_cons, List.map_nil, strip]; rfl
theorem w55_3 : Wp r55_3 5 [12] [4] [] [0, 1] [some 13, some 14, some 15, some 16, some 17, some 18, some 19, some 4] (L55_3).1 := w_plain (by kernel_rfl) (L55_3).2
theorem k55 : FnIs TT 55 c55 [.tmp 4] 2 := ⟨Tryd.f55, by kernel_rfl, by simp only [Tryd.f55, c55, bodyOf], by kernel_rfl, of_decide_eq_true (by kernel_rfl)⟩
noncomputable def c56 : Code := bodyOf Tryd.f56
noncomputable def r56_0 : Code := Code.sub [0] c56
noncomputable def r56_1 : Code := Code.sub [1, 0, 0] c56
noncomputable def r56_2 : Code := Code.sub [1, 0, 1, 0, 0] c56
noncomputable def r56_3 : Code := Code.sub [1, 1, 0] c56
theorem body56 : c56 = (.seq r56_0 (.seq (.seq r56_1 (.cond (.tmp 15) (.seq r56_2 .ret) .skip)) (.seq r56_3 .ret))) := by kernel_rfl
noncomputable def L56_0 : Lt r56_0 := by refine ⟨?l, ?h⟩; case h => simp only [r56_0, c56, bodyOf, Tryd.f56, Code.sub, opsOf, List.map_cons, List.map_nil, strip]; rfl
theorem w56_0 : Wp r56_0 7 [15] [6] [] [] [some 6] (L56_0).1 := w_plain (by kernel_rfl) (L56_0).2
noncomputable def L56_1 : Lt r56_1 := by refine ⟨?l, ?h⟩; case h => simp only [r56_1, c56, bodyOf, Tryd.f56, Code.sub, opsOf, List.map_cons, List.map_nil, strip]; rfl
theorem w56_1 : Wp r56_1 7 [15] [] [15] [2, 0, 1] [some 7, some 8, some 9, some 10, some 11, some 12, some 13, some 14, some 15] (L56_1).1 := w_plain (by kernel_rfl) (L56_1).2
noncomputable def L56_2 : Lt r56_2 := by refine ⟨?l, ?h⟩; case h => simp only [r56_2, c56, bodyOf, Tryd.f56, Code.sub, opsOf, List.map_cons, List.map_nil, strip]; rfl
theorem w56_2 : Wp r56_2 7 [15] [6] [] [] [some 6] (L56_2).1 := w_plain (by kernel_rfl) (L56_2).2
noncomputable def L56_3 : Lt r56_3 := by refine ⟨?l, ?h⟩; case h => simp only [r56_3, c56, bodyOf, Tryd.f56, Code.sub, opsOf, List.map_cons, List.map_nil, strip]; rfl
theorem w56_3 : Wp r56_3 7 [15] [6] [] [1, 2] [some 16, some 17, some 18, some 19, some 20, some 6] (L56_3).1 := w_plain (by kernel_rfl) (L56_3).2
theorem k56 : FnIs TT 56 c56 [.tmp 6] 3 := ⟨Tryd.f56, by kernel_rfl, by simp only [Tryd.f56, c56, bodyOf], by kernel_rfl, of_decide_eq_true (by kernel_rfl)⟩
noncomputable def c57 : Code := bodyOf Tryd.f57
noncomputable def r57_0 : Code := Code.sub [0] c57
noncomputable def r57_1 : Code := Code.sub [1, 0] c57
noncomputable def r57_2 : Code := Code.sub [1, 1, 0, 0] c57
noncomputable def r57_3 : Code := Code.sub [1, 1, 0, 1, 0, 0, 0] c57
noncomputable def r57_4 : Code := Code.sub [1, 1, 0, 1, 0, 0, 1, 1, 0, 0, 0] c57
noncomputable def r57_5 : Code := Code.sub [1, 1, 0, 1, 0, 0, 1, 1, 0, 0, 1] c57
noncomputable def r57_6 : Code := Code.sub [1, 1, 0, 1, 0, 0, 1, 1, 1] c57
noncomputable def r57_7 : Code := Code.sub [1, 1, 1, 0] c57
theorem body57 : c57 = (.seq r57_0 (.seq r57_1 (.seq (.seq r57_2 (.block 0 (.loop (.seq r57_3 (.seq (.cond (.tmp 10) .skip (.exit 0)) (.seq (.block 1 (.seq r57_4 r57_5)) r57_6)))))) (.seq r57_7 .ret)))) := by kernel_rfl
noncomputable def L57_0 : Lt r57_0 := by refine ⟨?l, ?h⟩; case h => simp only [r57_0, c57, bodyOf, Tryd.f57, Code.sub, opsOf, List.map_cons, List.map_nil, strip]; rfl
theorem w57_0 : Wp r57_0 10 [10] [3] [] [] [some 3] (L57_0).1 := w_plain (by kernel_rfl) (L57_0).2
noncomputable def L57_1 : Lt r57_1 := by refine ⟨?l, ?h⟩; case h => simp only [r57_1, c57, bodyOf, Tryd.f57, Code.sub, opsOf, List.map_cons, List.map_nil, strip]; rfl
theorem w57_1 : Wp r57_1 10 [10] [4] [] [] [some 4] (L57_1).1 := w_plain (by kernel_rfl) (L57_1).2
noncomputable def L57_2 : Lt r57_2 := by refine ⟨?l, ?h⟩; case h => simp only [r57_2, c57, bodyOf, Tryd.f57, Code.sub, opsOf, List.map_cons, List.map_nil, strip]; rfl
theorem w57_2 : Wp r57_2 10 [10] [7, 8, 9] [] [0] [some 7, some 8, some 9] (L57_2).1 := w_plain (by kernel_rfl) (L57_2).2
noncomputable def L57_3 : Lt r57_3 := by refine ⟨?l, ?h⟩; case h => simp only [r57_3, c57, bodyOf, Tryd.f57, Code.sub, opsOf, List.map_cons, List.map_nil, strip]; rfl
theorem w57_3 : Wp r57_3 10 [10] [] [10] [9, 8] [some 10] (L57_3).1 := w_plain (by kernel_rfl) (L57_3).2
noncomputable def L57_4 : Lt r57_4 := by refine ⟨?l, ?h⟩; case h => simp only [r57_4, c57, bodyOf, Tryd.f57, Code.sub, opsOf, List.map_cons, List.map_nil, strip]; rfl
theorem w57_4 : Wp r57_4 10 [10] [6] [] [7, 9] [some 11, some 12, some 6] (L57_4).1 := w_plain (by kernel_rfl) (L57_4).2
noncomputable def L57_5 : Lt r57_5 := by refine ⟨?l, ?h⟩; case h => simp only [r57_5, c57, bodyOf, Tryd.f57, Code.sub, opsOf, List.map_cons, List.map_nil, strip]; rfl
theorem w57_5 : Wp r57_5 10 [10] [4] [] [4, 1, 6] [some 13, some 14, some 15, some 16, some 17, some 18, some 19, some 20, some 21, some 22, some 4] (L57_5).1 := w_plain (by kernel_rfl) (L57_5).2
noncomputable def L57_6 : Lt r57_6 := by refine ⟨?l, ?h⟩; case h => simp only [r57_6, c57, bodyOf, Tryd.f57, Code.sub, opsOf, List.map_cons, List.map_nil, strip]; rfl
theorem w57_6 : Wp r57_6 10 [10] [9] [] [9] [some 23, some 9] (L57_6).1 := w_plain (by kernel_rfl) (L57_6).2
noncomputable def L57_7 : Lt r57_7 := by refine ⟨?l, ?h⟩; case h => simp only [r57_7, c57, bodyOf, Tryd.f57, Code.sub, opsOf, List.map_cons, List.map_nil, strip]; rfl
theorem w57_7 : Wp r57_7 10 [10] [3] [] [4] [some 24, some 3] (L57_7).1 := w_plain (by kernel_rfl) (L57_7).2
theorem k57 : FnIs TT 57 c57 [.tmp 3] 2 := ⟨Tryd.f57, by kernel_rfl, by simp only [Tryd.f57, c57, bodyOf], by kernel_rfl, of_decide_eq_true (by kernel_rfl)⟩
noncomputable def c58 : Code := bodyOf Tryd.f58
noncomputable def r58_0 : Code := Code.sub [0] c58
noncomputable def r58_1 : Code := Code.sub [1, 0] c58
noncomputable def r58_2 : Code := Code.sub [1, 1, 0, 0] c58
noncomputable def r58_3 : Code := Code.sub [1, 1, 0, 1, 0, 0] c58
noncomputable def r58_4 : Code := Code.sub [1, 1, 0, 1, 0, 1, 0] c58
noncomputable def r58_5 : Code := Code.sub [1, 1, 0, 1, 0, 1, 1, 0] c58
noncomputable def r58_6 : Code := Code.sub [1, 1, 0, 1, 0, 1, 1, 1, 0] c58
noncomputable def r58_7 : Code := Code.sub [1, 1, 1, 0] c58
theorem body58 : c58 = (.seq r58_0 (.seq r58_1 (.seq (.seq r58_2 (.block 0 (.seq r58_3 (.cond (.tmp 17) r58_4 (.seq r58_5 (.cond (.tmp 28) r58_6 .skip)))))) (.seq r58_7 .ret)))) := by kernel_rfl
noncomputable def L58_0 : Lt r58_0 := by refine ⟨?l, ?h⟩; case h => simp only [r58_0, c58, bodyOf, Tryd.f58, Code.sub, opsOf, List.map_cons, List.map_nil, strip]; rfl
theorem w58_0 : Wp r58_0 17 [17, 28] [1, 2] [] [0] [some 1, some 2] (L58_0).1 := w_plain (by kernel_rfl) (L58_0).2
theorem can58_1 : canonOps (opsOf r58_1) = List.filterMap (fun i => ((opsOf r58_1)[i]?).map (renum [1, 2, 3, 4, 6, 7, 8, 5, 9, 0, 10, 11])) [1, 2, 3, 4, 6, 7, 8, 5, 9, 0, 10, 11] := by kernel_rfl
noncomputable def L58_1 : Lc r58_1 := by refine ⟨?l, (congrArg (List.map strip) can58_1).trans ?h⟩; case h => simp only [r58_1, c58, bodyOf, Tryd.f58, Code.sub, opsOf, List.filterMap_cons, List.filterMap_nil, List.getElem?_cons_succ, List.getElem?_cons_zero, Option.map_some, renum, List.map_cons, List.map_nil, strip]; rfl
theorem w58_1 : Wd r58_1 17 [17, 28] [5, 6, 7, 8, 10, 11, 12, 9, 13, 4, 14, 3] [] [1] [some 5, some 6, some 7, some 8, some 10, some 11, some 12, some 9, some 13, some 4, some 14, some 3] (L58_1).1 [(1, [6, 7]), (3, [6, 7]), (5, [6]), (8, [9, 10])] := w_loud (by kernel_rfl) (L58_1).2
noncomputable def L58_2 : Lt r58_2 := by refine ⟨?l, ?h⟩; case h => simp only [r58_2, c58, bodyOf, Tryd.f58, Code.sub, opsOf, List.map_cons, List.map_nil, strip]; rfl
theorem w58_2 : Wp r58_2 17 [17, 28] [15, 16] [] [1] [some 15, some 16] (L58_2).1 := w_plain (by kernel_rfl) (L58_2).2
noncomputable def L58_3 : Lt r58_3 := by refine ⟨?l, ?h⟩; case h => simp only [r58_3, c58, bodyOf, Tryd.f58, Code.sub, opsOf, List.map_cons, List.map_nil, strip]; rfl
theorem w58_3 : Wp r58_3 17 [17, 28] [] [17] [16] [some 18, some 17] (L58_3).1 := w_plain (by kernel_rfl) (L58_3).2
noncomputable def L58_4 : Lt r58_4 := by refine ⟨?l, ?h⟩; case h => simp only [r58_4, c58, bodyOf, Tryd.f58, Code.sub, opsOf, List.map_cons, List.map_nil, strip]; rfl
theorem w58_4 : Wp r58_4 17 [17, 28] [3] [] [3, 1] [some 19, some 20, some 21, some 22, some 23, some 24, some 25, some 26, some 27, some 3] (L58_4).1 := w_plain (by kernel_rfl) (L58_4).2
noncomputable def L58_5 : Lt r58_5 := by refine ⟨?l, ?h⟩; case h => simp only [r58_5, c58, bodyOf, Tryd.f58, Code.sub, opsOf, List.map_cons, List.map_nil, strip]; rfl
theorem w58_5 : Wp r58_5 17 [17, 28] [] [28] [16] [some 29, some 28] (L58_5).1 := w_plain (by kernel_rfl) (L58_5).2
noncomputable def L58_6 : Lt r58_6 := by refine ⟨?l, ?h⟩; case h => simp only [r58_6, c58, bodyOf, Tryd.f58, Code.sub, opsOf, List.map_cons, List.map_nil, strip]; rfl
theorem w58_6 : Wp r58_6 17 [17, 28] [3] [] [3, 1] [some 30, some 31, some 32, some 33, some 3] (L58_6).1 := w_plain (by kernel_rfl) (L58_6).2
noncomputable def L58_7 : Lt r58_7 := by refine ⟨?l, ?h⟩; case h => simp only [r58_7, c58, bodyOf, Tryd.f58, Code.sub, opsOf, List.map_cons, List.map_nil, strip]; rfl
theorem w58_7 : Wp r58_7 17 [17, 28] [2] [] [3] [some 34, some 2] (L58_7).1 := w_plain (by kernel_rfl) (L58_7).2
theorem k58 : FnIs TT 58 c58 [.tmp 2] 1 := ⟨Tryd.f58, by kernel_rfl, by simp only [Tryd.f58, c58, bodyOf], by kernel_rfl, of_decide_eq_true (by kernel_rfl)⟩
noncomputable def c59 : Code := bodyOf Tryd.f59
noncomputable def r59_0 : Code := Code.sub [0] c59
noncomputable def r59_1 : Code := Code.sub [1, 0] c59
theorem body59 : c59 = (.seq r59_0 (.seq r59_1 .ret)) := by kernel_rfl
noncomputable def L59_0 : Lt r59_0 := by refine ⟨?l, ?h⟩; case h => simp only [r59_0, c59, bodyOf, Tryd.f59, Code.sub, opsOf, List.map_cons, List.map_nil, strip]; rfl
theorem w59_0 : Wp r59_0 5 [] [4] [] [] [some 4] (L59_0).1 := w_plain (by kernel_rfl) (L59_0).2
noncomputable def L59_1 : Lt r59_1 := by refine ⟨?l, ?h⟩; case h => simp only [r59_1, c59, bodyOf, Tryd.f59, Code.sub, opsOf, List.map_cons, List.map_nil, strip]; rfl
theorem w59_1 : Wp r59_1 5 [] [4] [] [0, 1] [some 5, some 6, some 7, some 8, some 9, some 4] (L59_1).1 := w_plain (by kernel_rfl) (L59_1).2
theorem k59 : FnIs TT 59 c59 [.tmp 4] 2 := ⟨Tryd.f59, by kernel_rfl, by simp only [Tryd.f59, c59, bodyOf], by kernel_rfl, of_decide_eq_true (by kernel_rfl)⟩
noncomputable def c60 : Code := bodyOf Tryd.f60
noncomputable def r60_0 : Code := Code.sub [0] c60
noncomputable def r60_1 : Code := Code.sub [1, 0] c60
theorem body60 : c60 = (.seq r60_0 (.seq r60_1 .ret)) := by kernel_rfl
noncomputable def L60_0 : Lt r60_0 := by refine ⟨?l, ?h⟩; case h => simp only [r60_0, c60, bodyOf, Tryd.f60, Code.sub, opsOf, List.map_cons, List.map_nil, strip]; rfl
theorem w60_0 : Wp r60_0 5 [] [4] [] [] [some 4] (L60_0).1 := w_plain (by kernel_rfl) (L60_0).2
noncomputable def L60_1 : Lt r60_1 := by refine ⟨?l, ?h⟩; case h => simp only [r60_1, c60, bodyOf, Tryd.f60, Code.sub, opsOf, List.map_cons, List.map_nil, strip]; rfl
theorem w60_1 : Wp r60_1 5 [] [4] [] [0, 1] [some 5, some 6, some 7, some 8, some 9, some 4] (L60_1).1 := w_plain (by kernel_rfl) (L60_1).2
theorem k60 : FnIs TT 60 c60 [.tmp 4] 2 := ⟨Tryd.f60, by kernel_rfl, by simp only [Tryd.f60, c60, bodyOf], by kernel_rfl, of_decide_eq_true (by kernel_rfl)⟩
noncomputable def c61 : Code := bodyOf Tryd.f61
noncomputable def r61_0 : Code := Code.sub [0] c61
noncomputable def r61_1 : Code := Code.sub [1, 0] c61
noncomputable def r61_2 : Code := Code.sub [1, 1, 0, 0] c61
noncomputable def r61_3 : Code := Code.sub [1, 1, 0, 1, 0, 0] c61
noncomputable def r61_4 : Code := Code.sub [1, 1, 0, 1, 0, 1, 0, 0] c61
noncomputable def r61_5 : Code := Code.sub [1, 1, 0, 1, 0, 1, 1, 0] c61
noncomputable def r61_6 : Code := Code.sub [1, 1, 0, 1, 0, 1, 1, 1, 0, 0] c61
noncomputable def r61_7 : Code := Code.sub [1, 1, 0, 1, 0, 1, 1, 1, 1, 0] c61
noncomputable def r61_8 : Code := Code.sub [1, 1, 0, 1, 0, 1, 1, 1, 1, 1, 0, 0] c61
noncomputable def r61_9 : Code := Code.sub [1, 1, 0, 1, 0, 1, 1, 1, 1, 1, 1, 0, 0] c61
noncomputable def r61_10 : Code := Code.sub [1, 1, 0, 1, 0, 1, 1, 1, 1, 1, 1, 0, 1, 1] c61
noncomputable def r61_11 : Code := Code.sub [1, 1, 0, 1, 0, 1, 1, 1, 1, 1, 1, 1, 0, 0] c61
noncomputable def r61_12 : Code := Code.sub [1, 1, 0, 1, 0, 1, 1, 1, 1, 1, 1, 1, 1, 0] c61
noncomputable def r61_13 : Code := Code.sub [1, 1, 0, 1, 0, 1, 1, 1, 1, 1, 1, 1, 1, 1, 0, 0] c61
noncomputable def r61_14 : Code := Code.sub [1, 1, 0, 1, 0, 1, 1, 1, 1, 1, 1, 1, 1, 1, 1, 0] c61
noncomputable def r61_15 : Code := Code.sub [1, 1, 0, 1, 0, 1, 1, 1, 1, 1, 1, 1, 1, 1, 1, 1, 0, 0] c61
noncomputable def r61_16 : Code := Code.sub [1, 1, 0, 1, 0, 1, 1, 1, 1, 1, 1, 1, 1, 1, 1, 1, 1, 0] c61
noncomputable def r61_17 : Code := Code.sub [1, 1, 0, 1, 0, 1, 1, 1, 1, 1, 1, 1, 1, 1, 1, 1, 1, 1, 0, 0] c61
noncomputable def r61_18 : Code := Code.sub [1, 1, 0, 1, 0, 1, 1, 1, 1, 1, 1, 1, 1, 1, 1, 1, 1, 1, 1, 0] c61
noncomputable def r61_19 : Code := Code.sub [1, 1, 0, 1, 0, 1, 1, 1, 1, 1, 1, 1, 1, 1, 1, 1, 1, 1, 1, 1, 0, 0] c61
noncomputable def r61_20 : Code := Code.sub [1, 1, 0, 1, 0, 1, 1, 1, 1, 1, 1, 1, 1, 1, 1, 1, 1, 1, 1, 1, 1, 0] c61
noncomputable def r61_21 : Code := Code.sub [1, 1, 0, 1, 0, 1, 1, 1, 1, 1, 1, 1, 1, 1, 1, 1, 1, 1, 1, 1, 1, 1, 0, 0] c61
noncomputable def r61_22 : Code := Code.sub [1, 1, 0, 1, 0, 1, 1, 1, 1, 1, 1, 1, 1, 1, 1, 1, 1, 1, 1, 1, 1, 1, 1, 0] c61
noncomputable def r61_23 : Code := Code.sub [1, 1, 0, 1, 0, 1, 1, 1, 1, 1, 1, 1, 1, 1, 1, 1, 1, 1, 1, 1, 1, 1, 1, 1, 0, 0] c61
noncomputable def r61_24 : Code := Code.sub [1, 1, 0, 1, 0, 1, 1, 1, 1, 1, 1, 1, 1, 1, 1, 1, 1, 1, 1, 1, 1, 1, 1, 1, 1, 0] c61
noncomputable def r61_25 : Code := Code.sub [1, 1, 0, 1, 0, 1, 1, 1, 1, 1, 1, 1, 1, 1, 1, 1, 1, 1, 1, 1, 1, 1, 1, 1, 1, 1, 0, 0] c61
noncomputable def r61_26 : Code := Code.sub [1, 1, 1, 0] c61
theorem body61 : c61 = (.seq r61_0 (.seq r61_1 (.seq (.seq r61_2 (.block 0 (.seq r61_3 (.cond (.tmp 14) (.seq r61_4 .ret) (.seq r61_5 (.cond (.tmp 19) (.seq r61_6 .ret) (.seq r61_7 (.cond (.tmp 24) (.seq r61_8 .ret) (.seq (.seq r61_9 (.cond (.tmp 29) .skip r61_10)) (.cond (.tmp 29) (.seq r61_11 .ret) (.seq r61_12 (.cond (.tmp 36) (.seq r61_13 .ret) (.seq r61_14 (.cond (.tmp 40) (.seq r61_15 .ret) (.seq r61_16 (.cond (.tmp 45) (.seq r61_17 .ret) (.seq r61_18 (.cond (.tmp 51) (.seq r61_19 .ret) (.seq r61_20 (.cond (.tmp 57) (.seq r61_21 .ret) (.seq r61_22 (.cond (.tmp 63) (.seq r61_23 .ret) (.seq r61_24 (.cond (.tmp 69) (.seq r61_25 .ret) .skip)))))))))))))))))))))))) (.seq r61_26 .ret)))) := by kernel_rfl
noncomputable def L61_0 : Lt r61_0 := by refine ⟨?l, ?h⟩; case h => simp only [r61_0, c61, bodyOf, Tryd.f61, Code.sub, opsOf, List.map_cons, List.map_nil, strip]; rfl
theorem w61_0 : Wp r61_0 14 [14, 19, 24, 29, 29, 36, 40, 45, 51, 57, 63, 69] [6] [] [] [some 6] (L61_0).1 := w_plain (by kernel_rfl) (L61_0).2
noncomputable def L61_1 : Lt r61_1 := by refine ⟨?l, ?h⟩; case h => simp only [r61_1, c61, bodyOf, Tryd.f61, Code.sub, opsOf, List.map_cons, List.map_nil, strip]; rfl
theorem w61_1 : Wp r61_1 14 [14, 19, 24, 29, 29, 36, 40, 45, 51, 57, 63, 69] [9, 10, 11, 12, 7, 8] [] [1, 2] [some 9, some 10, some 11, some 12, some 7, some 8] (L61_1).1 := w_plain (by kernel_rfl) (L61_1).2
noncomputable def L61_2 : Lt r61_2 := by refine ⟨?l, ?h⟩; case h => simp only [r61_2, c61, bodyOf, Tryd.f61, Code.sub, opsOf, List.map_cons, List.map_nil, strip]; rfl
theorem w61_2 : Wp r61_2 14 [14, 19, 24, 29, 29, 36, 40, 45, 51, 57, 63, 69] [13] [] [0] [some 13] (L61_2).1 := w_plain (by kernel_rfl) (L61_2).2
noncomputable def L61_3 : Lt r61_3 := by refine ⟨?l, ?h⟩; case h => simp only [r61_3, c61, bodyOf, Tryd.f61, Code.sub, opsOf, List.map_cons, List.map_nil, strip]; rfl
theorem w61_3 : Wp r61_3 14 [14, 19, 24, 29, 29, 36, 40, 45, 51, 57, 63, 69] [] [14] [13] [some 15, some 14] (L61_3).1 := w_plain (by kernel_rfl) (L61_3).2
noncomputable def L61_4 : Lt r61_4 := by refine ⟨?l, ?h⟩; case h => simp only [r61_4, c61, bodyOf, Tryd.f61, Code.sub, opsOf, List.map_cons, List.map_nil, strip]; rfl
theorem w61_4 : Wp r61_4 14 [14, 19, 24, 29, 29, 36, 40, 45, 51, 57, 63, 69] [6] [] [1, 2] [some 16, some 17, some 18, some 6] (L61_4).1 := w_plain (by kernel_rfl) (L61_4).2
noncomputable def L61_5 : Lt r61_5 := by refine ⟨?l, ?h⟩; case h => simp only [r61_5, c61, bodyOf, Tryd.f61, Code.sub, opsOf, List.map_cons, List.map_nil, strip]; rfl
theorem w61_5 : Wp r61_5 14 [14, 19, 24, 29, 29, 36, 40, 45, 51, 57, 63, 69] [] [19] [13] [some 20, some 19] (L61_5).1 := w_plain (by kernel_rfl) (L61_5).2
noncomputable def L61_6 : Lt r61_6 := by refine ⟨?l, ?h⟩; case h => simp only [r61_6, c61, bodyOf, Tryd.f61, Code.sub, opsOf, List.map_cons, List.map_nil, strip]; rfl
theorem w61_6 : Wp r61_6 14 [14, 19, 24, 29, 29, 36, 40, 45, 51, 57, 63, 69] [6] [] [1, 2] [some 21, some 22, some 23, some 6] (L61_6).1 := w_plain (by kernel_rfl) (L61_6).2
noncomputable def L61_7 : Lt r61_7 := by refine ⟨?l, ?h⟩; case h => simp only [r61_7, c61, bodyOf, Tryd.f61, Code.sub, opsOf, List.map_cons, List.map_nil, strip]; rfl
theorem w61_7 : Wp r61_7 14 [14, 19, 24, 29, 29, 36, 40, 45, 51, 57, 63, 69] [] [24] [13] [some 25, some 24] (L61_7).1 := w_plain (by kernel_rfl) (L61_7).2
noncomputable def L61_8 : Lt r61_8 := by refine ⟨?l, ?h⟩; case h => simp only [r61_8, c61, bodyOf, Tryd.f61, Code.sub, opsOf, List.map_cons, List.map_nil, strip]; rfl
theorem w61_8 : Wp r61_8 14 [14, 19, 24, 29, 29, 36, 40, 45, 51, 57, 63, 69] [6] [] [1, 2] [some 26, some 27, some 28, some 6] (L61_8).1 := w_plain (by kernel_rfl) (L61_8).2
noncomputable def L61_9 : Lt r61_9 := by refine ⟨?l, ?h⟩; case h => simp only [r61_9, c61, bodyOf, Tryd.f61, Code.sub, opsOf, List.map_cons, List.map_nil, strip]; rfl
theorem w61_9 : Wp r61_9 14 [14, 19, 24, 29, 29, 36, 40, 45, 51, 57, 63, 69] [] [29] [13] [some 30, some 29] (L61_9).1 := w_plain (by kernel_rfl) (L61_9).2
noncomputable def L61_10 : Lt r61_10 := by refine ⟨?l, ?h⟩; case h => simp only [r61_10, c61, bodyOf, Tryd.f61, Code.sub, opsOf, List.map_cons, List.map_nil, strip]; rfl
theorem w61_10 : Wp r61_10 14 [14, 19, 24, 29, 29, 36, 40, 45, 51, 57, 63, 69] [] [29] [13] [some 31, some 29] (L61_10).1 := w_plain (by kernel_rfl) (L61_10).2
noncomputable def L61_11 : Lt r61_11 := by refine ⟨?l, ?h⟩; case h => simp only [r61_11, c61, bodyOf, Tryd.f61, Code.sub, opsOf, List.map_cons, List.map_nil, strip]; rfl
theorem w61_11 : Wp r61_11 14 [14, 19, 24, 29, 29, 36, 40, 45, 51, 57, 63, 69] [6] [] [0, 7, 8] [some 32, some 33, some 34, some 35, some 6] (L61_11).1 := w_plain (by kernel_rfl) (L61_11).2
noncomputable def L61_12 : Lt r61_12 := by refine ⟨?l, ?h⟩; case h => simp only [r61_12, c61, bodyOf, Tryd.f61, Code.sub, opsOf, List.map_cons, List.map_nil, strip]; rfl
theorem w61_12 : Wp r61_12 14 [14, 19, 24, 29, 29, 36, 40, 45, 51, 57, 63, 69] [] [36] [13] [some 37, some 36] (L61_12).1 := w_plain (by kernel_rfl) (L61_12).2
noncomputable def L61_13 : Lt r61_13 := by refine ⟨?l, ?h⟩; case h => simp only [r61_13, c61, bodyOf, Tryd.f61, Code.sub, opsOf, List.map_cons, List.map_nil, strip]; rfl
theorem w61_13 : Wp r61_13 14 [14, 19, 24, 29, 29, 36, 40, 45, 51, 57, 63, 69] [6] [] [1] [some 38, some 39, some 6] (L61_13).1 := w_plain (by kernel_rfl) (L61_13).2
noncomputable def L61_14 : Lt r61_14 := by refine ⟨?l, ?h⟩; case h => simp only [r61_14, c61, bodyOf, Tryd.f61, Code.sub, opsOf, List.map_cons, List.map_nil, strip]; rfl
theorem w61_14 : Wp r61_14 14 [14, 19, 24, 29, 29, 36, 40, 45, 51, 57, 63, 69] [] [40] [13] [some 41, some 40] (L61_14).1 := w_plain (by kernel_rfl) (L61_14).2
noncomputable def L61_15 : Lt r61_15 := by refine ⟨?l, ?h⟩; case h => simp only [r61_15, c61, bodyOf, Tryd.f61, Code.sub, opsOf, List.map_cons, List.map_nil, strip]; rfl
theorem w61_15 : Wp r61_15 14 [14, 19, 24, 29, 29, 36, 40, 45, 51, 57, 63, 69] [6] [] [1] [some 42, some 43, some 44, some 6] (L61_15).1 := w_plain (by kernel_rfl) (L61_15).2
noncomputable def L61_16 : Lt r61_16 := by refine ⟨?l, ?h⟩; case h => simp only [r61_16, c61, bodyOf, Tryd.f61, Code.sub, opsOf, List.map_cons, List.map_nil, strip]; rfl
theorem w61_16 : Wp r61_16 14 [14, 19, 24, 29, 29, 36, 40, 45, 51, 57, 63, 69] [] [45] [13] [some 46, some 45] (L61_16).1 := w_plain (by kernel_rfl) (L61_16).2
noncomputable def L61_17 : Lt r61_17 := by refine ⟨?l, ?h⟩; case h => simp only [r61_17, c61, bodyOf, Tryd.f61, Code.sub, opsOf, List.map_cons, List.map_nil, strip]; rfl
theorem w61_17 : Wp r61_17 14 [14, 19, 24, 29, 29, 36, 40, 45, 51, 57, 63, 69] [6] [] [1, 2] [some 47, some 48, some 49, some 50, some 6] (L61_17).1 := w_plain (by kernel_rfl) (L61_17).2
noncomputable def L61_18 : Lt r61_18 := by refine ⟨?l, ?h⟩; case h => simp only [r61_18, c61, bodyOf, Tryd.f61, Code.sub, opsOf, List.map_cons, List.map_nil, strip]; rfl
theorem w61_18 : Wp r61_18 14 [14, 19, 24, 29, 29, 36, 40, 45, 51, 57, 63, 69] [] [51] [13] [some 52, some 51] (L61_18).1 := w_plain (by kernel_rfl) (L61_18).2
noncomputable def L61_19 : Lt r61_19 := by refine ⟨?l, ?h⟩; case h => simp only [r61_19, c61, bodyOf, Tryd.f61, Code.sub, opsOf, List.map_cons, List.map_nil, strip]; rfl
theorem w61_19 : Wp r61_19 14 [14, 19, 24, 29, 29, 36, 40, 45, 51, 57, 63, 69] [6] [] [1, 2] [some 53, some 54, some 55, some 56, some 6] (L61_19).1 := w_plain (by kernel_rfl) (L61_19).2
noncomputable def L61_20 : Lt r61_20 := by refine ⟨?l, ?h⟩; case h => simp only [r61_20, c61, bodyOf, Tryd.f61, Code.sub, opsOf, List.map_cons, List.map_nil, strip]; rfl
theorem w61_20 : Wp r61_20 14 [14, 19, 24, 29, 29, 36, 40, 45, 51, 57, 63, 69] [] [57] [13] [some 58, some 57] (L61_20).1 := w_plain (by kernel_rfl) (L61_20).2
noncomputable def L61_21 : Lt r61_21 := by refine ⟨?l, ?h⟩; case h => simp only [r61_21, c61, bodyOf, Tryd.f61, Code.sub, opsOf, List.map_cons, List.map_nil, strip]; rfl
theorem w61_21 : Wp r61_21 14 [14, 19, 24, 29, 29, 36, 40, 45, 51, 57, 63, 69] [6] [] [7, 8] [some 59, some 60, some 61, some 62, some 6] (L61_21).1 := w_plain (by kernel_rfl) (L61_21).2
noncomputable def L61_22 : Lt r61_22 := by refine ⟨?l, ?h⟩; case h => simp only [r61_22, c61, bodyOf, Tryd.f61, Code.sub, opsOf, List.map_cons, List.map_nil, strip]; rfl
theorem w61_22 : Wp r61_22 14 [14, 19, 24, 29, 29, 36, 40, 45, 51, 57, 63, 69] [] [63] [13] [some 64, some 63] (L61_22).1 := w_plain (by kernel_rfl) (L61_22).2
noncomputable def L61_23 : Lt r61_23 := by refine ⟨?l, ?h⟩; case h => simp only [r61_23, c61, bodyOf, Tryd.f61, Code.sub, opsOf, List.map_cons, List.map_nil, strip]; rfl
theorem w61_23 : Wp r61_23 14 [14, 19, 24, 29, 29, 36, 40, 45, 51, 57, 63, 69] [6] [] [7, 8] [some 65, some 66, some 67, some 68, some 6] (L61_23).1 := w_plain (by kernel_rfl) (L61_23).2
noncomputable def L61_24 : Lt r61_24 := by refine ⟨?l, ?h⟩; case h => simp only [r61_24, c61, bodyOf, Tryd.f61, Code.sub, opsOf, List.map_cons, List.map_nil, strip]; rfl
theorem w61_24 : Wp r61_24 14 [14, 19, 24, 29, 29, 36, 40, 45, 51, 57, 63, 69] [] [69] [13] [some 70, some 69] (L61_24).1 := w_plain (by kernel_rfl) (L61_24).2
noncomputable def L61_25 : Lt r61_25 := by refine ⟨?l, ?h⟩; case h => simp only [r61_25, c61, bodyOf, Tryd.f61, Code.sub, opsOf, List.map_cons, List.map_nil, strip]; rfl
theorem w61_25 : Wp r61_25 14 [14, 19, 24, 29, 29, 36, 40, 45, 51, 57, 63, 69] [6] [] [1, 2] [some 71, some 72, some 73, some 74, some 6] (L61_25).1 := w_plain (by kernel_rfl) (L61_25).2
noncomputable def L61_26 : Lt r61_26 := by refine ⟨?l, ?h⟩; case h => simp only [r61_26, c61, bodyOf, Tryd.f61, Code.sub, opsOf, List.map_cons, List.map_nil, strip]; rfl
theorem w61_26 : Wp r61_26 14 [14, 19, 24, 29, 29, 36, 40, 45, 51, 57, 63, 69] [6] [] [] [some 6] (L61_26).1 := w_plain (by kernel_rfl) (L61_26).2
theorem k61 : FnIs TT 61 c61 [.tmp 6] 3 := ⟨Tryd.f61, by kernel_rfl, by simp only [Tryd.f61, c61, bodyOf], by kernel_rfl, of_decide_eq_true (by kernel_rfl)⟩
noncomputable def c62 : Code := bodyOf Tryd.f62
noncomputable def r62_0 : Code := Code.sub [0] c62
noncomputable def r62_1 : Code := Code.sub [1, 0, 0] c62
noncomputable def r62_2 : Code := Code.sub [1, 0, 1, 0, 0] c62
noncomputable def r62_3 : Code := Code.sub [1, 1, 0] c62
theorem body62 : c62 = (.seq r62_0 (.seq (.seq r62_1 (.cond (.tmp 3) (.seq r62_2 .ret) .skip)) (.seq r62_3 .ret))) := by kernel_rfl
noncomputable def L62_0 : Lt r62_0 := by refine ⟨?l, ?h⟩; case h => simp only [r62_0, c62, bodyOf, Tryd.f62, Code.sub, opsOf, List.map_cons, List.map_nil, strip]; rfl
theorem w62_0 : Wp r62_0 3 [3] [2] [] [] [some 2] (L62_0).1 := w_plain (by kernel_rfl) (L62_0).2
noncomputable def L62_1 : Lt r62_1 := by refine ⟨?l, ?h⟩; case h => simp only [r62_1, c62, bodyOf, Tryd.f62, Code.sub, opsOf, List.map_cons, List.map_nil, strip]; rfl
theorem w62_1 : Wp r62_1 3 [3] [] [3] [0] [some 3] (L62_1).1 := w_plain (by kernel_rfl) (L62_1).2
noncomputable def L62_2 : Lt r62_2 := by refine ⟨?l, ?h⟩; case h => simp only [r62_2, c62, bodyOf, Tryd.f62, Code.sub, opsOf, List.map_cons, List.map_nil, strip]; rfl
theorem w62_2 : Wp r62_2 3 [3] [2] [] [] [some 2] (L62_2).1 := w_plain (by kernel_rfl) (L62_2).2
noncomputable def L62_3 : Lt r62_3 := by refine ⟨?l, ?h⟩; case h => simp only [r62_3, c62, bodyOf, Tryd.f62, Code.sub, opsOf, List.map_cons, List.map_nil, strip]; rfl
theorem w62_3 : Wp r62_3 3 [3] [2] [] [] [some 2] (L62_3).1 := w_plain (by kernel_rfl) (L62_3).2
theorem k62 : FnIs TT 62 c62 [.tmp 2] 1 := ⟨Tryd.f62, by kernel_rfl, by simp only [Tryd.f62, c62, bodyOf], by kernel_rfl, of_decide_eq_true (by kernel_rfl)⟩
noncomputable def c64 : Code := bodyOf Tryd.f64
noncomputable def r64_0 : Code := Code.sub [0] c64
noncomputable def r64_1 : Code := Code.sub [1, 0, 0] c64
noncomputable def r64_2 : Code := Code.sub [1, 0, 1, 0, 0, 0] c64
noncomputable def r64_3 : Code := Code.sub [1, 0, 1, 0, 0, 1, 1, 0, 0, 0] c64
noncomputable def r64_4 : Code := Code.sub [1, 0, 1, 0, 0, 1, 1, 0, 0, 1, 0, 0] c64
noncomputable def r64_5 : Code := Code.sub [1, 0, 1, 0, 0, 1, 1, 0, 0, 1, 0, 1, 0, 0] c64
noncomputable def r64_6 : Code := Code.sub [1, 0, 1, 0, 0, 1, 1, 0, 0, 1, 1, 0] c64
noncomputable def r64_7 : Code := Code.sub [1, 0, 1, 0, 0, 1, 1, 0, 0, 1, 1, 1, 0, 0, 0] c64
noncomputable def r64_8 : Code := Code.sub [1, 0, 1, 0, 0, 1, 1, 0, 0, 1, 1, 1, 0, 0, 1, 1, 0] c64
noncomputable def r64_9 : Code := Code.sub [1, 0, 1, 0, 0, 1, 1, 0, 0, 1, 1, 1, 0, 0, 1, 1, 1, 1, 0] c64
noncomputable def r64_10 : Code := Code.sub [1, 0, 1, 0, 0, 1, 1, 0, 0, 1, 1, 1, 0, 0, 1, 1, 1, 1, 1, 1] c64
noncomputable def r64_11 : Code := Code.sub [1, 0, 1, 0, 0, 1, 1, 0, 0, 1, 1, 1, 0, 1, 0, 0] c64
noncomputable def r64_12 : Code := Code.sub [1, 0, 1, 0, 0, 1, 1, 1] c64
noncomputable def r64_13 : Code := Code.sub [1, 1, 0] c64
theorem body64 : c64 = (.seq r64_0 (.seq (.seq r64_1 (.block 0 (.loop (.seq r64_2 (.seq (.cond (.tmp 10) .skip (.exit 0)) (.seq (.block 1 (.seq r64_3 (.seq (.seq r64_4 (.cond (.tmp 21) (.seq r64_5 .ret) .skip)) (.seq r64_6 (.block 2 (.seq (.seq r64_7 (.cond (.tmp 31) .skip (.seq r64_8 (.cond (.tmp 31) .skip (.seq r64_9 (.cond (.tmp 31) .skip r64_10)))))) (.cond (.tmp 31) (.seq r64_11 .ret) .skip))))))) r64_12)))))) (.seq r64_13 .ret))) := by kernel_rfl
noncomputable def L64_0 : Lt r64_0 := by refine ⟨?l, ?h⟩; case h => simp only [r64_0, c64, bodyOf, Tryd.f64, Code.sub, opsOf, List.map_cons, List.map_nil, strip]; rfl
theorem w64_0 : Wp r64_0 31 [31, 31, 31, 31] [4] [] [] [some 4] (L64_0).1 := w_plain (by kernel_rfl) (L64_0).2
noncomputable def L64_1 : Lt r64_1 := by refine ⟨?l, ?h⟩; case h => simp only [r64_1, c64, bodyOf, Tryd.f64, Code.sub, opsOf, List.map_cons, List.map_nil, strip]; rfl
theorem w64_1 : Wp r64_1 31 [31, 31, 31, 31] [7, 8, 9] [] [1] [some 7, some 8, some 9] (L64_1).1 := w_plain (by kernel_rfl) (L64_1).2
noncomputable def L64_2 : Lt r64_2 := by refine ⟨?l, ?h⟩; case h => simp only [r64_2, c64, bodyOf, Tryd.f64, Code.sub, opsOf, List.map_cons, List.map_nil, strip]; rfl
theorem w64_2 : Wp r64_2 31 [31, 31, 31, 31] [10] [] [9, 8] [some 10] (L64_2).1 := w_plain (by kernel_rfl) (L64_2).2
noncomputable def L64_3 : Lt r64_3 := by refine ⟨?l, ?h⟩; case h => simp only [r64_3, c64, bodyOf, Tryd.f64, Code.sub, opsOf, List.map_cons, List.map_nil, strip]; rfl
theorem w64_3 : Wp r64_3 31 [31, 31, 31, 31] [11, 12, 6] [] [7, 9] [some 11, some 12, some 6] (L64_3).1 := w_plain (by kernel_rfl) (L64_3).2
noncomputable def L64_4 : Lt r64_4 := by refine ⟨?l, ?h⟩; case h => simp only [r64_4, c64, bodyOf, Tryd.f64, Code.sub, opsOf, List.map_cons, List.map_nil, strip]; rfl
theorem w64_4 : Wp r64_4 31 [31, 31, 31, 31] [13, 14, 15, 16, 17, 18, 19, 20, 21] [] [6, 0] [some 13, some 14, some 15, some 16, some 17, some 18, some 19, some 20, some 21] (L64_4).1 := w_plain (by kernel_rfl) (L64_4).2
noncomputable def L64_5 : Lt r64_5 := by refine ⟨?l, ?h⟩; case h => simp only [r64_5, c64, bodyOf, Tryd.f64, Code.sub, opsOf, List.map_cons, List.map_nil, strip]; rfl
theorem w64_5 : Wp r64_5 31 [31, 31, 31, 31] [4] [] [] [some 4] (L64_5).1 := w_plain (by kernel_rfl) (L64_5).2
noncomputable def L64_6 : Lt r64_6 := by refine ⟨?l, ?h⟩; case h => simp only [r64_6, c64, bodyOf, Tryd.f64, Code.sub, opsOf, List.map_cons, List.map_nil, strip]; rfl
theorem w64_6 : Wp r64_6 31 [31, 31, 31, 31] [22, 23, 24, 25, 26, 27, 28, 29, 30] [] [0, 6] [some 22, some 23, some 24, some 25, some 26, some 27, some 28, some 29, some 30] (L64_6).1 := w_plain (by kernel_rfl) (L64_6).2
noncomputable def L64_7 : Lt r64_7 := by refine ⟨?l, ?h⟩; case h => simp only [r64_7, c64, bodyOf, Tryd.f64, Code.sub, opsOf, List.map_cons, List.map_nil, strip]; rfl
theorem w64_7 : Wp r64_7 31 [31, 31, 31, 31] [] [31] [30] [some 32, some 31] (L64_7).1 := w_plain (by kernel_rfl) (L64_7).2
noncomputable def L64_8 : Lt r64_8 := by refine ⟨?l, ?h⟩; case h => simp only [r64_8, c64, bodyOf, Tryd.f64, Code.sub, opsOf, List.map_cons, List.map_nil, strip]; rfl
theorem w64_8 : Wp r64_8 31 [31, 31, 31, 31] [] [31] [30] [some 33, some 31] (L64_8).1 := w_plain (by kernel_rfl) (L64_8).2
noncomputable def L64_9 : Lt r64_9 := by refine ⟨?l, ?h⟩; case h => simp only [r64_9, c64, bodyOf, Tryd.f64, Code.sub, opsOf, List.map_cons, List.map_nil, strip]; rfl
theorem w64_9 : Wp r64_9 31 [31, 31, 31, 31] [] [31] [30] [some 34, some 31] (L64_9).1 := w_plain (by kernel_rfl) (L64_9).2
noncomputable def L64_10 : Lt r64_10 := by refine ⟨?l, ?h⟩; case h => simp only [r64_10, c64, bodyOf, Tryd.f64, Code.sub, opsOf, List.map_cons, List.map_nil, strip]; rfl
theorem w64_10 : Wp r64_10 31 [31, 31, 31, 31] [] [31] [30] [some 35, some 31] (L64_10).1 := w_plain (by kernel_rfl) (L64_10).2
noncomputable def L64_11 : Lt r64_11 := by refine ⟨?l, ?h⟩; case h => simp only [r64_11, c64, bodyOf, Tryd.f64, Code.sub, opsOf, List.map_cons, List.map_nil, strip]; rfl
theorem w64_11 : Wp r64_11 31 [31, 31, 31, 31] [4] [] [] [some 4] (L64_11).1 := w_plain (by kernel_rfl) (L64_11).2
noncomputable def L64_12 : Lt r64_12 := by refine ⟨?l, ?h⟩; case h => simp only [r64_12, c64, bodyOf, Tryd.f64, Code.sub, opsOf, List.map_cons, List.map_nil, strip]; rfl
theorem w64_12 : Wp r64_12 31 [31, 31, 31, 31] [9] [] [9] [some 36, some 9] (L64_12).1 := w_plain (by kernel_rfl) (L64_12).2
noncomputable def L64_13 : Lt r64_13 := by refine ⟨?l, ?h⟩; case h => simp only [r64_13, c64, bodyOf, Tryd.f64, Code.sub, opsOf, List.map_cons, List.map_nil, strip]; rfl
theorem w64_13 : Wp r64_13 31 [31, 31, 31, 31] [4] [] [] [some 4] (L64_13).1 := w_plain (by kernel_rfl) (L64_13).2
theorem k64 : FnIs TT 64 c64 [.tmp 4] 2 := ⟨Tryd.f64, by kernel_rfl, by simp only [Tryd.f64, c64, bodyOf], by kernel_rfl, of_decide_eq_true (by kernel_rfl)⟩
noncomputable def c65 : Code := bodyOf Tryd.f65
noncomputable def r65_0 : Code := Code.sub [0] c65
noncomputable def r65_1 : Code := Code.sub [1, 0] c65
theorem body65 : c65 = (.seq r65_0 (.seq r65_1 .ret)) := by kernel_rfl
noncomputable def L65_0 : Lt r65_0 := by refine ⟨?l, ?h⟩; case h => simp only [r65_0, c65, bodyOf, Tryd.f65, Code.sub, opsOf, List.map_cons, List.map_nil, strip]; rfl
theorem w65_0 : Wp r65_0 5 [] [4] [] [] [some 4] (L65_0).1 := w_plain (by kernel_rfl) (L65_0).2
noncomputable def L65_1 : Lt r65_1 := by refine ⟨?l, ?h⟩; case h => simp only [r65_1, c65, bodyOf, Tryd.f65, Code.sub, opsOf, List.map_cons, List.map_nil, strip]; rfl
theorem w65_1 : Wp r65_1 5 [] [4] [] [0, 1] [some 5, some 6, some 7, some 8, some 9, some 10, some 11, some 4] (L65_1).1 := w_plain (by kernel_rfl) (L65_1).2
theorem k65 : FnIs TT 65 c65 [.tmp 4] 2 := ⟨Tryd.f65, by kernel_rfl, by simp only [Tryd.f65, c65, bodyOf], by kernel_rfl, of_decide_eq_true (by kernel_rfl)⟩
noncomputable def c66 : Code := bodyOf Tryd.f66
noncomputable def r66_0 : Code := Code.sub [0] c66
noncomputable def r66_1 : Code := Code.sub [1, 0, 0] c66
noncomputable def r66_2 : Code := Code.sub [1, 0, 1, 0, 0] c66
noncomputable def r66_3 : Code := Code.sub [1, 1, 0] c66
theorem body66 : c66 = (.seq r66_0 (.seq (.seq r66_1 (.cond (.tmp 8) (.seq r66_2 .ret) .skip)) (.seq r66_3 .ret))) := by kernel_rfl
noncomputable def L66_0 : Lt r66_0 := by refine ⟨?l, ?h⟩; case h => simp only [r66_0, c66, bodyOf, Tryd.f66, Code.sub, opsOf, List.map_cons, List.map_nil, strip]; rfl
theorem w66_0 : Wp r66_0 3 [8] [2] [] [] [some 2] (L66_0).1 := w_plain (by kernel_rfl) (L66_0).2
noncomputable def L66_1 : Lt r66_1 := by refine ⟨?l, ?h⟩; case h => simp only [r66_1, c66, bodyOf, Tryd.f66, Code.sub, opsOf, List.map_cons, List.map_nil, strip]; rfl
theorem w66_1 : Wp r66_1 3 [8] [] [8] [0] [some 3, some 4, some 5, some 6, some 7, some 8] (L66_1).1 := w_plain (by kernel_rfl) (L66_1).2
noncomputable def L66_2 : Lt r66_2 := by refine ⟨?l, ?h⟩; case h => simp only [r66_2, c66, bodyOf, Tryd.f66, Code.sub, opsOf, List.map_cons, List.map_nil, strip]; rfl
theorem w66_2 : Wp r66_2 3 [8] [2] [] [] [some 2] (L66_2).1 := w_plain (by kernel_rfl) (L66_2).2
noncomputable def L66_3 : Lt r66_3 := by refine ⟨?l, ?h⟩; case h => simp only [r66_3, c66, bodyOf, Tryd.f66, Code.sub, opsOf, List.map_cons, List.map_nil, strip]; rfl
theorem w66_3 : Wp r66_3 3 [8] [2] [] [0] [some 9, some 10, some 11, some 12, some 13, some 2] (L66_3).1 := w_plain (by kernel_rfl) (L66_3).2
theorem k66 : FnIs TT 66 c66 [.tmp 2] 1 := ⟨Tryd.f66, by kernel_rfl, by simp only [Tryd.f66, c66, bodyOf], by kernel_rfl, of_decide_eq_true (by kernel_rfl)⟩
noncomputable def c67 : Code := bodyOf Tryd.f67
noncomputable def r67_0 : Code := Code.sub [0] c67
noncomputable def r67_1 : Code := Code.sub [1, 0] c67
theorem body67 : c67 = (.seq r67_0 (.seq r67_1 .ret)) := by kernel_rfl
noncomputable def L67_0 : Lt r67_0 := by refine ⟨?l, ?h⟩; case h => simp only [r67_0, c67, bodyOf, Tryd.f67, Code.sub, opsOf, List.map_cons, List.map_nil, strip]; rfl
theorem w67_0 : Wp r67_0 3 [] [2] [] [] [some 2] (L67_0).1 := w_plain (by kernel_rfl) (L67_0).2
noncomputable def L67_1 : Lt r67_1 := by refine ⟨?l, ?h⟩; case h => simp only [r67_1, c67, bodyOf, Tryd.f67, Code.sub, opsOf, List.map_cons, List.map_nil, strip]; rfl
theorem w67_1 : Wp r67_1 3 [] [2] [] [0] [some 3, some 4, some 5, some 6, some 7, some 8, some 2] (L67_1).1 := w_plain (by kernel_rfl) (L67_1).2
theorem k67 : FnIs TT 67 c67 [.tmp 2] 1 := ⟨Tryd.f67, by kernel_rfl, by simp only [Tryd.f67, c67, bodyOf], by kernel_rfl, of_decide_eq_true (by kernel_rfl)⟩
noncomputable def c68 : Code := bodyOf Tryd.f68
noncomputable def r68_0 : Code := Code.sub [0] c68
noncomputable def r68_1 : Code := Code.sub [1, 0] c68
theorem body68 : c68 = (.seq r68_0 (.seq r68_1 .ret)) := by kernel_rfl
noncomputable def L68_0 : Lt r68_0 := by refine ⟨?l, ?h⟩; case h => simp only [r68_0, c68, bodyOf, Tryd.f68, Code.sub, opsOf, List.map_cons, List.map_nil, strip]; rfl
theorem w68_0 : Wp r68_0 5 [] [4] [] [] [some 4] (L68_0).1 := w_plain (by kernel_rfl) (L68_0).2
noncomputable def L68_1 : Lt r68_1 := by refine ⟨?l, ?h⟩; case h => simp only [r68_1, c68, bodyOf, Tryd.f68, Code.sub, opsOf, List.map_cons, List.map_nil, strip]; rfl
theorem w68_1 : Wp r68_1 5 [] [4] [] [0, 1] [some 5, some 6, some 7, some 8, some 4] (L68_1).1 := w_plain (by kernel_rfl) (L68_1).2
theorem k68 : FnIs TT 68 c68 [.tmp 4] 2 := ⟨Tryd.f68, by kernel_rfl, by simp only [Tryd.f68, c68, bodyOf], by kernel_rfl, of_decide_eq_true (by kernel_rfl)⟩
noncomputable def c69 : Code := bodyOf Tryd.f69
noncomputable def r69_0 : Code := Code.sub [0] c69
noncomputable def r69_1 : Code := Code.sub [1, 0] c69
theorem body69 : c69 = (.seq r69_0 (.seq r69_1 .ret)) := by kernel_rfl
noncomputable def L69_0 : Lt r69_0 := by refine ⟨?l, ?h⟩; case h => simp only [r69_0, c69, bodyOf, Tryd.f69, Code.sub, opsOf, List.map_cons, List.map_nil, strip]; rfl
theorem w69_0 : Wp r69_0 4 [] [2, 3] [] [0] [some 2, some 3] (L69_0).1 := w_plain (by kernel_rfl) (L69_0).2
noncomputable def L69_1 : Lt r69_1 := by refine ⟨?l, ?h⟩; case h => simp only [r69_1, c69, bodyOf, Tryd.f69, Code.sub, opsOf, List.map_cons, List.map_nil, strip]; rfl
theorem w69_1 : Wp r69_1 4 [] [3] [] [2, 1] [some 4, some 5, some 6, some 7, some 8, some 9, some 10, some 11, some 12, some 13, some 3] (L69_1).1 := w_plain (by kernel_rfl) (L69_1).2
theorem k69 : FnIs TT 69 c69 [.tmp 3] 2 := ⟨Tryd.f69, by kernel_rfl, by simp only [Tryd.f69, c69, bodyOf], by kernel_rfl, of_decide_eq_true (by kernel_rfl)⟩
noncomputable def c70 : Code := bodyOf Tryd.f70
noncomputable def r70_0 : Code := Code.sub [0] c70
noncomputable def r70_1 : Code := Code.sub [1, 0] c70
noncomputable def r70_2 : Code := Code.sub [1, 1, 0, 0] c70
noncomputable def r70_3 : Code := Code.sub [1, 1, 0, 1, 0, 0, 0] c70
noncomputable def r70_4 : Code := Code.sub [1, 1, 0, 1, 0, 0, 1, 1, 0, 0, 0] c70
noncomputable def r70_5 : Code := Code.sub [1, 1, 0, 1, 0, 0, 1, 1, 0, 0, 1, 0] c70
noncomputable def r70_6 : Code := Code.sub [1, 1, 0, 1, 0, 0, 1, 1, 0, 0, 1, 1, 0, 0, 0] c70
noncomputable def r70_7 : Code := Code.sub [1, 1, 0, 1, 0, 0, 1, 1, 0, 0, 1, 1, 0, 0, 1, 1, 0, 0, 0] c70
noncomputable def r70_8 : Code := Code.sub [1, 1, 0, 1, 0, 0, 1, 1, 0, 0, 1, 1, 0, 0, 1, 1, 0, 0, 1, 0] c70
noncomputable def r70_9 : Code := Code.sub [1, 1, 0, 1, 0, 0, 1, 1, 0, 0, 1, 1, 0, 0, 1, 1, 0, 0, 1, 1, 0] c70
noncomputable def r70_10 : Code := Code.sub [1, 1, 0, 1, 0, 0, 1, 1, 0, 0, 1, 1, 0, 0, 1, 1, 1] c70
noncomputable def r70_11 : Code := Code.sub [1, 1, 0, 1, 0, 0, 1, 1, 1] c70
noncomputable def r70_12 : Code := Code.sub [1, 1, 1, 0] c70
theorem body70 : c70 = (.seq r70_0 (.seq r70_1 (.seq (.seq r70_2 (.block 0 (.loop (.seq r70_3 (.seq (.cond (.tmp 16) .skip (.exit 0)) (.seq (.block 1 (.seq r70_4 (.seq r70_5 (.block 2 (.loop (.seq r70_6 (.seq (.cond (.tmp 24) .skip (.exit 2)) (.seq (.block 3 (.seq r70_7 (.seq r70_8 (.cond (.tmp 30) r70_9 .skip)))) r70_10)))))))) r70_11)))))) (.seq r70_12 .ret)))) := by kernel_rfl
noncomputable def L70_0 : Lt r70_0 := by refine ⟨?l, ?h⟩; case h => simp only [r70_0, c70, bodyOf, Tryd.f70, Code.sub, opsOf, List.map_cons, List.map_nil, strip]; rfl
theorem w70_0 : Wp r70_0 24 [24, 30] [1, 2] [] [0] [some 1, some 2] (L70_0).1 := w_plain (by kernel_rfl) (L70_0).2
noncomputable def L70_1 : Lt r70_1 := by refine ⟨?l, ?h⟩; case h => simp only [r70_1, c70, bodyOf, Tryd.f70, Code.sub, opsOf, List.map_cons, List.map_nil, strip]; rfl
theorem w70_1 : Wp r70_1 24 [24, 30] [8, 9, 10, 11, 3] [] [1] [some 8, some 9, some 10, some 11, some 3] (L70_1).1 := w_plain (by kernel_rfl) (L70_1).2
noncomputable def L70_2 : Lt r70_2 := by refine ⟨?l, ?h⟩; case h => simp only [r70_2, c70, bodyOf, Tryd.f70, Code.sub, opsOf, List.map_cons, List.map_nil, strip]; rfl
theorem w70_2 : Wp r70_2 24 [24, 30] [12, 13, 14, 15] [] [1] [some 12, some 13, some 14, some 15] (L70_2).1 := w_plain (by kernel_rfl) (L70_2).2
noncomputable def L70_3 : Lt r70_3 := by refine ⟨?l, ?h⟩; case h => simp only [r70_3, c70, bodyOf, Tryd.f70, Code.sub, opsOf, List.map_cons, List.map_nil, strip]; rfl
theorem w70_3 : Wp r70_3 24 [24, 30] [16] [] [15, 14] [some 16] (L70_3).1 := w_plain (by kernel_rfl) (L70_3).2
noncomputable def L70_4 : Lt r70_4 := by refine ⟨?l, ?h⟩; case h => simp only [r70_4, c70, bodyOf, Tryd.f70, Code.sub, opsOf, List.map_cons, List.map_nil, strip]; rfl
theorem w70_4 : Wp r70_4 24 [24, 30] [17, 18, 19, 5, 4] [] [13, 15] [some 17, some 18, some 19, some 5, some 4, none] (L70_4).1 := w_plain (by kernel_rfl) (L70_4).2
noncomputable def L70_5 : Lt r70_5 := by refine ⟨?l, ?h⟩; case h => simp only [r70_5, c70, bodyOf, Tryd.f70, Code.sub, opsOf, List.map_cons, List.map_nil, strip]; rfl
theorem w70_5 : Wp r70_5 24 [24, 30] [20, 21, 22, 23] [] [5] [some 20, some 21, some 22, some 23] (L70_5).1 := w_plain (by kernel_rfl) (L70_5).2
noncomputable def L70_6 : Lt r70_6 := by refine ⟨?l, ?h⟩; case h => simp only [r70_6, c70, bodyOf, Tryd.f70, Code.sub, opsOf, List.map_cons, List.map_nil, strip]; rfl
theorem w70_6 : Wp r70_6 24 [24, 30] [] [24] [23, 22] [some 24] (L70_6).1 := w_plain (by kernel_rfl) (L70_6).2
noncomputable def L70_7 : Lt r70_7 := by refine ⟨?l, ?h⟩; case h => simp only [r70_7, c70, bodyOf, Tryd.f70, Code.sub, opsOf, List.map_cons, List.map_nil, strip]; rfl
theorem w70_7 : Wp r70_7 24 [24, 30] [7] [] [21, 23] [some 25, some 26, some 7] (L70_7).1 := w_plain (by kernel_rfl) (L70_7).2
noncomputable def L70_8 : Lt r70_8 := by refine ⟨?l, ?h⟩; case h => simp only [r70_8, c70, bodyOf, Tryd.f70, Code.sub, opsOf, List.map_cons, List.map_nil, strip]; rfl
theorem w70_8 : Wp r70_8 24 [24, 30] [] [30] [7, 3] [some 27, some 28, some 29, some 30] (L70_8).1 := w_plain (by kernel_rfl) (L70_8).2
noncomputable def L70_9 : Lt r70_9 := by refine ⟨?l, ?h⟩; case h => simp only [r70_9, c70, bodyOf, Tryd.f70, Code.sub, opsOf, List.map_cons, List.map_nil, strip]; rfl
theorem w70_9 : Wp r70_9 24 [24, 30] [] [] [3, 7, 4] [some 31, some 32, some 33, some 34, some 35, some 36, some 37, some 38, some 39, some 40, none] (L70_9).1 := w_plain (by kernel_rfl) (L70_9).2
noncomputable def L70_10 : Lt r70_10 := by refine ⟨?l, ?h⟩; case h => simp only [r70_10, c70, bodyOf, Tryd.f70, Code.sub, opsOf, List.map_cons, List.map_nil, strip]; rfl
theorem w70_10 : Wp r70_10 24 [24, 30] [23] [] [23] [some 41, some 23] (L70_10).1 := w_plain (by kernel_rfl) (L70_10).2
noncomputable def L70_11 : Lt r70_11 := by refine ⟨?l, ?h⟩; case h => simp only [r70_11, c70, bodyOf, Tryd.f70, Code.sub, opsOf, List.map_cons, List.map_nil, strip]; rfl
theorem w70_11 : Wp r70_11 24 [24, 30] [15] [] [15] [some 42, some 15] (L70_11).1 := w_plain (by kernel_rfl) (L70_11).2
noncomputable def L70_12 : Lt r70_12 := by refine ⟨?l, ?h⟩; case h => simp only [r70_12, c70, bodyOf, Tryd.f70, Code.sub, opsOf, List.map_cons, List.map_nil, strip]; rfl
theorem w70_12 : Wp r70_12 24 [24, 30] [2] [] [3] [some 43, some 2] (L70_12).1 := w_plain (by kernel_rfl) (L70_12).2
theorem k70 : FnIs TT 70 c70 [.tmp 2] 1 := ⟨Tryd.f70, by kernel_rfl, by simp only [Tryd.f70, c70, bodyOf], by kernel_rfl, of_decide_eq_true (by kernel_rfl)⟩
noncomputable def c71 : Code := bodyOf Tryd.f71
noncomputable def r71_0 : Code := Code.sub [0] c71
noncomputable def r71_1 : Code := Code.sub [1, 0, 0] c71
noncomputable def r71_2 : Code := Code.sub [1, 0, 1, 0, 0] c71
noncomputable def r71_3 : Code := Code.sub [1, 1, 0, 0] c71
noncomputable def r71_4 : Code := Code.sub [1, 1, 0, 1, 0, 0, 0] c71
noncomputable def r71_5 : Code := Code.sub [1, 1, 0, 1, 0, 0, 1, 1, 0, 0, 0] c71
noncomputable def r71_6 : Code := Code.sub [1, 1, 0, 1, 0, 0, 1, 1, 0, 0, 1, 0] c71
noncomputable def r71_7 : Code := Code.sub [1, 1, 0, 1, 0, 0, 1, 1, 0, 0, 1, 1, 0, 0] c71
noncomputable def r71_8 : Code := Code.sub [1, 1, 0, 1, 0, 0, 1, 1, 1] c71
noncomputable def r71_9 : Code := Code.sub [1, 1, 1, 0] c71
theorem body71 : c71 = (.seq r71_0 (.seq (.seq r71_1 (.cond (.tmp 10) (.seq r71_2 .ret) .skip)) (.seq (.seq r71_3 (.block 0 (.loop (.seq r71_4 (.seq (.cond (.tmp 14) .skip (.exit 0)) (.seq (.block 1 (.seq r71_5 (.seq r71_6 (.cond (.tmp 24) (.seq r71_7 .ret) .skip)))) r71_8)))))) (.seq r71_9 .ret)))) := by kernel_rfl
noncomputable def L71_0 : Lt r71_0 := by refine ⟨?l, ?h⟩; case h => simp only [r71_0, c71, bodyOf, Tryd.f71, Code.sub, opsOf, List.map_cons, List.map_nil, strip]; rfl
theorem w71_0 : Wp r71_0 14 [14, 24] [4] [] [] [some 4] (L71_0).1 := w_plain (by kernel_rfl) (L71_0).2
noncomputable def L71_1 : Lt r71_1 := by refine ⟨?l, ?h⟩; case h => simp only [r71_1, c71, bodyOf, Tryd.f71, Code.sub, opsOf, List.map_cons, List.map_nil, strip]; rfl
theorem w71_1 : Wp r71_1 14 [14, 24] [6, 7, 8, 9, 10] [] [0, 1] [some 6, some 7, some 8, some 9, some 10] (L71_1).1 := w_plain (by kernel_rfl) (L71_1).2
noncomputable def L71_2 : Lt r71_2 := by refine ⟨?l, ?h⟩; case h => simp only [r71_2, c71, bodyOf, Tryd.f71, Code.sub, opsOf, List.map_cons, List.map_nil, strip]; rfl
theorem w71_2 : Wp r71_2 14 [14, 24] [4] [] [] [some 4] (L71_2).1 := w_plain (by kernel_rfl) (L71_2).2
noncomputable def L71_3 : Lt r71_3 := by refine ⟨?l, ?h⟩; case h => simp only [r71_3, c71, bodyOf, Tryd.f71, Code.sub, opsOf, List.map_cons, List.map_nil, strip]; rfl
theorem w71_3 : Wp r71_3 14 [14, 24] [11, 12, 13] [] [0] [some 11, some 12, some 13] (L71_3).1 := w_plain (by kernel_rfl) (L71_3).2
noncomputable def L71_4 : Lt r71_4 := by refine ⟨?l, ?h⟩; case h => simp only [r71_4, c71, bodyOf, Tryd.f71, Code.sub, opsOf, List.map_cons, List.map_nil, strip]; rfl
theorem w71_4 : Wp r71_4 14 [14, 24] [] [14] [13, 12] [some 14] (L71_4).1 := w_plain (by kernel_rfl) (L71_4).2
noncomputable def L71_5 : Lt r71_5 := by refine ⟨?l, ?h⟩; case h => simp only [r71_5, c71, bodyOf, Tryd.f71, Code.sub, opsOf, List.map_cons, List.map_nil, strip]; rfl
theorem w71_5 : Wp r71_5 14 [14, 24] [5] [] [13] [some 15, some 5] (L71_5).1 := w_plain (by kernel_rfl) (L71_5).2
noncomputable def L71_6 : Lt r71_6 := by refine ⟨?l, ?h⟩; case h => simp only [r71_6, c71, bodyOf, Tryd.f71, Code.sub, opsOf, List.map_cons, List.map_nil, strip]; rfl
theorem w71_6 : Wp r71_6 14 [14, 24] [] [24] [0, 1, 5] [some 16, some 17, some 18, some 19, some 20, some 21, some 22, some 23, some 24] (L71_6).1 := w_plain (by kernel_rfl) (L71_6).2
noncomputable def L71_7 : Lt r71_7 := by refine ⟨?l, ?h⟩; case h => simp only [r71_7, c71, bodyOf, Tryd.f71, Code.sub, opsOf, List.map_cons, List.map_nil, strip]; rfl
theorem w71_7 : Wp r71_7 14 [14, 24] [4] [] [] [some 4] (L71_7).1 := w_plain (by kernel_rfl) (L71_7).2
noncomputable def L71_8 : Lt r71_8 := by refine ⟨?l, ?h⟩; case h => simp only [r71_8, c71, bodyOf, Tryd.f71, Code.sub, opsOf, List.map_cons, List.map_nil, strip]; rfl
theorem w71_8 : Wp r71_8 14 [14, 24] [13] [] [13] [some 25, some 13] (L71_8).1 := w_plain (by kernel_rfl) (L71_8).2
noncomputable def L71_9 : Lt r71_9 := by refine ⟨?l, ?h⟩; case h => simp only [r71_9, c71, bodyOf, Tryd.f71, Code.sub, opsOf, List.map_cons, List.map_nil, strip]; rfl
theorem w71_9 : Wp r71_9 14 [14, 24] [4] [] [] [some 4] (L71_9).1 := w_plain (by kernel_rfl) (L71_9).2
theorem k71 : FnIs TT 71 c71 [.tmp 4] 2 := ⟨Tryd.f71, by kernel_rfl, by simp only [Tryd.f71, c71, bodyOf], by kernel_rfl, of_decide_eq_true (by kernel_rfl)⟩
noncomputable def c72 : Code := bodyOf Tryd.f72
noncomputable def r72_0 : Code := Code.sub [0] c72
noncomputable def r72_1 : Code := Code.sub [1, 0] c72
noncomputable def r72_2 : Code := Code.sub [1, 1, 0] c72
noncomputable def r72_3 : Code := Code.sub [1, 1, 1, 0] c72
noncomputable def r72_4 : Code := Code.sub [1, 1, 1, 1, 0, 0] c72
noncomputable def r72_5 : Code := Code.sub [1, 1, 1, 1, 0, 1, 0] c72
noncomputable def r72_6 : Code := Code.sub [1, 1, 1, 1, 1, 0, 0, 0, 0, 0] c72
noncomputable def r72_7 : Code := Code.sub [1, 1, 1, 1, 1, 0, 0, 0, 1, 0, 0] c72
noncomputable def r72_8 : Code := Code.sub [1, 1, 1, 1, 1, 0, 0, 0, 1, 0, 1, 0] c72
noncomputable def r72_9 : Code := Code.sub [1, 1, 1, 1, 1, 0, 0, 0, 1, 0, 1, 1, 0, 0] c72
noncomputable def r72_10 : Code := Code.sub [1, 1, 1, 1, 1, 0, 0, 0, 1, 0, 1, 1, 0, 1, 0, 0] c72
noncomputable def r72_11 : Code := Code.sub [1, 1, 1, 1, 1, 0, 0, 0, 1, 0, 1, 1, 0, 1, 0, 1, 0] c72
noncomputable def r72_12 : Code := Code.sub [1, 1, 1, 1, 1, 0, 0, 0, 1, 0, 1, 1, 1, 0] c72
noncomputable def r72_13 : Code := Code.sub [1, 1, 1, 1, 1, 0, 0, 0, 1, 0, 1, 1, 1, 1, 0] c72
noncomputable def r72_14 : Code := Code.sub [1, 1, 1, 1, 1, 0, 0, 0, 1, 0, 1, 1, 1, 1, 1, 0] c72
noncomputable def r72_15 : Code := Code.sub [1, 1, 1, 1, 1, 0, 0, 0, 1, 0, 1, 1, 1, 1, 1, 1, 0, 0] c72
noncomputable def r72_16 : Code := Code.sub [1, 1, 1, 1, 1, 0, 0, 0, 1, 0, 1, 1, 1, 1, 1, 1, 0, 1] c72
noncomputable def r72_17 : Code := Code.sub [1, 1, 1, 1, 1, 1, 0] c72
noncomputable def r72_18 : Code := Code.sub [1, 1, 1, 1, 1, 1, 1, 0] c72
theorem body72 : c72 = (.seq r72_0 (.seq r72_1 (.seq r72_2 (.seq r72_3 (.seq (.seq r72_4 (.cond (.tmp 16) r72_5 .skip)) (.seq (.block 0 (.loop (.seq (.seq r72_6 (.cond (.tmp 25) .skip (.exit 0))) (.block 1 (.seq r72_7 (.seq r72_8 (.seq (.seq r72_9 (.cond (.tmp 46) (.seq r72_10 (.seq r72_11 (.exit 1))) .skip)) (.seq r72_12 (.seq r72_13 (.seq r72_14 (.cond (.tmp 83) (.seq r72_15 r72_16) .skip))))))))))) (.seq r72_17 (.seq r72_18 .ret)))))))) := by kernel_rfl
noncomputable def L72_0 : Lt r72_0 := by refine ⟨?l, ?h⟩; case h => simp only [r72_0, c72, bodyOf, Tryd.f72, Code.sub, opsOf, List.map_cons, List.map_nil, strip]; rfl
theorem w72_0 : Wp r72_0 9 [16, 25, 46, 83] [1, 2] [] [0] [some 1, some 2] (L72_0).1 := w_plain (by kernel_rfl) (L72_0).2
noncomputable def L72_1 : Lt r72_1 := by refine ⟨?l, ?h⟩; case h => simp only [r72_1, c72, bodyOf, Tryd.f72, Code.sub, opsOf, List.map_cons, List.map_nil, strip]; rfl
theorem w72_1 : Wp r72_1 9 [16, 25, 46, 83] [3] [] [1] [some 9, some 10, some 11, some 12, some 3] (L72_1).1 := w_plain (by kernel_rfl) (L72_1).2
noncomputable def L72_2 : Lt r72_2 := by refine ⟨?l, ?h⟩; case h => simp only [r72_2, c72, bodyOf, Tryd.f72, Code.sub, opsOf, List.map_cons, List.map_nil, strip]; rfl
theorem w72_2 : Wp r72_2 9 [16, 25, 46, 83] [4] [] [] [some 4] (L72_2).1 := w_plain (by kernel_rfl) (L72_2).2
noncomputable def L72_3 : Lt r72_3 := by refine ⟨?l, ?h⟩; case h => simp only [r72_3, c72, bodyOf, Tryd.f72, Code.sub, opsOf, List.map_cons, List.map_nil, strip]; rfl
theorem w72_3 : Wp r72_3 9 [16, 25, 46, 83] [5] [] [] [some 5] (L72_3).1 := w_plain (by kernel_rfl) (L72_3).2
noncomputable def L72_4 : Lt r72_4 := by refine ⟨?l, ?h⟩; case h => simp only [r72_4, c72, bodyOf, Tryd.f72, Code.sub, opsOf, List.map_cons, List.map_nil, strip]; rfl
theorem w72_4 : Wp r72_4 9 [16, 25, 46, 83] [] [16] [1] [some 13, some 14, some 15, some 16] (L72_4).1 := w_plain (by kernel_rfl) (L72_4).2
noncomputable def L72_5 : Lt r72_5 := by refine ⟨?l, ?h⟩; case h => simp only [r72_5, c72, bodyOf, Tryd.f72, Code.sub, opsOf, List.map_cons, List.map_nil, strip]; rfl
theorem w72_5 : Wp r72_5 9 [16, 25, 46, 83] [5] [] [3, 5] [some 17, some 18, some 19, some 20, some 21, some 5, some 22, none] (L72_5).1 := w_plain (by kernel_rfl) (L72_5).2
noncomputable def L72_6 : Lt r72_6 := by refine ⟨?l, ?h⟩; case h => simp only [r72_6, c72, bodyOf, Tryd.f72, Code.sub, opsOf, List.map_cons, List.map_nil, strip]; rfl
theorem w72_6 : Wp r72_6 9 [16, 25, 46, 83] [] [25] [5] [some 23, some 24, some 25] (L72_6).1 := w_plain (by kernel_rfl) (L72_6).2
noncomputable def L72_7 : Lt r72_7 := by refine ⟨?l, ?h⟩; case h => simp only [r72_7, c72, bodyOf, Tryd.f72, Code.sub, opsOf, List.map_cons, List.map_nil, strip]; rfl
theorem w72_7 : Wp r72_7 9 [16, 25, 46, 83] [6] [] [5] [some 26, some 27, some 28, some 29, some 30, some 6] (L72_7).1 := w_plain (by kernel_rfl) (L72_7).2
noncomputable def L72_8 : Lt r72_8 := by refine ⟨?l, ?h⟩; case h => simp only [r72_8, c72, bodyOf, Tryd.f72, Code.sub, opsOf, List.map_cons, List.map_nil, strip]; rfl
theorem w72_8 : Wp r72_8 9 [16, 25, 46, 83] [7] [] [1, 6] [some 31, some 32, some 33, some 34, some 35, some 36, some 37, some 38, some 39, some 7] (L72_8).1 := w_plain (by kernel_rfl) (L72_8).2
noncomputable def L72_9 : Lt r72_9 := by refine ⟨?l, ?h⟩; case h => simp only [r72_9, c72, bodyOf, Tryd.f72, Code.sub, opsOf, List.map_cons, List.map_nil, strip]; rfl
theorem w72_9 : Wp r72_9 9 [16, 25, 46, 83] [] [46] [6, 7] [some 40, some 41, some 42, some 43, some 44, some 45, some 46] (L72_9).1 := w_plain (by kernel_rfl) (L72_9).2
noncomputable def L72_10 : Lt r72_10 := by refine ⟨?l, ?h⟩; case h => simp only [r72_10, c72, bodyOf, Tryd.f72, Code.sub, opsOf, List.map_cons, List.map_nil, strip]; rfl
theorem w72_10 : Wp r72_10 9 [16, 25, 46, 83] [4] [] [4, 6] [some 47, some 48, some 49, some 50, some 51, some 52, some 53, some 4] (L72_10).1 := w_plain (by kernel_rfl) (L72_10).2
noncomputable def L72_11 : Lt r72_11 := by refine ⟨?l, ?h⟩; case h => simp only [r72_11, c72, bodyOf, Tryd.f72, Code.sub, opsOf, List.map_cons, List.map_nil, strip]; rfl
theorem w72_11 : Wp r72_11 9 [16, 25, 46, 83] [5] [] [5] [some 54, some 55, some 56, some 57, some 58, some 5] (L72_11).1 := w_plain (by kernel_rfl) (L72_11).2
noncomputable def L72_12 : Lt r72_12 := by refine ⟨?l, ?h⟩; case h => simp only [r72_12, c72, bodyOf, Tryd.f72, Code.sub, opsOf, List.map_cons, List.map_nil, strip]; rfl
theorem w72_12 : Wp r72_12 9 [16, 25, 46, 83] [8] [] [7, 6] [some 59, some 60, some 61, some 62, some 63, some 64, some 65, some 8] (L72_12).1 := w_plain (by kernel_rfl) (L72_12).2
noncomputable def L72_13 : Lt r72_13 := by refine ⟨?l, ?h⟩; case h => simp only [r72_13, c72, bodyOf, Tryd.f72, Code.sub, opsOf, List.map_cons, List.map_nil, strip]; rfl
theorem w72_13 : Wp r72_13 9 [16, 25, 46, 83] [] [] [6] [some 66, some 67, some 68, some 69, some 70, some 71, some 72, none] (L72_13).1 := w_plain (by kernel_rfl) (L72_13).2
noncomputable def L72_14 : Lt r72_14 := by refine ⟨?l, ?h⟩; case h => simp only [r72_14, c72, bodyOf, Tryd.f72, Code.sub, opsOf, List.map_cons, List.map_nil, strip]; rfl
theorem w72_14 : Wp r72_14 9 [16, 25, 46, 83] [] [83] [3, 8] [some 73, some 74, some 75, some 76, some 77, some 78, some 79, some 80, some 81, some 82, some 83] (L72_14).1 := w_plain (by kernel_rfl) (L72_14).2
noncomputable def L72_15 : Lt r72_15 := by refine ⟨?l, ?h⟩; case h => simp only [r72_15, c72, bodyOf, Tryd.f72, Code.sub, opsOf, List.map_cons, List.map_nil, strip]; rfl
theorem w72_15 : Wp r72_15 9 [16, 25, 46, 83] [] [] [3, 8] [some 84, some 85, some 86, none] (L72_15).1 := w_plain (by kernel_rfl) (L72_15).2
noncomputable def L72_16 : Lt r72_16 := by refine ⟨?l, ?h⟩; case h => simp only [r72_16, c72, bodyOf, Tryd.f72, Code.sub, opsOf, List.map_cons, List.map_nil, strip]; rfl
theorem w72_16 : Wp r72_16 9 [16, 25, 46, 83] [5] [] [5, 8] [some 87, some 88, some 89, some 90, some 91, some 5] (L72_16).1 := w_plain (by kernel_rfl) (L72_16).2
noncomputable def L72_17 : Lt r72_17 := by refine ⟨?l, ?h⟩; case h => simp only [r72_17, c72, bodyOf, Tryd.f72, Code.sub, opsOf, List.map_cons, List.map_nil, strip]; rfl
theorem w72_17 : Wp r72_17 9 [16, 25, 46, 83] [] [] [4] [some 92, some 93] (L72_17).1 := w_plain (by kernel_rfl) (L72_17).2
noncomputable def L72_18 : Lt r72_18 := by refine ⟨?l, ?h⟩; case h => simp only [r72_18, c72, bodyOf, Tryd.f72, Code.sub, opsOf, List.map_cons, List.map_nil, strip]; rfl
theorem w72_18 : Wp r72_18 9 [16, 25, 46, 83] [2] [] [4] [some 94, some 2] (L72_18).1 := w_plain (by kernel_rfl) (L72_18).2
theorem k72 : FnIs TT 72 c72 [.tmp 2] 1 := ⟨Tryd.f72, by kernel_rfl, by simp only [Tryd.f72, c72, bodyOf], by kernel_rfl, of_decide_eq_true (by kernel_rfl)⟩
noncomputable def c73 : Code := bodyOf Tryd.f73
noncomputable def r73_0 : Code := Code.sub [0] c73
noncomputable def r73_1 : Code := Code.sub [1, 0, 0, 0, 0, 0] c73
noncomputable def r73_2 : Code := Code.sub [1, 0, 0, 0, 1, 0, 0] c73
noncomputable def r73_3 : Code := Code.sub [1, 0, 0, 0, 1, 0, 1, 0] c73
noncomputable def r73_4 : Code := Code.sub [1, 0, 0, 0, 1, 0, 1, 1] c73
noncomputable def r73_5 : Code := Code.sub [1, 1, 0] c73
theorem body73 : c73 = (.seq r73_0 (.seq (.block 0 (.loop (.seq (.seq r73_1 (.cond (.tmp 9) .skip (.exit 0))) (.block 1 (.seq r73_2 (.cond (.tmp 18) r73_3 r73_4)))))) (.seq r73_5 .ret))) := by kernel_rfl
noncomputable def L73_0 : Lt r73_0 := by refine ⟨?l, ?h⟩; case h => simp only [r73_0, c73, bodyOf, Tryd.f73, Code.sub, opsOf, List.map_cons, List.map_nil, strip]; rfl
theorem w73_0 : Wp r73_0 7 [9, 18] [6] [] [] [some 6] (L73_0).1 := w_plain (by kernel_rfl) (L73_0).2
noncomputable def L73_1 : Lt r73_1 := by refine ⟨?l, ?h⟩; case h => simp only [r73_1, c73, bodyOf, Tryd.f73, Code.sub, opsOf, List.map_cons, List.map_nil, strip]; rfl
theorem w73_1 : Wp r73_1 7 [9, 18] [] [9] [0, 1] [some 7, some 8, some 9] (L73_1).1 := w_plain (by kernel_rfl) (L73_1).2
noncomputable def L73_2 : Lt r73_2 := by refine ⟨?l, ?h⟩; case h => simp only [r73_2, c73, bodyOf, Tryd.f73, Code.sub, opsOf, List.map_cons, List.map_nil, strip]; rfl
theorem w73_2 : Wp r73_2 7 [9, 18] [] [18] [0, 2, 1] [some 10, some 11, some 12, some 13, some 14, some 15, some 16, some 17, some 18] (L73_2).1 := w_plain (by kernel_rfl) (L73_2).2
noncomputable def L73_3 : Lt r73_3 := by refine ⟨?l, ?h⟩; case h => simp only [r73_3, c73, bodyOf, Tryd.f73, Code.sub, opsOf, List.map_cons, List.map_nil, strip]; rfl
theorem w73_3 : Wp r73_3 7 [9, 18] [0] [] [3, 0] [some 19, some 20, some 21, some 22, some 0] (L73_3).1 := w_plain (by kernel_rfl) (L73_3).2
noncomputable def L73_4 : Lt r73_4 := by refine ⟨?l, ?h⟩; case h => simp only [r73_4, c73, bodyOf, Tryd.f73, Code.sub, opsOf, List.map_cons, List.map_nil, strip]; rfl
theorem w73_4 : Wp r73_4 7 [9, 18] [1] [] [3, 1] [some 23, some 24, some 25, some 26, some 1] (L73_4).1 := w_plain (by kernel_rfl) (L73_4).2
noncomputable def L73_5 : Lt r73_5 := by refine ⟨?l, ?h⟩; case h => simp only [r73_5, c73, bodyOf, Tryd.f73, Code.sub, opsOf, List.map_cons, List.map_nil, strip]; rfl
theorem w73_5 : Wp r73_5 7 [9, 18] [6] [] [0] [some 27, some 6] (L73_5).1 := w_plain (by kernel_rfl) (L73_5).2
theorem k73 : FnIs TT 73 c73 [.tmp 6] 4 := ⟨Tryd.f73, by kernel_rfl, by simp only [Tryd.f73, c73, bodyOf], by kernel_rfl, of_decide_eq_true (by kernel_rfl)⟩
noncomputable def c74 : Code := bodyOf Tryd.f74
noncomputable def r74_0 : Code := Code.sub [0] c74
noncomputable def r74_1 : Code := Code.sub [1, 0, 0] c74
noncomputable def r74_2 : Code := Code.sub [1, 0, 1, 0, 0, 0] c74
noncomputable def r74_3 : Code := Code.sub [1, 0, 1, 0, 0, 1, 1, 0, 0, 0] c74
noncomputable def r74_4 : Code := Code.sub [1, 0, 1, 0, 0, 1, 1, 0, 0, 1, 0] c74
noncomputable def r74_5 : Code := Code.sub [1, 0, 1, 0, 0, 1, 1, 0, 0, 1, 1, 0, 0] c74
noncomputable def r74_6 : Code := Code.sub [1, 0, 1, 0, 0, 1, 1, 1] c74
noncomputable def r74_7 : Code := Code.sub [1, 1, 0] c74
theorem body74 : c74 = (.seq r74_0 (.seq (.seq r74_1 (.block 0 (.loop (.seq r74_2 (.seq (.cond (.tmp 14) .skip (.exit 0)) (.seq (.block 1 (.seq r74_3 (.seq r74_4 (.cond (.tmp 49) (.seq r74_5 .ret) .skip)))) r74_6)))))) (.seq r74_7 .ret))) := by kernel_rfl
noncomputable def L74_0 : Lt r74_0 := by refine ⟨?l, ?h⟩; case h => simp only [r74_0, c74, bodyOf, Tryd.f74, Code.sub, opsOf, List.map_cons, List.map_nil, strip]; rfl
theorem w74_0 : Wp r74_0 14 [14, 49] [8] [] [] [some 8] (L74_0).1 := w_plain (by kernel_rfl) (L74_0).2
noncomputable def L74_1 : Lt r74_1 := by refine ⟨?l, ?h⟩; case h => simp only [r74_1, c74, bodyOf, Tryd.f74, Code.sub, opsOf, List.map_cons, List.map_nil, strip]; rfl
theorem w74_1 : Wp r74_1 14 [14, 49] [11, 12, 13] [] [1] [some 11, some 12, some 13] (L74_1).1 := w_plain (by kernel_rfl) (L74_1).2
noncomputable def L74_2 : Lt r74_2 := by refine ⟨?l, ?h⟩; case h => simp only [r74_2, c74, bodyOf, Tryd.f74, Code.sub, opsOf, List.map_cons, List.map_nil, strip]; rfl
theorem w74_2 : Wp r74_2 14 [14, 49] [] [14] [13, 12] [some 14] (L74_2).1 := w_plain (by kernel_rfl) (L74_2).2
noncomputable def L74_3 : Lt r74_3 := by refine ⟨?l, ?h⟩; case h => simp only [r74_3, c74, bodyOf, Tryd.f74, Code.sub, opsOf, List.map_cons, List.map_nil, strip]; rfl
theorem w74_3 : Wp r74_3 14 [14, 49] [10] [] [11, 13] [some 15, some 16, some 10] (L74_3).1 := w_plain (by kernel_rfl) (L74_3).2
noncomputable def L74_4 : Lt r74_4 := by refine ⟨?l, ?h⟩; case h => simp only [r74_4, c74, bodyOf, Tryd.f74, Code.sub, opsOf, List.map_cons, List.map_nil, strip]; rfl
theorem w74_4 : Wp r74_4 14 [14, 49] [] [49] [3, 0, 10, 2] [some 17, some 18, some 19, some 20, some 21, some 22, some 23, some 24, some 25, some 26, some 27, some 28, some 29, some 30, some 31, some 32, some 33, some 34, some 35, some 36, some 37, some 38, some 39, some 40, some 41, some 42, some 43, some 44, some 45, some 46, some 47, some 48, some 49] (L74_4).1 := w_plain (by kernel_rfl) (L74_4).2
noncomputable def L74_5 : Lt r74_5 := by refine ⟨?l, ?h⟩; case h => simp only [r74_5, c74, bodyOf, Tryd.f74, Code.sub, opsOf, List.map_cons, List.map_nil, strip]; rfl
theorem w74_5 : Wp r74_5 14 [14, 49] [8] [] [] [some 8] (L74_5).1 := w_plain (by kernel_rfl) (L74_5).2
noncomputable def L74_6 : Lt r74_6 := by refine ⟨?l, ?h⟩; case h => simp only [r74_6, c74, bodyOf, Tryd.f74, Code.sub, opsOf, List.map_cons, List.map_nil, strip]; rfl
theorem w74_6 : Wp r74_6 14 [14, 49] [13] [] [13] [some 50, some 13] (L74_6).1 := w_plain (by kernel_rfl) (L74_6).2
noncomputable def L74_7 : Lt r74_7 := by refine ⟨?l, ?h⟩; case h => simp only [r74_7, c74, bodyOf, Tryd.f74, Code.sub, opsOf, List.map_cons, List.map_nil, strip]; rfl
theorem w74_7 : Wp r74_7 14 [14, 49] [8] [] [] [some 8] (L74_7).1 := w_plain (by kernel_rfl) (L74_7).2
theorem k74 : FnIs TT 74 c74 [.tmp 8] 4 := ⟨Tryd.f74, by kernel_rfl, by simp only [Tryd.f74, c74, bodyOf], by kernel_rfl, of_decide_eq_true (by kernel_rfl)⟩
noncomputable def c75 : Code := bodyOf Tryd.f75
noncomputable def r75_0 : Code := Code.sub [0] c75
noncomputable def r75_1 : Code := Code.sub [1, 0, 0] c75
noncomputable def r75_2 : Code := Code.sub [1, 0, 1, 0, 0, 0] c75
noncomputable def r75_3 : Code := Code.sub [1, 0, 1, 0, 0, 1, 1, 0, 0, 0] c75
noncomputable def r75_4 : Code := Code.sub [1, 0, 1, 0, 0, 1, 1, 0, 0, 1, 0] c75
noncomputable def r75_5 : Code := Code.sub [1, 0, 1, 0, 0, 1, 1, 0, 0, 1, 1, 0, 0] c75
noncomputable def r75_6 : Code := Code.sub [1, 0, 1, 0, 0, 1, 1, 1] c75
noncomputable def r75_7 : Code := Code.sub [1, 1, 0] c75
theorem body75 : c75 = (.seq r75_0 (.seq (.seq r75_1 (.block 0 (.loop (.seq r75_2 (.seq (.cond (.tmp 22) .skip (.exit 0)) (.seq (.block 1 (.seq r75_3 (.seq r75_4 (.cond (.tmp 40) (.seq r75_5 .ret) .skip)))) r75_6)))))) (.seq r75_7 .ret))) := by kernel_rfl
noncomputable def L75_0 : Lt r75_0 := by refine ⟨?l, ?h⟩; case h => simp only [r75_0, c75, bodyOf, Tryd.f75, Code.sub, opsOf, List.map_cons, List.map_nil, strip]; rfl
theorem w75_0 : Wp r75_0 22 [22, 40] [8] [] [] [some 8] (L75_0).1 := w_plain (by kernel_rfl) (L75_0).2
noncomputable def L75_1 : Lt r75_1 := by refine ⟨?l, ?h⟩; case h => simp only [r75_1, c75, bodyOf, Tryd.f75, Code.sub, opsOf, List.map_cons, List.map_nil, strip]; rfl
theorem w75_1 : Wp r75_1 22 [22, 40] [11, 12, 13, 14, 15, 16, 17, 18, 19, 20, 21] [] [0, 1] [some 11, some 12, some 13, some 14, some 15, some 16, some 17, some 18, some 19, some 20, some 21] (L75_1).1 := w_plain (by kernel_rfl) (L75_1).2
noncomputable def L75_2 : Lt r75_2 := by refine ⟨?l, ?h⟩; case h => simp only [r75_2, c75, bodyOf, Tryd.f75, Code.sub, opsOf, List.map_cons, List.map_nil, strip]; rfl
theorem w75_2 : Wp r75_2 22 [22, 40] [] [22] [21, 20] [some 22] (L75_2).1 := w_plain (by kernel_rfl) (L75_2).2
noncomputable def L75_3 : Lt r75_3 := by refine ⟨?l, ?h⟩; case h => simp only [r75_3, c75, bodyOf, Tryd.f75, Code.sub, opsOf, List.map_cons, List.map_nil, strip]; rfl
theorem w75_3 : Wp r75_3 22 [22, 40] [10] [] [19, 21] [some 23, some 24, some 10, none] (L75_3).1 := w_plain (by kernel_rfl) (L75_3).2
noncomputable def L75_4 : Lt r75_4 := by refine ⟨?l, ?h⟩; case h => simp only [r75_4, c75, bodyOf, Tryd.f75, Code.sub, opsOf, List.map_cons, List.map_nil, strip]; rfl
theorem w75_4 : Wp r75_4 22 [22, 40] [] [40] [0, 10, 2, 3] [some 25, some 26, some 27, some 28, some 29, some 30, some 31, some 32, some 33, some 34, some 35, some 36, some 37, some 38, some 39, some 40] (L75_4).1 := w_plain (by kernel_rfl) (L75_4).2
noncomputable def L75_5 : Lt r75_5 := by refine ⟨?l, ?h⟩; case h => simp only [r75_5, c75, bodyOf, Tryd.f75, Code.sub, opsOf, List.map_cons, List.map_nil, strip]; rfl
theorem w75_5 : Wp r75_5 22 [22, 40] [8] [] [] [some 8] (L75_5).1 := w_plain (by kernel_rfl) (L75_5).2
noncomputable def L75_6 : Lt r75_6 := by refine ⟨?l, ?h⟩; case h => simp only [r75_6, c75, bodyOf, Tryd.f75, Code.sub, opsOf, List.map_cons, List.map_nil, strip]; rfl
theorem w75_6 : Wp r75_6 22 [22, 40] [21] [] [21] [some 41, some 21] (L75_6).1 := w_plain (by kernel_rfl) (L75_6).2
noncomputable def L75_7 : Lt r75_7 := by refine ⟨?l, ?h⟩; case h => simp only [r75_7, c75, bodyOf, Tryd.f75, Code.sub, opsOf, List.map_cons, List.map_nil, strip]; rfl
theorem w75_7 : Wp r75_7 22 [22, 40] [8] [] [] [some 8] (L75_7).1 := w_plain (by kernel_rfl) (L75_7).2
theorem k75 : FnIs TT 75 c75 [.tmp 8] 4 := ⟨Tryd.f75, by kernel_rfl, by simp only [Tryd.f75, c75, bodyOf], by kernel_rfl, of_decide_eq_true (by kernel_rfl)⟩
noncomputable def c76 : Code := bodyOf Tryd.f76
noncomputable def r76_0 : Code := Code.sub [0] c76
noncomputable def r76_1 : Code := Code.sub [1, 0, 0] c76
noncomputable def r76_2 : Code := Code.sub [1, 0, 1, 0, 0, 0] c76
noncomputable def r76_3 : Code := Code.sub [1, 0, 1, 0, 0, 1, 1, 0] c76
noncomputable def r76_4 : Code := Code.sub [1, 0, 1, 0, 0, 1, 1, 1, 1, 0] c76
noncomputable def r76_5 : Code := Code.sub [1, 0, 1, 0, 0, 1, 1, 1, 1, 1, 1, 0] c76
noncomputable def r76_6 : Code := Code.sub [1, 0, 1, 0, 0, 1, 1, 1, 1, 1, 1, 1, 1, 0] c76
noncomputable def r76_7 : Code := Code.sub [1, 0, 1, 0, 0, 1, 1, 1, 1, 1, 1, 1, 1, 1, 1, 0] c76
noncomputable def r76_8 : Code := Code.sub [1, 0, 1, 0, 0, 1, 1, 1, 1, 1, 1, 1, 1, 1, 1, 1, 1, 0] c76
noncomputable def r76_9 : Code := Code.sub [1, 0, 1, 0, 0, 1, 1, 1, 1, 1, 1, 1, 1, 1, 1, 1, 1, 1, 1, 0] c76
noncomputable def r76_10 : Code := Code.sub [1, 0, 1, 0, 0, 1, 1, 1, 1, 1, 1, 1, 1, 1, 1, 1, 1, 1, 1, 1, 1, 0] c76
noncomputable def r76_11 : Code := Code.sub [1, 0, 1, 0, 0, 1, 1, 1, 1, 1, 1, 1, 1, 1, 1, 1, 1, 1, 1, 1, 1, 1, 1, 0] c76
noncomputable def r76_12 : Code := Code.sub [1, 0, 1, 0, 0, 1, 1, 1, 1, 1, 1, 1, 1, 1, 1, 1, 1, 1, 1, 1, 1, 1, 1, 1, 1, 0] c76
noncomputable def r76_13 : Code := Code.sub [1, 0, 1, 0, 0, 1, 1, 1, 1, 1, 1, 1, 1, 1, 1, 1, 1, 1, 1, 1, 1, 1, 1, 1, 1, 1, 1, 0] c76
noncomputable def r76_14 : Code := Code.sub [1, 0, 1, 0, 0, 1, 1, 1, 1, 1, 1, 1, 1, 1, 1, 1, 1, 1, 1, 1, 1, 1, 1, 1, 1, 1, 1, 1, 1] c76
noncomputable def r76_15 : Code := Code.sub [1, 0, 1, 0, 1, 0, 0] c76
noncomputable def r76_16 : Code := Code.sub [1, 0, 1, 0, 1, 1, 0, 0] c76
noncomputable def r76_17 : Code := Code.sub [1, 0, 1, 0, 1, 1, 0, 1, 1, 0] c76
noncomputable def r76_18 : Code := Code.sub [1, 0, 1, 0, 1, 1, 0, 1, 1, 1, 1, 0] c76
noncomputable def r76_19 : Code := Code.sub [1, 0, 1, 0, 1, 1, 0, 1, 1, 1, 1, 1, 1, 0] c76
noncomputable def r76_20 : Code := Code.sub [1, 0, 1, 0, 1, 1, 0, 1, 1, 1, 1, 1, 1, 1, 1, 0] c76
noncomputable def r76_21 : Code := Code.sub [1, 0, 1, 0, 1, 1, 0, 1, 1, 1, 1, 1, 1, 1, 1, 1, 1] c76
noncomputable def r76_22 : Code := Code.sub [1, 0, 1, 0, 1, 1, 1, 0, 0] c76
noncomputable def r76_23 : Code := Code.sub [1, 1, 0] c76
theorem body76 : c76 = (.seq r76_0 (.seq (.seq r76_1 (.block 0 (.seq (.seq r76_2 (.cond (.tmp 4) .skip (.seq r76_3 (.cond (.tmp 4) .skip (.seq r76_4 (.cond (.tmp 4) .skip (.seq r76_5 (.cond (.tmp 4) .skip (.seq r76_6 (.cond (.tmp 4) .skip (.seq r76_7 (.cond (.tmp 4) .skip (.seq r76_8 (.cond (.tmp 4) .skip (.seq r76_9 (.cond (.tmp 4) .skip (.seq r76_10 (.cond (.tmp 4) .skip (.seq r76_11 (.cond (.tmp 4) .skip (.seq r76_12 (.cond (.tmp 4) .skip (.seq r76_13 (.cond (.tmp 4) .skip r76_14)))))))))))))))))))))))) (.cond (.tmp 4) (.seq r76_15 .ret) (.seq (.seq r76_16 (.cond (.tmp 18) .skip (.seq r76_17 (.cond (.tmp 18) .skip (.seq r76_18 (.cond (.tmp 18) .skip (.seq r76_19 (.cond (.tmp 18) .skip (.seq r76_20 (.cond (.tmp 18) .skip r76_21)))))))))) (.cond (.tmp 18) (.seq r76_22 .ret) .skip)))))) (.seq r76_23 .ret))) := by kernel_rfl
noncomputable def L76_0 : Lt r76_0 := by refine ⟨?l, ?h⟩; case h => simp only [r76_0, c76, bodyOf, Tryd.f76, Code.sub, opsOf, List.map_cons, List.map_nil, strip]; rfl
theorem w76_0 : Wp r76_0 4 [4, 4, 4, 4, 4, 4, 4, 4, 4, 4, 4, 4, 4, 18, 18, 18, 18, 18, 18] [2] [] [] [some 2] (L76_0).1 := w_plain (by kernel_rfl) (L76_0).2
noncomputable def L76_1 : Lt r76_1 := by refine ⟨?l, ?h⟩; case h => simp only [r76_1, c76, bodyOf, Tryd.f76, Code.sub, opsOf, List.map_cons, List.map_nil, strip]; rfl
theorem w76_1 : Wp r76_1 4 [4, 4, 4, 4, 4, 4, 4, 4, 4, 4, 4, 4, 4, 18, 18, 18, 18, 18, 18] [3] [] [0] [some 3] (L76_1).1 := w_plain (by kernel_rfl) (L76_1).2
noncomputable def L76_2 : Lt r76_2 := by refine ⟨?l, ?h⟩; case h => simp only [r76_2, c76, bodyOf, Tryd.f76, Code.sub, opsOf, List.map_cons, List.map_nil, strip]; rfl
theorem w76_2 : Wp r76_2 4 [4, 4, 4, 4, 4, 4, 4, 4, 4, 4, 4, 4, 4, 18, 18, 18, 18, 18, 18] [] [4] [3] [some 5, some 4] (L76_2).1 := w_plain (by kernel_rfl) (L76_2).2
noncomputable def L76_3 : Lt r76_3 := by refine ⟨?l, ?h⟩; case h => simp only [r76_3, c76, bodyOf, Tryd.f76, Code.sub, opsOf, List.map_cons, List.map_nil, strip]; rfl
theorem w76_3 : Wp r76_3 4 [4, 4, 4, 4, 4, 4, 4, 4, 4, 4, 4, 4, 4, 18, 18, 18, 18, 18, 18] [] [4] [3] [some 6, some 4] (L76_3).1 := w_plain (by kernel_rfl) (L76_3).2
noncomputable def L76_4 : Lt r76_4 := by refine ⟨?l, ?h⟩; case h => simp only [r76_4, c76, bodyOf, Tryd.f76, Code.sub, opsOf, List.map_cons, List.map_nil, strip]; rfl
theorem w76_4 : Wp r76_4 4 [4, 4, 4, 4, 4, 4, 4, 4, 4, 4, 4, 4, 4, 18, 18, 18, 18, 18, 18] [] [4] [3] [some 7, some 4] (L76_4).1 := w_plain (by kernel_rfl) (L76_4).2
noncomputable def L76_5 : Lt r76_5 := by refine ⟨?l, ?h⟩; case h => simp only [r76_5, c76, bodyOf, Tryd.f76, Code.sub, opsOf, List.map_cons, List.map_nil, strip]; rfl
theorem w76_5 : Wp r76_5 4 [4, 4, 4, 4, 4, 4, 4, 4, 4, 4, 4, 4, 4, 18, 18, 18, 18, 18, 18] [] [4] [3] [some 8, some 4] (L76_5).1 := w_plain (by kernel_rfl) (L76_5).2
noncomputable def L76_6 : Lt r76_6 := by refine ⟨?l, ?h⟩; case h => simp only [r76_6, c76, bodyOf, Tryd.f76, Code.sub, opsOf, List.map_cons, List.map_nil, strip]; rfl
theorem w76_6 : Wp r76_6 4 [4, 4, 4, 4, 4, 4, 4, 4, 4, 4, 4, 4, 4, 18, 18, 18, 18, 18, 18] [] [4] [3] [some 9, some 4] (L76_6).1 := w_plain (by kernel_rfl) (L76_6).2
noncomputable def L76_7 : Lt r76_7 := by refine ⟨?l, ?h⟩; case h => simp only [r76_7, c76, bodyOf, Tryd.f76, Code.sub, opsOf, List.map_cons, List.map_nil, strip]; rfl
theorem w76_7 : Wp r76_7 4 [4, 4, 4, 4, 4, 4, 4, 4, 4, 4, 4, 4, 4, 18, 18, 18, 18, 18, 18] [] [4] [3] [some 10, some 4] (L76_7).1 := w_plain (by kernel_rfl) (L76_7).2
noncomputable def L76_8 : Lt r76_8 := by refine ⟨?l, ?h⟩; case h => simp only [r76_8, c76, bodyOf, Tryd.f76, Code.sub, opsOf, List.map_cons, List.map_nil, strip]; rfl
theorem w76_8 : Wp r76_8 4 [4, 4, 4, 4, 4, 4, 4, 4, 4, 4, 4, 4, 4, 18, 18, 18, 18, 18, 18] [] [4] [3] [some 11, some 4] (L76_8).1 := w_plain (by kernel_rfl) (L76_8).2
noncomputable def L76_9 : Lt r76_9 := by refine ⟨?l, ?h⟩; case h => simp only [r76_9, c76, bodyOf, Tryd.f76, Code.sub, opsOf, List.map_cons, List.map_nil, strip]; rfl
theorem w76_9 : Wp r76_9 4 [4, 4, 4, 4, 4, 4, 4, 4, 4, 4, 4, 4, 4, 18, 18, 18, 18, 18, 18] [] [4] [3] [some 12, some 4] (L76_9).1 := w_plain (by kernel_rfl) (L76_9).2
noncomputable def L76_10 : Lt r76_10 := by refine ⟨?l, ?h⟩; case h => simp only [r76_10, c76, bodyOf, Tryd.f76, Code.sub, opsOf, List.map_cons, List.map_nil, strip]; rfl
theorem w76_10 : Wp r76_10 4 [4, 4, 4, 4, 4, 4, 4, 4, 4, 4, 4, 4, 4, 18, 18, 18, 18, 18, 18] [] [4] [3] [some 13, some 4] (L76_10).1 := w_plain (by kernel_rfl) (L76_10).2
noncomputable def L76_11 : Lt r76_11 := by refine ⟨?l, ?h⟩; case h => simp only [r76_11, c76, bodyOf, Tryd.f76, Code.sub, opsOf, List.map_cons, List.map_nil, strip]; rfl
theorem w76_11 : Wp r76_11 4 [4, 4, 4, 4, 4, 4, 4, 4, 4, 4, 4, 4, 4, 18, 18, 18, 18, 18, 18] [] [4] [3] [some 14, some 4] (L76_11).1 := w_plain (by kernel_rfl) (L76_11).2
noncomputable def L76_12 : Lt r76_12 := by refine ⟨?l, ?h⟩; case h => simp only [r76_12, c76, bodyOf, Tryd.f76, Code.sub, opsOf, List.map_cons, List.map_nil, strip]; rfl
theorem w76_12 : Wp r76_12 4 [4, 4, 4, 4, 4, 4, 4, 4, 4, 4, 4, 4, 4, 18, 18, 18, 18, 18, 18] [] [4] [3] [some 15, some 4] (L76_12).1 := w_plain (by kernel_rfl) (L76_12).2
noncomputable def L76_13 : Lt r76_13 := by refine ⟨?l, ?h⟩; case h => simp only [r76_13, c76, bodyOf, Tryd.f76, Code.sub, opsOf, List.map_cons, List.map_nil, strip]; rfl
theorem w76_13 : Wp r76_13 4 [4, 4, 4, 4, 4, 4, 4, 4, 4, 4, 4, 4, 4, 18, 18, 18, 18, 18, 18] [] [4] [3] [some 16, some 4] (L76_13).1 := w_plain (by kernel_rfl) (L76_13).2
noncomputable def L76_14 : Lt r76_14 := by refine ⟨?l, ?h⟩; case h => simp only [r76_14, c76, bodyOf, Tryd.f76, Code.sub, opsOf, List.map_cons, List.map_nil, strip]; rfl
theorem w76_14 : Wp r76_14 4 [4, 4, 4, 4, 4, 4, 4, 4, 4, 4, 4, 4, 4, 18, 18, 18, 18, 18, 18] [] [4] [3] [some 17, some 4] (L76_14).1 := w_plain (by kernel_rfl) (L76_14).2
noncomputable def L76_15 : Lt r76_15 := by refine ⟨?l, ?h⟩; case h => simp only [r76_15, c76, bodyOf, Tryd.f76, Code.sub, opsOf, List.map_cons, List.map_nil, strip]; rfl
theorem w76_15 : Wp r76_15 4 [4, 4, 4, 4, 4, 4, 4, 4, 4, 4, 4, 4, 4, 18, 18, 18, 18, 18, 18] [2] [] [] [some 2] (L76_15).1 := w_plain (by kernel_rfl) (L76_15).2
noncomputable def L76_16 : Lt r76_16 := by refine ⟨?l, ?h⟩; case h => simp only [r76_16, c76, bodyOf, Tryd.f76, Code.sub, opsOf, List.map_cons, List.map_nil, strip]; rfl
theorem w76_16 : Wp r76_16 4 [4, 4, 4, 4, 4, 4, 4, 4, 4, 4, 4, 4, 4, 18, 18, 18, 18, 18, 18] [] [18] [3] [some 19, some 18] (L76_16).1 := w_plain (by kernel_rfl) (L76_16).2
noncomputable def L76_17 : Lt r76_17 := by refine ⟨?l, ?h⟩; case h => simp only [r76_17, c76, bodyOf, Tryd.f76, Code.sub, opsOf, List.map_cons, List.map_nil, strip]; rfl
theorem w76_17 : Wp r76_17 4 [4, 4, 4, 4, 4, 4, 4, 4, 4, 4, 4, 4, 4, 18, 18, 18, 18, 18, 18] [] [18] [3] [some 20, some 18] (L76_17).1 := w_plain (by kernel_rfl) (L76_17).2
noncomputable def L76_18 : Lt r76_18 := by refine ⟨?l, ?h⟩; case h => simp only [r76_18, c76, bodyOf, Tryd.f76, Code.sub, opsOf, List.map_cons, List.map_nil, strip]; rfl
theorem w76_18 : Wp r76_18 4 [4, 4, 4, 4, 4, 4, 4, 4, 4, 4, 4, 4, 4, 18, 18, 18, 18, 18, 18] [] [18] [3] [some 21, some 18] (L76_18).1 := w_plain (by kernel_rfl) (L76_18).2
noncomputable def L76_19 : Lt r76_19 := by refine ⟨?l, ?h⟩; case h => simp only [r76_19, c76, bodyOf, Tryd.f76, Code.sub, opsOf, List.map_cons, List.map_nil, strip]; rfl
theorem w76_19 : Wp r76_19 4 [4, 4, 4, 4, 4, 4, 4, 4, 4, 4, 4, 4, 4, 18, 18, 18, 18, 18, 18] [] [18] [3] [some 22, some 18] (L76_19).1 := w_plain (by kernel_rfl) (L76_19).2
noncomputable def L76_20 : Lt r76_20 := by refine ⟨?l, ?h⟩; case h => simp only [r76_20, c76, bodyOf, Tryd.f76, Code.sub, opsOf, List.map_cons, List.map_nil, strip]; rfl
theorem w76_20 : Wp r76_20 4 [4, 4, 4, 4, 4, 4, 4, 4, 4, 4, 4, 4, 4, 18, 18, 18, 18, 18, 18] [] [18] [3] [some 23, some 18] (L76_20).1 := w_plain (by kernel_rfl) (L76_20).2
noncomputable def L76_21 : Lt r76_21 := by refine ⟨?l, ?h⟩; case h => simp only [r76_21, c76, bodyOf, Tryd.f76, Code.sub, opsOf, List.map_cons, List.map_nil, strip]; rfl
theorem w76_21 : Wp r76_21 4 [4, 4, 4, 4, 4, 4, 4, 4, 4, 4, 4, 4, 4, 18, 18, 18, 18, 18, 18] [] [18] [3] [some 24, some 18] (L76_21).1 := w_plain (by kernel_rfl) (L76_21).2
noncomputable def L76_22 : Lt r76_22 := by refine ⟨?l, ?h⟩; case h => simp only [r76_22, c76, bodyOf, Tryd.f76, Code.sub, opsOf, List.map_cons, List.map_nil, strip]; rfl
theorem w76_22 : Wp r76_22 4 [4, 4, 4, 4, 4, 4, 4, 4, 4, 4, 4, 4, 4, 18, 18, 18, 18, 18, 18] [2] [] [] [some 2] (L76_22).1 := w_plain (by kernel_rfl) (L76_22).2
noncomputable def L76_23 : Lt r76_23 := by refine ⟨?l, ?h⟩; case h => simp only [r76_23, c76, bodyOf, Tryd.f76, Code.sub, opsOf, List.map_cons, List.map_nil, strip]; rfl
theorem w76_23 : Wp r76_23 4 [4, 4, 4, 4, 4, 4, 4, 4, 4, 4, 4, 4, 4, 18, 18, 18, 18, 18, 18] [2] [] [] [some 2] (L76_23).1 := w_plain (by kernel_rfl) (L76_23).2
theorem k76 : FnIs TT 76 c76 [.tmp 2] 1 := ⟨Tryd.f76, by kernel_rfl, by simp only [Tryd.f76, c76, bodyOf], by kernel_rfl, of_decide_eq_true (by kernel_rfl)⟩
noncomputable def c77 : Code := bodyOf Tryd.f77
noncomputable def r77_0 : Code := Code.sub [0] c77
noncomputable def r77_1 : Code := Code.sub [1, 0] c77
theorem body77 : c77 = (.seq r77_0 (.seq r77_1 .ret)) := by kernel_rfl
noncomputable def L77_0 : Lt r77_0 := by refine ⟨?l, ?h⟩; case h => simp only [r77_0, c77, bodyOf, Tryd.f77, Code.sub, opsOf, List.map_cons, List.map_nil, strip]; rfl
theorem w77_0 : Wp r77_0 5 [] [4] [] [] [some 4] (L77_0).1 := w_plain (by kernel_rfl) (L77_0).2
noncomputable def L77_1 : Lt r77_1 := by refine ⟨?l, ?h⟩; case h => simp only [r77_1, c77, bodyOf, Tryd.f77, Code.sub, opsOf, List.map_cons, List.map_nil, strip]; rfl
theorem w77_1 : Wp r77_1 5 [] [4] [] [0, 1] [some 5, some 6, some 7, some 4] (L77_1).1 := w_plain (by kernel_rfl) (L77_1).2
theorem k77 : FnIs TT 77 c77 [.tmp 4] 2 := ⟨Tryd.f77, by kernel_rfl, by simp only [Tryd.f77, c77, bodyOf], by kernel_rfl, of_decide_eq_true (by kernel_rfl)⟩
noncomputable def c78 : Code := bodyOf Tryd.f78
noncomputable def r78_0 : Code := Code.sub [0] c78
noncomputable def r78_1 : Code := Code.sub [1, 0, 0] c78
noncomputable def r78_2 : Code := Code.sub [1, 0, 1, 0] c78
noncomputable def r78_3 : Code := Code.sub [1, 1, 0, 0, 0] c78
noncomputable def r78_4 : Code := Code.sub [1, 1, 0, 0, 1, 0, 0] c78
noncomputable def r78_5 : Code := Code.sub [1, 1, 0, 0, 1, 1, 0] c78
noncomputable def r78_6 : Code := Code.sub [1, 1, 0, 0, 1, 1, 1, 0, 0] c78
noncomputable def r78_7 : Code := Code.sub [1, 1, 1, 0] c78
theorem body78 : c78 = (.seq r78_0 (.seq (.seq r78_1 (.cond (.tmp 12) r78_2 .skip)) (.seq (.block 0 (.seq r78_3 (.cond (.tmp 13) (.seq r78_4 .ret) (.seq r78_5 (.cond (.tmp 16) (.seq r78_6 .ret) .skip))))) (.seq r78_7 .ret)))) := by kernel_rfl
noncomputable def L78_0 : Lt r78_0 := by refine ⟨?l, ?h⟩; case h => simp only [r78_0, c78, bodyOf, Tryd.f78, Code.sub, opsOf, List.map_cons, List.map_nil, strip]; rfl
theorem w78_0 : Wp r78_0 7 [12, 13, 16] [6] [] [] [some 6] (L78_0).1 := w_plain (by kernel_rfl) (L78_0).2
noncomputable def L78_1 : Lt r78_1 := by refine ⟨?l, ?h⟩; case h => simp only [r78_1, c78, bodyOf, Tryd.f78, Code.sub, opsOf, List.map_cons, List.map_nil, strip]; rfl
theorem w78_1 : Wp r78_1 7 [12, 13, 16] [] [12] [1, 2] [some 7, some 8, some 9, some 10, some 11, some 12] (L78_1).1 := w_plain (by kernel_rfl) (L78_1).2
noncomputable def L78_2 : Lt r78_2 := by refine ⟨?l, ?h⟩; case h => simp only [r78_2, c78, bodyOf, Tryd.f78, Code.sub, opsOf, List.map_cons, List.map_nil, strip]; rfl
theorem w78_2 : Wp r78_2 7 [12, 13, 16] [2] [] [] [some 2] (L78_2).1 := w_plain (by kernel_rfl) (L78_2).2
noncomputable def L78_3 : Lt r78_3 := by refine ⟨?l, ?h⟩; case h => simp only [r78_3, c78, bodyOf, Tryd.f78, Code.sub, opsOf, List.map_cons, List.map_nil, strip]; rfl
theorem w78_3 : Wp r78_3 7 [12, 13, 16] [] [13] [2] [some 14, some 15, some 13] (L78_3).1 := w_plain (by kernel_rfl) (L78_3).2
noncomputable def L78_4 : Lt r78_4 := by refine ⟨?l, ?h⟩; case h => simp only [r78_4, c78, bodyOf, Tryd.f78, Code.sub, opsOf, List.map_cons, List.map_nil, strip]; rfl
theorem w78_4 : Wp r78_4 7 [12, 13, 16] [6] [] [] [some 6] (L78_4).1 := w_plain (by kernel_rfl) (L78_4).2
noncomputable def L78_5 : Lt r78_5 := by refine ⟨?l, ?h⟩; case h => simp only [r78_5, c78, bodyOf, Tryd.f78, Code.sub, opsOf, List.map_cons, List.map_nil, strip]; rfl
theorem w78_5 : Wp r78_5 7 [12, 13, 16] [] [16] [0] [some 17, some 18, some 16] (L78_5).1 := w_plain (by kernel_rfl) (L78_5).2
noncomputable def L78_6 : Lt r78_6 := by refine ⟨?l, ?h⟩; case h => simp only [r78_6, c78, bodyOf, Tryd.f78, Code.sub, opsOf, List.map_cons, List.map_nil, strip]; rfl
theorem w78_6 : Wp r78_6 7 [12, 13, 16] [6] [] [1, 2] [some 19, some 20, some 21, some 22, some 6] (L78_6).1 := w_plain (by kernel_rfl) (L78_6).2
noncomputable def L78_7 : Lt r78_7 := by refine ⟨?l, ?h⟩; case h => simp only [r78_7, c78, bodyOf, Tryd.f78, Code.sub, opsOf, List.map_cons, List.map_nil, strip]; rfl
theorem w78_7 : Wp r78_7 7 [12, 13, 16] [6] [] [1, 2] [some 23, some 24, some 25, some 26, some 6] (L78_7).1 := w_plain (by kernel_rfl) (L78_7).2
theorem k78 : FnIs TT 78 c78 [.tmp 6] 3 := ⟨Tryd.f78, by kernel_rfl, by simp only [Tryd.f78, c78, bodyOf], by kernel_rfl, of_decide_eq_true (by kernel_rfl)⟩
noncomputable def c79 : Code := bodyOf Tryd.f79
noncomputable def r79_0 : Code := Code.sub [0] c79
noncomputable def r79_1 : Code := Code.sub [1, 0, 0] c79
noncomputable def r79_2 : Code := Code.sub [1, 0, 1, 0, 0] c79
noncomputable def r79_3 : Code := Code.sub [1, 1, 0] c79
theorem body79 : c79 = (.seq r79_0 (.seq (.seq r79_1 (.cond (.tmp 3) (.seq r79_2 .ret) .skip)) (.seq r79_3 .ret))) := by kernel_rfl
noncomputable def L79_0 : Lt r79_0 := by refine ⟨?l, ?h⟩; case h => simp only [r79_0, c79, bodyOf, Tryd.f79, Code.sub, opsOf, List.map_cons, List.map_nil, strip]; rfl
theorem w79_0 : Wp r79_0 3 [3] [2] [] [] [some 2] (L79_0).1 := w_plain (by kernel_rfl) (L79_0).2
noncomputable def L79_1 : Lt r79_1 := by refine ⟨?l, ?h⟩; case h => simp only [r79_1, c79, bodyOf, Tryd.f79, Code.sub, opsOf, List.map_cons, List.map_nil, strip]; rfl
theorem w79_1 : Wp r79_1 3 [3] [] [3] [0] [some 3] (L79_1).1 := w_plain (by kernel_rfl) (L79_1).2
noncomputable def L79_2 : Lt r79_2 := by refine ⟨?l, ?h⟩; case h => simp only [r79_2, c79, bodyOf, Tryd.f79, Code.sub, opsOf, List.map_cons, List.map_nil, strip]; rfl
theorem w79_2 : Wp r79_2 3 [3] [2] [] [] [some 2] (L79_2).1 := w_plain (by kernel_rfl) (L79_2).2
noncomputable def L79_3 : Lt r79_3 := by refine ⟨?l, ?h⟩; case h => simp only [r79_3, c79, bodyOf, Tryd.f79, Code.sub, opsOf, List.map_cons, List.map_nil, strip]; rfl
theorem w79_3 : Wp r79_3 3 [3] [2] [] [] [some 2] (L79_3).1 := w_plain (by kernel_rfl) (L79_3).2
theorem k79 : FnIs TT 79 c79 [.tmp 2] 1 := ⟨Tryd.f79, by kernel_rfl, by simp only [Tryd.f79, c79, bodyOf], by kernel_rfl, of_decide_eq_true (by kernel_rfl)⟩
noncomputable def c81 : Code := bodyOf Tryd.f81
noncomputable def r81_0 : Code := Code.sub [0] c81
noncomputable def r81_1 : Code := Code.sub [1, 0, 0] c81
noncomputable def r81_2 : Code := Code.sub [1, 0, 1, 0, 0, 0] c81
noncomputable def r81_3 : Code := Code.sub [1, 0, 1, 0, 0, 1, 1, 0, 0, 0] c81
noncomputable def r81_4 : Code := Code.sub [1, 0, 1, 0, 0, 1, 1, 0, 0, 1, 0] c81
noncomputable def r81_5 : Code := Code.sub [1, 0, 1, 0, 0, 1, 1, 0, 0, 1, 1, 0, 0] c81
noncomputable def r81_6 : Code := Code.sub [1, 0, 1, 0, 0, 1, 1, 1] c81
noncomputable def r81_7 : Code := Code.sub [1, 1, 0] c81
theorem body81 : c81 = (.seq r81_0 (.seq (.seq r81_1 (.block 0 (.loop (.seq r81_2 (.seq (.cond (.tmp 9) .skip (.exit 0)) (.seq (.block 1 (.seq r81_3 (.seq r81_4 (.cond (.tmp 16) (.seq r81_5 .ret) .skip)))) r81_6)))))) (.seq r81_7 .ret))) := by kernel_rfl
noncomputable def L81_0 : Lt r81_0 := by refine ⟨?l, ?h⟩; case h => simp only [r81_0, c81, bodyOf, Tryd.f81, Code.sub, opsOf, List.map_cons, List.map_nil, strip]; rfl
theorem w81_0 : Wp r81_0 9 [9, 16] [4] [] [] [some 4] (L81_0).1 := w_plain (by kernel_rfl) (L81_0).2
noncomputable def L81_1 : Lt r81_1 := by refine ⟨?l, ?h⟩; case h => simp only [r81_1, c81, bodyOf, Tryd.f81, Code.sub, opsOf, List.map_cons, List.map_nil, strip]; rfl
theorem w81_1 : Wp r81_1 9 [9, 16] [6, 7, 8] [] [0] [some 6, some 7, some 8] (L81_1).1 := w_plain (by kernel_rfl) (L81_1).2
noncomputable def L81_2 : Lt r81_2 := by refine ⟨?l, ?h⟩; case h => simp only [r81_2, c81, bodyOf, Tryd.f81, Code.sub, opsOf, List.map_cons, List.map_nil, strip]; rfl
theorem w81_2 : Wp r81_2 9 [9, 16] [] [9] [8, 7] [some 9] (L81_2).1 := w_plain (by kernel_rfl) (L81_2).2
noncomputable def L81_3 : Lt r81_3 := by refine ⟨?l, ?h⟩; case h => simp only [r81_3, c81, bodyOf, Tryd.f81, Code.sub, opsOf, List.map_cons, List.map_nil, strip]; rfl
theorem w81_3 : Wp r81_3 9 [9, 16] [5] [] [8] [some 10, some 5] (L81_3).1 := w_plain (by kernel_rfl) (L81_3).2
noncomputable def L81_4 : Lt r81_4 := by refine ⟨?l, ?h⟩; case h => simp only [r81_4, c81, bodyOf, Tryd.f81, Code.sub, opsOf, List.map_cons, List.map_nil, strip]; rfl
theorem w81_4 : Wp r81_4 9 [9, 16] [] [16] [1, 0, 5] [some 11, some 12, some 13, some 14, some 15, some 16] (L81_4).1 := w_plain (by kernel_rfl) (L81_4).2
noncomputable def L81_5 : Lt r81_5 := by refine ⟨?l, ?h⟩; case h => simp only [r81_5, c81, bodyOf, Tryd.f81, Code.sub, opsOf, List.map_cons, List.map_nil, strip]; rfl
theorem w81_5 : Wp r81_5 9 [9, 16] [4] [] [5] [some 17, some 4] (L81_5).1 := w_plain (by kernel_rfl) (L81_5).2
noncomputable def L81_6 : Lt r81_6 := by refine ⟨?l, ?h⟩; case h => simp only [r81_6, c81, bodyOf, Tryd.f81, Code.sub, opsOf, List.map_cons, List.map_nil, strip]; rfl
theorem w81_6 : Wp r81_6 9 [9, 16] [8] [] [8] [some 18, some 8] (L81_6).1 := w_plain (by kernel_rfl) (L81_6).2
noncomputable def L81_7 : Lt r81_7 := by refine ⟨?l, ?h⟩; case h => simp only [r81_7, c81, bodyOf, Tryd.f81, Code.sub, opsOf, List.map_cons, List.map_nil, strip]; rfl
theorem w81_7 : Wp r81_7 9 [9, 16] [4] [] [] [some 4] (L81_7).1 := w_plain (by kernel_rfl) (L81_7).2
theorem k81 : FnIs TT 81 c81 [.tmp 4] 2 := ⟨Tryd.f81, by kernel_rfl, by simp only [Tryd.f81, c81, bodyOf], by kernel_rfl, of_decide_eq_true (by kernel_rfl)⟩
noncomputable def c82 : Code := bodyOf Tryd.f82
noncomputable def r82_0 : Code := Code.sub [0] c82
noncomputable def r82_1 : Code := Code.sub [1, 0, 0, 0, 0] c82
noncomputable def r82_2 : Code := Code.sub [1, 0, 0, 1, 0, 0] c82
noncomputable def r82_3 : Code := Code.sub [1, 0, 0, 1, 1] c82
theorem body82 : c82 = (.seq r82_0 (.block 0 (.loop (.seq (.seq r82_1 (.cond (.tmp 9) .skip (.exit 0))) (.seq (.block 1 r82_2) r82_3))))) := by kernel_rfl
noncomputable def L82_0 : Lt r82_0 := by refine ⟨?l, ?h⟩; case h => simp only [r82_0, c82, bodyOf, Tryd.f82, Code.sub, opsOf, List.map_cons, List.map_nil, strip]; rfl
theorem w82_0 : Wp r82_0 4 [9] [2, 3] [] [0] [some 4, some 5, some 6, some 2, some 3] (L82_0).1 := w_plain (by kernel_rfl) (L82_0).2
noncomputable def L82_1 : Lt r82_1 := by refine ⟨?l, ?h⟩; case h => simp only [r82_1, c82, bodyOf, Tryd.f82, Code.sub, opsOf, List.map_cons, List.map_nil, strip]; rfl
theorem w82_1 : Wp r82_1 4 [9] [] [9] [2, 3] [some 7, some 8, some 9] (L82_1).1 := w_plain (by kernel_rfl) (L82_1).2
theorem can82_2 : canonOps (opsOf r82_2) = opsOf r82_2 := by kernel_rfl
noncomputable def L82_2 : Lc r82_2 := by refine ⟨?l, (congrArg (List.map strip) can82_2).trans ?h⟩; case h => simp only [r82_2, c82, bodyOf, Tryd.f82, Code.sub, opsOf, List.map_cons, List.map_nil, strip]; rfl
theorem w82_2 : Wd r82_2 4 [9] [] [] [3, 0, 2] [some 14, some 15, some 16, some 17, some 18, some 19, some 20, some 21, some 22, some 23, some 24, some 25, some 26, none, some 27, none] (L82_2).1 [(7, [13]), (11, [13])] := w_loud (by kernel_rfl) (L82_2).2
noncomputable def L82_3 : Lt r82_3 := by refine ⟨?l, ?h⟩; case h => simp only [r82_3, c82, bodyOf, Tryd.f82, Code.sub, opsOf, List.map_cons, List.map_nil, strip]; rfl
theorem w82_3 : Wp r82_3 4 [9] [2, 3] [] [2, 3] [some 10, some 11, some 12, some 13, some 2, some 3] (L82_3).1 := w_plain (by kernel_rfl) (L82_3).2
theorem k82 : FnIs TT 82 c82 [] 1 := ⟨Tryd.f82, by kernel_rfl, by simp only [Tryd.f82, c82, bodyOf], by kernel_rfl, of_decide_eq_true (by kernel_rfl)⟩
noncomputable def c83 : Code := bodyOf Tryd.f83
noncomputable def r83_0 : Code := Code.sub [0] c83
noncomputable def r83_1 : Code := Code.sub [1, 0, 0, 0, 0, 0] c83
noncomputable def r83_2 : Code := Code.sub [1, 0, 0, 0, 1, 0, 0, 0] c83
noncomputable def r83_3 : Code := Code.sub [1, 0, 0, 0, 1, 0, 0, 1, 0, 0] c83
noncomputable def r83_4 : Code := Code.sub [1, 0, 0, 0, 1, 0, 1] c83
noncomputable def r83_5 : Code := Code.sub [1, 1, 0] c83
theorem body83 : c83 = (.seq r83_0 (.seq (.block 0 (.loop (.seq (.seq r83_1 (.cond (.tmp 8) .skip (.exit 0))) (.block 1 (.seq (.seq r83_2 (.cond (.tmp 11) (.seq r83_3 .ret) .skip)) r83_4))))) (.seq r83_5 .ret))) := by kernel_rfl
noncomputable def L83_0 : Lt r83_0 := by refine ⟨?l, ?h⟩; case h => simp only [r83_0, c83, bodyOf, Tryd.f83, Code.sub, opsOf, List.map_cons, List.map_nil, strip]; rfl
theorem w83_0 : Wp r83_0 7 [8, 11] [6] [] [] [some 6] (L83_0).1 := w_plain (by kernel_rfl) (L83_0).2
noncomputable def L83_1 : Lt r83_1 := by refine ⟨?l, ?h⟩; case h => simp only [r83_1, c83, bodyOf, Tryd.f83, Code.sub, opsOf, List.map_cons, List.map_nil, strip]; rfl
theorem w83_1 : Wp r83_1 7 [8, 11] [] [8] [2] [some 7, some 8] (L83_1).1 := w_plain (by kernel_rfl) (L83_1).2
noncomputable def L83_2 : Lt r83_2 := by refine ⟨?l, ?h⟩; case h => simp only [r83_2, c83, bodyOf, Tryd.f83, Code.sub, opsOf, List.map_cons, List.map_nil, strip]; rfl
theorem w83_2 : Wp r83_2 7 [8, 11] [] [11] [1, 2] [some 9, some 10, some 11] (L83_2).1 := w_plain (by kernel_rfl) (L83_2).2
noncomputable def L83_3 : Lt r83_3 := by refine ⟨?l, ?h⟩; case h => simp only [r83_3, c83, bodyOf, Tryd.f83, Code.sub, opsOf, List.map_cons, List.map_nil, strip]; rfl
theorem w83_3 : Wp r83_3 7 [8, 11] [6] [] [] [some 6] (L83_3).1 := w_plain (by kernel_rfl) (L83_3).2
noncomputable def L83_4 : Lt r83_4 := by refine ⟨?l, ?h⟩; case h => simp only [r83_4, c83, bodyOf, Tryd.f83, Code.sub, opsOf, List.map_cons, List.map_nil, strip]; rfl
theorem w83_4 : Wp r83_4 7 [8, 11] [2] [] [0, 2] [some 12, some 13, some 14, some 15, some 16, some 17, some 18, some 2] (L83_4).1 := w_plain (by kernel_rfl) (L83_4).2
noncomputable def L83_5 : Lt r83_5 := by refine ⟨?l, ?h⟩; case h => simp only [r83_5, c83, bodyOf, Tryd.f83, Code.sub, opsOf, List.map_cons, List.map_nil, strip]; rfl
theorem w83_5 : Wp r83_5 7 [8, 11] [6] [] [] [some 6] (L83_5).1 := w_plain (by kernel_rfl) (L83_5).2
theorem k83 : FnIs TT 83 c83 [.tmp 6] 3 := ⟨Tryd.f83, by kernel_rfl, by simp only [Tryd.f83, c83, bodyOf], by kernel_rfl, of_decide_eq_true (by kernel_rfl)⟩
/- what rewriting uses in the walks -/
attribute [simp] w_seq w_cond_tmp w_ret w_skip w_exit w_block w_loop r_nil r_seq r_seq_ret r_seq_exit r_block
attribute [simp] r_block_ret r_block_exit r_loop r_loop_ret r_loop_exit cnd_t cnd_f rg_some lgo_n lgo_c lops_nil lops_cons
attribute [simp] lk_some lop1_plain lop1_guard gdv_b gdv_u gd_tt gd_ff gd_tf gd_ft lput_s lput_n lev_t
attribute [simp] lev_c lev_g lev_f lget_n lget_c lset_n lset_c lkeep_n lkeep_c lsets_n lsets_c lconds_n
attribute [simp] lconds_c lfill qf_d okx lresults lresultsL lres_tmp o_move o_assign o_bin o_pick o_nilCheck
attribute [simp] o_fieldAddr o_load o_len o_store o_conv o_un o_extract o_append o_call2 o_callv o_buildSlice o_box
attribute [simp] o_alloc o_build o_indexAddr o_slice o_index o_field o_makeFunc o_makeSlice o_min o_max loOf_none loOf_some
attribute [simp] hiOf_none hiOf_some natOf_int sliceS_some sliceA_some strOp sz_str cat_str list_str s_binOp fastBin s_unOp
attribute [simp] fastUn boolEq int_beq int_bne txt_beq one_int one_slice one_ptr one_bool one_str cells_int cells_slice
attribute [simp] cells_ptr cells_bool cells_str cells_agg flatEq_n flatEq_c ba_beq closedA_l closedL_n closedL_c closedV_int closedV_str
attribute [simp] closedV_bool loadRow_new window over Instr.fill repl lst_nil lst_cons lks_some lkc_some lloud_some lreads_n
attribute [simp] lreads_c lsame_d eqV_int eqV_slice eqV_ptr eqV_agg eqL_n eqL_c eqV_str eqV_bool eqV_undef o_lookup
attribute [simp] o_mapUpdate o_insert o_mapEntry o_entryStore o_makeMap o_makeInterface o_typeAssert o_delete o_invoke inv_of est_int o_sliceData
attribute [simp] o_unsafeString unsM_none unsM_some one_map one_iface cells_map cells_iface eqV_map eqV_ifc
attribute [simp] body8 w8_0 L8_0 w8_1 L8_1 w8_2 L8_2 w8_3 L8_3 w8_4 L8_4 w8_5 L8_5 w8_6 L8_6 w8_7 L8_7 w8_8 L8_8 w8_9 L8_9 w8_10 L8_10 w8_11 L8_11 w8_12 L8_12 w8_13 L8_13 w8_14 L8_14 w8_15 L8_15 w8_16 L8_16
attribute [simp] body9 w9_0 L9_0 w9_1 L9_1 w9_2 L9_2 w9_3 L9_3
attribute [simp] body10 w10_0 L10_0 w10_1 L10_1 w10_2 L10_2 w10_3 L10_3 w10_4 L10_4 w10_5 L10_5 w10_6 L10_6 w10_7 L10_7 w10_8 L10_8 w10_9 L10_9 w10_10 L10_10 w10_11 L10_11 w10_12 L10_12 w10_13 L10_13 w10_14 L10_14 w10_15 L10_15 w10_16 L10_16 w10_17 L10_17 w10_18 L10_18 w10_19 L10_19 w10_20 L10_20 w10_21 L10_21 w10_22 L10_22 w10_23 L10_23 w10_24 L10_24 w10_25 L10_25 w10_26 L10_26 w10_27 L10_27 w10_28 L10_28 w10_29 L10_29 w10_30 L10_30
attribute [simp] body15 w15_0 L15_0 w15_1 L15_1 w15_2 L15_2 w15_3 L15_3 w15_4 L15_4 w15_5 L15_5 w15_6 L15_6 w15_7 L15_7 w15_8 L15_8 w15_9 L15_9 w15_10 L15_10 w15_11 L15_11 w15_12 L15_12 w15_13 L15_13 w15_14 L15_14 w15_15 L15_15
attribute [simp] body16 w16_0 L16_0 w16_1 L16_1 w16_2 L16_2 w16_3 L16_3 w16_4 L16_4
attribute [simp] body19 w19_0 L19_0 w19_1 L19_1 w19_2 L19_2 w19_3 L19_3 w19_4 L19_4 w19_5 L19_5 w19_6 L19_6 w19_7 L19_7 w19_8 L19_8
attribute [simp] body20 w20_0 L20_0 w20_1 L20_1
attribute [simp] body21 w21_0 L21_0 w21_1 L21_1
attribute [simp] body22 w22_0 L22_0 w22_1 L22_1 w22_2 L22_2 w22_3 L22_3 w22_4 L22_4 w22_5 L22_5 w22_6 L22_6 w22_7 L22_7 w22_8 L22_8 w22_9 L22_9 w22_10 L22_10
attribute [simp] body23 w23_0 L23_0 w23_1 L23_1 w23_2 L23_2 w23_3 L23_3 w23_4 L23_4 w23_5 L23_5 w23_6 L23_6 w23_7 L23_7 w23_8 L23_8 w23_9 L23_9
attribute [simp] body24 w24_0 L24_0 w24_1 L24_1
attribute [simp] body25 w25_0 L25_0 w25_1 L25_1 w25_2 L25_2 w25_3 L25_3 w25_4 L25_4 w25_5 L25_5 w25_6 L25_6 w25_7 L25_7 w25_8 L25_8
attribute [simp] body26 w26_0 L26_0 w26_1 L26_1
attribute [simp] body27 w27_0 L27_0 w27_1 L27_1 w27_2 L27_2 w27_3 L27_3 w27_4 L27_4 w27_5 L27_5 w27_6 L27_6 w27_7 L27_7 w27_8 L27_8 w27_9 L27_9 w27_10 L27_10
attribute [simp] body28 w28_0 L28_0 w28_1 L28_1 w28_2 L28_2 w28_3 L28_3 w28_4 L28_4 w28_5 L28_5 w28_6 L28_6 w28_7 L28_7 w28_8 L28_8
attribute [simp] body29 w29_0 L29_0 w29_1 L29_1 w29_2 L29_2 w29_3 L29_3 w29_4 L29_4 w29_5 L29_5 w29_6 L29_6 w29_7 L29_7 w29_8 L29_8 w29_9 L29_9 w29_10 L29_10 w29_11 L29_11 w29_12 L29_12 w29_13 L29_13 w29_14 L29_14 w29_15 L29_15 w29_16 L29_16 w29_17 L29_17 w29_18 L29_18 w29_19 L29_19 w29_20 L29_20 w29_21 L29_21 w29_22 L29_22 w29_23 L29_23 w29_24 L29_24 w29_25 L29_25 w29_26 L29_26
attribute [simp] body30 w30_0 L30_0 w30_1 L30_1 w30_2 L30_2 w30_3 L30_3 w30_4 L30_4 w30_5 L30_5 w30_6 L30_6 w30_7 L30_7 w30_8 L30_8 w30_9 L30_9 w30_10 L30_10 w30_11 L30_11 w30_12 L30_12 w30_13 L30_13 w30_14 L30_14 w30_15 L30_15 w30_16 L30_16 w30_17 L30_17
attribute [simp] body37 w37_0 L37_0 w37_1 L37_1 w37_2 L37_2 w37_3 L37_3 w37_4 L37_4 w37_5 L37_5 w37_6 L37_6
attribute [simp] body38 w38_0 L38_0 w38_1 L38_1 w38_2 L38_2 w38_3 L38_3 w38_4 L38_4
attribute [simp] body44 w44_0 L44_0 w44_1 L44_1 w44_2 L44_2 w44_3 L44_3 w44_4 L44_4 w44_5 L44_5 w44_6 L44_6 w44_7 L44_7 w44_8 L44_8 w44_9 L44_9 w44_10 L44_10 w44_11 L44_11 w44_12 L44_12 w44_13 L44_13 w44_14 L44_14 w44_15 L44_15 w44_16 L44_16 w44_17 L44_17 w44_18 L44_18 w44_19 L44_19 w44_20 L44_20 w44_21 L44_21 w44_22 L44_22 w44_23 L44_23 w44_24 L44_24 w44_25 L44_25 w44_26 L44_26 w44_27 L44_27 w44_28 L44_28 w44_29 L44_29 w44_30 L44_30 w44_31 L44_31 w44_32 L44_32 w44_33 L44_33 w44_34 L44_34
attribute [simp] body46 w46_0 L46_0 w46_1 L46_1 w46_2 L46_2 w46_3 L46_3 w46_4 L46_4 w46_5 L46_5 w46_6 L46_6
attribute [simp] body47 w47_0 L47_0 w47_1 L47_1 w47_2 L47_2 w47_3 L47_3 w47_4 L47_4 w47_5 L47_5 w47_6 L47_6 w47_7 L47_7 w47_8 L47_8 w47_9 L47_9 w47_10 L47_10
attribute [simp] body48 w48_0 L48_0 w48_1 L48_1 w48_2 L48_2 w48_3 L48_3 w48_4 L48_4 w48_5 L48_5 w48_6 L48_6 w48_7 L48_7 w48_8 L48_8 w48_9 L48_9 w48_10 L48_10 w48_11 L48_11 w48_12 L48_12 w48_13 L48_13 w48_14 L48_14 w48_15 L48_15 w48_16 L48_16 w48_17 L48_17 w48_18 L48_18 w48_19 L48_19 w48_20 L48_20 w48_21 L48_21 w48_22 L48_22 w48_23 L48_23 w48_24 L48_24 w48_25 L48_25 w48_26 L48_26
attribute [simp] body49 w49_0 L49_0 w49_1 L49_1 w49_2 L49_2 w49_3 L49_3 w49_4 L49_4 w49_5 L49_5 w49_6 L49_6 w49_7 L49_7 w49_8 L49_8 w49_9 L49_9 w49_10 L49_10 w49_11 L49_11
attribute [simp] body50 w50_0 L50_0 w50_1 L50_1 w50_2 L50_2 w50_3 L50_3 w50_4 L50_4 w50_5 L50_5 w50_6 L50_6 w50_7 L50_7 w50_8 L50_8 w50_9 L50_9 w50_10 L50_10 w50_11 L50_11 w50_12 L50_12 w50_13 L50_13 w50_14 L50_14 w50_15 L50_15
attribute [simp] body51 w51_0 L51_0 w51_1 L51_1 w51_2 L51_2 w51_3 L51_3 w51_4 L51_4 w51_5 L51_5 w51_6 L51_6 w51_7 L51_7 w51_8 L51_8 w51_9 L51_9 w51_10 L51_10 w51_11 L51_11 w51_12 L51_12 w51_13 L51_13 w51_14 L51_14 w51_15 L51_15
attribute [simp] body52 w52_0 L52_0 w52_1 L52_1
attribute [simp] body53 w53_0 L53_0 w53_1 L53_1 w53_2 L53_2 w53_3 L53_3 w53_4 L53_4 w53_5 L53_5 w53_6 L53_6 w53_7 L53_7 w53_8 L53_8 w53_9 L53_9 w53_10 L53_10 w53_11 L53_11 w53_12 L53_12 w53_13 L53_13 w53_14 L53_14 w53_15 L53_15 w53_16 L53_16 w53_17 L53_17 w53_18 L53_18 w53_19 L53_19 w53_20 L53_20 w53_21 L53_21 w53_22 L53_22 w53_23 L53_23 w53_24 L53_24 w53_25 L53_25 w53_26 L53_26 w53_27 L53_27 w53_28 L53_28 w53_29 L53_29 w53_30 L53_30 w53_31 L53_31 w53_32 L53_32 w53_33 L53_33 w53_34 L53_34 w53_35 L53_35 w53_36 L53_36
attribute [simp] body54 w54_0 L54_0 w54_1 L54_1 w54_2 L54_2 w54_3 L54_3 w54_4 L54_4 w54_5 L54_5 w54_6 L54_6 w54_7 L54_7 w54_8 L54_8 w54_9 L54_9 w54_10 L54_10 w54_11 L54_11 w54_12 L54_12 w54_13 L54_13 w54_14 L54_14 w54_15 L54_15 w54_16 L54_16 w54_17 L54_17 w54_18 L54_18 w54_19 L54_19 w54_20 L54_20 w54_21 L54_21 w54_22 L54_22
attribute [simp] body55 w55_0 L55_0 w55_1 L55_1 w55_2 L55_2 w55_3 L55_3
attribute [simp] body56 w56_0 L56_0 w56_1 L56_1 w56_2 L56_2 w56_3 L56_3
attribute [simp] body57 w57_0 L57_0 w57_1 L57_1 w57_2 L57_2 w57_3 L57_3 w57_4 L57_4 w57_5 L57_5 w57_6 L57_6 w57_7 L57_7
attribute [simp] body58 w58_0 L58_0 w58_1 L58_1 w58_2 L58_2 w58_3 L58_3 w58_4 L58_4 w58_5 L58_5 w58_6 L58_6 w58_7 L58_7
attribute [simp] body59 w59_0 L59_0 w59_1 L59_1
attribute [simp] body60 w60_0 L60_0 w60_1 L60_1
attribute [simp] body61 w61_0 L61_0 w61_1 L61_1 w61_2 L61_2 w61_3 L61_3 w61_4 L61_4 w61_5 L61_5 w61_6 L61_6 w61_7 L61_7 w61_8 L61_8 w61_9 L61_9 w61_10 L61_10 w61_11 L61_11 w61_12 L61_12 w61_13 L61_13 w61_14 L61_14 w61_15 L61_15 w61_16 L61_16 w61_17 L61_17 w61_18 L61_18 w61_19 L61_19 w61_20 L61_20 w61_21 L61_21 w61_22 L61_22 w61_23 L61_23 w61_24 L61_24 w61_25 L61_25 w61_26 L61_26
attribute [simp] body62 w62_0 L62_0 w62_1 L62_1 w62_2 L62_2 w62_3 L62_3
attribute [simp] body64 w64_0 L64_0 w64_1 L64_1 w64_2 L64_2 w64_3 L64_3 w64_4 L64_4 w64_5 L64_5 w64_6 L64_6 w64_7 L64_7 w64_8 L64_8 w64_9 L64_9 w64_10 L64_10 w64_11 L64_11 w64_12 L64_12 w64_13 L64_13
attribute [simp] body65 w65_0 L65_0 w65_1 L65_1
attribute [simp] body66 w66_0 L66_0 w66_1 L66_1 w66_2 L66_2 w66_3 L66_3
attribute [simp] body67 w67_0 L67_0 w67_1 L67_1
attribute [simp] body68 w68_0 L68_0 w68_1 L68_1
attribute [simp] body69 w69_0 L69_0 w69_1 L69_1
attribute [simp] body70 w70_0 L70_0 w70_1 L70_1 w70_2 L70_2 w70_3 L70_3 w70_4 L70_4 w70_5 L70_5 w70_6 L70_6 w70_7 L70_7 w70_8 L70_8 w70_9 L70_9 w70_10 L70_10 w70_11 L70_11 w70_12 L70_12
attribute [simp] body71 w71_0 L71_0 w71_1 L71_1 w71_2 L71_2 w71_3 L71_3 w71_4 L71_4 w71_5 L71_5 w71_6 L71_6 w71_7 L71_7 w71_8 L71_8 w71_9 L71_9
attribute [simp] body72 w72_0 L72_0 w72_1 L72_1 w72_2 L72_2 w72_3 L72_3 w72_4 L72_4 w72_5 L72_5 w72_6 L72_6 w72_7 L72_7 w72_8 L72_8 w72_9 L72_9 w72_10 L72_10 w72_11 L72_11 w72_12 L72_12 w72_13 L72_13 w72_14 L72_14 w72_15 L72_15 w72_16 L72_16 w72_17 L72_17 w72_18 L72_18
attribute [simp] body73 w73_0 L73_0 w73_1 L73_1 w73_2 L73_2 w73_3 L73_3 w73_4 L73_4 w73_5 L73_5
attribute [simp] body74 w74_0 L74_0 w74_1 L74_1 w74_2 L74_2 w74_3 L74_3 w74_4 L74_4 w74_5 L74_5 w74_6 L74_6 w74_7 L74_7
attribute [simp] body75 w75_0 L75_0 w75_1 L75_1 w75_2 L75_2 w75_3 L75_3 w75_4 L75_4 w75_5 L75_5 w75_6 L75_6 w75_7 L75_7
attribute [simp] body76 w76_0 L76_0 w76_1 L76_1 w76_2 L76_2 w76_3 L76_3 w76_4 L76_4 w76_5 L76_5 w76_6 L76_6 w76_7 L76_7 w76_8 L76_8 w76_9 L76_9 w76_10 L76_10 w76_11 L76_11 w76_12 L76_12 w76_13 L76_13 w76_14 L76_14 w76_15 L76_15 w76_16 L76_16 w76_17 L76_17 w76_18 L76_18 w76_19 L76_19 w76_20 L76_20 w76_21 L76_21 w76_22 L76_22 w76_23 L76_23
attribute [simp] body77 w77_0 L77_0 w77_1 L77_1
attribute [simp] body78 w78_0 L78_0 w78_1 L78_1 w78_2 L78_2 w78_3 L78_3 w78_4 L78_4 w78_5 L78_5 w78_6 L78_6 w78_7 L78_7
attribute [simp] body79 w79_0 L79_0 w79_1 L79_1 w79_2 L79_2 w79_3 L79_3
attribute [simp] body81 w81_0 L81_0 w81_1 L81_1 w81_2 L81_2 w81_3 L81_3 w81_4 L81_4 w81_5 L81_5 w81_6 L81_6 w81_7 L81_7
attribute [simp] body82 w82_0 L82_0 w82_1 L82_1 w82_2 L82_2 w82_3 L82_3
attribute [simp] body83 w83_0 L83_0 w83_1 L83_1 w83_2 L83_2 w83_3 L83_3 w83_4 L83_4 w83_5 L83_5
end Go.Proofs.YtlogdohlcdhepaaDoor.gen

