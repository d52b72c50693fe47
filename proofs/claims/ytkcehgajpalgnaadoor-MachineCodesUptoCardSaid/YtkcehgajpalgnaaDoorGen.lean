/-
  This text names the regions of the functions that are walked, with the slots that they read and set, and the facts of the types.
  No condition.
-/
import Derived.Test.YtkcehgajpalgnaaDoorProg
import Derived.Test.YtkcehgajpalgnaaDoorShD
set_option maxRecDepth 100000
set_option linter.unusedSimpArgs false
set_option linter.unusedVariables false
namespace Go.Proofs.YtkcehgajpalgnaaDoor.gen
open Go.Sh
def fns : List FuncId := [5, 6, 7, 11, 17, 18, 19, 20, 21, 22, 23, 24, 25, 32, 41, 42, 43]
noncomputable def TT : FuncId → Option Func := Sh.tabOf Tryd.prog fns
variable {S : Sums} {m : Mem} {k : List Fr} {E : LEnv} {Q : Post}
/-- a region's stripped operations -/
abbrev Lt (c : Code) := {l : List Oper // (opsOf c).map strip = l}
abbrev Lc (c : Code) := {l : List Oper // (canonOps (opsOf c)).map strip = l}
/-- what a region comes to -/
abbrev Wp (c : Code) (nv : Nat) (C ups cs nd : List Nat) (ds : List (Option Nat)) (l : List Oper) : Prop := ∀ {S : Sums} {m : Mem} {k : List Fr} {E : LEnv} {Q : Post}, W Tryd.prog TT S nv C c k E m Q ↔ Rg Tryd.prog TT S nv C ups cs (lgo E nd (lops Tryd.prog (callw Tryd.prog TT S) ds l E m)) k E Q
abbrev Wd (c : Code) (nv : Nat) (C ups cs nd : List Nat) (ds : List (Option Nat)) (l : List Oper) (places : List (Nat × List Nat)) : Prop := ∀ {S : Sums} {m : Mem} {k : List Fr} {E : LEnv} {Q : Post}, W Tryd.prog TT S nv C c k E m Q ↔ Rg Tryd.prog TT S nv C ups cs (lgo E nd (lloud Tryd.prog (callw Tryd.prog TT S) ds l places (lstates Tryd.prog (callw Tryd.prog TT S) ds l E m))) k E Q
theorem ag52 : aggOk Tryd.prog 52 [(3, 0), (3, 1), (3, 2), (3, 3), (2, 4)] = true := by kernel_rfl
theorem ap5 : apOk Tryd.prog 5 1 1 = true := by kernel_rfl
theorem ap52 : apOk Tryd.prog 52 5 40 = true := by kernel_rfl
theorem b52 : (Tryd.prog.info? 52).isSome = true := by kernel_rfl
theorem bo52 : buildOk Tryd.prog 52 [.int .i64 0, .int .i64 0, .int .i64 0, .int .i64 0, .int .i64 0] [(0, 1), (1, 1), (2, 1), (3, 1), (4, 1)] = true := by kernel_rfl
theorem bs3 : bsOk Tryd.prog 3 [.int .i64 0] = true := by kernel_rfl
theorem bs5 : bsOk Tryd.prog 5 [.int .u8 0] = true := by kernel_rfl
theorem bs52 : bsOk Tryd.prog 52 [.int .i64 0, .int .i64 0, .int .i64 0, .int .i64 0, .int .i64 0] = true := by kernel_rfl
theorem fa52_0 : faOk Tryd.prog 52 0 0 = true := by kernel_rfl
theorem fa52_1 : faOk Tryd.prog 52 1 1 = true := by kernel_rfl
theorem fa52_2 : faOk Tryd.prog 52 2 2 = true := by kernel_rfl
theorem fa52_3 : faOk Tryd.prog 52 3 3 = true := by kernel_rfl
theorem fa52_4 : faOk Tryd.prog 52 4 4 = true := by kernel_rfl
theorem ld2 : ldOk Tryd.prog 2 = true := by kernel_rfl
theorem ld3 : ldOk Tryd.prog 3 = true := by kernel_rfl
theorem ld5 : ldOk Tryd.prog 5 = true := by kernel_rfl
theorem ld52 : agOk Tryd.prog 52 5 = true := by kernel_rfl
theorem ld9 : ldOk Tryd.prog 9 = true := by kernel_rfl
theorem sz10 : sizeOfT Tryd.prog 10 = some 1 := by kernel_rfl
theorem sz108 : sizeOfT Tryd.prog 108 = some 1 := by kernel_rfl
theorem sz109 : sizeOfT Tryd.prog 109 = some 1 := by kernel_rfl
theorem sz11 : sizeOfT Tryd.prog 11 = some 1 := by kernel_rfl
theorem sz112 : sizeOfT Tryd.prog 112 = some 1 := by kernel_rfl
theorem sz113 : sizeOfT Tryd.prog 113 = some 1 := by kernel_rfl
theorem sz12 : sizeOfT Tryd.prog 12 = some 1 := by kernel_rfl
theorem sz2 : sizeOfT Tryd.prog 2 = some 1 := by kernel_rfl
theorem sz21 : sizeOfT Tryd.prog 21 = some 1 := by kernel_rfl
theorem sz22 : sizeOfT Tryd.prog 22 = some 1 := by kernel_rfl
theorem sz23 : sizeOfT Tryd.prog 23 = some 1 := by kernel_rfl
theorem sz3 : sizeOfT Tryd.prog 3 = some 1 := by kernel_rfl
theorem sz33 : sizeOfT Tryd.prog 33 = some 1 := by kernel_rfl
theorem sz4 : sizeOfT Tryd.prog 4 = some 1 := by kernel_rfl
theorem sz45 : sizeOfT Tryd.prog 45 = some 1 := by kernel_rfl
theorem sz48 : sizeOfT Tryd.prog 48 = some 1 := by kernel_rfl
theorem sz5 : sizeOfT Tryd.prog 5 = some 1 := by kernel_rfl
theorem sz52 : sizeOfT Tryd.prog 52 = some 5 := by kernel_rfl
theorem sz6 : sizeOfT Tryd.prog 6 = some 1 := by kernel_rfl
theorem sz65 : sizeOfT Tryd.prog 65 = some 1 := by kernel_rfl
theorem sz76 : sizeOfT Tryd.prog 76 = some 1 := by kernel_rfl
theorem sz80 : sizeOfT Tryd.prog 80 = some 3 := by kernel_rfl
theorem sz82 : sizeOfT Tryd.prog 82 = some 1 := by kernel_rfl
theorem sz9 : sizeOfT Tryd.prog 9 = some 1 := by kernel_rfl
theorem sz98 : sizeOfT Tryd.prog 98 = some 1 := by kernel_rfl
theorem u10 : Tryd.prog.underlying 10 = some .string := by kernel_rfl
theorem u108 : Tryd.prog.underlying 108 = some (.int .u8) := by kernel_rfl
theorem u109 : Tryd.prog.underlying 109 = some (.int .u8) := by kernel_rfl
theorem u11 : Tryd.prog.underlying 11 = some .string := by kernel_rfl
theorem u112 : Tryd.prog.underlying 112 = some (.int .i32) := by kernel_rfl
theorem u113 : Tryd.prog.underlying 113 = some (.int .i32) := by kernel_rfl
theorem u12 : Tryd.prog.underlying 12 = some (.int .u64) := by kernel_rfl
theorem u2 : Tryd.prog.underlying 2 = some (.int .i64) := by kernel_rfl
theorem u21 : Tryd.prog.underlying 21 = some (.int .i32) := by kernel_rfl
theorem u22 : Tryd.prog.underlying 22 = some (.slice 52) := by kernel_rfl
theorem u23 : Tryd.prog.underlying 23 = some (.slice 33) := by kernel_rfl
theorem u3 : Tryd.prog.underlying 3 = some (.int .i64) := by kernel_rfl
theorem u33 : Tryd.prog.underlying 33 = some (.int .u64) := by kernel_rfl
theorem u4 : Tryd.prog.underlying 4 = some .bool := by kernel_rfl
theorem u45 : Tryd.prog.underlying 45 = some (.int .i64) := by kernel_rfl
theorem u48 : Tryd.prog.underlying 48 = some (.slice 5) := by kernel_rfl
theorem u5 : Tryd.prog.underlying 5 = some (.int .u8) := by kernel_rfl
theorem u6 : Tryd.prog.underlying 6 = some (.int .u8) := by kernel_rfl
theorem u65 : Tryd.prog.underlying 65 = some (.int .u64) := by kernel_rfl
theorem u76 : Tryd.prog.underlying 76 = some (.slice 9) := by kernel_rfl
theorem u80 : Tryd.prog.underlying 80 = some (.array 3 3) := by kernel_rfl
theorem u82 : Tryd.prog.underlying 82 = some (.slice 3) := by kernel_rfl
theorem u9 : Tryd.prog.underlying 9 = some .string := by kernel_rfl
theorem u98 : Tryd.prog.underlying 98 = some (.int .u32) := by kernel_rfl
theorem zo52 : zeroOk Tryd.prog 52 [.int .i64 0, .int .i64 0, .int .i64 0, .int .i64 0, .int .i64 0] = true := by kernel_rfl
theorem zo80 : zeroOk Tryd.prog 80 [.int .i64 0, .int .i64 0, .int .i64 0] = true := by kernel_rfl

/- turnstonelaw25.MachineCodes -/
noncomputable def c5 : Code := bodyOf Tryd.f5
noncomputable def r5_0 : Code := Code.sub [0] c5
noncomputable def r5_1 : Code := Code.sub [1, 0] c5
noncomputable def r5_2 : Code := Code.sub [1, 1, 0] c5
noncomputable def r5_3 : Code := Code.sub [1, 1, 1, 0] c5
noncomputable def r5_4 : Code := Code.sub [1, 1, 1, 1, 0] c5
noncomputable def r5_5 : Code := Code.sub [1, 1, 1, 1, 1, 0, 0] c5
noncomputable def r5_6 : Code := Code.sub [1, 1, 1, 1, 1, 0, 1, 0, 0] c5
noncomputable def r5_7 : Code := Code.sub [1, 1, 1, 1, 1, 0, 1, 0, 1, 0] c5
noncomputable def r5_8 : Code := Code.sub [1, 1, 1, 1, 1, 0, 1, 0, 1, 1, 0] c5
noncomputable def r5_9 : Code := Code.sub [1, 1, 1, 1, 1, 0, 1, 0, 1, 1, 1, 0] c5
noncomputable def r5_10 : Code := Code.sub [1, 1, 1, 1, 1, 1, 0] c5
noncomputable def r5_11 : Code := Code.sub [1, 1, 1, 1, 1, 1, 1, 0] c5
noncomputable def r5_12 : Code := Code.sub [1, 1, 1, 1, 1, 1, 1, 1, 0] c5
theorem body5 : c5 = (.seq r5_0 (.seq r5_1 (.seq r5_2 (.seq r5_3 (.seq r5_4 (.seq (.seq r5_5 (.cond (.tmp 46) (.seq r5_6 (.seq r5_7 (.seq r5_8 (.cond (.tmp 60) r5_9 .skip)))) .skip)) (.seq r5_10 (.seq r5_11 (.seq r5_12 .ret))))))))) := by kernel_rfl
noncomputable def L5_0 : Lt r5_0 := by refine ⟨?l, ?h⟩; case h => simp only [r5_0, c5, bodyOf, Tryd.f5, Code.sub, opsOf, List.map_cons, List.map_nil, strip]; rfl
theorem w5_0 : Wp r5_0 23 [46, 60] [12] [] [] [some 12] (L5_0).1 := w_plain (by kernel_rfl) (L5_0).2
noncomputable def L5_1 : Lt r5_1 := by refine ⟨?l, ?h⟩; case h => simp only [r5_1, c5, bodyOf, Tryd.f5, Code.sub, opsOf, List.map_cons, List.map_nil, strip]; rfl
theorem w5_1 : Wp r5_1 23 [46, 60] [13] [] [0, 1] [some 23, some 24, some 25, some 13] (L5_1).1 := w_plain (by kernel_rfl) (L5_1).2
noncomputable def L5_2 : Lt r5_2 := by refine ⟨?l, ?h⟩; case h => simp only [r5_2, c5, bodyOf, Tryd.f5, Code.sub, opsOf, List.map_cons, List.map_nil, strip]; rfl
theorem w5_2 : Wp r5_2 23 [46, 60] [14, 15] [] [13] [some 27, some 28, some 29, some 30, some 26, some 31, some 32, some 14, some 15] (L5_2).1 := w_plain (by kernel_rfl) (L5_2).2
noncomputable def L5_3 : Lt r5_3 := by refine ⟨?l, ?h⟩; case h => simp only [r5_3, c5, bodyOf, Tryd.f5, Code.sub, opsOf, List.map_cons, List.map_nil, strip]; rfl
theorem w5_3 : Wp r5_3 23 [46, 60] [16, 17] [] [13] [some 34, some 35, some 33, some 36, some 37, some 16, some 17] (L5_3).1 := w_plain (by kernel_rfl) (L5_3).2
noncomputable def L5_4 : Lt r5_4 := by refine ⟨?l, ?h⟩; case h => simp only [r5_4, c5, bodyOf, Tryd.f5, Code.sub, opsOf, List.map_cons, List.map_nil, strip]; rfl
theorem w5_4 : Wp r5_4 23 [46, 60] [18] [] [2] [some 38, some 39, some 40, some 18] (L5_4).1 := w_plain (by kernel_rfl) (L5_4).2
noncomputable def L5_5 : Lt r5_5 := by refine ⟨?l, ?h⟩; case h => simp only [r5_5, c5, bodyOf, Tryd.f5, Code.sub, opsOf, List.map_cons, List.map_nil, strip]; rfl
theorem w5_5 : Wp r5_5 23 [46, 60] [] [46] [3, 16] [some 41, some 42, some 43, some 44, some 45, some 46] (L5_5).1 := w_plain (by kernel_rfl) (L5_5).2
noncomputable def L5_6 : Lt r5_6 := by refine ⟨?l, ?h⟩; case h => simp only [r5_6, c5, bodyOf, Tryd.f5, Code.sub, opsOf, List.map_cons, List.map_nil, strip]; rfl
theorem w5_6 : Wp r5_6 23 [46, 60] [18] [] [16] [some 47, some 48, some 49, some 18] (L5_6).1 := w_plain (by kernel_rfl) (L5_6).2
noncomputable def L5_7 : Lt r5_7 := by refine ⟨?l, ?h⟩; case h => simp only [r5_7, c5, bodyOf, Tryd.f5, Code.sub, opsOf, List.map_cons, List.map_nil, strip]; rfl
theorem w5_7 : Wp r5_7 23 [46, 60] [] [] [4, 18, 5] [some 50, some 51, some 52, some 53, some 54, some 55, some 56, some 57, none] (L5_7).1 := w_plain (by kernel_rfl) (L5_7).2
noncomputable def L5_8 : Lt r5_8 := by refine ⟨?l, ?h⟩; case h => simp only [r5_8, c5, bodyOf, Tryd.f5, Code.sub, opsOf, List.map_cons, List.map_nil, strip]; rfl
theorem w5_8 : Wp r5_8 23 [46, 60] [] [60] [5] [some 58, some 59, some 60] (L5_8).1 := w_plain (by kernel_rfl) (L5_8).2
noncomputable def L5_9 : Lt r5_9 := by refine ⟨?l, ?h⟩; case h => simp only [r5_9, c5, bodyOf, Tryd.f5, Code.sub, opsOf, List.map_cons, List.map_nil, strip]; rfl
theorem w5_9 : Wp r5_9 23 [46, 60] [18] [] [4, 18] [some 61, some 62, some 63, some 64, some 65, some 66, some 18] (L5_9).1 := w_plain (by kernel_rfl) (L5_9).2
noncomputable def L5_10 : Lt r5_10 := by refine ⟨?l, ?h⟩; case h => simp only [r5_10, c5, bodyOf, Tryd.f5, Code.sub, opsOf, List.map_cons, List.map_nil, strip]; rfl
theorem w5_10 : Wp r5_10 23 [46, 60] [19, 20] [] [18] [some 68, some 69, some 70, some 71, some 67, some 72, some 73, some 19, some 20] (L5_10).1 := w_plain (by kernel_rfl) (L5_10).2
noncomputable def L5_11 : Lt r5_11 := by refine ⟨?l, ?h⟩; case h => simp only [r5_11, c5, bodyOf, Tryd.f5, Code.sub, opsOf, List.map_cons, List.map_nil, strip]; rfl
theorem w5_11 : Wp r5_11 23 [46, 60] [21, 22] [] [18] [some 75, some 76, some 74, some 77, some 78, some 21, some 22] (L5_11).1 := w_plain (by kernel_rfl) (L5_11).2
noncomputable def L5_12 : Lt r5_12 := by refine ⟨?l, ?h⟩; case h => simp only [r5_12, c5, bodyOf, Tryd.f5, Code.sub, opsOf, List.map_cons, List.map_nil, strip]; rfl
theorem w5_12 : Wp r5_12 23 [46, 60] [12] [] [14, 16, 15, 17, 13, 19, 21, 20, 22] [some 79, some 80, some 81, some 82, some 83, some 84, some 85, some 86, some 87, some 88, some 89, some 90, some 91, some 92, some 93, some 94, some 95, some 96, some 97, some 98, some 99, some 100, some 101, some 102, some 103, some 104, some 105, some 106, some 107, some 108, some 12] (L5_12).1 := w_plain (by kernel_rfl) (L5_12).2
theorem k5 : FnIs TT 5 c5 [.tmp 12] 6 := ⟨Tryd.f5, by kernel_rfl, by simp only [Tryd.f5, c5, bodyOf], by kernel_rfl, of_decide_eq_true (by kernel_rfl)⟩

/- turnstonelaw25.MachineBack -/
noncomputable def c6 : Code := bodyOf Tryd.f6
noncomputable def r6_0 : Code := Code.sub [0] c6
noncomputable def r6_1 : Code := Code.sub [1, 0] c6
noncomputable def r6_2 : Code := Code.sub [1, 1, 0] c6
noncomputable def r6_3 : Code := Code.sub [1, 1, 1, 0, 0] c6
noncomputable def r6_4 : Code := Code.sub [1, 1, 1, 0, 1, 0, 0] c6
noncomputable def r6_5 : Code := Code.sub [1, 1, 1, 0, 1, 0, 1, 0] c6
noncomputable def r6_6 : Code := Code.sub [1, 1, 1, 0, 1, 0, 1, 1, 0, 0] c6
noncomputable def r6_7 : Code := Code.sub [1, 1, 1, 1, 0] c6
noncomputable def r6_8 : Code := Code.sub [1, 1, 1, 1, 1, 0, 0] c6
noncomputable def r6_9 : Code := Code.sub [1, 1, 1, 1, 1, 0, 1, 0, 0] c6
noncomputable def r6_10 : Code := Code.sub [1, 1, 1, 1, 1, 1, 0] c6
noncomputable def r6_11 : Code := Code.sub [1, 1, 1, 1, 1, 1, 1, 0] c6
theorem body6 : c6 = (.seq r6_0 (.seq r6_1 (.seq r6_2 (.seq (.seq r6_3 (.cond (.tmp 24) (.seq r6_4 (.seq r6_5 (.cond (.tmp 45) (.seq r6_6 .ret) .skip))) .skip)) (.seq r6_7 (.seq (.seq r6_8 (.cond (.tmp 56) (.seq r6_9 .ret) .skip)) (.seq r6_10 (.seq r6_11 .ret)))))))) := by kernel_rfl
noncomputable def L6_0 : Lt r6_0 := by refine ⟨?l, ?h⟩; case h => simp only [r6_0, c6, bodyOf, Tryd.f6, Code.sub, opsOf, List.map_cons, List.map_nil, strip]; rfl
theorem w6_0 : Wp r6_0 16 [24, 45, 56] [6] [] [] [some 6] (L6_0).1 := w_plain (by kernel_rfl) (L6_0).2
noncomputable def L6_1 : Lt r6_1 := by refine ⟨?l, ?h⟩; case h => simp only [r6_1, c6, bodyOf, Tryd.f6, Code.sub, opsOf, List.map_cons, List.map_nil, strip]; rfl
theorem w6_1 : Wp r6_1 16 [24, 45, 56] [7] [] [0] [some 16, some 17, some 7] (L6_1).1 := w_plain (by kernel_rfl) (L6_1).2
noncomputable def L6_2 : Lt r6_2 := by refine ⟨?l, ?h⟩; case h => simp only [r6_2, c6, bodyOf, Tryd.f6, Code.sub, opsOf, List.map_cons, List.map_nil, strip]; rfl
theorem w6_2 : Wp r6_2 16 [24, 45, 56] [8, 9] [] [7] [some 19, some 20, some 18, some 21, some 22, some 8, some 9] (L6_2).1 := w_plain (by kernel_rfl) (L6_2).2
noncomputable def L6_3 : Lt r6_3 := by refine ⟨?l, ?h⟩; case h => simp only [r6_3, c6, bodyOf, Tryd.f6, Code.sub, opsOf, List.map_cons, List.map_nil, strip]; rfl
theorem w6_3 : Wp r6_3 16 [24, 45, 56] [] [24] [9] [some 23, some 24] (L6_3).1 := w_plain (by kernel_rfl) (L6_3).2
noncomputable def L6_4 : Lt r6_4 := by refine ⟨?l, ?h⟩; case h => simp only [r6_4, c6, bodyOf, Tryd.f6, Code.sub, opsOf, List.map_cons, List.map_nil, strip]; rfl
theorem w6_4 : Wp r6_4 16 [24, 45, 56] [10, 11] [] [8] [some 26, some 27, some 25, some 28, some 29, some 10, some 11] (L6_4).1 := w_plain (by kernel_rfl) (L6_4).2
noncomputable def L6_5 : Lt r6_5 := by refine ⟨?l, ?h⟩; case h => simp only [r6_5, c6, bodyOf, Tryd.f6, Code.sub, opsOf, List.map_cons, List.map_nil, strip]; rfl
theorem w6_5 : Wp r6_5 16 [24, 45, 56] [] [45] [11, 10, 8, 7] [some 30, some 31, some 32, some 33, some 34, some 35, some 36, some 37, some 38, some 39, some 40, some 41, some 42, some 43, some 44, some 45] (L6_5).1 := w_plain (by kernel_rfl) (L6_5).2
noncomputable def L6_6 : Lt r6_6 := by refine ⟨?l, ?h⟩; case h => simp only [r6_6, c6, bodyOf, Tryd.f6, Code.sub, opsOf, List.map_cons, List.map_nil, strip]; rfl
theorem w6_6 : Wp r6_6 16 [24, 45, 56] [6] [] [] [some 6] (L6_6).1 := w_plain (by kernel_rfl) (L6_6).2
noncomputable def L6_7 : Lt r6_7 := by refine ⟨?l, ?h⟩; case h => simp only [r6_7, c6, bodyOf, Tryd.f6, Code.sub, opsOf, List.map_cons, List.map_nil, strip]; rfl
theorem w6_7 : Wp r6_7 16 [24, 45, 56] [12, 13] [] [1] [some 47, some 48, some 46, some 49, some 50, some 12, some 13] (L6_7).1 := w_plain (by kernel_rfl) (L6_7).2
noncomputable def L6_8 : Lt r6_8 := by refine ⟨?l, ?h⟩; case h => simp only [r6_8, c6, bodyOf, Tryd.f6, Code.sub, opsOf, List.map_cons, List.map_nil, strip]; rfl
theorem w6_8 : Wp r6_8 16 [24, 45, 56] [] [56] [13] [some 51, some 52, some 53, some 54, some 55, some 56] (L6_8).1 := w_plain (by kernel_rfl) (L6_8).2
noncomputable def L6_9 : Lt r6_9 := by refine ⟨?l, ?h⟩; case h => simp only [r6_9, c6, bodyOf, Tryd.f6, Code.sub, opsOf, List.map_cons, List.map_nil, strip]; rfl
theorem w6_9 : Wp r6_9 16 [24, 45, 56] [6] [] [12] [some 57, some 58, some 59, some 60, some 61, some 62, some 6] (L6_9).1 := w_plain (by kernel_rfl) (L6_9).2
noncomputable def L6_10 : Lt r6_10 := by refine ⟨?l, ?h⟩; case h => simp only [r6_10, c6, bodyOf, Tryd.f6, Code.sub, opsOf, List.map_cons, List.map_nil, strip]; rfl
theorem w6_10 : Wp r6_10 16 [24, 45, 56] [14, 15] [] [12] [some 64, some 65, some 63, some 66, some 67, some 14, some 15] (L6_10).1 := w_plain (by kernel_rfl) (L6_10).2
noncomputable def L6_11 : Lt r6_11 := by refine ⟨?l, ?h⟩; case h => simp only [r6_11, c6, bodyOf, Tryd.f6, Code.sub, opsOf, List.map_cons, List.map_nil, strip]; rfl
theorem w6_11 : Wp r6_11 16 [24, 45, 56] [6] [] [15, 14, 1] [some 68, some 69, some 70, some 71, some 72, some 73, some 74, some 75, some 76, some 6] (L6_11).1 := w_plain (by kernel_rfl) (L6_11).2
theorem k6 : FnIs TT 6 c6 [.tmp 6] 3 := ⟨Tryd.f6, by kernel_rfl, by simp only [Tryd.f6, c6, bodyOf], by kernel_rfl, of_decide_eq_true (by kernel_rfl)⟩

/- turnstonelaw25.list -/
noncomputable def c7 : Code := bodyOf Tryd.f7
noncomputable def r7_0 : Code := Code.sub [0] c7
noncomputable def r7_1 : Code := Code.sub [1, 0] c7
noncomputable def r7_2 : Code := Code.sub [1, 1, 0] c7
noncomputable def r7_3 : Code := Code.sub [1, 1, 1, 0, 0] c7
noncomputable def r7_4 : Code := Code.sub [1, 1, 1, 0, 1, 0, 0, 0, 0] c7
noncomputable def r7_5 : Code := Code.sub [1, 1, 1, 0, 1, 0, 0, 1, 0, 0, 0] c7
noncomputable def r7_6 : Code := Code.sub [1, 1, 1, 0, 1, 0, 0, 1, 0, 0, 1, 0, 0] c7
noncomputable def r7_7 : Code := Code.sub [1, 1, 1, 0, 1, 0, 0, 1, 0, 0, 1, 0, 1, 0, 0] c7
noncomputable def r7_8 : Code := Code.sub [1, 1, 1, 0, 1, 0, 0, 1, 0, 0, 1, 0, 1, 0, 1, 0, 0] c7
noncomputable def r7_9 : Code := Code.sub [1, 1, 1, 0, 1, 0, 0, 1, 0, 0, 1, 0, 1, 0, 1, 0, 1, 0, 0, 0] c7
noncomputable def r7_10 : Code := Code.sub [1, 1, 1, 0, 1, 0, 0, 1, 0, 0, 1, 0, 1, 0, 1, 0, 1, 0, 0, 1, 1] c7
noncomputable def r7_11 : Code := Code.sub [1, 1, 1, 0, 1, 0, 0, 1, 0, 0, 1, 0, 1, 0, 1, 0, 1, 0, 1, 0] c7
noncomputable def r7_12 : Code := Code.sub [1, 1, 1, 0, 1, 0, 0, 1, 0, 0, 1, 0, 1, 0, 1, 0, 1, 0, 1, 1, 0, 0] c7
noncomputable def r7_13 : Code := Code.sub [1, 1, 1, 0, 1, 0, 0, 1, 0, 0, 1, 0, 1, 0, 1, 0, 1, 0, 1, 1, 0, 1, 1, 0] c7
noncomputable def r7_14 : Code := Code.sub [1, 1, 1, 0, 1, 0, 0, 1, 0, 0, 1, 0, 1, 0, 1, 0, 1, 0, 1, 1, 0, 1, 1, 1, 1, 0] c7
noncomputable def r7_15 : Code := Code.sub [1, 1, 1, 0, 1, 0, 0, 1, 0, 0, 1, 0, 1, 0, 1, 0, 1, 0, 1, 1, 0, 1, 1, 1, 1, 1, 1, 0] c7
noncomputable def r7_16 : Code := Code.sub [1, 1, 1, 0, 1, 0, 0, 1, 0, 0, 1, 0, 1, 0, 1, 0, 1, 0, 1, 1, 0, 1, 1, 1, 1, 1, 1, 1, 1] c7
noncomputable def r7_17 : Code := Code.sub [1, 1, 1, 0, 1, 0, 0, 1, 0, 0, 1, 0, 1, 0, 1, 0, 1, 0, 1, 1, 1, 0] c7
noncomputable def r7_18 : Code := Code.sub [1, 1, 1, 0, 1, 0, 0, 1, 0, 0, 1, 0, 1, 0, 1, 1, 0] c7
noncomputable def r7_19 : Code := Code.sub [1, 1, 1, 0, 1, 0, 0, 1, 0, 0, 1, 0, 1, 0, 1, 1, 1, 0, 0] c7
noncomputable def r7_20 : Code := Code.sub [1, 1, 1, 0, 1, 0, 0, 1, 0, 0, 1, 0, 1, 0, 1, 1, 1, 0, 1, 0, 0, 0, 0] c7
noncomputable def r7_21 : Code := Code.sub [1, 1, 1, 0, 1, 0, 0, 1, 0, 0, 1, 0, 1, 0, 1, 1, 1, 0, 1, 0, 0, 1, 0, 0, 0] c7
noncomputable def r7_22 : Code := Code.sub [1, 1, 1, 0, 1, 0, 0, 1, 0, 0, 1, 0, 1, 0, 1, 1, 1, 0, 1, 0, 0, 1, 0, 0, 1, 0, 0] c7
noncomputable def r7_23 : Code := Code.sub [1, 1, 1, 0, 1, 0, 0, 1, 0, 0, 1, 0, 1, 0, 1, 1, 1, 0, 1, 0, 0, 1, 0, 0, 1, 0, 1, 0] c7
noncomputable def r7_24 : Code := Code.sub [1, 1, 1, 0, 1, 0, 0, 1, 0, 0, 1, 0, 1, 0, 1, 1, 1, 0, 1, 0, 0, 1, 0, 0, 1, 0, 1, 1, 0] c7
noncomputable def r7_25 : Code := Code.sub [1, 1, 1, 0, 1, 0, 0, 1, 0, 0, 1, 0, 1, 0, 1, 1, 1, 0, 1, 0, 0, 1, 0, 0, 1, 0, 1, 1, 1, 0] c7
noncomputable def r7_26 : Code := Code.sub [1, 1, 1, 0, 1, 0, 0, 1, 0, 0, 1, 0, 1, 0, 1, 1, 1, 0, 1, 0, 0, 1, 0, 0, 1, 0, 1, 1, 1, 1, 0] c7
noncomputable def r7_27 : Code := Code.sub [1, 1, 1, 0, 1, 0, 0, 1, 0, 0, 1, 0, 1, 0, 1, 1, 1, 0, 1, 0, 0, 1, 0, 0, 1, 0, 1, 1, 1, 1, 1, 0] c7
noncomputable def r7_28 : Code := Code.sub [1, 1, 1, 0, 1, 0, 0, 1, 0, 0, 1, 0, 1, 0, 1, 1, 1, 0, 1, 0, 0, 1, 0, 0, 1, 0, 1, 1, 1, 1, 1, 1] c7
noncomputable def r7_29 : Code := Code.sub [1, 1, 1, 0, 1, 0, 0, 1, 0, 0, 1, 0, 1, 0, 1, 1, 1, 0, 1, 0, 0, 1, 1] c7
noncomputable def r7_30 : Code := Code.sub [1, 1, 1, 0, 1, 0, 0, 1, 0, 0, 1, 0, 1, 0, 1, 1, 1, 1, 0] c7
noncomputable def r7_31 : Code := Code.sub [1, 1, 1, 0, 1, 0, 0, 1, 0, 0, 1, 0, 1, 0, 1, 1, 1, 1, 1, 0] c7
noncomputable def r7_32 : Code := Code.sub [1, 1, 1, 0, 1, 0, 0, 1, 0, 0, 1, 1] c7
noncomputable def r7_33 : Code := Code.sub [1, 1, 1, 0, 1, 0, 0, 1, 1] c7
noncomputable def r7_34 : Code := Code.sub [1, 1, 1, 1, 0] c7
theorem body7 : c7 = (.seq r7_0 (.seq r7_1 (.seq r7_2 (.seq (.seq r7_3 (.block 0 (.loop (.seq (.seq r7_4 (.cond (.tmp 19) .skip (.exit 0))) (.seq (.block 1 (.seq r7_5 (.seq (.seq r7_6 (.cond (.tmp 27) (.seq r7_7 (.seq (.seq r7_8 (.block 2 (.seq (.seq r7_9 (.cond (.tmp 49) .skip r7_10)) (.cond (.tmp 49) r7_11 (.seq (.seq r7_12 (.cond (.tmp 59) .skip (.seq r7_13 (.cond (.tmp 59) .skip (.seq r7_14 (.cond (.tmp 59) .skip (.seq r7_15 (.cond (.tmp 59) .skip r7_16)))))))) (.cond (.tmp 59) r7_17 .skip)))))) (.seq r7_18 (.seq (.seq r7_19 (.block 3 (.loop (.seq (.seq r7_20 (.cond (.tmp 77) .skip (.exit 3))) (.seq (.block 4 (.seq r7_21 (.block 5 (.seq r7_22 (.cond (.tmp 82) r7_23 (.seq r7_24 (.cond (.tmp 85) r7_25 (.seq r7_26 (.cond (.tmp 88) r7_27 r7_28))))))))) r7_29))))) (.seq r7_30 (.cond (.tmp 93) r7_31 .skip)))))) .skip)) r7_32))) r7_33))))) (.seq r7_34 .ret))))) := by kernel_rfl
noncomputable def L7_0 : Lt r7_0 := by refine ⟨?l, ?h⟩; case h => simp only [r7_0, c7, bodyOf, Tryd.f7, Code.sub, opsOf, List.map_cons, List.map_nil, strip]; rfl
theorem w7_0 : Wp r7_0 81 [82, 85, 88, 93] [6] [] [] [some 6] (L7_0).1 := w_plain (by kernel_rfl) (L7_0).2
noncomputable def L7_1 : Lt r7_1 := by refine ⟨?l, ?h⟩; case h => simp only [r7_1, c7, bodyOf, Tryd.f7, Code.sub, opsOf, List.map_cons, List.map_nil, strip]; rfl
theorem w7_1 : Wp r7_1 81 [82, 85, 88, 93] [7] [] [] [some 7] (L7_1).1 := w_plain (by kernel_rfl) (L7_1).2
noncomputable def L7_2 : Lt r7_2 := by refine ⟨?l, ?h⟩; case h => simp only [r7_2, c7, bodyOf, Tryd.f7, Code.sub, opsOf, List.map_cons, List.map_nil, strip]; rfl
theorem w7_2 : Wp r7_2 81 [82, 85, 88, 93] [13, 14, 15, 16, 8] [] [0, 1] [some 13, some 14, some 15, some 16, some 8] (L7_2).1 := w_plain (by kernel_rfl) (L7_2).2
noncomputable def L7_3 : Lt r7_3 := by refine ⟨?l, ?h⟩; case h => simp only [r7_3, c7, bodyOf, Tryd.f7, Code.sub, opsOf, List.map_cons, List.map_nil, strip]; rfl
theorem w7_3 : Wp r7_3 81 [82, 85, 88, 93] [9] [] [] [some 9] (L7_3).1 := w_plain (by kernel_rfl) (L7_3).2
noncomputable def L7_4 : Lt r7_4 := by refine ⟨?l, ?h⟩; case h => simp only [r7_4, c7, bodyOf, Tryd.f7, Code.sub, opsOf, List.map_cons, List.map_nil, strip]; rfl
theorem w7_4 : Wp r7_4 81 [82, 85, 88, 93] [17, 18, 19] [] [9, 8] [some 17, some 18, some 19] (L7_4).1 := w_plain (by kernel_rfl) (L7_4).2
noncomputable def L7_5 : Lt r7_5 := by refine ⟨?l, ?h⟩; case h => simp only [r7_5, c7, bodyOf, Tryd.f7, Code.sub, opsOf, List.map_cons, List.map_nil, strip]; rfl
theorem w7_5 : Wp r7_5 81 [82, 85, 88, 93] [22, 23, 24, 25, 10] [] [0, 9] [some 22, some 23, some 24, some 25, some 10, none] (L7_5).1 := w_plain (by kernel_rfl) (L7_5).2
noncomputable def L7_6 : Lt r7_6 := by refine ⟨?l, ?h⟩; case h => simp only [r7_6, c7, bodyOf, Tryd.f7, Code.sub, opsOf, List.map_cons, List.map_nil, strip]; rfl
theorem w7_6 : Wp r7_6 81 [82, 85, 88, 93] [26, 27] [] [2] [some 26, some 27] (L7_6).1 := w_plain (by kernel_rfl) (L7_6).2
theorem can7_7 : canonOps (opsOf r7_7) = opsOf r7_7 := by kernel_rfl
noncomputable def L7_7 : Lc r7_7 := by refine ⟨?l, (congrArg (List.map strip) can7_7).trans ?h⟩; case h => simp only [r7_7, c7, bodyOf, Tryd.f7, Code.sub, opsOf, List.map_cons, List.map_nil, strip]; rfl
theorem w7_7 : Wd r7_7 81 [82, 85, 88, 93] [28, 29, 30, 31, 32, 33, 34, 35, 36, 37, 38, 39, 40, 41, 42, 43, 44, 45, 46] [] [10] [some 28, some 29, some 30, some 31, some 32, some 33, some 34, some 35, some 36, some 37, some 38, some 39, some 40, some 41, some 42, some 43, some 44, some 45, some 46, none] (L7_7).1 [(1, [2]), (5, [2, 6]), (8, [2, 6, 9]), (11, [2, 6, 9, 12]), (14, [2, 6, 9, 12, 16])] := w_loud (by kernel_rfl) (L7_7).2
noncomputable def L7_8 : Lt r7_8 := by refine ⟨?l, ?h⟩; case h => simp only [r7_8, c7, bodyOf, Tryd.f7, Code.sub, opsOf, List.map_cons, List.map_nil, strip]; rfl
theorem w7_8 : Wp r7_8 81 [82, 85, 88, 93] [47, 48] [] [10] [some 47, some 48] (L7_8).1 := w_plain (by kernel_rfl) (L7_8).2
noncomputable def L7_9 : Lt r7_9 := by refine ⟨?l, ?h⟩; case h => simp only [r7_9, c7, bodyOf, Tryd.f7, Code.sub, opsOf, List.map_cons, List.map_nil, strip]; rfl
theorem w7_9 : Wp r7_9 81 [82, 85, 88, 93] [50, 49] [] [48] [some 50, some 49] (L7_9).1 := w_plain (by kernel_rfl) (L7_9).2
noncomputable def L7_10 : Lt r7_10 := by refine ⟨?l, ?h⟩; case h => simp only [r7_10, c7, bodyOf, Tryd.f7, Code.sub, opsOf, List.map_cons, List.map_nil, strip]; rfl
theorem w7_10 : Wp r7_10 81 [82, 85, 88, 93] [51, 49] [] [48] [some 51, some 49] (L7_10).1 := w_plain (by kernel_rfl) (L7_10).2
noncomputable def L7_11 : Lt r7_11 := by refine ⟨?l, ?h⟩; case h => simp only [r7_11, c7, bodyOf, Tryd.f7, Code.sub, opsOf, List.map_cons, List.map_nil, strip]; rfl
theorem w7_11 : Wp r7_11 81 [82, 85, 88, 93] [52, 53, 54, 55, 56, 57, 58] [] [8, 10] [some 52, some 53, some 54, some 55, some 56, some 57, some 58, none] (L7_11).1 := w_plain (by kernel_rfl) (L7_11).2
noncomputable def L7_12 : Lt r7_12 := by refine ⟨?l, ?h⟩; case h => simp only [r7_12, c7, bodyOf, Tryd.f7, Code.sub, opsOf, List.map_cons, List.map_nil, strip]; rfl
theorem w7_12 : Wp r7_12 81 [82, 85, 88, 93] [60, 59] [] [48] [some 60, some 59] (L7_12).1 := w_plain (by kernel_rfl) (L7_12).2
noncomputable def L7_13 : Lt r7_13 := by refine ⟨?l, ?h⟩; case h => simp only [r7_13, c7, bodyOf, Tryd.f7, Code.sub, opsOf, List.map_cons, List.map_nil, strip]; rfl
theorem w7_13 : Wp r7_13 81 [82, 85, 88, 93] [61, 59] [] [48] [some 61, some 59] (L7_13).1 := w_plain (by kernel_rfl) (L7_13).2
noncomputable def L7_14 : Lt r7_14 := by refine ⟨?l, ?h⟩; case h => simp only [r7_14, c7, bodyOf, Tryd.f7, Code.sub, opsOf, List.map_cons, List.map_nil, strip]; rfl
theorem w7_14 : Wp r7_14 81 [82, 85, 88, 93] [62, 59] [] [48] [some 62, some 59] (L7_14).1 := w_plain (by kernel_rfl) (L7_14).2
noncomputable def L7_15 : Lt r7_15 := by refine ⟨?l, ?h⟩; case h => simp only [r7_15, c7, bodyOf, Tryd.f7, Code.sub, opsOf, List.map_cons, List.map_nil, strip]; rfl
theorem w7_15 : Wp r7_15 81 [82, 85, 88, 93] [63, 59] [] [48] [some 63, some 59] (L7_15).1 := w_plain (by kernel_rfl) (L7_15).2
noncomputable def L7_16 : Lt r7_16 := by refine ⟨?l, ?h⟩; case h => simp only [r7_16, c7, bodyOf, Tryd.f7, Code.sub, opsOf, List.map_cons, List.map_nil, strip]; rfl
theorem w7_16 : Wp r7_16 81 [82, 85, 88, 93] [64, 59] [] [48] [some 64, some 59] (L7_16).1 := w_plain (by kernel_rfl) (L7_16).2
noncomputable def L7_17 : Lt r7_17 := by refine ⟨?l, ?h⟩; case h => simp only [r7_17, c7, bodyOf, Tryd.f7, Code.sub, opsOf, List.map_cons, List.map_nil, strip]; rfl
theorem w7_17 : Wp r7_17 81 [82, 85, 88, 93] [65, 66, 67, 68] [] [10] [some 65, some 66, some 67, some 68, none] (L7_17).1 := w_plain (by kernel_rfl) (L7_17).2
noncomputable def L7_18 : Lt r7_18 := by refine ⟨?l, ?h⟩; case h => simp only [r7_18, c7, bodyOf, Tryd.f7, Code.sub, opsOf, List.map_cons, List.map_nil, strip]; rfl
theorem w7_18 : Wp r7_18 81 [82, 85, 88, 93] [69, 11] [] [10] [some 69, some 11, none] (L7_18).1 := w_plain (by kernel_rfl) (L7_18).2
noncomputable def L7_19 : Lt r7_19 := by refine ⟨?l, ?h⟩; case h => simp only [r7_19, c7, bodyOf, Tryd.f7, Code.sub, opsOf, List.map_cons, List.map_nil, strip]; rfl
theorem w7_19 : Wp r7_19 81 [82, 85, 88, 93] [12] [] [] [some 12] (L7_19).1 := w_plain (by kernel_rfl) (L7_19).2
noncomputable def L7_20 : Lt r7_20 := by refine ⟨?l, ?h⟩; case h => simp only [r7_20, c7, bodyOf, Tryd.f7, Code.sub, opsOf, List.map_cons, List.map_nil, strip]; rfl
theorem w7_20 : Wp r7_20 81 [82, 85, 88, 93] [70, 71, 72, 73, 74, 75, 76, 77] [] [12, 11, 8] [some 70, some 71, some 72, some 73, some 74, some 75, some 76, some 77] (L7_20).1 := w_plain (by kernel_rfl) (L7_20).2
noncomputable def L7_21 : Lt r7_21 := by refine ⟨?l, ?h⟩; case h => simp only [r7_21, c7, bodyOf, Tryd.f7, Code.sub, opsOf, List.map_cons, List.map_nil, strip]; rfl
theorem w7_21 : Wp r7_21 81 [82, 85, 88, 93] [80] [] [12] [some 80] (L7_21).1 := w_plain (by kernel_rfl) (L7_21).2
noncomputable def L7_22 : Lt r7_22 := by refine ⟨?l, ?h⟩; case h => simp only [r7_22, c7, bodyOf, Tryd.f7, Code.sub, opsOf, List.map_cons, List.map_nil, strip]; rfl
theorem w7_22 : Wp r7_22 81 [82, 85, 88, 93] [] [82] [80] [some 83, some 82] (L7_22).1 := w_plain (by kernel_rfl) (L7_22).2
noncomputable def L7_23 : Lt r7_23 := by refine ⟨?l, ?h⟩; case h => simp only [r7_23, c7, bodyOf, Tryd.f7, Code.sub, opsOf, List.map_cons, List.map_nil, strip]; rfl
theorem w7_23 : Wp r7_23 81 [82, 85, 88, 93] [] [] [11] [some 84, none] (L7_23).1 := w_plain (by kernel_rfl) (L7_23).2
noncomputable def L7_24 : Lt r7_24 := by refine ⟨?l, ?h⟩; case h => simp only [r7_24, c7, bodyOf, Tryd.f7, Code.sub, opsOf, List.map_cons, List.map_nil, strip]; rfl
theorem w7_24 : Wp r7_24 81 [82, 85, 88, 93] [] [85] [80] [some 86, some 85] (L7_24).1 := w_plain (by kernel_rfl) (L7_24).2
noncomputable def L7_25 : Lt r7_25 := by refine ⟨?l, ?h⟩; case h => simp only [r7_25, c7, bodyOf, Tryd.f7, Code.sub, opsOf, List.map_cons, List.map_nil, strip]; rfl
theorem w7_25 : Wp r7_25 81 [82, 85, 88, 93] [] [] [11] [some 87, none] (L7_25).1 := w_plain (by kernel_rfl) (L7_25).2
noncomputable def L7_26 : Lt r7_26 := by refine ⟨?l, ?h⟩; case h => simp only [r7_26, c7, bodyOf, Tryd.f7, Code.sub, opsOf, List.map_cons, List.map_nil, strip]; rfl
theorem w7_26 : Wp r7_26 81 [82, 85, 88, 93] [] [88] [80] [some 89, some 88] (L7_26).1 := w_plain (by kernel_rfl) (L7_26).2
noncomputable def L7_27 : Lt r7_27 := by refine ⟨?l, ?h⟩; case h => simp only [r7_27, c7, bodyOf, Tryd.f7, Code.sub, opsOf, List.map_cons, List.map_nil, strip]; rfl
theorem w7_27 : Wp r7_27 81 [82, 85, 88, 93] [] [] [11] [some 90, none] (L7_27).1 := w_plain (by kernel_rfl) (L7_27).2
noncomputable def L7_28 : Lt r7_28 := by refine ⟨?l, ?h⟩; case h => simp only [r7_28, c7, bodyOf, Tryd.f7, Code.sub, opsOf, List.map_cons, List.map_nil, strip]; rfl
theorem w7_28 : Wp r7_28 81 [82, 85, 88, 93] [] [] [11] [some 81, none] (L7_28).1 := w_plain (by kernel_rfl) (L7_28).2
noncomputable def L7_29 : Lt r7_29 := by refine ⟨?l, ?h⟩; case h => simp only [r7_29, c7, bodyOf, Tryd.f7, Code.sub, opsOf, List.map_cons, List.map_nil, strip]; rfl
theorem w7_29 : Wp r7_29 81 [82, 85, 88, 93] [78, 79, 12] [] [12] [some 78, some 79, some 12] (L7_29).1 := w_plain (by kernel_rfl) (L7_29).2
noncomputable def L7_30 : Lt r7_30 := by refine ⟨?l, ?h⟩; case h => simp only [r7_30, c7, bodyOf, Tryd.f7, Code.sub, opsOf, List.map_cons, List.map_nil, strip]; rfl
theorem w7_30 : Wp r7_30 81 [82, 85, 88, 93] [] [93] [9] [some 91, some 92, some 93] (L7_30).1 := w_plain (by kernel_rfl) (L7_30).2
noncomputable def L7_31 : Lt r7_31 := by refine ⟨?l, ?h⟩; case h => simp only [r7_31, c7, bodyOf, Tryd.f7, Code.sub, opsOf, List.map_cons, List.map_nil, strip]; rfl
theorem w7_31 : Wp r7_31 81 [82, 85, 88, 93] [] [] [11, 10] [some 94, none] (L7_31).1 := w_plain (by kernel_rfl) (L7_31).2
noncomputable def L7_32 : Lt r7_32 := by refine ⟨?l, ?h⟩; case h => simp only [r7_32, c7, bodyOf, Tryd.f7, Code.sub, opsOf, List.map_cons, List.map_nil, strip]; rfl
theorem w7_32 : Wp r7_32 81 [82, 85, 88, 93] [7] [] [7, 10] [some 95, some 96, some 97, some 98, some 7] (L7_32).1 := w_plain (by kernel_rfl) (L7_32).2
noncomputable def L7_33 : Lt r7_33 := by refine ⟨?l, ?h⟩; case h => simp only [r7_33, c7, bodyOf, Tryd.f7, Code.sub, opsOf, List.map_cons, List.map_nil, strip]; rfl
theorem w7_33 : Wp r7_33 81 [82, 85, 88, 93] [20, 21, 9] [] [9] [some 20, some 21, some 9] (L7_33).1 := w_plain (by kernel_rfl) (L7_33).2
noncomputable def L7_34 : Lt r7_34 := by refine ⟨?l, ?h⟩; case h => simp only [r7_34, c7, bodyOf, Tryd.f7, Code.sub, opsOf, List.map_cons, List.map_nil, strip]; rfl
theorem w7_34 : Wp r7_34 81 [82, 85, 88, 93] [6] [] [7] [some 99, some 6] (L7_34).1 := w_plain (by kernel_rfl) (L7_34).2
theorem k7 : FnIs TT 7 c7 [.tmp 6] 3 := ⟨Tryd.f7, by kernel_rfl, by simp only [Tryd.f7, c7, bodyOf], by kernel_rfl, of_decide_eq_true (by kernel_rfl)⟩

/- turnstonehand.Pick -/
noncomputable def c11 : Code := bodyOf Tryd.f11
noncomputable def r11_0 : Code := Code.sub [0] c11
noncomputable def r11_1 : Code := Code.sub [1, 0] c11
noncomputable def r11_2 : Code := Code.sub [1, 1, 0, 0] c11
noncomputable def r11_3 : Code := Code.sub [1, 1, 0, 1, 0] c11
noncomputable def r11_4 : Code := Code.sub [1, 1, 1, 0] c11
theorem body11 : c11 = (.seq r11_0 (.seq r11_1 (.seq (.seq r11_2 (.cond (.tmp 9) r11_3 .skip)) (.seq r11_4 .ret)))) := by kernel_rfl
noncomputable def L11_0 : Lt r11_0 := by refine ⟨?l, ?h⟩; case h => simp only [r11_0, c11, bodyOf, Tryd.f11, Code.sub, opsOf, List.map_cons, List.map_nil, strip]; rfl
theorem w11_0 : Wp r11_0 5 [9] [4] [] [] [some 4] (L11_0).1 := w_plain (by kernel_rfl) (L11_0).2
noncomputable def L11_1 : Lt r11_1 := by refine ⟨?l, ?h⟩; case h => simp only [r11_1, c11, bodyOf, Tryd.f11, Code.sub, opsOf, List.map_cons, List.map_nil, strip]; rfl
theorem w11_1 : Wp r11_1 5 [9] [0] [] [0, 1] [some 5, some 6, some 7, some 0] (L11_1).1 := w_plain (by kernel_rfl) (L11_1).2
noncomputable def L11_2 : Lt r11_2 := by refine ⟨?l, ?h⟩; case h => simp only [r11_2, c11, bodyOf, Tryd.f11, Code.sub, opsOf, List.map_cons, List.map_nil, strip]; rfl
theorem w11_2 : Wp r11_2 5 [9] [] [9] [0] [some 8, some 9] (L11_2).1 := w_plain (by kernel_rfl) (L11_2).2
noncomputable def L11_3 : Lt r11_3 := by refine ⟨?l, ?h⟩; case h => simp only [r11_3, c11, bodyOf, Tryd.f11, Code.sub, opsOf, List.map_cons, List.map_nil, strip]; rfl
theorem w11_3 : Wp r11_3 5 [9] [0] [] [0, 1] [some 10, some 11, some 12, some 0] (L11_3).1 := w_plain (by kernel_rfl) (L11_3).2
noncomputable def L11_4 : Lt r11_4 := by refine ⟨?l, ?h⟩; case h => simp only [r11_4, c11, bodyOf, Tryd.f11, Code.sub, opsOf, List.map_cons, List.map_nil, strip]; rfl
theorem w11_4 : Wp r11_4 5 [9] [4] [] [0] [some 13, some 4] (L11_4).1 := w_plain (by kernel_rfl) (L11_4).2
theorem k11 : FnIs TT 11 c11 [.tmp 4] 2 := ⟨Tryd.f11, by kernel_rfl, by simp only [Tryd.f11, c11, bodyOf], by kernel_rfl, of_decide_eq_true (by kernel_rfl)⟩

/- machine.Encode -/
noncomputable def c17 : Code := bodyOf Tryd.f17
noncomputable def r17_0 : Code := Code.sub [0] c17
noncomputable def r17_1 : Code := Code.sub [1, 0, 0] c17
noncomputable def r17_2 : Code := Code.sub [1, 0, 1, 0, 0] c17
noncomputable def r17_3 : Code := Code.sub [1, 1, 0] c17
noncomputable def r17_4 : Code := Code.sub [1, 1, 1, 0, 0] c17
noncomputable def r17_5 : Code := Code.sub [1, 1, 1, 0, 1, 0, 0, 0] c17
noncomputable def r17_6 : Code := Code.sub [1, 1, 1, 0, 1, 0, 0, 1, 1, 0, 0, 0] c17
noncomputable def r17_7 : Code := Code.sub [1, 1, 1, 0, 1, 0, 0, 1, 1, 0, 0, 1, 0] c17
noncomputable def r17_8 : Code := Code.sub [1, 1, 1, 0, 1, 0, 0, 1, 1, 0, 0, 1, 1, 0] c17
noncomputable def r17_9 : Code := Code.sub [1, 1, 1, 0, 1, 0, 0, 1, 1, 0, 0, 1, 1, 1, 0, 0, 0, 0] c17
noncomputable def r17_10 : Code := Code.sub [1, 1, 1, 0, 1, 0, 0, 1, 1, 0, 0, 1, 1, 1, 0, 0, 1, 0, 0] c17
noncomputable def r17_11 : Code := Code.sub [1, 1, 1, 0, 1, 0, 0, 1, 1, 0, 0, 1, 1, 1, 0, 0, 1, 1] c17
noncomputable def r17_12 : Code := Code.sub [1, 1, 1, 0, 1, 0, 0, 1, 1, 1] c17
noncomputable def r17_13 : Code := Code.sub [1, 1, 1, 1, 0] c17
theorem body17 : c17 = (.seq r17_0 (.seq (.seq r17_1 (.cond (.tmp 10) (.seq r17_2 .ret) .skip)) (.seq r17_3 (.seq (.seq r17_4 (.block 0 (.loop (.seq r17_5 (.seq (.cond (.tmp 14) .skip (.exit 0)) (.seq (.block 1 (.seq r17_6 (.seq r17_7 (.seq r17_8 (.block 2 (.loop (.seq (.seq r17_9 (.cond (.tmp 34) .skip (.exit 2))) (.seq (.block 3 r17_10) r17_11)))))))) r17_12)))))) (.seq r17_13 .ret))))) := by kernel_rfl
noncomputable def L17_0 : Lt r17_0 := by refine ⟨?l, ?h⟩; case h => simp only [r17_0, c17, bodyOf, Tryd.f17, Code.sub, opsOf, List.map_cons, List.map_nil, strip]; rfl
theorem w17_0 : Wp r17_0 14 [14, 34] [2, 3] [] [] [some 2, some 3] (L17_0).1 := w_plain (by kernel_rfl) (L17_0).2
noncomputable def L17_1 : Lt r17_1 := by refine ⟨?l, ?h⟩; case h => simp only [r17_1, c17, bodyOf, Tryd.f17, Code.sub, opsOf, List.map_cons, List.map_nil, strip]; rfl
theorem w17_1 : Wp r17_1 14 [14, 34] [8, 9, 10] [] [0] [some 8, some 9, some 10] (L17_1).1 := w_plain (by kernel_rfl) (L17_1).2
noncomputable def L17_2 : Lt r17_2 := by refine ⟨?l, ?h⟩; case h => simp only [r17_2, c17, bodyOf, Tryd.f17, Code.sub, opsOf, List.map_cons, List.map_nil, strip]; rfl
theorem w17_2 : Wp r17_2 14 [14, 34] [2, 3] [] [] [some 2, some 3] (L17_2).1 := w_plain (by kernel_rfl) (L17_2).2
noncomputable def L17_3 : Lt r17_3 := by refine ⟨?l, ?h⟩; case h => simp only [r17_3, c17, bodyOf, Tryd.f17, Code.sub, opsOf, List.map_cons, List.map_nil, strip]; rfl
theorem w17_3 : Wp r17_3 14 [14, 34] [4] [] [] [some 4] (L17_3).1 := w_plain (by kernel_rfl) (L17_3).2
noncomputable def L17_4 : Lt r17_4 := by refine ⟨?l, ?h⟩; case h => simp only [r17_4, c17, bodyOf, Tryd.f17, Code.sub, opsOf, List.map_cons, List.map_nil, strip]; rfl
theorem w17_4 : Wp r17_4 14 [14, 34] [11, 12, 13] [] [0] [some 11, some 12, some 13] (L17_4).1 := w_plain (by kernel_rfl) (L17_4).2
noncomputable def L17_5 : Lt r17_5 := by refine ⟨?l, ?h⟩; case h => simp only [r17_5, c17, bodyOf, Tryd.f17, Code.sub, opsOf, List.map_cons, List.map_nil, strip]; rfl
theorem w17_5 : Wp r17_5 14 [14, 34] [] [14] [13, 12] [some 14] (L17_5).1 := w_plain (by kernel_rfl) (L17_5).2
noncomputable def L17_6 : Lt r17_6 := by refine ⟨?l, ?h⟩; case h => simp only [r17_6, c17, bodyOf, Tryd.f17, Code.sub, opsOf, List.map_cons, List.map_nil, strip]; rfl
theorem w17_6 : Wp r17_6 14 [14, 34] [6] [] [11, 13] [some 15, some 16, some 6, none] (L17_6).1 := w_plain (by kernel_rfl) (L17_6).2
noncomputable def L17_7 : Lt r17_7 := by refine ⟨?l, ?h⟩; case h => simp only [r17_7, c17, bodyOf, Tryd.f17, Code.sub, opsOf, List.map_cons, List.map_nil, strip]; rfl
theorem w17_7 : Wp r17_7 14 [14, 34] [4] [] [4, 6] [some 17, some 18, some 19, some 20, some 21, some 22, some 23, some 24, some 25, some 26, some 27, some 28, some 29, some 30, some 31, some 32, some 4] (L17_7).1 := w_plain (by kernel_rfl) (L17_7).2
noncomputable def L17_8 : Lt r17_8 := by refine ⟨?l, ?h⟩; case h => simp only [r17_8, c17, bodyOf, Tryd.f17, Code.sub, opsOf, List.map_cons, List.map_nil, strip]; rfl
theorem w17_8 : Wp r17_8 14 [14, 34] [7] [] [] [some 7] (L17_8).1 := w_plain (by kernel_rfl) (L17_8).2
noncomputable def L17_9 : Lt r17_9 := by refine ⟨?l, ?h⟩; case h => simp only [r17_9, c17, bodyOf, Tryd.f17, Code.sub, opsOf, List.map_cons, List.map_nil, strip]; rfl
theorem w17_9 : Wp r17_9 14 [14, 34] [] [34] [7] [some 33, some 34] (L17_9).1 := w_plain (by kernel_rfl) (L17_9).2
noncomputable def L17_10 : Lt r17_10 := by refine ⟨?l, ?h⟩; case h => simp only [r17_10, c17, bodyOf, Tryd.f17, Code.sub, opsOf, List.map_cons, List.map_nil, strip]; rfl
theorem w17_10 : Wp r17_10 14 [14, 34] [4] [] [4, 6, 7] [some 37, some 38, some 39, some 40, some 41, some 42, some 43, some 44, some 45, some 46, some 4] (L17_10).1 := w_plain (by kernel_rfl) (L17_10).2
noncomputable def L17_11 : Lt r17_11 := by refine ⟨?l, ?h⟩; case h => simp only [r17_11, c17, bodyOf, Tryd.f17, Code.sub, opsOf, List.map_cons, List.map_nil, strip]; rfl
theorem w17_11 : Wp r17_11 14 [14, 34] [7] [] [7] [some 35, some 36, some 7] (L17_11).1 := w_plain (by kernel_rfl) (L17_11).2
noncomputable def L17_12 : Lt r17_12 := by refine ⟨?l, ?h⟩; case h => simp only [r17_12, c17, bodyOf, Tryd.f17, Code.sub, opsOf, List.map_cons, List.map_nil, strip]; rfl
theorem w17_12 : Wp r17_12 14 [14, 34] [13] [] [13] [some 47, some 13] (L17_12).1 := w_plain (by kernel_rfl) (L17_12).2
noncomputable def L17_13 : Lt r17_13 := by refine ⟨?l, ?h⟩; case h => simp only [r17_13, c17, bodyOf, Tryd.f17, Code.sub, opsOf, List.map_cons, List.map_nil, strip]; rfl
theorem w17_13 : Wp r17_13 14 [14, 34] [2, 3] [] [4] [some 48, some 2, some 3] (L17_13).1 := w_plain (by kernel_rfl) (L17_13).2
theorem k17 : FnIs TT 17 c17 [.tmp 2, .tmp 3] 1 := ⟨Tryd.f17, by kernel_rfl, by simp only [Tryd.f17, c17, bodyOf], by kernel_rfl, of_decide_eq_true (by kernel_rfl)⟩

/- machine.Decode -/
noncomputable def c18 : Code := bodyOf Tryd.f18
noncomputable def r18_0 : Code := Code.sub [0] c18
noncomputable def r18_1 : Code := Code.sub [1, 0, 0] c18
noncomputable def r18_2 : Code := Code.sub [1, 0, 1, 0, 0] c18
noncomputable def r18_3 : Code := Code.sub [1, 1, 0] c18
noncomputable def r18_4 : Code := Code.sub [1, 1, 1, 0, 0, 0, 0, 0] c18
noncomputable def r18_5 : Code := Code.sub [1, 1, 1, 0, 0, 0, 1, 0, 0, 0] c18
noncomputable def r18_6 : Code := Code.sub [1, 1, 1, 0, 0, 0, 1, 0, 0, 1, 0, 0] c18
noncomputable def r18_7 : Code := Code.sub [1, 1, 1, 0, 0, 0, 1, 0, 0, 1, 0, 1, 0, 0] c18
noncomputable def r18_8 : Code := Code.sub [1, 1, 1, 0, 0, 0, 1, 0, 0, 1, 1, 0] c18
noncomputable def r18_9 : Code := Code.sub [1, 1, 1, 0, 0, 0, 1, 0, 0, 1, 1, 1, 0, 0] c18
noncomputable def r18_10 : Code := Code.sub [1, 1, 1, 0, 0, 0, 1, 0, 0, 1, 1, 1, 0, 1, 0, 0, 0, 0] c18
noncomputable def r18_11 : Code := Code.sub [1, 1, 1, 0, 0, 0, 1, 0, 0, 1, 1, 1, 0, 1, 0, 0, 1, 0, 0] c18
noncomputable def r18_12 : Code := Code.sub [1, 1, 1, 0, 0, 0, 1, 0, 0, 1, 1, 1, 0, 1, 0, 0, 1, 1] c18
noncomputable def r18_13 : Code := Code.sub [1, 1, 1, 0, 0, 0, 1, 0, 0, 1, 1, 1, 1, 0] c18
noncomputable def r18_14 : Code := Code.sub [1, 1, 1, 0, 0, 0, 1, 0, 0, 1, 1, 1, 1, 1] c18
noncomputable def r18_15 : Code := Code.sub [1, 1, 1, 0, 0, 0, 1, 1] c18
noncomputable def r18_16 : Code := Code.sub [1, 1, 1, 1, 0, 0] c18
noncomputable def r18_17 : Code := Code.sub [1, 1, 1, 1, 0, 1, 0, 0] c18
noncomputable def r18_18 : Code := Code.sub [1, 1, 1, 1, 1, 0] c18
theorem body18 : c18 = (.seq r18_0 (.seq (.seq r18_1 (.cond (.tmp 11) (.seq r18_2 .ret) .skip)) (.seq r18_3 (.seq (.block 0 (.loop (.seq (.seq r18_4 (.cond (.tmp 14) .skip (.exit 0))) (.seq (.block 1 (.seq r18_5 (.seq (.seq r18_6 (.cond (.tmp 39) (.seq r18_7 .ret) .skip)) (.seq r18_8 (.seq (.seq r18_9 (.block 2 (.loop (.seq (.seq r18_10 (.cond (.tmp 41) .skip (.exit 2))) (.seq (.block 3 r18_11) r18_12))))) (.seq r18_13 r18_14)))))) r18_15)))) (.seq (.seq r18_16 (.cond (.tmp 64) (.seq r18_17 .ret) .skip)) (.seq r18_18 .ret)))))) := by kernel_rfl
noncomputable def L18_0 : Lt r18_0 := by refine ⟨?l, ?h⟩; case h => simp only [r18_0, c18, bodyOf, Tryd.f18, Code.sub, opsOf, List.map_cons, List.map_nil, strip]; rfl
theorem w18_0 : Wp r18_0 8 [11, 14, 39, 41, 64] [2, 3] [] [] [some 2, some 3] (L18_0).1 := w_plain (by kernel_rfl) (L18_0).2
noncomputable def L18_1 : Lt r18_1 := by refine ⟨?l, ?h⟩; case h => simp only [r18_1, c18, bodyOf, Tryd.f18, Code.sub, opsOf, List.map_cons, List.map_nil, strip]; rfl
theorem w18_1 : Wp r18_1 8 [11, 14, 39, 41, 64] [] [11] [0] [some 8, some 9, some 10, some 11] (L18_1).1 := w_plain (by kernel_rfl) (L18_1).2
noncomputable def L18_2 : Lt r18_2 := by refine ⟨?l, ?h⟩; case h => simp only [r18_2, c18, bodyOf, Tryd.f18, Code.sub, opsOf, List.map_cons, List.map_nil, strip]; rfl
theorem w18_2 : Wp r18_2 8 [11, 14, 39, 41, 64] [2, 3] [] [] [some 2, some 3] (L18_2).1 := w_plain (by kernel_rfl) (L18_2).2
noncomputable def L18_3 : Lt r18_3 := by refine ⟨?l, ?h⟩; case h => simp only [r18_3, c18, bodyOf, Tryd.f18, Code.sub, opsOf, List.map_cons, List.map_nil, strip]; rfl
theorem w18_3 : Wp r18_3 8 [11, 14, 39, 41, 64] [4] [] [] [some 4] (L18_3).1 := w_plain (by kernel_rfl) (L18_3).2
noncomputable def L18_4 : Lt r18_4 := by refine ⟨?l, ?h⟩; case h => simp only [r18_4, c18, bodyOf, Tryd.f18, Code.sub, opsOf, List.map_cons, List.map_nil, strip]; rfl
theorem w18_4 : Wp r18_4 8 [11, 14, 39, 41, 64] [] [14] [0] [some 12, some 13, some 14] (L18_4).1 := w_plain (by kernel_rfl) (L18_4).2
theorem can18_5 : canonOps (opsOf r18_5) = List.filterMap (fun i => ((opsOf r18_5)[i]?).map (renum [0, 1, 2, 3, 4, 5, 6, 7, 8, 9, 10, 11, 12, 13, 14, 15, 16, 17, 18, 19, 20])) [0, 1, 2, 3, 4, 5, 6, 7, 8, 9, 10, 11, 12, 13, 14, 15, 16, 17, 18, 19, 20] := by kernel_rfl
noncomputable def L18_5 : Lc r18_5 := by refine ⟨?l, (congrArg (List.map strip) can18_5).trans ?h⟩; case h => simp only [r18_5, c18, bodyOf, Tryd.f18, Code.sub, opsOf, List.filterMap_cons, List.filterMap_nil, List.getElem?_cons_succ, List.getElem?_cons_zero, Option.map_some, renum, List.map_cons, List.map_nil, strip]; rfl
theorem w18_5 : Wd r18_5 8 [11, 14, 39, 41, 64] [5] [] [0] [some 17, some 18, some 19, some 20, some 21, some 22, some 23, some 24, some 25, some 26, some 27, some 28, some 29, some 30, some 31, some 32, some 33, some 34, some 35, some 5, none] (L18_5).1 [(2, [19, 20]), (3, [19, 20]), (6, [19, 20]), (8, [19, 20]), (11, [19, 20]), (13, [19, 20]), (16, [19, 20]), (17, [19, 20])] := w_loud (by kernel_rfl) (L18_5).2
noncomputable def L18_6 : Lt r18_6 := by refine ⟨?l, ?h⟩; case h => simp only [r18_6, c18, bodyOf, Tryd.f18, Code.sub, opsOf, List.map_cons, List.map_nil, strip]; rfl
theorem w18_6 : Wp r18_6 8 [11, 14, 39, 41, 64] [] [39] [5] [some 36, some 37, some 38, some 39] (L18_6).1 := w_plain (by kernel_rfl) (L18_6).2
noncomputable def L18_7 : Lt r18_7 := by refine ⟨?l, ?h⟩; case h => simp only [r18_7, c18, bodyOf, Tryd.f18, Code.sub, opsOf, List.map_cons, List.map_nil, strip]; rfl
theorem w18_7 : Wp r18_7 8 [11, 14, 39, 41, 64] [2, 3] [] [] [some 2, some 3] (L18_7).1 := w_plain (by kernel_rfl) (L18_7).2
noncomputable def L18_8 : Lt r18_8 := by refine ⟨?l, ?h⟩; case h => simp only [r18_8, c18, bodyOf, Tryd.f18, Code.sub, opsOf, List.map_cons, List.map_nil, strip]; rfl
theorem w18_8 : Wp r18_8 8 [11, 14, 39, 41, 64] [6] [] [] [some 6] (L18_8).1 := w_plain (by kernel_rfl) (L18_8).2
noncomputable def L18_9 : Lt r18_9 := by refine ⟨?l, ?h⟩; case h => simp only [r18_9, c18, bodyOf, Tryd.f18, Code.sub, opsOf, List.map_cons, List.map_nil, strip]; rfl
theorem w18_9 : Wp r18_9 8 [11, 14, 39, 41, 64] [7] [] [] [some 7] (L18_9).1 := w_plain (by kernel_rfl) (L18_9).2
noncomputable def L18_10 : Lt r18_10 := by refine ⟨?l, ?h⟩; case h => simp only [r18_10, c18, bodyOf, Tryd.f18, Code.sub, opsOf, List.map_cons, List.map_nil, strip]; rfl
theorem w18_10 : Wp r18_10 8 [11, 14, 39, 41, 64] [] [41] [7] [some 40, some 41] (L18_10).1 := w_plain (by kernel_rfl) (L18_10).2
noncomputable def L18_11 : Lt r18_11 := by refine ⟨?l, ?h⟩; case h => simp only [r18_11, c18, bodyOf, Tryd.f18, Code.sub, opsOf, List.map_cons, List.map_nil, strip]; rfl
theorem w18_11 : Wp r18_11 8 [11, 14, 39, 41, 64] [6] [] [6, 0, 7] [some 44, some 45, some 46, some 47, some 48, some 49, some 50, some 51, some 52, some 53, some 54, some 6] (L18_11).1 := w_plain (by kernel_rfl) (L18_11).2
noncomputable def L18_12 : Lt r18_12 := by refine ⟨?l, ?h⟩; case h => simp only [r18_12, c18, bodyOf, Tryd.f18, Code.sub, opsOf, List.map_cons, List.map_nil, strip]; rfl
theorem w18_12 : Wp r18_12 8 [11, 14, 39, 41, 64] [7] [] [7] [some 42, some 43, some 7] (L18_12).1 := w_plain (by kernel_rfl) (L18_12).2
noncomputable def L18_13 : Lt r18_13 := by refine ⟨?l, ?h⟩; case h => simp only [r18_13, c18, bodyOf, Tryd.f18, Code.sub, opsOf, List.map_cons, List.map_nil, strip]; rfl
theorem w18_13 : Wp r18_13 8 [11, 14, 39, 41, 64] [] [] [6, 5] [some 55, some 56, some 57, none] (L18_13).1 := w_plain (by kernel_rfl) (L18_13).2
noncomputable def L18_14 : Lt r18_14 := by refine ⟨?l, ?h⟩; case h => simp only [r18_14, c18, bodyOf, Tryd.f18, Code.sub, opsOf, List.map_cons, List.map_nil, strip]; rfl
theorem w18_14 : Wp r18_14 8 [11, 14, 39, 41, 64] [4] [] [4, 5] [some 58, some 59, some 60, some 61, some 4] (L18_14).1 := w_plain (by kernel_rfl) (L18_14).2
noncomputable def L18_15 : Lt r18_15 := by refine ⟨?l, ?h⟩; case h => simp only [r18_15, c18, bodyOf, Tryd.f18, Code.sub, opsOf, List.map_cons, List.map_nil, strip]; rfl
theorem w18_15 : Wp r18_15 8 [11, 14, 39, 41, 64] [0] [] [0] [some 15, some 16, some 0] (L18_15).1 := w_plain (by kernel_rfl) (L18_15).2
noncomputable def L18_16 : Lt r18_16 := by refine ⟨?l, ?h⟩; case h => simp only [r18_16, c18, bodyOf, Tryd.f18, Code.sub, opsOf, List.map_cons, List.map_nil, strip]; rfl
theorem w18_16 : Wp r18_16 8 [11, 14, 39, 41, 64] [] [64] [4] [some 62, some 63, some 64] (L18_16).1 := w_plain (by kernel_rfl) (L18_16).2
noncomputable def L18_17 : Lt r18_17 := by refine ⟨?l, ?h⟩; case h => simp only [r18_17, c18, bodyOf, Tryd.f18, Code.sub, opsOf, List.map_cons, List.map_nil, strip]; rfl
theorem w18_17 : Wp r18_17 8 [11, 14, 39, 41, 64] [2, 3] [] [] [some 2, some 3] (L18_17).1 := w_plain (by kernel_rfl) (L18_17).2
noncomputable def L18_18 : Lt r18_18 := by refine ⟨?l, ?h⟩; case h => simp only [r18_18, c18, bodyOf, Tryd.f18, Code.sub, opsOf, List.map_cons, List.map_nil, strip]; rfl
theorem w18_18 : Wp r18_18 8 [11, 14, 39, 41, 64] [2, 3] [] [4] [some 65, some 2, some 3] (L18_18).1 := w_plain (by kernel_rfl) (L18_18).2
theorem k18 : FnIs TT 18 c18 [.tmp 2, .tmp 3] 1 := ⟨Tryd.f18, by kernel_rfl, by simp only [Tryd.f18, c18, bodyOf], by kernel_rfl, of_decide_eq_true (by kernel_rfl)⟩

/- machine.Name -/
noncomputable def c19 : Code := bodyOf Tryd.f19
noncomputable def r19_0 : Code := Code.sub [0] c19
noncomputable def r19_1 : Code := Code.sub [1, 0, 0] c19
noncomputable def r19_2 : Code := Code.sub [1, 0, 1, 0, 0] c19
noncomputable def r19_3 : Code := Code.sub [1, 1, 0] c19
theorem body19 : c19 = (.seq r19_0 (.seq (.seq r19_1 (.cond (.tmp 8) (.seq r19_2 .ret) .skip)) (.seq r19_3 .ret))) := by kernel_rfl
noncomputable def L19_0 : Lt r19_0 := by refine ⟨?l, ?h⟩; case h => simp only [r19_0, c19, bodyOf, Tryd.f19, Code.sub, opsOf, List.map_cons, List.map_nil, strip]; rfl
theorem w19_0 : Wp r19_0 3 [8] [2] [] [] [some 2] (L19_0).1 := w_plain (by kernel_rfl) (L19_0).2
noncomputable def L19_1 : Lt r19_1 := by refine ⟨?l, ?h⟩; case h => simp only [r19_1, c19, bodyOf, Tryd.f19, Code.sub, opsOf, List.map_cons, List.map_nil, strip]; rfl
theorem w19_1 : Wp r19_1 3 [8] [] [8] [0] [some 3, some 4, some 5, some 6, some 7, some 8] (L19_1).1 := w_plain (by kernel_rfl) (L19_1).2
noncomputable def L19_2 : Lt r19_2 := by refine ⟨?l, ?h⟩; case h => simp only [r19_2, c19, bodyOf, Tryd.f19, Code.sub, opsOf, List.map_cons, List.map_nil, strip]; rfl
theorem w19_2 : Wp r19_2 3 [8] [2] [] [] [some 2] (L19_2).1 := w_plain (by kernel_rfl) (L19_2).2
noncomputable def L19_3 : Lt r19_3 := by refine ⟨?l, ?h⟩; case h => simp only [r19_3, c19, bodyOf, Tryd.f19, Code.sub, opsOf, List.map_cons, List.map_nil, strip]; rfl
theorem w19_3 : Wp r19_3 3 [8] [2] [] [0] [some 9, some 10, some 11, some 12, some 13, some 2] (L19_3).1 := w_plain (by kernel_rfl) (L19_3).2
theorem k19 : FnIs TT 19 c19 [.tmp 2] 1 := ⟨Tryd.f19, by kernel_rfl, by simp only [Tryd.f19, c19, bodyOf], by kernel_rfl, of_decide_eq_true (by kernel_rfl)⟩

/- machine.Right -/
noncomputable def c20 : Code := bodyOf Tryd.f20
noncomputable def r20_0 : Code := Code.sub [0] c20
noncomputable def r20_1 : Code := Code.sub [1, 0, 0] c20
noncomputable def r20_2 : Code := Code.sub [1, 0, 1, 0, 0] c20
noncomputable def r20_3 : Code := Code.sub [1, 1, 0, 0] c20
noncomputable def r20_4 : Code := Code.sub [1, 1, 0, 1, 0, 0, 0] c20
noncomputable def r20_5 : Code := Code.sub [1, 1, 0, 1, 0, 0, 1, 1, 0, 0, 0] c20
noncomputable def r20_6 : Code := Code.sub [1, 1, 0, 1, 0, 0, 1, 1, 0, 0, 1, 0] c20
noncomputable def r20_7 : Code := Code.sub [1, 1, 0, 1, 0, 0, 1, 1, 0, 0, 1, 1, 0, 0] c20
noncomputable def r20_8 : Code := Code.sub [1, 1, 0, 1, 0, 0, 1, 1, 1] c20
noncomputable def r20_9 : Code := Code.sub [1, 1, 1, 0] c20
theorem body20 : c20 = (.seq r20_0 (.seq (.seq r20_1 (.cond (.tmp 7) (.seq r20_2 .ret) .skip)) (.seq (.seq r20_3 (.block 0 (.loop (.seq r20_4 (.seq (.cond (.tmp 11) .skip (.exit 0)) (.seq (.block 1 (.seq r20_5 (.seq r20_6 (.cond (.tmp 18) (.seq r20_7 .ret) .skip)))) r20_8)))))) (.seq r20_9 .ret)))) := by kernel_rfl
noncomputable def L20_0 : Lt r20_0 := by refine ⟨?l, ?h⟩; case h => simp only [r20_0, c20, bodyOf, Tryd.f20, Code.sub, opsOf, List.map_cons, List.map_nil, strip]; rfl
theorem w20_0 : Wp r20_0 11 [11, 18] [2] [] [] [some 2] (L20_0).1 := w_plain (by kernel_rfl) (L20_0).2
noncomputable def L20_1 : Lt r20_1 := by refine ⟨?l, ?h⟩; case h => simp only [r20_1, c20, bodyOf, Tryd.f20, Code.sub, opsOf, List.map_cons, List.map_nil, strip]; rfl
theorem w20_1 : Wp r20_1 11 [11, 18] [5, 6, 7] [] [0] [some 5, some 6, some 7] (L20_1).1 := w_plain (by kernel_rfl) (L20_1).2
noncomputable def L20_2 : Lt r20_2 := by refine ⟨?l, ?h⟩; case h => simp only [r20_2, c20, bodyOf, Tryd.f20, Code.sub, opsOf, List.map_cons, List.map_nil, strip]; rfl
theorem w20_2 : Wp r20_2 11 [11, 18] [2] [] [] [some 2] (L20_2).1 := w_plain (by kernel_rfl) (L20_2).2
noncomputable def L20_3 : Lt r20_3 := by refine ⟨?l, ?h⟩; case h => simp only [r20_3, c20, bodyOf, Tryd.f20, Code.sub, opsOf, List.map_cons, List.map_nil, strip]; rfl
theorem w20_3 : Wp r20_3 11 [11, 18] [8, 9, 10] [] [0] [some 8, some 9, some 10] (L20_3).1 := w_plain (by kernel_rfl) (L20_3).2
noncomputable def L20_4 : Lt r20_4 := by refine ⟨?l, ?h⟩; case h => simp only [r20_4, c20, bodyOf, Tryd.f20, Code.sub, opsOf, List.map_cons, List.map_nil, strip]; rfl
theorem w20_4 : Wp r20_4 11 [11, 18] [] [11] [10, 9] [some 11] (L20_4).1 := w_plain (by kernel_rfl) (L20_4).2
noncomputable def L20_5 : Lt r20_5 := by refine ⟨?l, ?h⟩; case h => simp only [r20_5, c20, bodyOf, Tryd.f20, Code.sub, opsOf, List.map_cons, List.map_nil, strip]; rfl
theorem w20_5 : Wp r20_5 11 [11, 18] [4] [] [8, 10] [some 12, some 13, some 4, none] (L20_5).1 := w_plain (by kernel_rfl) (L20_5).2
noncomputable def L20_6 : Lt r20_6 := by refine ⟨?l, ?h⟩; case h => simp only [r20_6, c20, bodyOf, Tryd.f20, Code.sub, opsOf, List.map_cons, List.map_nil, strip]; rfl
theorem w20_6 : Wp r20_6 11 [11, 18] [] [18] [4, 0] [some 14, some 15, some 16, some 17, some 18] (L20_6).1 := w_plain (by kernel_rfl) (L20_6).2
noncomputable def L20_7 : Lt r20_7 := by refine ⟨?l, ?h⟩; case h => simp only [r20_7, c20, bodyOf, Tryd.f20, Code.sub, opsOf, List.map_cons, List.map_nil, strip]; rfl
theorem w20_7 : Wp r20_7 11 [11, 18] [2] [] [] [some 2] (L20_7).1 := w_plain (by kernel_rfl) (L20_7).2
noncomputable def L20_8 : Lt r20_8 := by refine ⟨?l, ?h⟩; case h => simp only [r20_8, c20, bodyOf, Tryd.f20, Code.sub, opsOf, List.map_cons, List.map_nil, strip]; rfl
theorem w20_8 : Wp r20_8 11 [11, 18] [10] [] [10] [some 19, some 10] (L20_8).1 := w_plain (by kernel_rfl) (L20_8).2
noncomputable def L20_9 : Lt r20_9 := by refine ⟨?l, ?h⟩; case h => simp only [r20_9, c20, bodyOf, Tryd.f20, Code.sub, opsOf, List.map_cons, List.map_nil, strip]; rfl
theorem w20_9 : Wp r20_9 11 [11, 18] [2] [] [] [some 2] (L20_9).1 := w_plain (by kernel_rfl) (L20_9).2
theorem k20 : FnIs TT 20 c20 [.tmp 2] 1 := ⟨Tryd.f20, by kernel_rfl, by simp only [Tryd.f20, c20, bodyOf], by kernel_rfl, of_decide_eq_true (by kernel_rfl)⟩

/- turnstoneref25.Encode -/
noncomputable def c21 : Code := bodyOf Tryd.f21
noncomputable def r21_0 : Code := Code.sub [0] c21
noncomputable def r21_1 : Code := Code.sub [1, 0, 0] c21
noncomputable def r21_2 : Code := Code.sub [1, 0, 1, 0, 0] c21
noncomputable def r21_3 : Code := Code.sub [1, 1, 0] c21
noncomputable def r21_4 : Code := Code.sub [1, 1, 1, 0, 0] c21
noncomputable def r21_5 : Code := Code.sub [1, 1, 1, 0, 1, 0, 0, 0, 0] c21
noncomputable def r21_6 : Code := Code.sub [1, 1, 1, 0, 1, 0, 0, 1, 0, 0, 0] c21
noncomputable def r21_7 : Code := Code.sub [1, 1, 1, 0, 1, 0, 0, 1, 0, 0, 1, 0] c21
noncomputable def r21_8 : Code := Code.sub [1, 1, 1, 0, 1, 0, 0, 1, 0, 0, 1, 1, 0] c21
noncomputable def r21_9 : Code := Code.sub [1, 1, 1, 0, 1, 0, 0, 1, 0, 0, 1, 1, 1, 0, 0, 0, 0] c21
noncomputable def r21_10 : Code := Code.sub [1, 1, 1, 0, 1, 0, 0, 1, 0, 0, 1, 1, 1, 0, 0, 1, 0, 0] c21
noncomputable def r21_11 : Code := Code.sub [1, 1, 1, 0, 1, 0, 0, 1, 0, 0, 1, 1, 1, 0, 0, 1, 1] c21
noncomputable def r21_12 : Code := Code.sub [1, 1, 1, 0, 1, 0, 0, 1, 1] c21
noncomputable def r21_13 : Code := Code.sub [1, 1, 1, 1, 0] c21
theorem body21 : c21 = (.seq r21_0 (.seq (.seq r21_1 (.cond (.tmp 10) (.seq r21_2 .ret) .skip)) (.seq r21_3 (.seq (.seq r21_4 (.block 0 (.loop (.seq (.seq r21_5 (.cond (.tmp 14) .skip (.exit 0))) (.seq (.block 1 (.seq r21_6 (.seq r21_7 (.seq r21_8 (.block 2 (.loop (.seq (.seq r21_9 (.cond (.tmp 52) .skip (.exit 2))) (.seq (.block 3 r21_10) r21_11)))))))) r21_12))))) (.seq r21_13 .ret))))) := by kernel_rfl
noncomputable def L21_0 : Lt r21_0 := by refine ⟨?l, ?h⟩; case h => simp only [r21_0, c21, bodyOf, Tryd.f21, Code.sub, opsOf, List.map_cons, List.map_nil, strip]; rfl
theorem w21_0 : Wp r21_0 8 [10, 14, 52] [2, 3] [] [] [some 2, some 3] (L21_0).1 := w_plain (by kernel_rfl) (L21_0).2
noncomputable def L21_1 : Lt r21_1 := by refine ⟨?l, ?h⟩; case h => simp only [r21_1, c21, bodyOf, Tryd.f21, Code.sub, opsOf, List.map_cons, List.map_nil, strip]; rfl
theorem w21_1 : Wp r21_1 8 [10, 14, 52] [] [10] [0] [some 8, some 9, some 10] (L21_1).1 := w_plain (by kernel_rfl) (L21_1).2
noncomputable def L21_2 : Lt r21_2 := by refine ⟨?l, ?h⟩; case h => simp only [r21_2, c21, bodyOf, Tryd.f21, Code.sub, opsOf, List.map_cons, List.map_nil, strip]; rfl
theorem w21_2 : Wp r21_2 8 [10, 14, 52] [2, 3] [] [] [some 2, some 3] (L21_2).1 := w_plain (by kernel_rfl) (L21_2).2
noncomputable def L21_3 : Lt r21_3 := by refine ⟨?l, ?h⟩; case h => simp only [r21_3, c21, bodyOf, Tryd.f21, Code.sub, opsOf, List.map_cons, List.map_nil, strip]; rfl
theorem w21_3 : Wp r21_3 8 [10, 14, 52] [4] [] [] [some 4] (L21_3).1 := w_plain (by kernel_rfl) (L21_3).2
noncomputable def L21_4 : Lt r21_4 := by refine ⟨?l, ?h⟩; case h => simp only [r21_4, c21, bodyOf, Tryd.f21, Code.sub, opsOf, List.map_cons, List.map_nil, strip]; rfl
theorem w21_4 : Wp r21_4 8 [10, 14, 52] [5] [] [] [some 5] (L21_4).1 := w_plain (by kernel_rfl) (L21_4).2
noncomputable def L21_5 : Lt r21_5 := by refine ⟨?l, ?h⟩; case h => simp only [r21_5, c21, bodyOf, Tryd.f21, Code.sub, opsOf, List.map_cons, List.map_nil, strip]; rfl
theorem w21_5 : Wp r21_5 8 [10, 14, 52] [] [14] [5, 0] [some 11, some 12, some 13, some 14] (L21_5).1 := w_plain (by kernel_rfl) (L21_5).2
theorem can21_6 : canonOps (opsOf r21_6) = List.filterMap (fun i => ((opsOf r21_6)[i]?).map (renum [0, 1, 2, 3, 4, 5, 6, 7, 8, 9, 10, 11, 12, 13, 14, 15, 16, 17, 18, 19, 20, 21, 22, 23, 24, 25, 26, 27, 28])) [0, 1, 2, 3, 4, 5, 6, 7, 8, 9, 10, 11, 12, 13, 14, 15, 16, 17, 18, 19, 20, 21, 22, 23, 24, 25, 26, 27, 28] := by kernel_rfl
noncomputable def L21_6 : Lc r21_6 := by refine ⟨?l, (congrArg (List.map strip) can21_6).trans ?h⟩; case h => simp only [r21_6, c21, bodyOf, Tryd.f21, Code.sub, opsOf, List.filterMap_cons, List.filterMap_nil, List.getElem?_cons_succ, List.getElem?_cons_zero, Option.map_some, renum, List.map_cons, List.map_nil, strip]; rfl
theorem w21_6 : Wd r21_6 8 [10, 14, 52] [4] [] [4, 0, 5] [some 17, some 18, some 19, some 20, some 21, some 22, some 23, some 24, some 25, some 26, some 27, some 28, some 29, some 30, some 31, some 32, some 33, some 34, some 35, some 36, some 37, some 38, some 39, some 40, some 41, some 42, some 43, some 44, some 4] (L21_6).1 [(5, [26]), (6, [26]), (11, [26]), (17, [26]), (19, [26]), (24, [26]), (25, [26])] := w_loud (by kernel_rfl) (L21_6).2
noncomputable def L21_7 : Lt r21_7 := by refine ⟨?l, ?h⟩; case h => simp only [r21_7, c21, bodyOf, Tryd.f21, Code.sub, opsOf, List.map_cons, List.map_nil, strip]; rfl
theorem w21_7 : Wp r21_7 8 [10, 14, 52] [6] [] [0, 5] [some 45, some 46, some 47, some 48, some 49, some 50, some 6] (L21_7).1 := w_plain (by kernel_rfl) (L21_7).2
noncomputable def L21_8 : Lt r21_8 := by refine ⟨?l, ?h⟩; case h => simp only [r21_8, c21, bodyOf, Tryd.f21, Code.sub, opsOf, List.map_cons, List.map_nil, strip]; rfl
theorem w21_8 : Wp r21_8 8 [10, 14, 52] [7] [] [] [some 7] (L21_8).1 := w_plain (by kernel_rfl) (L21_8).2
noncomputable def L21_9 : Lt r21_9 := by refine ⟨?l, ?h⟩; case h => simp only [r21_9, c21, bodyOf, Tryd.f21, Code.sub, opsOf, List.map_cons, List.map_nil, strip]; rfl
theorem w21_9 : Wp r21_9 8 [10, 14, 52] [] [52] [7] [some 51, some 52] (L21_9).1 := w_plain (by kernel_rfl) (L21_9).2
noncomputable def L21_10 : Lt r21_10 := by refine ⟨?l, ?h⟩; case h => simp only [r21_10, c21, bodyOf, Tryd.f21, Code.sub, opsOf, List.map_cons, List.map_nil, strip]; rfl
theorem w21_10 : Wp r21_10 8 [10, 14, 52] [4] [] [4, 6, 7] [some 55, some 56, some 57, some 58, some 59, some 60, some 61, some 62, some 63, some 4] (L21_10).1 := w_plain (by kernel_rfl) (L21_10).2
noncomputable def L21_11 : Lt r21_11 := by refine ⟨?l, ?h⟩; case h => simp only [r21_11, c21, bodyOf, Tryd.f21, Code.sub, opsOf, List.map_cons, List.map_nil, strip]; rfl
theorem w21_11 : Wp r21_11 8 [10, 14, 52] [7] [] [7] [some 53, some 54, some 7] (L21_11).1 := w_plain (by kernel_rfl) (L21_11).2
noncomputable def L21_12 : Lt r21_12 := by refine ⟨?l, ?h⟩; case h => simp only [r21_12, c21, bodyOf, Tryd.f21, Code.sub, opsOf, List.map_cons, List.map_nil, strip]; rfl
theorem w21_12 : Wp r21_12 8 [10, 14, 52] [5] [] [5] [some 15, some 16, some 5] (L21_12).1 := w_plain (by kernel_rfl) (L21_12).2
noncomputable def L21_13 : Lt r21_13 := by refine ⟨?l, ?h⟩; case h => simp only [r21_13, c21, bodyOf, Tryd.f21, Code.sub, opsOf, List.map_cons, List.map_nil, strip]; rfl
theorem w21_13 : Wp r21_13 8 [10, 14, 52] [2, 3] [] [4] [some 64, some 2, some 3] (L21_13).1 := w_plain (by kernel_rfl) (L21_13).2
theorem k21 : FnIs TT 21 c21 [.tmp 2, .tmp 3] 1 := ⟨Tryd.f21, by kernel_rfl, by simp only [Tryd.f21, c21, bodyOf], by kernel_rfl, of_decide_eq_true (by kernel_rfl)⟩

/- turnstoneref25.Decode -/
noncomputable def c22 : Code := bodyOf Tryd.f22
noncomputable def r22_0 : Code := Code.sub [0] c22
noncomputable def r22_1 : Code := Code.sub [1, 0, 0] c22
noncomputable def r22_2 : Code := Code.sub [1, 0, 1, 0, 0] c22
noncomputable def r22_3 : Code := Code.sub [1, 1, 0] c22
noncomputable def r22_4 : Code := Code.sub [1, 1, 1, 0, 0] c22
noncomputable def r22_5 : Code := Code.sub [1, 1, 1, 0, 1, 0, 0, 0, 0] c22
noncomputable def r22_6 : Code := Code.sub [1, 1, 1, 0, 1, 0, 0, 1, 0, 0, 0] c22
noncomputable def r22_7 : Code := Code.sub [1, 1, 1, 0, 1, 0, 0, 1, 0, 0, 1, 0] c22
noncomputable def r22_8 : Code := Code.sub [1, 1, 1, 0, 1, 0, 0, 1, 0, 0, 1, 1, 0, 0] c22
noncomputable def r22_9 : Code := Code.sub [1, 1, 1, 0, 1, 0, 0, 1, 0, 0, 1, 1, 0, 1, 0, 0, 0, 0] c22
noncomputable def r22_10 : Code := Code.sub [1, 1, 1, 0, 1, 0, 0, 1, 0, 0, 1, 1, 0, 1, 0, 0, 1, 0, 0] c22
noncomputable def r22_11 : Code := Code.sub [1, 1, 1, 0, 1, 0, 0, 1, 0, 0, 1, 1, 0, 1, 0, 0, 1, 1] c22
noncomputable def r22_12 : Code := Code.sub [1, 1, 1, 0, 1, 0, 0, 1, 0, 0, 1, 1, 1, 0] c22
noncomputable def r22_13 : Code := Code.sub [1, 1, 1, 0, 1, 0, 0, 1, 0, 0, 1, 1, 1, 1, 0, 0] c22
noncomputable def r22_14 : Code := Code.sub [1, 1, 1, 0, 1, 0, 0, 1, 0, 0, 1, 1, 1, 1, 0, 1, 0, 0] c22
noncomputable def r22_15 : Code := Code.sub [1, 1, 1, 0, 1, 0, 0, 1, 0, 0, 1, 1, 1, 1, 1] c22
noncomputable def r22_16 : Code := Code.sub [1, 1, 1, 0, 1, 0, 0, 1, 1] c22
noncomputable def r22_17 : Code := Code.sub [1, 1, 1, 1, 0, 0] c22
noncomputable def r22_18 : Code := Code.sub [1, 1, 1, 1, 0, 1, 0, 0] c22
noncomputable def r22_19 : Code := Code.sub [1, 1, 1, 1, 1, 0] c22
theorem body22 : c22 = (.seq r22_0 (.seq (.seq r22_1 (.cond (.tmp 12) (.seq r22_2 .ret) .skip)) (.seq r22_3 (.seq (.seq r22_4 (.block 0 (.loop (.seq (.seq r22_5 (.cond (.tmp 16) .skip (.exit 0))) (.seq (.block 1 (.seq r22_6 (.seq r22_7 (.seq (.seq r22_8 (.block 2 (.loop (.seq (.seq r22_9 (.cond (.tmp 46) .skip (.exit 2))) (.seq (.block 3 r22_10) r22_11))))) (.seq r22_12 (.seq (.seq r22_13 (.cond (.tmp 70) (.seq r22_14 .ret) .skip)) r22_15)))))) r22_16))))) (.seq (.seq r22_17 (.cond (.tmp 77) (.seq r22_18 .ret) .skip)) (.seq r22_19 .ret)))))) := by kernel_rfl
noncomputable def L22_0 : Lt r22_0 := by refine ⟨?l, ?h⟩; case h => simp only [r22_0, c22, bodyOf, Tryd.f22, Code.sub, opsOf, List.map_cons, List.map_nil, strip]; rfl
theorem w22_0 : Wp r22_0 9 [12, 16, 46, 70, 77] [2, 3] [] [] [some 2, some 3] (L22_0).1 := w_plain (by kernel_rfl) (L22_0).2
noncomputable def L22_1 : Lt r22_1 := by refine ⟨?l, ?h⟩; case h => simp only [r22_1, c22, bodyOf, Tryd.f22, Code.sub, opsOf, List.map_cons, List.map_nil, strip]; rfl
theorem w22_1 : Wp r22_1 9 [12, 16, 46, 70, 77] [] [12] [0] [some 9, some 10, some 11, some 12] (L22_1).1 := w_plain (by kernel_rfl) (L22_1).2
noncomputable def L22_2 : Lt r22_2 := by refine ⟨?l, ?h⟩; case h => simp only [r22_2, c22, bodyOf, Tryd.f22, Code.sub, opsOf, List.map_cons, List.map_nil, strip]; rfl
theorem w22_2 : Wp r22_2 9 [12, 16, 46, 70, 77] [2, 3] [] [] [some 2, some 3] (L22_2).1 := w_plain (by kernel_rfl) (L22_2).2
noncomputable def L22_3 : Lt r22_3 := by refine ⟨?l, ?h⟩; case h => simp only [r22_3, c22, bodyOf, Tryd.f22, Code.sub, opsOf, List.map_cons, List.map_nil, strip]; rfl
theorem w22_3 : Wp r22_3 9 [12, 16, 46, 70, 77] [4] [] [] [some 4] (L22_3).1 := w_plain (by kernel_rfl) (L22_3).2
noncomputable def L22_4 : Lt r22_4 := by refine ⟨?l, ?h⟩; case h => simp only [r22_4, c22, bodyOf, Tryd.f22, Code.sub, opsOf, List.map_cons, List.map_nil, strip]; rfl
theorem w22_4 : Wp r22_4 9 [12, 16, 46, 70, 77] [5] [] [] [some 5] (L22_4).1 := w_plain (by kernel_rfl) (L22_4).2
noncomputable def L22_5 : Lt r22_5 := by refine ⟨?l, ?h⟩; case h => simp only [r22_5, c22, bodyOf, Tryd.f22, Code.sub, opsOf, List.map_cons, List.map_nil, strip]; rfl
theorem w22_5 : Wp r22_5 9 [12, 16, 46, 70, 77] [] [16] [5, 0] [some 13, some 14, some 15, some 16] (L22_5).1 := w_plain (by kernel_rfl) (L22_5).2
theorem can22_6 : canonOps (opsOf r22_6) = List.filterMap (fun i => ((opsOf r22_6)[i]?).map (renum [0, 1, 2, 3, 4, 5, 6, 7, 8, 9, 10, 11, 12, 13, 14, 15, 16, 17, 18, 19, 20, 21, 22, 23, 24, 25, 26, 27])) [0, 1, 2, 3, 4, 5, 6, 7, 8, 9, 10, 11, 12, 13, 14, 15, 16, 17, 18, 19, 20, 21, 22, 23, 24, 25, 26, 27] := by kernel_rfl
noncomputable def L22_6 : Lc r22_6 := by refine ⟨?l, (congrArg (List.map strip) can22_6).trans ?h⟩; case h => simp only [r22_6, c22, bodyOf, Tryd.f22, Code.sub, opsOf, List.filterMap_cons, List.filterMap_nil, List.getElem?_cons_succ, List.getElem?_cons_zero, Option.map_some, renum, List.map_cons, List.map_nil, strip]; rfl
theorem w22_6 : Wd r22_6 9 [12, 16, 46, 70, 77] [6] [] [0, 5] [some 19, some 20, some 21, some 22, some 23, some 24, some 25, some 26, some 27, some 28, some 29, some 30, some 31, some 32, some 33, some 34, some 35, some 36, some 37, some 38, some 39, some 40, some 41, some 42, some 43, some 44, some 6, none] (L22_6).1 [(3, [26, 27]), (4, [26, 27]), (9, [26, 27]), (11, [26, 27]), (16, [26, 27]), (18, [26, 27]), (23, [26, 27]), (24, [26, 27])] := w_loud (by kernel_rfl) (L22_6).2
noncomputable def L22_7 : Lt r22_7 := by refine ⟨?l, ?h⟩; case h => simp only [r22_7, c22, bodyOf, Tryd.f22, Code.sub, opsOf, List.map_cons, List.map_nil, strip]; rfl
theorem w22_7 : Wp r22_7 9 [12, 16, 46, 70, 77] [7] [] [] [some 7] (L22_7).1 := w_plain (by kernel_rfl) (L22_7).2
noncomputable def L22_8 : Lt r22_8 := by refine ⟨?l, ?h⟩; case h => simp only [r22_8, c22, bodyOf, Tryd.f22, Code.sub, opsOf, List.map_cons, List.map_nil, strip]; rfl
theorem w22_8 : Wp r22_8 9 [12, 16, 46, 70, 77] [8] [] [] [some 8] (L22_8).1 := w_plain (by kernel_rfl) (L22_8).2
noncomputable def L22_9 : Lt r22_9 := by refine ⟨?l, ?h⟩; case h => simp only [r22_9, c22, bodyOf, Tryd.f22, Code.sub, opsOf, List.map_cons, List.map_nil, strip]; rfl
theorem w22_9 : Wp r22_9 9 [12, 16, 46, 70, 77] [] [46] [8] [some 45, some 46] (L22_9).1 := w_plain (by kernel_rfl) (L22_9).2
noncomputable def L22_10 : Lt r22_10 := by refine ⟨?l, ?h⟩; case h => simp only [r22_10, c22, bodyOf, Tryd.f22, Code.sub, opsOf, List.map_cons, List.map_nil, strip]; rfl
theorem w22_10 : Wp r22_10 9 [12, 16, 46, 70, 77] [7] [] [7, 0, 5, 8] [some 49, some 50, some 51, some 52, some 53, some 54, some 55, some 56, some 57, some 58, some 59, some 7] (L22_10).1 := w_plain (by kernel_rfl) (L22_10).2
noncomputable def L22_11 : Lt r22_11 := by refine ⟨?l, ?h⟩; case h => simp only [r22_11, c22, bodyOf, Tryd.f22, Code.sub, opsOf, List.map_cons, List.map_nil, strip]; rfl
theorem w22_11 : Wp r22_11 9 [12, 16, 46, 70, 77] [8] [] [8] [some 47, some 48, some 8] (L22_11).1 := w_plain (by kernel_rfl) (L22_11).2
noncomputable def L22_12 : Lt r22_12 := by refine ⟨?l, ?h⟩; case h => simp only [r22_12, c22, bodyOf, Tryd.f22, Code.sub, opsOf, List.map_cons, List.map_nil, strip]; rfl
theorem w22_12 : Wp r22_12 9 [12, 16, 46, 70, 77] [] [] [7, 6] [some 60, some 61, some 62, none] (L22_12).1 := w_plain (by kernel_rfl) (L22_12).2
noncomputable def L22_13 : Lt r22_13 := by refine ⟨?l, ?h⟩; case h => simp only [r22_13, c22, bodyOf, Tryd.f22, Code.sub, opsOf, List.map_cons, List.map_nil, strip]; rfl
theorem w22_13 : Wp r22_13 9 [12, 16, 46, 70, 77] [] [70] [6] [some 63, some 64, some 65, some 66, some 67, some 68, some 69, some 70] (L22_13).1 := w_plain (by kernel_rfl) (L22_13).2
noncomputable def L22_14 : Lt r22_14 := by refine ⟨?l, ?h⟩; case h => simp only [r22_14, c22, bodyOf, Tryd.f22, Code.sub, opsOf, List.map_cons, List.map_nil, strip]; rfl
theorem w22_14 : Wp r22_14 9 [12, 16, 46, 70, 77] [2, 3] [] [] [some 2, some 3] (L22_14).1 := w_plain (by kernel_rfl) (L22_14).2
noncomputable def L22_15 : Lt r22_15 := by refine ⟨?l, ?h⟩; case h => simp only [r22_15, c22, bodyOf, Tryd.f22, Code.sub, opsOf, List.map_cons, List.map_nil, strip]; rfl
theorem w22_15 : Wp r22_15 9 [12, 16, 46, 70, 77] [4] [] [4, 6] [some 71, some 72, some 73, some 74, some 4] (L22_15).1 := w_plain (by kernel_rfl) (L22_15).2
noncomputable def L22_16 : Lt r22_16 := by refine ⟨?l, ?h⟩; case h => simp only [r22_16, c22, bodyOf, Tryd.f22, Code.sub, opsOf, List.map_cons, List.map_nil, strip]; rfl
theorem w22_16 : Wp r22_16 9 [12, 16, 46, 70, 77] [5] [] [5] [some 17, some 18, some 5] (L22_16).1 := w_plain (by kernel_rfl) (L22_16).2
noncomputable def L22_17 : Lt r22_17 := by refine ⟨?l, ?h⟩; case h => simp only [r22_17, c22, bodyOf, Tryd.f22, Code.sub, opsOf, List.map_cons, List.map_nil, strip]; rfl
theorem w22_17 : Wp r22_17 9 [12, 16, 46, 70, 77] [] [77] [4] [some 75, some 76, some 77] (L22_17).1 := w_plain (by kernel_rfl) (L22_17).2
noncomputable def L22_18 : Lt r22_18 := by refine ⟨?l, ?h⟩; case h => simp only [r22_18, c22, bodyOf, Tryd.f22, Code.sub, opsOf, List.map_cons, List.map_nil, strip]; rfl
theorem w22_18 : Wp r22_18 9 [12, 16, 46, 70, 77] [2, 3] [] [] [some 2, some 3] (L22_18).1 := w_plain (by kernel_rfl) (L22_18).2
noncomputable def L22_19 : Lt r22_19 := by refine ⟨?l, ?h⟩; case h => simp only [r22_19, c22, bodyOf, Tryd.f22, Code.sub, opsOf, List.map_cons, List.map_nil, strip]; rfl
theorem w22_19 : Wp r22_19 9 [12, 16, 46, 70, 77] [2, 3] [] [4] [some 78, some 2, some 3] (L22_19).1 := w_plain (by kernel_rfl) (L22_19).2
theorem k22 : FnIs TT 22 c22 [.tmp 2, .tmp 3] 1 := ⟨Tryd.f22, by kernel_rfl, by simp only [Tryd.f22, c22, bodyOf], by kernel_rfl, of_decide_eq_true (by kernel_rfl)⟩

/- turnstoneref25.RightCode -/
noncomputable def c23 : Code := bodyOf Tryd.f23
noncomputable def r23_0 : Code := Code.sub [0] c23
noncomputable def r23_1 : Code := Code.sub [1, 0, 0] c23
noncomputable def r23_2 : Code := Code.sub [1, 0, 1, 0, 0] c23
noncomputable def r23_3 : Code := Code.sub [1, 1, 0, 0] c23
noncomputable def r23_4 : Code := Code.sub [1, 1, 0, 1, 0, 0, 0, 0] c23
noncomputable def r23_5 : Code := Code.sub [1, 1, 0, 1, 0, 0, 1, 0, 0, 0] c23
noncomputable def r23_6 : Code := Code.sub [1, 1, 0, 1, 0, 0, 1, 0, 0, 1, 0, 0] c23
noncomputable def r23_7 : Code := Code.sub [1, 1, 0, 1, 0, 0, 1, 1] c23
noncomputable def r23_8 : Code := Code.sub [1, 1, 1, 0] c23
theorem body23 : c23 = (.seq r23_0 (.seq (.seq r23_1 (.cond (.tmp 6) (.seq r23_2 .ret) .skip)) (.seq (.seq r23_3 (.block 0 (.loop (.seq (.seq r23_4 (.cond (.tmp 10) .skip (.exit 0))) (.seq (.block 1 (.seq r23_5 (.cond (.tmp 20) (.seq r23_6 .ret) .skip))) r23_7))))) (.seq r23_8 .ret)))) := by kernel_rfl
noncomputable def L23_0 : Lt r23_0 := by refine ⟨?l, ?h⟩; case h => simp only [r23_0, c23, bodyOf, Tryd.f23, Code.sub, opsOf, List.map_cons, List.map_nil, strip]; rfl
theorem w23_0 : Wp r23_0 4 [6, 10, 20] [2] [] [] [some 2] (L23_0).1 := w_plain (by kernel_rfl) (L23_0).2
noncomputable def L23_1 : Lt r23_1 := by refine ⟨?l, ?h⟩; case h => simp only [r23_1, c23, bodyOf, Tryd.f23, Code.sub, opsOf, List.map_cons, List.map_nil, strip]; rfl
theorem w23_1 : Wp r23_1 4 [6, 10, 20] [] [6] [0] [some 4, some 5, some 6] (L23_1).1 := w_plain (by kernel_rfl) (L23_1).2
noncomputable def L23_2 : Lt r23_2 := by refine ⟨?l, ?h⟩; case h => simp only [r23_2, c23, bodyOf, Tryd.f23, Code.sub, opsOf, List.map_cons, List.map_nil, strip]; rfl
theorem w23_2 : Wp r23_2 4 [6, 10, 20] [2] [] [] [some 2] (L23_2).1 := w_plain (by kernel_rfl) (L23_2).2
noncomputable def L23_3 : Lt r23_3 := by refine ⟨?l, ?h⟩; case h => simp only [r23_3, c23, bodyOf, Tryd.f23, Code.sub, opsOf, List.map_cons, List.map_nil, strip]; rfl
theorem w23_3 : Wp r23_3 4 [6, 10, 20] [3] [] [] [some 3] (L23_3).1 := w_plain (by kernel_rfl) (L23_3).2
noncomputable def L23_4 : Lt r23_4 := by refine ⟨?l, ?h⟩; case h => simp only [r23_4, c23, bodyOf, Tryd.f23, Code.sub, opsOf, List.map_cons, List.map_nil, strip]; rfl
theorem w23_4 : Wp r23_4 4 [6, 10, 20] [] [10] [3, 0] [some 7, some 8, some 9, some 10] (L23_4).1 := w_plain (by kernel_rfl) (L23_4).2
noncomputable def L23_5 : Lt r23_5 := by refine ⟨?l, ?h⟩; case h => simp only [r23_5, c23, bodyOf, Tryd.f23, Code.sub, opsOf, List.map_cons, List.map_nil, strip]; rfl
theorem w23_5 : Wp r23_5 4 [6, 10, 20] [] [20] [3, 0] [some 13, some 14, some 15, some 16, some 17, some 18, some 19, some 20] (L23_5).1 := w_plain (by kernel_rfl) (L23_5).2
noncomputable def L23_6 : Lt r23_6 := by refine ⟨?l, ?h⟩; case h => simp only [r23_6, c23, bodyOf, Tryd.f23, Code.sub, opsOf, List.map_cons, List.map_nil, strip]; rfl
theorem w23_6 : Wp r23_6 4 [6, 10, 20] [2] [] [] [some 2] (L23_6).1 := w_plain (by kernel_rfl) (L23_6).2
noncomputable def L23_7 : Lt r23_7 := by refine ⟨?l, ?h⟩; case h => simp only [r23_7, c23, bodyOf, Tryd.f23, Code.sub, opsOf, List.map_cons, List.map_nil, strip]; rfl
theorem w23_7 : Wp r23_7 4 [6, 10, 20] [3] [] [3] [some 11, some 12, some 3] (L23_7).1 := w_plain (by kernel_rfl) (L23_7).2
noncomputable def L23_8 : Lt r23_8 := by refine ⟨?l, ?h⟩; case h => simp only [r23_8, c23, bodyOf, Tryd.f23, Code.sub, opsOf, List.map_cons, List.map_nil, strip]; rfl
theorem w23_8 : Wp r23_8 4 [6, 10, 20] [2] [] [] [some 2] (L23_8).1 := w_plain (by kernel_rfl) (L23_8).2
theorem k23 : FnIs TT 23 c23 [.tmp 2] 1 := ⟨Tryd.f23, by kernel_rfl, by simp only [Tryd.f23, c23, bodyOf], by kernel_rfl, of_decide_eq_true (by kernel_rfl)⟩

/- turnstonelaw25.same -/
noncomputable def c24 : Code := bodyOf Tryd.f24
noncomputable def r24_0 : Code := Code.sub [0] c24
noncomputable def r24_1 : Code := Code.sub [1, 0, 0] c24
noncomputable def r24_2 : Code := Code.sub [1, 0, 1, 0, 0] c24
noncomputable def r24_3 : Code := Code.sub [1, 1, 0, 0] c24
noncomputable def r24_4 : Code := Code.sub [1, 1, 0, 1, 0, 0, 0, 0] c24
noncomputable def r24_5 : Code := Code.sub [1, 1, 0, 1, 0, 0, 1, 0, 0, 0] c24
noncomputable def r24_6 : Code := Code.sub [1, 1, 0, 1, 0, 0, 1, 0, 0, 1, 0, 0] c24
noncomputable def r24_7 : Code := Code.sub [1, 1, 0, 1, 0, 0, 1, 1] c24
noncomputable def r24_8 : Code := Code.sub [1, 1, 1, 0] c24
theorem body24 : c24 = (.seq r24_0 (.seq (.seq r24_1 (.cond (.tmp 10) (.seq r24_2 .ret) .skip)) (.seq (.seq r24_3 (.block 0 (.loop (.seq (.seq r24_4 (.cond (.tmp 14) .skip (.exit 0))) (.seq (.block 1 (.seq r24_5 (.cond (.tmp 25) (.seq r24_6 .ret) .skip))) r24_7))))) (.seq r24_8 .ret)))) := by kernel_rfl
noncomputable def L24_0 : Lt r24_0 := by refine ⟨?l, ?h⟩; case h => simp only [r24_0, c24, bodyOf, Tryd.f24, Code.sub, opsOf, List.map_cons, List.map_nil, strip]; rfl
theorem w24_0 : Wp r24_0 6 [10, 14, 25] [4] [] [] [some 4] (L24_0).1 := w_plain (by kernel_rfl) (L24_0).2
noncomputable def L24_1 : Lt r24_1 := by refine ⟨?l, ?h⟩; case h => simp only [r24_1, c24, bodyOf, Tryd.f24, Code.sub, opsOf, List.map_cons, List.map_nil, strip]; rfl
theorem w24_1 : Wp r24_1 6 [10, 14, 25] [] [10] [0, 1] [some 6, some 7, some 8, some 9, some 10] (L24_1).1 := w_plain (by kernel_rfl) (L24_1).2
noncomputable def L24_2 : Lt r24_2 := by refine ⟨?l, ?h⟩; case h => simp only [r24_2, c24, bodyOf, Tryd.f24, Code.sub, opsOf, List.map_cons, List.map_nil, strip]; rfl
theorem w24_2 : Wp r24_2 6 [10, 14, 25] [4] [] [] [some 4] (L24_2).1 := w_plain (by kernel_rfl) (L24_2).2
noncomputable def L24_3 : Lt r24_3 := by refine ⟨?l, ?h⟩; case h => simp only [r24_3, c24, bodyOf, Tryd.f24, Code.sub, opsOf, List.map_cons, List.map_nil, strip]; rfl
theorem w24_3 : Wp r24_3 6 [10, 14, 25] [5] [] [] [some 5] (L24_3).1 := w_plain (by kernel_rfl) (L24_3).2
noncomputable def L24_4 : Lt r24_4 := by refine ⟨?l, ?h⟩; case h => simp only [r24_4, c24, bodyOf, Tryd.f24, Code.sub, opsOf, List.map_cons, List.map_nil, strip]; rfl
theorem w24_4 : Wp r24_4 6 [10, 14, 25] [] [14] [5, 0] [some 11, some 12, some 13, some 14] (L24_4).1 := w_plain (by kernel_rfl) (L24_4).2
noncomputable def L24_5 : Lt r24_5 := by refine ⟨?l, ?h⟩; case h => simp only [r24_5, c24, bodyOf, Tryd.f24, Code.sub, opsOf, List.map_cons, List.map_nil, strip]; rfl
theorem w24_5 : Wp r24_5 6 [10, 14, 25] [] [25] [0, 1, 5] [some 17, some 18, some 19, some 20, some 21, some 22, some 23, some 24, some 25] (L24_5).1 := w_plain (by kernel_rfl) (L24_5).2
noncomputable def L24_6 : Lt r24_6 := by refine ⟨?l, ?h⟩; case h => simp only [r24_6, c24, bodyOf, Tryd.f24, Code.sub, opsOf, List.map_cons, List.map_nil, strip]; rfl
theorem w24_6 : Wp r24_6 6 [10, 14, 25] [4] [] [] [some 4] (L24_6).1 := w_plain (by kernel_rfl) (L24_6).2
noncomputable def L24_7 : Lt r24_7 := by refine ⟨?l, ?h⟩; case h => simp only [r24_7, c24, bodyOf, Tryd.f24, Code.sub, opsOf, List.map_cons, List.map_nil, strip]; rfl
theorem w24_7 : Wp r24_7 6 [10, 14, 25] [5] [] [5] [some 15, some 16, some 5] (L24_7).1 := w_plain (by kernel_rfl) (L24_7).2
noncomputable def L24_8 : Lt r24_8 := by refine ⟨?l, ?h⟩; case h => simp only [r24_8, c24, bodyOf, Tryd.f24, Code.sub, opsOf, List.map_cons, List.map_nil, strip]; rfl
theorem w24_8 : Wp r24_8 6 [10, 14, 25] [4] [] [] [some 4] (L24_8).1 := w_plain (by kernel_rfl) (L24_8).2
theorem k24 : FnIs TT 24 c24 [.tmp 4] 2 := ⟨Tryd.f24, by kernel_rfl, by simp only [Tryd.f24, c24, bodyOf], by kernel_rfl, of_decide_eq_true (by kernel_rfl)⟩

/- turnstoneref25.RightIns -/
noncomputable def c25 : Code := bodyOf Tryd.f25
noncomputable def r25_0 : Code := Code.sub [0] c25
noncomputable def r25_1 : Code := Code.sub [1, 0, 0] c25
noncomputable def r25_2 : Code := Code.sub [1, 0, 1, 0, 0] c25
noncomputable def r25_3 : Code := Code.sub [1, 1, 0] c25
noncomputable def r25_4 : Code := Code.sub [1, 1, 1, 0] c25
noncomputable def r25_5 : Code := Code.sub [1, 1, 1, 1, 0, 0] c25
noncomputable def r25_6 : Code := Code.sub [1, 1, 1, 1, 0, 1, 0, 0, 0, 0] c25
noncomputable def r25_7 : Code := Code.sub [1, 1, 1, 1, 0, 1, 0, 0, 1, 0, 0, 0] c25
noncomputable def r25_8 : Code := Code.sub [1, 1, 1, 1, 0, 1, 0, 0, 1, 0, 0, 1, 0, 0] c25
noncomputable def r25_9 : Code := Code.sub [1, 1, 1, 1, 0, 1, 0, 0, 1, 1] c25
noncomputable def r25_10 : Code := Code.sub [1, 1, 1, 1, 1, 0, 0] c25
noncomputable def r25_11 : Code := Code.sub [1, 1, 1, 1, 1, 0, 1, 0, 0] c25
noncomputable def r25_12 : Code := Code.sub [1, 1, 1, 1, 1, 1, 0, 0] c25
noncomputable def r25_13 : Code := Code.sub [1, 1, 1, 1, 1, 1, 0, 1, 0, 0, 0] c25
noncomputable def r25_14 : Code := Code.sub [1, 1, 1, 1, 1, 1, 0, 1, 0, 0, 1, 1] c25
noncomputable def r25_15 : Code := Code.sub [1, 1, 1, 1, 1, 1, 0, 1, 0, 1, 0, 0] c25
noncomputable def r25_16 : Code := Code.sub [1, 1, 1, 1, 1, 1, 0, 1, 0, 1, 1, 0, 0] c25
noncomputable def r25_17 : Code := Code.sub [1, 1, 1, 1, 1, 1, 0, 1, 0, 1, 1, 0, 1, 1] c25
noncomputable def r25_18 : Code := Code.sub [1, 1, 1, 1, 1, 1, 0, 1, 0, 1, 1, 1, 0, 0] c25
noncomputable def r25_19 : Code := Code.sub [1, 1, 1, 1, 1, 1, 0, 1, 0, 1, 1, 1, 1, 0, 0] c25
noncomputable def r25_20 : Code := Code.sub [1, 1, 1, 1, 1, 1, 0, 1, 0, 1, 1, 1, 1, 0, 1, 1, 0] c25
noncomputable def r25_21 : Code := Code.sub [1, 1, 1, 1, 1, 1, 0, 1, 0, 1, 1, 1, 1, 0, 1, 1, 1, 1] c25
noncomputable def r25_22 : Code := Code.sub [1, 1, 1, 1, 1, 1, 0, 1, 0, 1, 1, 1, 1, 1, 0, 0] c25
noncomputable def r25_23 : Code := Code.sub [1, 1, 1, 1, 1, 1, 1, 0] c25
theorem body25 : c25 = (.seq r25_0 (.seq (.seq r25_1 (.cond (.tmp 16) (.seq r25_2 .ret) .skip)) (.seq r25_3 (.seq r25_4 (.seq (.seq r25_5 (.block 0 (.loop (.seq (.seq r25_6 (.cond (.tmp 31) .skip (.exit 0))) (.seq (.block 1 (.seq r25_7 (.cond (.tmp 59) (.seq r25_8 .ret) .skip))) r25_9))))) (.seq (.seq r25_10 (.cond (.tmp 61) (.seq r25_11 .ret) .skip)) (.seq (.seq r25_12 (.block 2 (.seq (.seq r25_13 (.cond (.tmp 67) .skip r25_14)) (.cond (.tmp 67) (.seq r25_15 .ret) (.seq (.seq r25_16 (.cond (.tmp 78) .skip r25_17)) (.cond (.tmp 78) (.seq r25_18 .ret) (.seq (.seq r25_19 (.cond (.tmp 90) .skip (.seq r25_20 (.cond (.tmp 90) .skip r25_21)))) (.cond (.tmp 90) (.seq r25_22 .ret) .skip)))))))) (.seq r25_23 .ret)))))))) := by kernel_rfl
noncomputable def L25_0 : Lt r25_0 := by refine ⟨?l, ?h⟩; case h => simp only [r25_0, c25, bodyOf, Tryd.f25, Code.sub, opsOf, List.map_cons, List.map_nil, strip]; rfl
theorem w25_0 : Wp r25_0 67 [67, 67, 78, 78, 90, 90, 90] [2, 4] [] [0] [some 2, some 4] (L25_0).1 := w_plain (by kernel_rfl) (L25_0).2
noncomputable def L25_1 : Lt r25_1 := by refine ⟨?l, ?h⟩; case h => simp only [r25_1, c25, bodyOf, Tryd.f25, Code.sub, opsOf, List.map_cons, List.map_nil, strip]; rfl
theorem w25_1 : Wp r25_1 67 [67, 67, 78, 78, 90, 90, 90] [9, 10, 11, 12, 13, 14, 15, 16] [] [2] [some 9, some 10, some 11, some 12, some 13, some 14, some 15, some 16] (L25_1).1 := w_plain (by kernel_rfl) (L25_1).2
noncomputable def L25_2 : Lt r25_2 := by refine ⟨?l, ?h⟩; case h => simp only [r25_2, c25, bodyOf, Tryd.f25, Code.sub, opsOf, List.map_cons, List.map_nil, strip]; rfl
theorem w25_2 : Wp r25_2 67 [67, 67, 78, 78, 90, 90, 90] [4] [] [] [some 4] (L25_2).1 := w_plain (by kernel_rfl) (L25_2).2
noncomputable def L25_3 : Lt r25_3 := by refine ⟨?l, ?h⟩; case h => simp only [r25_3, c25, bodyOf, Tryd.f25, Code.sub, opsOf, List.map_cons, List.map_nil, strip]; rfl
theorem w25_3 : Wp r25_3 67 [67, 67, 78, 78, 90, 90, 90] [18, 19, 20, 17, 21, 22, 5, 6] [] [2] [some 18, some 19, some 20, some 17, some 21, some 22, some 5, some 6] (L25_3).1 := w_plain (by kernel_rfl) (L25_3).2
noncomputable def L25_4 : Lt r25_4 := by refine ⟨?l, ?h⟩; case h => simp only [r25_4, c25, bodyOf, Tryd.f25, Code.sub, opsOf, List.map_cons, List.map_nil, strip]; rfl
theorem w25_4 : Wp r25_4 67 [67, 67, 78, 78, 90, 90, 90] [23, 24, 25, 26, 27, 28, 29, 7] [] [2] [some 23, some 24, some 25, some 26, some 27, some 28, some 29, some 7, none] (L25_4).1 := w_plain (by kernel_rfl) (L25_4).2
noncomputable def L25_5 : Lt r25_5 := by refine ⟨?l, ?h⟩; case h => simp only [r25_5, c25, bodyOf, Tryd.f25, Code.sub, opsOf, List.map_cons, List.map_nil, strip]; rfl
theorem w25_5 : Wp r25_5 67 [67, 67, 78, 78, 90, 90, 90] [8] [] [] [some 8] (L25_5).1 := w_plain (by kernel_rfl) (L25_5).2
noncomputable def L25_6 : Lt r25_6 := by refine ⟨?l, ?h⟩; case h => simp only [r25_6, c25, bodyOf, Tryd.f25, Code.sub, opsOf, List.map_cons, List.map_nil, strip]; rfl
theorem w25_6 : Wp r25_6 67 [67, 67, 78, 78, 90, 90, 90] [30, 31] [] [8] [some 30, some 31] (L25_6).1 := w_plain (by kernel_rfl) (L25_6).2
noncomputable def L25_7 : Lt r25_7 := by refine ⟨?l, ?h⟩; case h => simp only [r25_7, c25, bodyOf, Tryd.f25, Code.sub, opsOf, List.map_cons, List.map_nil, strip]; rfl
theorem w25_7 : Wp r25_7 67 [67, 67, 78, 78, 90, 90, 90] [34, 35, 36, 37, 38, 39, 40, 41, 42, 43, 44, 45, 46, 47, 48, 49, 50, 51, 52, 53, 54, 55, 56, 57, 58, 59] [] [5, 8, 7] [some 34, some 35, some 36, some 37, some 38, some 39, some 40, some 41, some 42, some 43, some 44, some 45, some 46, some 47, some 48, some 49, some 50, some 51, some 52, some 53, some 54, some 55, some 56, some 57, some 58, some 59] (L25_7).1 := w_plain (by kernel_rfl) (L25_7).2
noncomputable def L25_8 : Lt r25_8 := by refine ⟨?l, ?h⟩; case h => simp only [r25_8, c25, bodyOf, Tryd.f25, Code.sub, opsOf, List.map_cons, List.map_nil, strip]; rfl
theorem w25_8 : Wp r25_8 67 [67, 67, 78, 78, 90, 90, 90] [4] [] [] [some 4] (L25_8).1 := w_plain (by kernel_rfl) (L25_8).2
noncomputable def L25_9 : Lt r25_9 := by refine ⟨?l, ?h⟩; case h => simp only [r25_9, c25, bodyOf, Tryd.f25, Code.sub, opsOf, List.map_cons, List.map_nil, strip]; rfl
theorem w25_9 : Wp r25_9 67 [67, 67, 78, 78, 90, 90, 90] [32, 33, 8] [] [8] [some 32, some 33, some 8] (L25_9).1 := w_plain (by kernel_rfl) (L25_9).2
noncomputable def L25_10 : Lt r25_10 := by refine ⟨?l, ?h⟩; case h => simp only [r25_10, c25, bodyOf, Tryd.f25, Code.sub, opsOf, List.map_cons, List.map_nil, strip]; rfl
theorem w25_10 : Wp r25_10 67 [67, 67, 78, 78, 90, 90, 90] [60, 61] [] [6] [some 60, some 61] (L25_10).1 := w_plain (by kernel_rfl) (L25_10).2
noncomputable def L25_11 : Lt r25_11 := by refine ⟨?l, ?h⟩; case h => simp only [r25_11, c25, bodyOf, Tryd.f25, Code.sub, opsOf, List.map_cons, List.map_nil, strip]; rfl
theorem w25_11 : Wp r25_11 67 [67, 67, 78, 78, 90, 90, 90] [62, 63, 64, 4] [] [2] [some 62, some 63, some 64, some 4] (L25_11).1 := w_plain (by kernel_rfl) (L25_11).2
noncomputable def L25_12 : Lt r25_12 := by refine ⟨?l, ?h⟩; case h => simp only [r25_12, c25, bodyOf, Tryd.f25, Code.sub, opsOf, List.map_cons, List.map_nil, strip]; rfl
theorem w25_12 : Wp r25_12 67 [67, 67, 78, 78, 90, 90, 90] [65, 66] [] [2] [some 65, some 66] (L25_12).1 := w_plain (by kernel_rfl) (L25_12).2
noncomputable def L25_13 : Lt r25_13 := by refine ⟨?l, ?h⟩; case h => simp only [r25_13, c25, bodyOf, Tryd.f25, Code.sub, opsOf, List.map_cons, List.map_nil, strip]; rfl
theorem w25_13 : Wp r25_13 67 [67, 67, 78, 78, 90, 90, 90] [] [67] [66] [some 68, some 67] (L25_13).1 := w_plain (by kernel_rfl) (L25_13).2
noncomputable def L25_14 : Lt r25_14 := by refine ⟨?l, ?h⟩; case h => simp only [r25_14, c25, bodyOf, Tryd.f25, Code.sub, opsOf, List.map_cons, List.map_nil, strip]; rfl
theorem w25_14 : Wp r25_14 67 [67, 67, 78, 78, 90, 90, 90] [] [67] [66] [some 69, some 67] (L25_14).1 := w_plain (by kernel_rfl) (L25_14).2
noncomputable def L25_15 : Lt r25_15 := by refine ⟨?l, ?h⟩; case h => simp only [r25_15, c25, bodyOf, Tryd.f25, Code.sub, opsOf, List.map_cons, List.map_nil, strip]; rfl
theorem w25_15 : Wp r25_15 67 [67, 67, 78, 78, 90, 90, 90] [4] [] [2] [some 70, some 71, some 72, some 73, some 74, some 75, some 76, some 77, some 4] (L25_15).1 := w_plain (by kernel_rfl) (L25_15).2
noncomputable def L25_16 : Lt r25_16 := by refine ⟨?l, ?h⟩; case h => simp only [r25_16, c25, bodyOf, Tryd.f25, Code.sub, opsOf, List.map_cons, List.map_nil, strip]; rfl
theorem w25_16 : Wp r25_16 67 [67, 67, 78, 78, 90, 90, 90] [] [78] [66] [some 79, some 78] (L25_16).1 := w_plain (by kernel_rfl) (L25_16).2
noncomputable def L25_17 : Lt r25_17 := by refine ⟨?l, ?h⟩; case h => simp only [r25_17, c25, bodyOf, Tryd.f25, Code.sub, opsOf, List.map_cons, List.map_nil, strip]; rfl
theorem w25_17 : Wp r25_17 67 [67, 67, 78, 78, 90, 90, 90] [] [78] [66] [some 80, some 78] (L25_17).1 := w_plain (by kernel_rfl) (L25_17).2
noncomputable def L25_18 : Lt r25_18 := by refine ⟨?l, ?h⟩; case h => simp only [r25_18, c25, bodyOf, Tryd.f25, Code.sub, opsOf, List.map_cons, List.map_nil, strip]; rfl
theorem w25_18 : Wp r25_18 67 [67, 67, 78, 78, 90, 90, 90] [4] [] [2, 1] [some 81, some 82, some 83, some 84, some 85, some 86, some 87, some 88, some 89, some 4] (L25_18).1 := w_plain (by kernel_rfl) (L25_18).2
noncomputable def L25_19 : Lt r25_19 := by refine ⟨?l, ?h⟩; case h => simp only [r25_19, c25, bodyOf, Tryd.f25, Code.sub, opsOf, List.map_cons, List.map_nil, strip]; rfl
theorem w25_19 : Wp r25_19 67 [67, 67, 78, 78, 90, 90, 90] [] [90] [66] [some 91, some 90] (L25_19).1 := w_plain (by kernel_rfl) (L25_19).2
noncomputable def L25_20 : Lt r25_20 := by refine ⟨?l, ?h⟩; case h => simp only [r25_20, c25, bodyOf, Tryd.f25, Code.sub, opsOf, List.map_cons, List.map_nil, strip]; rfl
theorem w25_20 : Wp r25_20 67 [67, 67, 78, 78, 90, 90, 90] [] [90] [66] [some 92, some 90] (L25_20).1 := w_plain (by kernel_rfl) (L25_20).2
noncomputable def L25_21 : Lt r25_21 := by refine ⟨?l, ?h⟩; case h => simp only [r25_21, c25, bodyOf, Tryd.f25, Code.sub, opsOf, List.map_cons, List.map_nil, strip]; rfl
theorem w25_21 : Wp r25_21 67 [67, 67, 78, 78, 90, 90, 90] [] [90] [66] [some 93, some 90] (L25_21).1 := w_plain (by kernel_rfl) (L25_21).2
noncomputable def L25_22 : Lt r25_22 := by refine ⟨?l, ?h⟩; case h => simp only [r25_22, c25, bodyOf, Tryd.f25, Code.sub, opsOf, List.map_cons, List.map_nil, strip]; rfl
theorem w25_22 : Wp r25_22 67 [67, 67, 78, 78, 90, 90, 90] [4] [] [2] [some 94, some 95, some 96, some 97, some 98, some 99, some 100, some 101, some 4] (L25_22).1 := w_plain (by kernel_rfl) (L25_22).2
noncomputable def L25_23 : Lt r25_23 := by refine ⟨?l, ?h⟩; case h => simp only [r25_23, c25, bodyOf, Tryd.f25, Code.sub, opsOf, List.map_cons, List.map_nil, strip]; rfl
theorem w25_23 : Wp r25_23 67 [67, 67, 78, 78, 90, 90, 90] [4] [] [] [some 4] (L25_23).1 := w_plain (by kernel_rfl) (L25_23).2
theorem k25 : FnIs TT 25 c25 [.tmp 4] 2 := ⟨Tryd.f25, by kernel_rfl, by simp only [Tryd.f25, c25, bodyOf], by kernel_rfl, of_decide_eq_true (by kernel_rfl)⟩

/- machine.right -/
noncomputable def c32 : Code := bodyOf Tryd.f32
noncomputable def r32_0 : Code := Code.sub [0] c32
noncomputable def r32_1 : Code := Code.sub [1, 0, 0] c32
noncomputable def r32_2 : Code := Code.sub [1, 0, 1, 0, 0] c32
noncomputable def r32_3 : Code := Code.sub [1, 1, 0, 0] c32
noncomputable def r32_4 : Code := Code.sub [1, 1, 0, 1, 0, 0, 0] c32
noncomputable def r32_5 : Code := Code.sub [1, 1, 0, 1, 0, 0, 1, 1, 0, 0, 0] c32
noncomputable def r32_6 : Code := Code.sub [1, 1, 0, 1, 0, 0, 1, 1, 0, 0, 1, 0] c32
noncomputable def r32_7 : Code := Code.sub [1, 1, 0, 1, 0, 0, 1, 1, 0, 0, 1, 1, 0, 0] c32
noncomputable def r32_8 : Code := Code.sub [1, 1, 0, 1, 0, 0, 1, 1, 1] c32
noncomputable def r32_9 : Code := Code.sub [1, 1, 1, 0] c32
theorem body32 : c32 = (.seq r32_0 (.seq (.seq r32_1 (.cond (.tmp 19) (.seq r32_2 .ret) .skip)) (.seq (.seq r32_3 (.block 0 (.loop (.seq r32_4 (.seq (.cond (.tmp 29) .skip (.exit 0)) (.seq (.block 1 (.seq r32_5 (.seq r32_6 (.cond (.tmp 49) (.seq r32_7 .ret) .skip)))) r32_8)))))) (.seq r32_9 .ret)))) := by kernel_rfl
noncomputable def L32_0 : Lt r32_0 := by refine ⟨?l, ?h⟩; case h => simp only [r32_0, c32, bodyOf, Tryd.f32, Code.sub, opsOf, List.map_cons, List.map_nil, strip]; rfl
theorem w32_0 : Wp r32_0 29 [29, 49] [2, 4] [] [0] [some 2, some 4] (L32_0).1 := w_plain (by kernel_rfl) (L32_0).2
noncomputable def L32_1 : Lt r32_1 := by refine ⟨?l, ?h⟩; case h => simp only [r32_1, c32, bodyOf, Tryd.f32, Code.sub, opsOf, List.map_cons, List.map_nil, strip]; rfl
theorem w32_1 : Wp r32_1 29 [29, 49] [7, 8, 9, 10, 11, 12, 13, 14, 15, 16, 17, 18, 19] [] [2, 1] [some 7, some 8, some 9, some 10, some 11, some 12, some 13, some 14, some 15, some 16, some 17, some 18, some 19] (L32_1).1 := w_plain (by kernel_rfl) (L32_1).2
noncomputable def L32_2 : Lt r32_2 := by refine ⟨?l, ?h⟩; case h => simp only [r32_2, c32, bodyOf, Tryd.f32, Code.sub, opsOf, List.map_cons, List.map_nil, strip]; rfl
theorem w32_2 : Wp r32_2 29 [29, 49] [4] [] [] [some 4] (L32_2).1 := w_plain (by kernel_rfl) (L32_2).2
noncomputable def L32_3 : Lt r32_3 := by refine ⟨?l, ?h⟩; case h => simp only [r32_3, c32, bodyOf, Tryd.f32, Code.sub, opsOf, List.map_cons, List.map_nil, strip]; rfl
theorem w32_3 : Wp r32_3 29 [29, 49] [20, 21, 22, 23, 24, 25, 26, 27, 28] [] [2] [some 20, some 21, some 22, some 23, some 24, some 25, some 26, some 27, some 28] (L32_3).1 := w_plain (by kernel_rfl) (L32_3).2
noncomputable def L32_4 : Lt r32_4 := by refine ⟨?l, ?h⟩; case h => simp only [r32_4, c32, bodyOf, Tryd.f32, Code.sub, opsOf, List.map_cons, List.map_nil, strip]; rfl
theorem w32_4 : Wp r32_4 29 [29, 49] [] [29] [28, 27] [some 29] (L32_4).1 := w_plain (by kernel_rfl) (L32_4).2
noncomputable def L32_5 : Lt r32_5 := by refine ⟨?l, ?h⟩; case h => simp only [r32_5, c32, bodyOf, Tryd.f32, Code.sub, opsOf, List.map_cons, List.map_nil, strip]; rfl
theorem w32_5 : Wp r32_5 29 [29, 49] [5, 6] [] [26, 28] [some 30, some 31, some 32, some 5, some 6] (L32_5).1 := w_plain (by kernel_rfl) (L32_5).2
noncomputable def L32_6 : Lt r32_6 := by refine ⟨?l, ?h⟩; case h => simp only [r32_6, c32, bodyOf, Tryd.f32, Code.sub, opsOf, List.map_cons, List.map_nil, strip]; rfl
theorem w32_6 : Wp r32_6 29 [29, 49] [] [49] [5, 2, 6] [some 33, some 34, some 35, some 36, some 37, some 38, some 39, some 40, some 41, some 42, some 43, some 44, some 45, some 46, some 47, some 48, some 49] (L32_6).1 := w_plain (by kernel_rfl) (L32_6).2
noncomputable def L32_7 : Lt r32_7 := by refine ⟨?l, ?h⟩; case h => simp only [r32_7, c32, bodyOf, Tryd.f32, Code.sub, opsOf, List.map_cons, List.map_nil, strip]; rfl
theorem w32_7 : Wp r32_7 29 [29, 49] [4] [] [] [some 4] (L32_7).1 := w_plain (by kernel_rfl) (L32_7).2
noncomputable def L32_8 : Lt r32_8 := by refine ⟨?l, ?h⟩; case h => simp only [r32_8, c32, bodyOf, Tryd.f32, Code.sub, opsOf, List.map_cons, List.map_nil, strip]; rfl
theorem w32_8 : Wp r32_8 29 [29, 49] [28] [] [28] [some 50, some 28] (L32_8).1 := w_plain (by kernel_rfl) (L32_8).2
noncomputable def L32_9 : Lt r32_9 := by refine ⟨?l, ?h⟩; case h => simp only [r32_9, c32, bodyOf, Tryd.f32, Code.sub, opsOf, List.map_cons, List.map_nil, strip]; rfl
theorem w32_9 : Wp r32_9 29 [29, 49] [4] [] [] [some 4] (L32_9).1 := w_plain (by kernel_rfl) (L32_9).2
theorem k32 : FnIs TT 32 c32 [.tmp 4] 2 := ⟨Tryd.f32, by kernel_rfl, by simp only [Tryd.f32, c32, bodyOf], by kernel_rfl, of_decide_eq_true (by kernel_rfl)⟩

/- turnstoneref25.shape -/
noncomputable def c41 : Code := bodyOf Tryd.f41
noncomputable def r41_0 : Code := Code.sub [0] c41
noncomputable def r41_1 : Code := Code.sub [1, 0, 0] c41
noncomputable def r41_2 : Code := Code.sub [1, 0, 1, 0, 0, 0] c41
noncomputable def r41_3 : Code := Code.sub [1, 0, 1, 0, 0, 1, 1, 0] c41
noncomputable def r41_4 : Code := Code.sub [1, 0, 1, 0, 0, 1, 1, 1, 1, 0] c41
noncomputable def r41_5 : Code := Code.sub [1, 0, 1, 0, 0, 1, 1, 1, 1, 1, 1, 0] c41
noncomputable def r41_6 : Code := Code.sub [1, 0, 1, 0, 0, 1, 1, 1, 1, 1, 1, 1, 1] c41
noncomputable def r41_7 : Code := Code.sub [1, 0, 1, 0, 1, 0, 0] c41
noncomputable def r41_8 : Code := Code.sub [1, 0, 1, 0, 1, 1, 0, 0] c41
noncomputable def r41_9 : Code := Code.sub [1, 0, 1, 0, 1, 1, 0, 1, 1, 0] c41
noncomputable def r41_10 : Code := Code.sub [1, 0, 1, 0, 1, 1, 0, 1, 1, 1, 1, 0] c41
noncomputable def r41_11 : Code := Code.sub [1, 0, 1, 0, 1, 1, 0, 1, 1, 1, 1, 1, 1, 0] c41
noncomputable def r41_12 : Code := Code.sub [1, 0, 1, 0, 1, 1, 0, 1, 1, 1, 1, 1, 1, 1, 1] c41
noncomputable def r41_13 : Code := Code.sub [1, 0, 1, 0, 1, 1, 1, 0, 0] c41
noncomputable def r41_14 : Code := Code.sub [1, 0, 1, 0, 1, 1, 1, 1, 0, 0] c41
noncomputable def r41_15 : Code := Code.sub [1, 0, 1, 0, 1, 1, 1, 1, 0, 1, 1] c41
noncomputable def r41_16 : Code := Code.sub [1, 0, 1, 0, 1, 1, 1, 1, 1, 0, 0] c41
noncomputable def r41_17 : Code := Code.sub [1, 0, 1, 0, 1, 1, 1, 1, 1, 1, 0, 0] c41
noncomputable def r41_18 : Code := Code.sub [1, 0, 1, 0, 1, 1, 1, 1, 1, 1, 0, 1, 1, 0] c41
noncomputable def r41_19 : Code := Code.sub [1, 0, 1, 0, 1, 1, 1, 1, 1, 1, 0, 1, 1, 1, 1] c41
noncomputable def r41_20 : Code := Code.sub [1, 0, 1, 0, 1, 1, 1, 1, 1, 1, 1, 0, 0] c41
noncomputable def r41_21 : Code := Code.sub [1, 1, 0] c41
theorem body41 : c41 = (.seq r41_0 (.seq (.seq r41_1 (.block 0 (.seq (.seq r41_2 (.cond (.tmp 5) .skip (.seq r41_3 (.cond (.tmp 5) .skip (.seq r41_4 (.cond (.tmp 5) .skip (.seq r41_5 (.cond (.tmp 5) .skip r41_6)))))))) (.cond (.tmp 5) (.seq r41_7 .ret) (.seq (.seq r41_8 (.cond (.tmp 11) .skip (.seq r41_9 (.cond (.tmp 11) .skip (.seq r41_10 (.cond (.tmp 11) .skip (.seq r41_11 (.cond (.tmp 11) .skip r41_12)))))))) (.cond (.tmp 11) (.seq r41_13 .ret) (.seq (.seq r41_14 (.cond (.tmp 17) .skip r41_15)) (.cond (.tmp 17) (.seq r41_16 .ret) (.seq (.seq r41_17 (.cond (.tmp 20) .skip (.seq r41_18 (.cond (.tmp 20) .skip r41_19)))) (.cond (.tmp 20) (.seq r41_20 .ret) .skip)))))))))) (.seq r41_21 .ret))) := by kernel_rfl
noncomputable def L41_0 : Lt r41_0 := by refine ⟨?l, ?h⟩; case h => simp only [r41_0, c41, bodyOf, Tryd.f41, Code.sub, opsOf, List.map_cons, List.map_nil, strip]; rfl
theorem w41_0 : Wp r41_0 5 [5, 5, 5, 5, 5, 11, 11, 11, 11, 11, 17, 17, 20, 20, 20] [2, 3] [] [] [some 2, some 3] (L41_0).1 := w_plain (by kernel_rfl) (L41_0).2
noncomputable def L41_1 : Lt r41_1 := by refine ⟨?l, ?h⟩; case h => simp only [r41_1, c41, bodyOf, Tryd.f41, Code.sub, opsOf, List.map_cons, List.map_nil, strip]; rfl
theorem w41_1 : Wp r41_1 5 [5, 5, 5, 5, 5, 11, 11, 11, 11, 11, 17, 17, 20, 20, 20] [4] [] [0] [some 4] (L41_1).1 := w_plain (by kernel_rfl) (L41_1).2
noncomputable def L41_2 : Lt r41_2 := by refine ⟨?l, ?h⟩; case h => simp only [r41_2, c41, bodyOf, Tryd.f41, Code.sub, opsOf, List.map_cons, List.map_nil, strip]; rfl
theorem w41_2 : Wp r41_2 5 [5, 5, 5, 5, 5, 11, 11, 11, 11, 11, 17, 17, 20, 20, 20] [] [5] [4] [some 6, some 5] (L41_2).1 := w_plain (by kernel_rfl) (L41_2).2
noncomputable def L41_3 : Lt r41_3 := by refine ⟨?l, ?h⟩; case h => simp only [r41_3, c41, bodyOf, Tryd.f41, Code.sub, opsOf, List.map_cons, List.map_nil, strip]; rfl
theorem w41_3 : Wp r41_3 5 [5, 5, 5, 5, 5, 11, 11, 11, 11, 11, 17, 17, 20, 20, 20] [] [5] [4] [some 7, some 5] (L41_3).1 := w_plain (by kernel_rfl) (L41_3).2
noncomputable def L41_4 : Lt r41_4 := by refine ⟨?l, ?h⟩; case h => simp only [r41_4, c41, bodyOf, Tryd.f41, Code.sub, opsOf, List.map_cons, List.map_nil, strip]; rfl
theorem w41_4 : Wp r41_4 5 [5, 5, 5, 5, 5, 11, 11, 11, 11, 11, 17, 17, 20, 20, 20] [] [5] [4] [some 8, some 5] (L41_4).1 := w_plain (by kernel_rfl) (L41_4).2
noncomputable def L41_5 : Lt r41_5 := by refine ⟨?l, ?h⟩; case h => simp only [r41_5, c41, bodyOf, Tryd.f41, Code.sub, opsOf, List.map_cons, List.map_nil, strip]; rfl
theorem w41_5 : Wp r41_5 5 [5, 5, 5, 5, 5, 11, 11, 11, 11, 11, 17, 17, 20, 20, 20] [] [5] [4] [some 9, some 5] (L41_5).1 := w_plain (by kernel_rfl) (L41_5).2
noncomputable def L41_6 : Lt r41_6 := by refine ⟨?l, ?h⟩; case h => simp only [r41_6, c41, bodyOf, Tryd.f41, Code.sub, opsOf, List.map_cons, List.map_nil, strip]; rfl
theorem w41_6 : Wp r41_6 5 [5, 5, 5, 5, 5, 11, 11, 11, 11, 11, 17, 17, 20, 20, 20] [] [5] [4] [some 10, some 5] (L41_6).1 := w_plain (by kernel_rfl) (L41_6).2
noncomputable def L41_7 : Lt r41_7 := by refine ⟨?l, ?h⟩; case h => simp only [r41_7, c41, bodyOf, Tryd.f41, Code.sub, opsOf, List.map_cons, List.map_nil, strip]; rfl
theorem w41_7 : Wp r41_7 5 [5, 5, 5, 5, 5, 11, 11, 11, 11, 11, 17, 17, 20, 20, 20] [2, 3] [] [] [some 2, some 3] (L41_7).1 := w_plain (by kernel_rfl) (L41_7).2
noncomputable def L41_8 : Lt r41_8 := by refine ⟨?l, ?h⟩; case h => simp only [r41_8, c41, bodyOf, Tryd.f41, Code.sub, opsOf, List.map_cons, List.map_nil, strip]; rfl
theorem w41_8 : Wp r41_8 5 [5, 5, 5, 5, 5, 11, 11, 11, 11, 11, 17, 17, 20, 20, 20] [] [11] [4] [some 12, some 11] (L41_8).1 := w_plain (by kernel_rfl) (L41_8).2
noncomputable def L41_9 : Lt r41_9 := by refine ⟨?l, ?h⟩; case h => simp only [r41_9, c41, bodyOf, Tryd.f41, Code.sub, opsOf, List.map_cons, List.map_nil, strip]; rfl
theorem w41_9 : Wp r41_9 5 [5, 5, 5, 5, 5, 11, 11, 11, 11, 11, 17, 17, 20, 20, 20] [] [11] [4] [some 13, some 11] (L41_9).1 := w_plain (by kernel_rfl) (L41_9).2
noncomputable def L41_10 : Lt r41_10 := by refine ⟨?l, ?h⟩; case h => simp only [r41_10, c41, bodyOf, Tryd.f41, Code.sub, opsOf, List.map_cons, List.map_nil, strip]; rfl
theorem w41_10 : Wp r41_10 5 [5, 5, 5, 5, 5, 11, 11, 11, 11, 11, 17, 17, 20, 20, 20] [] [11] [4] [some 14, some 11] (L41_10).1 := w_plain (by kernel_rfl) (L41_10).2
noncomputable def L41_11 : Lt r41_11 := by refine ⟨?l, ?h⟩; case h => simp only [r41_11, c41, bodyOf, Tryd.f41, Code.sub, opsOf, List.map_cons, List.map_nil, strip]; rfl
theorem w41_11 : Wp r41_11 5 [5, 5, 5, 5, 5, 11, 11, 11, 11, 11, 17, 17, 20, 20, 20] [] [11] [4] [some 15, some 11] (L41_11).1 := w_plain (by kernel_rfl) (L41_11).2
noncomputable def L41_12 : Lt r41_12 := by refine ⟨?l, ?h⟩; case h => simp only [r41_12, c41, bodyOf, Tryd.f41, Code.sub, opsOf, List.map_cons, List.map_nil, strip]; rfl
theorem w41_12 : Wp r41_12 5 [5, 5, 5, 5, 5, 11, 11, 11, 11, 11, 17, 17, 20, 20, 20] [] [11] [4] [some 16, some 11] (L41_12).1 := w_plain (by kernel_rfl) (L41_12).2
noncomputable def L41_13 : Lt r41_13 := by refine ⟨?l, ?h⟩; case h => simp only [r41_13, c41, bodyOf, Tryd.f41, Code.sub, opsOf, List.map_cons, List.map_nil, strip]; rfl
theorem w41_13 : Wp r41_13 5 [5, 5, 5, 5, 5, 11, 11, 11, 11, 11, 17, 17, 20, 20, 20] [2, 3] [] [] [some 2, some 3] (L41_13).1 := w_plain (by kernel_rfl) (L41_13).2
noncomputable def L41_14 : Lt r41_14 := by refine ⟨?l, ?h⟩; case h => simp only [r41_14, c41, bodyOf, Tryd.f41, Code.sub, opsOf, List.map_cons, List.map_nil, strip]; rfl
theorem w41_14 : Wp r41_14 5 [5, 5, 5, 5, 5, 11, 11, 11, 11, 11, 17, 17, 20, 20, 20] [] [17] [4] [some 18, some 17] (L41_14).1 := w_plain (by kernel_rfl) (L41_14).2
noncomputable def L41_15 : Lt r41_15 := by refine ⟨?l, ?h⟩; case h => simp only [r41_15, c41, bodyOf, Tryd.f41, Code.sub, opsOf, List.map_cons, List.map_nil, strip]; rfl
theorem w41_15 : Wp r41_15 5 [5, 5, 5, 5, 5, 11, 11, 11, 11, 11, 17, 17, 20, 20, 20] [] [17] [4] [some 19, some 17] (L41_15).1 := w_plain (by kernel_rfl) (L41_15).2
noncomputable def L41_16 : Lt r41_16 := by refine ⟨?l, ?h⟩; case h => simp only [r41_16, c41, bodyOf, Tryd.f41, Code.sub, opsOf, List.map_cons, List.map_nil, strip]; rfl
theorem w41_16 : Wp r41_16 5 [5, 5, 5, 5, 5, 11, 11, 11, 11, 11, 17, 17, 20, 20, 20] [2, 3] [] [] [some 2, some 3] (L41_16).1 := w_plain (by kernel_rfl) (L41_16).2
noncomputable def L41_17 : Lt r41_17 := by refine ⟨?l, ?h⟩; case h => simp only [r41_17, c41, bodyOf, Tryd.f41, Code.sub, opsOf, List.map_cons, List.map_nil, strip]; rfl
theorem w41_17 : Wp r41_17 5 [5, 5, 5, 5, 5, 11, 11, 11, 11, 11, 17, 17, 20, 20, 20] [] [20] [4] [some 21, some 20] (L41_17).1 := w_plain (by kernel_rfl) (L41_17).2
noncomputable def L41_18 : Lt r41_18 := by refine ⟨?l, ?h⟩; case h => simp only [r41_18, c41, bodyOf, Tryd.f41, Code.sub, opsOf, List.map_cons, List.map_nil, strip]; rfl
theorem w41_18 : Wp r41_18 5 [5, 5, 5, 5, 5, 11, 11, 11, 11, 11, 17, 17, 20, 20, 20] [] [20] [4] [some 22, some 20] (L41_18).1 := w_plain (by kernel_rfl) (L41_18).2
noncomputable def L41_19 : Lt r41_19 := by refine ⟨?l, ?h⟩; case h => simp only [r41_19, c41, bodyOf, Tryd.f41, Code.sub, opsOf, List.map_cons, List.map_nil, strip]; rfl
theorem w41_19 : Wp r41_19 5 [5, 5, 5, 5, 5, 11, 11, 11, 11, 11, 17, 17, 20, 20, 20] [] [20] [4] [some 23, some 20] (L41_19).1 := w_plain (by kernel_rfl) (L41_19).2
noncomputable def L41_20 : Lt r41_20 := by refine ⟨?l, ?h⟩; case h => simp only [r41_20, c41, bodyOf, Tryd.f41, Code.sub, opsOf, List.map_cons, List.map_nil, strip]; rfl
theorem w41_20 : Wp r41_20 5 [5, 5, 5, 5, 5, 11, 11, 11, 11, 11, 17, 17, 20, 20, 20] [2, 3] [] [] [some 2, some 3] (L41_20).1 := w_plain (by kernel_rfl) (L41_20).2
noncomputable def L41_21 : Lt r41_21 := by refine ⟨?l, ?h⟩; case h => simp only [r41_21, c41, bodyOf, Tryd.f41, Code.sub, opsOf, List.map_cons, List.map_nil, strip]; rfl
theorem w41_21 : Wp r41_21 5 [5, 5, 5, 5, 5, 11, 11, 11, 11, 11, 17, 17, 20, 20, 20] [2, 3] [] [] [some 2, some 3] (L41_21).1 := w_plain (by kernel_rfl) (L41_21).2
theorem k41 : FnIs TT 41 c41 [.tmp 2, .tmp 3] 1 := ⟨Tryd.f41, by kernel_rfl, by simp only [Tryd.f41, c41, bodyOf], by kernel_rfl, of_decide_eq_true (by kernel_rfl)⟩

/- machine.number -/
noncomputable def c42 : Code := bodyOf Tryd.f42
noncomputable def r42_0 : Code := Code.sub [0] c42
noncomputable def r42_1 : Code := Code.sub [1, 0, 0] c42
noncomputable def r42_2 : Code := Code.sub [1, 0, 1, 0, 0, 0] c42
noncomputable def r42_3 : Code := Code.sub [1, 0, 1, 0, 0, 1, 1, 0] c42
noncomputable def r42_4 : Code := Code.sub [1, 0, 1, 0, 0, 1, 1, 1, 1] c42
noncomputable def r42_5 : Code := Code.sub [1, 0, 1, 0, 1, 0, 0] c42
noncomputable def r42_6 : Code := Code.sub [1, 0, 1, 0, 1, 1, 0, 0] c42
noncomputable def r42_7 : Code := Code.sub [1, 0, 1, 0, 1, 1, 0, 1, 1] c42
noncomputable def r42_8 : Code := Code.sub [1, 0, 1, 0, 1, 1, 1, 0, 0] c42
noncomputable def r42_9 : Code := Code.sub [1, 0, 1, 0, 1, 1, 1, 1, 0, 0] c42
noncomputable def r42_10 : Code := Code.sub [1, 0, 1, 0, 1, 1, 1, 1, 0, 1, 1] c42
noncomputable def r42_11 : Code := Code.sub [1, 0, 1, 0, 1, 1, 1, 1, 1, 0, 0] c42
noncomputable def r42_12 : Code := Code.sub [1, 0, 1, 0, 1, 1, 1, 1, 1, 1, 0, 0] c42
noncomputable def r42_13 : Code := Code.sub [1, 0, 1, 0, 1, 1, 1, 1, 1, 1, 0, 1, 1, 0] c42
noncomputable def r42_14 : Code := Code.sub [1, 0, 1, 0, 1, 1, 1, 1, 1, 1, 0, 1, 1, 1, 1] c42
noncomputable def r42_15 : Code := Code.sub [1, 0, 1, 0, 1, 1, 1, 1, 1, 1, 1, 0, 0] c42
noncomputable def r42_16 : Code := Code.sub [1, 1, 0] c42
theorem body42 : c42 = (.seq r42_0 (.seq (.seq r42_1 (.block 0 (.seq (.seq r42_2 (.cond (.tmp 8) .skip (.seq r42_3 (.cond (.tmp 8) .skip r42_4)))) (.cond (.tmp 8) (.seq r42_5 .ret) (.seq (.seq r42_6 (.cond (.tmp 12) .skip r42_7)) (.cond (.tmp 12) (.seq r42_8 .ret) (.seq (.seq r42_9 (.cond (.tmp 21) .skip r42_10)) (.cond (.tmp 21) (.seq r42_11 .ret) (.seq (.seq r42_12 (.cond (.tmp 31) .skip (.seq r42_13 (.cond (.tmp 31) .skip r42_14)))) (.cond (.tmp 31) (.seq r42_15 .ret) .skip)))))))))) (.seq r42_16 .ret))) := by kernel_rfl
noncomputable def L42_0 : Lt r42_0 := by refine ⟨?l, ?h⟩; case h => simp only [r42_0, c42, bodyOf, Tryd.f42, Code.sub, opsOf, List.map_cons, List.map_nil, strip]; rfl
theorem w42_0 : Wp r42_0 8 [8, 8, 8, 12, 12, 21, 21, 31, 31, 31] [6] [] [] [some 6] (L42_0).1 := w_plain (by kernel_rfl) (L42_0).2
noncomputable def L42_1 : Lt r42_1 := by refine ⟨?l, ?h⟩; case h => simp only [r42_1, c42, bodyOf, Tryd.f42, Code.sub, opsOf, List.map_cons, List.map_nil, strip]; rfl
theorem w42_1 : Wp r42_1 8 [8, 8, 8, 12, 12, 21, 21, 31, 31, 31] [7] [] [0] [some 7] (L42_1).1 := w_plain (by kernel_rfl) (L42_1).2
noncomputable def L42_2 : Lt r42_2 := by refine ⟨?l, ?h⟩; case h => simp only [r42_2, c42, bodyOf, Tryd.f42, Code.sub, opsOf, List.map_cons, List.map_nil, strip]; rfl
theorem w42_2 : Wp r42_2 8 [8, 8, 8, 12, 12, 21, 21, 31, 31, 31] [] [8] [7] [some 9, some 8] (L42_2).1 := w_plain (by kernel_rfl) (L42_2).2
noncomputable def L42_3 : Lt r42_3 := by refine ⟨?l, ?h⟩; case h => simp only [r42_3, c42, bodyOf, Tryd.f42, Code.sub, opsOf, List.map_cons, List.map_nil, strip]; rfl
theorem w42_3 : Wp r42_3 8 [8, 8, 8, 12, 12, 21, 21, 31, 31, 31] [] [8] [7] [some 10, some 8] (L42_3).1 := w_plain (by kernel_rfl) (L42_3).2
noncomputable def L42_4 : Lt r42_4 := by refine ⟨?l, ?h⟩; case h => simp only [r42_4, c42, bodyOf, Tryd.f42, Code.sub, opsOf, List.map_cons, List.map_nil, strip]; rfl
theorem w42_4 : Wp r42_4 8 [8, 8, 8, 12, 12, 21, 21, 31, 31, 31] [] [8] [7] [some 11, some 8] (L42_4).1 := w_plain (by kernel_rfl) (L42_4).2
noncomputable def L42_5 : Lt r42_5 := by refine ⟨?l, ?h⟩; case h => simp only [r42_5, c42, bodyOf, Tryd.f42, Code.sub, opsOf, List.map_cons, List.map_nil, strip]; rfl
theorem w42_5 : Wp r42_5 8 [8, 8, 8, 12, 12, 21, 21, 31, 31, 31] [6] [] [] [some 6] (L42_5).1 := w_plain (by kernel_rfl) (L42_5).2
noncomputable def L42_6 : Lt r42_6 := by refine ⟨?l, ?h⟩; case h => simp only [r42_6, c42, bodyOf, Tryd.f42, Code.sub, opsOf, List.map_cons, List.map_nil, strip]; rfl
theorem w42_6 : Wp r42_6 8 [8, 8, 8, 12, 12, 21, 21, 31, 31, 31] [] [12] [7] [some 13, some 12] (L42_6).1 := w_plain (by kernel_rfl) (L42_6).2
noncomputable def L42_7 : Lt r42_7 := by refine ⟨?l, ?h⟩; case h => simp only [r42_7, c42, bodyOf, Tryd.f42, Code.sub, opsOf, List.map_cons, List.map_nil, strip]; rfl
theorem w42_7 : Wp r42_7 8 [8, 8, 8, 12, 12, 21, 21, 31, 31, 31] [] [12] [7] [some 14, some 12] (L42_7).1 := w_plain (by kernel_rfl) (L42_7).2
noncomputable def L42_8 : Lt r42_8 := by refine ⟨?l, ?h⟩; case h => simp only [r42_8, c42, bodyOf, Tryd.f42, Code.sub, opsOf, List.map_cons, List.map_nil, strip]; rfl
theorem w42_8 : Wp r42_8 8 [8, 8, 8, 12, 12, 21, 21, 31, 31, 31] [6] [] [1] [some 15, some 16, some 17, some 18, some 19, some 20, some 6] (L42_8).1 := w_plain (by kernel_rfl) (L42_8).2
noncomputable def L42_9 : Lt r42_9 := by refine ⟨?l, ?h⟩; case h => simp only [r42_9, c42, bodyOf, Tryd.f42, Code.sub, opsOf, List.map_cons, List.map_nil, strip]; rfl
theorem w42_9 : Wp r42_9 8 [8, 8, 8, 12, 12, 21, 21, 31, 31, 31] [] [21] [7] [some 22, some 21] (L42_9).1 := w_plain (by kernel_rfl) (L42_9).2
noncomputable def L42_10 : Lt r42_10 := by refine ⟨?l, ?h⟩; case h => simp only [r42_10, c42, bodyOf, Tryd.f42, Code.sub, opsOf, List.map_cons, List.map_nil, strip]; rfl
theorem w42_10 : Wp r42_10 8 [8, 8, 8, 12, 12, 21, 21, 31, 31, 31] [] [21] [7] [some 23, some 21] (L42_10).1 := w_plain (by kernel_rfl) (L42_10).2
noncomputable def L42_11 : Lt r42_11 := by refine ⟨?l, ?h⟩; case h => simp only [r42_11, c42, bodyOf, Tryd.f42, Code.sub, opsOf, List.map_cons, List.map_nil, strip]; rfl
theorem w42_11 : Wp r42_11 8 [8, 8, 8, 12, 12, 21, 21, 31, 31, 31] [6] [] [1, 2] [some 24, some 25, some 26, some 27, some 28, some 29, some 30, some 6] (L42_11).1 := w_plain (by kernel_rfl) (L42_11).2
noncomputable def L42_12 : Lt r42_12 := by refine ⟨?l, ?h⟩; case h => simp only [r42_12, c42, bodyOf, Tryd.f42, Code.sub, opsOf, List.map_cons, List.map_nil, strip]; rfl
theorem w42_12 : Wp r42_12 8 [8, 8, 8, 12, 12, 21, 21, 31, 31, 31] [] [31] [7] [some 32, some 31] (L42_12).1 := w_plain (by kernel_rfl) (L42_12).2
noncomputable def L42_13 : Lt r42_13 := by refine ⟨?l, ?h⟩; case h => simp only [r42_13, c42, bodyOf, Tryd.f42, Code.sub, opsOf, List.map_cons, List.map_nil, strip]; rfl
theorem w42_13 : Wp r42_13 8 [8, 8, 8, 12, 12, 21, 21, 31, 31, 31] [] [31] [7] [some 33, some 31] (L42_13).1 := w_plain (by kernel_rfl) (L42_13).2
noncomputable def L42_14 : Lt r42_14 := by refine ⟨?l, ?h⟩; case h => simp only [r42_14, c42, bodyOf, Tryd.f42, Code.sub, opsOf, List.map_cons, List.map_nil, strip]; rfl
theorem w42_14 : Wp r42_14 8 [8, 8, 8, 12, 12, 21, 21, 31, 31, 31] [] [31] [7] [some 34, some 31] (L42_14).1 := w_plain (by kernel_rfl) (L42_14).2
noncomputable def L42_15 : Lt r42_15 := by refine ⟨?l, ?h⟩; case h => simp only [r42_15, c42, bodyOf, Tryd.f42, Code.sub, opsOf, List.map_cons, List.map_nil, strip]; rfl
theorem w42_15 : Wp r42_15 8 [8, 8, 8, 12, 12, 21, 21, 31, 31, 31] [6] [] [1] [some 35, some 36, some 37, some 38, some 39, some 40, some 6] (L42_15).1 := w_plain (by kernel_rfl) (L42_15).2
noncomputable def L42_16 : Lt r42_16 := by refine ⟨?l, ?h⟩; case h => simp only [r42_16, c42, bodyOf, Tryd.f42, Code.sub, opsOf, List.map_cons, List.map_nil, strip]; rfl
theorem w42_16 : Wp r42_16 8 [8, 8, 8, 12, 12, 21, 21, 31, 31, 31] [6] [] [1] [some 41, some 42, some 6] (L42_16).1 := w_plain (by kernel_rfl) (L42_16).2
theorem k42 : FnIs TT 42 c42 [.tmp 6] 3 := ⟨Tryd.f42, by kernel_rfl, by simp only [Tryd.f42, c42, bodyOf], by kernel_rfl, of_decide_eq_true (by kernel_rfl)⟩

/- machine.regs -/
noncomputable def c43 : Code := bodyOf Tryd.f43
noncomputable def r43_0 : Code := Code.sub [0] c43
noncomputable def r43_1 : Code := Code.sub [1, 0, 0] c43
noncomputable def r43_2 : Code := Code.sub [1, 0, 1, 0, 0, 0] c43
noncomputable def r43_3 : Code := Code.sub [1, 0, 1, 0, 0, 1, 1, 0] c43
noncomputable def r43_4 : Code := Code.sub [1, 0, 1, 0, 0, 1, 1, 1, 1, 0] c43
noncomputable def r43_5 : Code := Code.sub [1, 0, 1, 0, 0, 1, 1, 1, 1, 1, 1, 0] c43
noncomputable def r43_6 : Code := Code.sub [1, 0, 1, 0, 0, 1, 1, 1, 1, 1, 1, 1, 1] c43
noncomputable def r43_7 : Code := Code.sub [1, 0, 1, 0, 1, 0, 0] c43
noncomputable def r43_8 : Code := Code.sub [1, 0, 1, 0, 1, 1, 0, 0] c43
noncomputable def r43_9 : Code := Code.sub [1, 0, 1, 0, 1, 1, 0, 1, 1, 0] c43
noncomputable def r43_10 : Code := Code.sub [1, 0, 1, 0, 1, 1, 0, 1, 1, 1, 1, 0] c43
noncomputable def r43_11 : Code := Code.sub [1, 0, 1, 0, 1, 1, 0, 1, 1, 1, 1, 1, 1, 0] c43
noncomputable def r43_12 : Code := Code.sub [1, 0, 1, 0, 1, 1, 0, 1, 1, 1, 1, 1, 1, 1, 1, 0] c43
noncomputable def r43_13 : Code := Code.sub [1, 0, 1, 0, 1, 1, 0, 1, 1, 1, 1, 1, 1, 1, 1, 1, 1, 0] c43
noncomputable def r43_14 : Code := Code.sub [1, 0, 1, 0, 1, 1, 0, 1, 1, 1, 1, 1, 1, 1, 1, 1, 1, 1, 1] c43
noncomputable def r43_15 : Code := Code.sub [1, 0, 1, 0, 1, 1, 1, 0, 0] c43
noncomputable def r43_16 : Code := Code.sub [1, 0, 1, 0, 1, 1, 1, 1, 0, 0] c43
noncomputable def r43_17 : Code := Code.sub [1, 0, 1, 0, 1, 1, 1, 1, 0, 1, 1, 0] c43
noncomputable def r43_18 : Code := Code.sub [1, 0, 1, 0, 1, 1, 1, 1, 0, 1, 1, 1, 1, 0] c43
noncomputable def r43_19 : Code := Code.sub [1, 0, 1, 0, 1, 1, 1, 1, 0, 1, 1, 1, 1, 1, 1, 0] c43
noncomputable def r43_20 : Code := Code.sub [1, 0, 1, 0, 1, 1, 1, 1, 0, 1, 1, 1, 1, 1, 1, 1, 1, 0] c43
noncomputable def r43_21 : Code := Code.sub [1, 0, 1, 0, 1, 1, 1, 1, 0, 1, 1, 1, 1, 1, 1, 1, 1, 1, 1, 0] c43
noncomputable def r43_22 : Code := Code.sub [1, 0, 1, 0, 1, 1, 1, 1, 0, 1, 1, 1, 1, 1, 1, 1, 1, 1, 1, 1, 1, 0] c43
noncomputable def r43_23 : Code := Code.sub [1, 0, 1, 0, 1, 1, 1, 1, 0, 1, 1, 1, 1, 1, 1, 1, 1, 1, 1, 1, 1, 1, 1, 0] c43
noncomputable def r43_24 : Code := Code.sub [1, 0, 1, 0, 1, 1, 1, 1, 0, 1, 1, 1, 1, 1, 1, 1, 1, 1, 1, 1, 1, 1, 1, 1, 1, 0] c43
noncomputable def r43_25 : Code := Code.sub [1, 0, 1, 0, 1, 1, 1, 1, 0, 1, 1, 1, 1, 1, 1, 1, 1, 1, 1, 1, 1, 1, 1, 1, 1, 1, 1, 0] c43
noncomputable def r43_26 : Code := Code.sub [1, 0, 1, 0, 1, 1, 1, 1, 0, 1, 1, 1, 1, 1, 1, 1, 1, 1, 1, 1, 1, 1, 1, 1, 1, 1, 1, 1, 1, 0] c43
noncomputable def r43_27 : Code := Code.sub [1, 0, 1, 0, 1, 1, 1, 1, 0, 1, 1, 1, 1, 1, 1, 1, 1, 1, 1, 1, 1, 1, 1, 1, 1, 1, 1, 1, 1, 1, 1] c43
noncomputable def r43_28 : Code := Code.sub [1, 0, 1, 0, 1, 1, 1, 1, 1, 0, 0] c43
noncomputable def r43_29 : Code := Code.sub [1, 1, 0] c43
theorem body43 : c43 = (.seq r43_0 (.seq (.seq r43_1 (.block 0 (.seq (.seq r43_2 (.cond (.tmp 4) .skip (.seq r43_3 (.cond (.tmp 4) .skip (.seq r43_4 (.cond (.tmp 4) .skip (.seq r43_5 (.cond (.tmp 4) .skip r43_6)))))))) (.cond (.tmp 4) (.seq r43_7 .ret) (.seq (.seq r43_8 (.cond (.tmp 10) .skip (.seq r43_9 (.cond (.tmp 10) .skip (.seq r43_10 (.cond (.tmp 10) .skip (.seq r43_11 (.cond (.tmp 10) .skip (.seq r43_12 (.cond (.tmp 10) .skip (.seq r43_13 (.cond (.tmp 10) .skip r43_14)))))))))))) (.cond (.tmp 10) (.seq r43_15 .ret) (.seq (.seq r43_16 (.cond (.tmp 18) .skip (.seq r43_17 (.cond (.tmp 18) .skip (.seq r43_18 (.cond (.tmp 18) .skip (.seq r43_19 (.cond (.tmp 18) .skip (.seq r43_20 (.cond (.tmp 18) .skip (.seq r43_21 (.cond (.tmp 18) .skip (.seq r43_22 (.cond (.tmp 18) .skip (.seq r43_23 (.cond (.tmp 18) .skip (.seq r43_24 (.cond (.tmp 18) .skip (.seq r43_25 (.cond (.tmp 18) .skip (.seq r43_26 (.cond (.tmp 18) .skip r43_27)))))))))))))))))))))) (.cond (.tmp 18) (.seq r43_28 .ret) .skip)))))))) (.seq r43_29 .ret))) := by kernel_rfl
noncomputable def L43_0 : Lt r43_0 := by refine ⟨?l, ?h⟩; case h => simp only [r43_0, c43, bodyOf, Tryd.f43, Code.sub, opsOf, List.map_cons, List.map_nil, strip]; rfl
theorem w43_0 : Wp r43_0 4 [4, 4, 4, 4, 4, 10, 10, 10, 10, 10, 10, 10, 18, 18, 18, 18, 18, 18, 18, 18, 18, 18, 18, 18] [2] [] [] [some 2] (L43_0).1 := w_plain (by kernel_rfl) (L43_0).2
noncomputable def L43_1 : Lt r43_1 := by refine ⟨?l, ?h⟩; case h => simp only [r43_1, c43, bodyOf, Tryd.f43, Code.sub, opsOf, List.map_cons, List.map_nil, strip]; rfl
theorem w43_1 : Wp r43_1 4 [4, 4, 4, 4, 4, 10, 10, 10, 10, 10, 10, 10, 18, 18, 18, 18, 18, 18, 18, 18, 18, 18, 18, 18] [3] [] [0] [some 3] (L43_1).1 := w_plain (by kernel_rfl) (L43_1).2
noncomputable def L43_2 : Lt r43_2 := by refine ⟨?l, ?h⟩; case h => simp only [r43_2, c43, bodyOf, Tryd.f43, Code.sub, opsOf, List.map_cons, List.map_nil, strip]; rfl
theorem w43_2 : Wp r43_2 4 [4, 4, 4, 4, 4, 10, 10, 10, 10, 10, 10, 10, 18, 18, 18, 18, 18, 18, 18, 18, 18, 18, 18, 18] [] [4] [3] [some 5, some 4] (L43_2).1 := w_plain (by kernel_rfl) (L43_2).2
noncomputable def L43_3 : Lt r43_3 := by refine ⟨?l, ?h⟩; case h => simp only [r43_3, c43, bodyOf, Tryd.f43, Code.sub, opsOf, List.map_cons, List.map_nil, strip]; rfl
theorem w43_3 : Wp r43_3 4 [4, 4, 4, 4, 4, 10, 10, 10, 10, 10, 10, 10, 18, 18, 18, 18, 18, 18, 18, 18, 18, 18, 18, 18] [] [4] [3] [some 6, some 4] (L43_3).1 := w_plain (by kernel_rfl) (L43_3).2
noncomputable def L43_4 : Lt r43_4 := by refine ⟨?l, ?h⟩; case h => simp only [r43_4, c43, bodyOf, Tryd.f43, Code.sub, opsOf, List.map_cons, List.map_nil, strip]; rfl
theorem w43_4 : Wp r43_4 4 [4, 4, 4, 4, 4, 10, 10, 10, 10, 10, 10, 10, 18, 18, 18, 18, 18, 18, 18, 18, 18, 18, 18, 18] [] [4] [3] [some 7, some 4] (L43_4).1 := w_plain (by kernel_rfl) (L43_4).2
noncomputable def L43_5 : Lt r43_5 := by refine ⟨?l, ?h⟩; case h => simp only [r43_5, c43, bodyOf, Tryd.f43, Code.sub, opsOf, List.map_cons, List.map_nil, strip]; rfl
theorem w43_5 : Wp r43_5 4 [4, 4, 4, 4, 4, 10, 10, 10, 10, 10, 10, 10, 18, 18, 18, 18, 18, 18, 18, 18, 18, 18, 18, 18] [] [4] [3] [some 8, some 4] (L43_5).1 := w_plain (by kernel_rfl) (L43_5).2
noncomputable def L43_6 : Lt r43_6 := by refine ⟨?l, ?h⟩; case h => simp only [r43_6, c43, bodyOf, Tryd.f43, Code.sub, opsOf, List.map_cons, List.map_nil, strip]; rfl
theorem w43_6 : Wp r43_6 4 [4, 4, 4, 4, 4, 10, 10, 10, 10, 10, 10, 10, 18, 18, 18, 18, 18, 18, 18, 18, 18, 18, 18, 18] [] [4] [3] [some 9, some 4] (L43_6).1 := w_plain (by kernel_rfl) (L43_6).2
noncomputable def L43_7 : Lt r43_7 := by refine ⟨?l, ?h⟩; case h => simp only [r43_7, c43, bodyOf, Tryd.f43, Code.sub, opsOf, List.map_cons, List.map_nil, strip]; rfl
theorem w43_7 : Wp r43_7 4 [4, 4, 4, 4, 4, 10, 10, 10, 10, 10, 10, 10, 18, 18, 18, 18, 18, 18, 18, 18, 18, 18, 18, 18] [2] [] [] [some 2] (L43_7).1 := w_plain (by kernel_rfl) (L43_7).2
noncomputable def L43_8 : Lt r43_8 := by refine ⟨?l, ?h⟩; case h => simp only [r43_8, c43, bodyOf, Tryd.f43, Code.sub, opsOf, List.map_cons, List.map_nil, strip]; rfl
theorem w43_8 : Wp r43_8 4 [4, 4, 4, 4, 4, 10, 10, 10, 10, 10, 10, 10, 18, 18, 18, 18, 18, 18, 18, 18, 18, 18, 18, 18] [] [10] [3] [some 11, some 10] (L43_8).1 := w_plain (by kernel_rfl) (L43_8).2
noncomputable def L43_9 : Lt r43_9 := by refine ⟨?l, ?h⟩; case h => simp only [r43_9, c43, bodyOf, Tryd.f43, Code.sub, opsOf, List.map_cons, List.map_nil, strip]; rfl
theorem w43_9 : Wp r43_9 4 [4, 4, 4, 4, 4, 10, 10, 10, 10, 10, 10, 10, 18, 18, 18, 18, 18, 18, 18, 18, 18, 18, 18, 18] [] [10] [3] [some 12, some 10] (L43_9).1 := w_plain (by kernel_rfl) (L43_9).2
noncomputable def L43_10 : Lt r43_10 := by refine ⟨?l, ?h⟩; case h => simp only [r43_10, c43, bodyOf, Tryd.f43, Code.sub, opsOf, List.map_cons, List.map_nil, strip]; rfl
theorem w43_10 : Wp r43_10 4 [4, 4, 4, 4, 4, 10, 10, 10, 10, 10, 10, 10, 18, 18, 18, 18, 18, 18, 18, 18, 18, 18, 18, 18] [] [10] [3] [some 13, some 10] (L43_10).1 := w_plain (by kernel_rfl) (L43_10).2
noncomputable def L43_11 : Lt r43_11 := by refine ⟨?l, ?h⟩; case h => simp only [r43_11, c43, bodyOf, Tryd.f43, Code.sub, opsOf, List.map_cons, List.map_nil, strip]; rfl
theorem w43_11 : Wp r43_11 4 [4, 4, 4, 4, 4, 10, 10, 10, 10, 10, 10, 10, 18, 18, 18, 18, 18, 18, 18, 18, 18, 18, 18, 18] [] [10] [3] [some 14, some 10] (L43_11).1 := w_plain (by kernel_rfl) (L43_11).2
noncomputable def L43_12 : Lt r43_12 := by refine ⟨?l, ?h⟩; case h => simp only [r43_12, c43, bodyOf, Tryd.f43, Code.sub, opsOf, List.map_cons, List.map_nil, strip]; rfl
theorem w43_12 : Wp r43_12 4 [4, 4, 4, 4, 4, 10, 10, 10, 10, 10, 10, 10, 18, 18, 18, 18, 18, 18, 18, 18, 18, 18, 18, 18] [] [10] [3] [some 15, some 10] (L43_12).1 := w_plain (by kernel_rfl) (L43_12).2
noncomputable def L43_13 : Lt r43_13 := by refine ⟨?l, ?h⟩; case h => simp only [r43_13, c43, bodyOf, Tryd.f43, Code.sub, opsOf, List.map_cons, List.map_nil, strip]; rfl
theorem w43_13 : Wp r43_13 4 [4, 4, 4, 4, 4, 10, 10, 10, 10, 10, 10, 10, 18, 18, 18, 18, 18, 18, 18, 18, 18, 18, 18, 18] [] [10] [3] [some 16, some 10] (L43_13).1 := w_plain (by kernel_rfl) (L43_13).2
noncomputable def L43_14 : Lt r43_14 := by refine ⟨?l, ?h⟩; case h => simp only [r43_14, c43, bodyOf, Tryd.f43, Code.sub, opsOf, List.map_cons, List.map_nil, strip]; rfl
theorem w43_14 : Wp r43_14 4 [4, 4, 4, 4, 4, 10, 10, 10, 10, 10, 10, 10, 18, 18, 18, 18, 18, 18, 18, 18, 18, 18, 18, 18] [] [10] [3] [some 17, some 10] (L43_14).1 := w_plain (by kernel_rfl) (L43_14).2
noncomputable def L43_15 : Lt r43_15 := by refine ⟨?l, ?h⟩; case h => simp only [r43_15, c43, bodyOf, Tryd.f43, Code.sub, opsOf, List.map_cons, List.map_nil, strip]; rfl
theorem w43_15 : Wp r43_15 4 [4, 4, 4, 4, 4, 10, 10, 10, 10, 10, 10, 10, 18, 18, 18, 18, 18, 18, 18, 18, 18, 18, 18, 18] [2] [] [] [some 2] (L43_15).1 := w_plain (by kernel_rfl) (L43_15).2
noncomputable def L43_16 : Lt r43_16 := by refine ⟨?l, ?h⟩; case h => simp only [r43_16, c43, bodyOf, Tryd.f43, Code.sub, opsOf, List.map_cons, List.map_nil, strip]; rfl
theorem w43_16 : Wp r43_16 4 [4, 4, 4, 4, 4, 10, 10, 10, 10, 10, 10, 10, 18, 18, 18, 18, 18, 18, 18, 18, 18, 18, 18, 18] [] [18] [3] [some 19, some 18] (L43_16).1 := w_plain (by kernel_rfl) (L43_16).2
noncomputable def L43_17 : Lt r43_17 := by refine ⟨?l, ?h⟩; case h => simp only [r43_17, c43, bodyOf, Tryd.f43, Code.sub, opsOf, List.map_cons, List.map_nil, strip]; rfl
theorem w43_17 : Wp r43_17 4 [4, 4, 4, 4, 4, 10, 10, 10, 10, 10, 10, 10, 18, 18, 18, 18, 18, 18, 18, 18, 18, 18, 18, 18] [] [18] [3] [some 20, some 18] (L43_17).1 := w_plain (by kernel_rfl) (L43_17).2
noncomputable def L43_18 : Lt r43_18 := by refine ⟨?l, ?h⟩; case h => simp only [r43_18, c43, bodyOf, Tryd.f43, Code.sub, opsOf, List.map_cons, List.map_nil, strip]; rfl
theorem w43_18 : Wp r43_18 4 [4, 4, 4, 4, 4, 10, 10, 10, 10, 10, 10, 10, 18, 18, 18, 18, 18, 18, 18, 18, 18, 18, 18, 18] [] [18] [3] [some 21, some 18] (L43_18).1 := w_plain (by kernel_rfl) (L43_18).2
noncomputable def L43_19 : Lt r43_19 := by refine ⟨?l, ?h⟩; case h => simp only [r43_19, c43, bodyOf, Tryd.f43, Code.sub, opsOf, List.map_cons, List.map_nil, strip]; rfl
theorem w43_19 : Wp r43_19 4 [4, 4, 4, 4, 4, 10, 10, 10, 10, 10, 10, 10, 18, 18, 18, 18, 18, 18, 18, 18, 18, 18, 18, 18] [] [18] [3] [some 22, some 18] (L43_19).1 := w_plain (by kernel_rfl) (L43_19).2
noncomputable def L43_20 : Lt r43_20 := by refine ⟨?l, ?h⟩; case h => simp only [r43_20, c43, bodyOf, Tryd.f43, Code.sub, opsOf, List.map_cons, List.map_nil, strip]; rfl
theorem w43_20 : Wp r43_20 4 [4, 4, 4, 4, 4, 10, 10, 10, 10, 10, 10, 10, 18, 18, 18, 18, 18, 18, 18, 18, 18, 18, 18, 18] [] [18] [3] [some 23, some 18] (L43_20).1 := w_plain (by kernel_rfl) (L43_20).2
noncomputable def L43_21 : Lt r43_21 := by refine ⟨?l, ?h⟩; case h => simp only [r43_21, c43, bodyOf, Tryd.f43, Code.sub, opsOf, List.map_cons, List.map_nil, strip]; rfl
theorem w43_21 : Wp r43_21 4 [4, 4, 4, 4, 4, 10, 10, 10, 10, 10, 10, 10, 18, 18, 18, 18, 18, 18, 18, 18, 18, 18, 18, 18] [] [18] [3] [some 24, some 18] (L43_21).1 := w_plain (by kernel_rfl) (L43_21).2
noncomputable def L43_22 : Lt r43_22 := by refine ⟨?l, ?h⟩; case h => simp only [r43_22, c43, bodyOf, Tryd.f43, Code.sub, opsOf, List.map_cons, List.map_nil, strip]; rfl
theorem w43_22 : Wp r43_22 4 [4, 4, 4, 4, 4, 10, 10, 10, 10, 10, 10, 10, 18, 18, 18, 18, 18, 18, 18, 18, 18, 18, 18, 18] [] [18] [3] [some 25, some 18] (L43_22).1 := w_plain (by kernel_rfl) (L43_22).2
noncomputable def L43_23 : Lt r43_23 := by refine ⟨?l, ?h⟩; case h => simp only [r43_23, c43, bodyOf, Tryd.f43, Code.sub, opsOf, List.map_cons, List.map_nil, strip]; rfl
theorem w43_23 : Wp r43_23 4 [4, 4, 4, 4, 4, 10, 10, 10, 10, 10, 10, 10, 18, 18, 18, 18, 18, 18, 18, 18, 18, 18, 18, 18] [] [18] [3] [some 26, some 18] (L43_23).1 := w_plain (by kernel_rfl) (L43_23).2
noncomputable def L43_24 : Lt r43_24 := by refine ⟨?l, ?h⟩; case h => simp only [r43_24, c43, bodyOf, Tryd.f43, Code.sub, opsOf, List.map_cons, List.map_nil, strip]; rfl
theorem w43_24 : Wp r43_24 4 [4, 4, 4, 4, 4, 10, 10, 10, 10, 10, 10, 10, 18, 18, 18, 18, 18, 18, 18, 18, 18, 18, 18, 18] [] [18] [3] [some 27, some 18] (L43_24).1 := w_plain (by kernel_rfl) (L43_24).2
noncomputable def L43_25 : Lt r43_25 := by refine ⟨?l, ?h⟩; case h => simp only [r43_25, c43, bodyOf, Tryd.f43, Code.sub, opsOf, List.map_cons, List.map_nil, strip]; rfl
theorem w43_25 : Wp r43_25 4 [4, 4, 4, 4, 4, 10, 10, 10, 10, 10, 10, 10, 18, 18, 18, 18, 18, 18, 18, 18, 18, 18, 18, 18] [] [18] [3] [some 28, some 18] (L43_25).1 := w_plain (by kernel_rfl) (L43_25).2
noncomputable def L43_26 : Lt r43_26 := by refine ⟨?l, ?h⟩; case h => simp only [r43_26, c43, bodyOf, Tryd.f43, Code.sub, opsOf, List.map_cons, List.map_nil, strip]; rfl
theorem w43_26 : Wp r43_26 4 [4, 4, 4, 4, 4, 10, 10, 10, 10, 10, 10, 10, 18, 18, 18, 18, 18, 18, 18, 18, 18, 18, 18, 18] [] [18] [3] [some 29, some 18] (L43_26).1 := w_plain (by kernel_rfl) (L43_26).2
noncomputable def L43_27 : Lt r43_27 := by refine ⟨?l, ?h⟩; case h => simp only [r43_27, c43, bodyOf, Tryd.f43, Code.sub, opsOf, List.map_cons, List.map_nil, strip]; rfl
theorem w43_27 : Wp r43_27 4 [4, 4, 4, 4, 4, 10, 10, 10, 10, 10, 10, 10, 18, 18, 18, 18, 18, 18, 18, 18, 18, 18, 18, 18] [] [18] [3] [some 30, some 18] (L43_27).1 := w_plain (by kernel_rfl) (L43_27).2
noncomputable def L43_28 : Lt r43_28 := by refine ⟨?l, ?h⟩; case h => simp only [r43_28, c43, bodyOf, Tryd.f43, Code.sub, opsOf, List.map_cons, List.map_nil, strip]; rfl
theorem w43_28 : Wp r43_28 4 [4, 4, 4, 4, 4, 10, 10, 10, 10, 10, 10, 10, 18, 18, 18, 18, 18, 18, 18, 18, 18, 18, 18, 18] [2] [] [] [some 2] (L43_28).1 := w_plain (by kernel_rfl) (L43_28).2
noncomputable def L43_29 : Lt r43_29 := by refine ⟨?l, ?h⟩; case h => simp only [r43_29, c43, bodyOf, Tryd.f43, Code.sub, opsOf, List.map_cons, List.map_nil, strip]; rfl
theorem w43_29 : Wp r43_29 4 [4, 4, 4, 4, 4, 10, 10, 10, 10, 10, 10, 10, 18, 18, 18, 18, 18, 18, 18, 18, 18, 18, 18, 18] [2] [] [] [some 2] (L43_29).1 := w_plain (by kernel_rfl) (L43_29).2
theorem k43 : FnIs TT 43 c43 [.tmp 2] 1 := ⟨Tryd.f43, by kernel_rfl, by simp only [Tryd.f43, c43, bodyOf], by kernel_rfl, of_decide_eq_true (by kernel_rfl)⟩

/- what rewriting uses in the walks -/
attribute [simp] w_seq w_cond_tmp w_ret w_skip w_exit w_block w_loop r_nil r_seq r_seq_ret r_seq_exit r_block
attribute [simp] r_block_ret r_block_exit r_loop r_loop_ret r_loop_exit cnd_t cnd_f rg_some lgo_n lgo_c lops_nil lops_cons
attribute [simp] lk_some lop1_plain lop1_guard gdv_b gdv_u gd_tt gd_ff gd_tf gd_ft lput_s lput_n lev_t
attribute [simp] lev_c lev_g lev_f lget_n lget_c lset_n lset_c lkeep_n lkeep_c lsets_n lsets_c lconds_n
attribute [simp] lconds_c lfill qf_d okx lresults lresultsL lres_tmp o_move o_assign o_bin o_pick o_nilCheck
attribute [simp] o_fieldAddr o_load o_len o_store o_conv o_un o_extract o_append o_call2 o_callv o_buildSlice o_box
attribute [simp] o_alloc o_build o_indexAddr o_slice o_index o_field o_makeFunc o_makeSlice o_min o_max loOf_none loOf_some
attribute [simp] hiOf_none hiOf_some natOf_int sliceS_some sliceA_some strOp sz_str cat_str list_str s_binOp fastBin s_unOp
attribute [simp] fastUn boolEq int_beq int_bne txt_beq one_int one_slice one_ptr one_bool one_str cells_int cells_slice
attribute [simp] cells_ptr cells_bool cells_str cells_agg flatEq_n flatEq_c ba_beq closedA_l closedL_n closedL_c closedV_int closedV_str
attribute [simp] closedV_bool loadRow_new window over Instr.fill repl lst_nil lst_cons lks_some lkc_some lloud_some lreads_n
attribute [simp] lreads_c lsame_d eqV_int eqV_slice eqV_ptr eqV_agg eqL_n eqL_c eqV_str eqV_bool eqV_undef o_lookup
attribute [simp] o_mapUpdate o_insert o_mapEntry o_entryStore o_makeMap o_makeInterface o_typeAssert o_delete o_invoke inv_of est_int one_map
attribute [simp] one_iface cells_map cells_iface eqV_map eqV_ifc
attribute [simp] body5 w5_0 L5_0 w5_1 L5_1 w5_2 L5_2 w5_3 L5_3 w5_4 L5_4 w5_5 L5_5 w5_6 L5_6 w5_7 L5_7 w5_8 L5_8 w5_9 L5_9 w5_10 L5_10 w5_11 L5_11 w5_12 L5_12
attribute [simp] body6 w6_0 L6_0 w6_1 L6_1 w6_2 L6_2 w6_3 L6_3 w6_4 L6_4 w6_5 L6_5 w6_6 L6_6 w6_7 L6_7 w6_8 L6_8 w6_9 L6_9 w6_10 L6_10 w6_11 L6_11
attribute [simp] body7 w7_0 L7_0 w7_1 L7_1 w7_2 L7_2 w7_3 L7_3 w7_4 L7_4 w7_5 L7_5 w7_6 L7_6 w7_7 L7_7 w7_8 L7_8 w7_9 L7_9 w7_10 L7_10 w7_11 L7_11 w7_12 L7_12 w7_13 L7_13 w7_14 L7_14 w7_15 L7_15 w7_16 L7_16 w7_17 L7_17 w7_18 L7_18 w7_19 L7_19 w7_20 L7_20 w7_21 L7_21 w7_22 L7_22 w7_23 L7_23 w7_24 L7_24 w7_25 L7_25 w7_26 L7_26 w7_27 L7_27 w7_28 L7_28 w7_29 L7_29 w7_30 L7_30 w7_31 L7_31 w7_32 L7_32 w7_33 L7_33 w7_34 L7_34
attribute [simp] body11 w11_0 L11_0 w11_1 L11_1 w11_2 L11_2 w11_3 L11_3 w11_4 L11_4
attribute [simp] body17 w17_0 L17_0 w17_1 L17_1 w17_2 L17_2 w17_3 L17_3 w17_4 L17_4 w17_5 L17_5 w17_6 L17_6 w17_7 L17_7 w17_8 L17_8 w17_9 L17_9 w17_10 L17_10 w17_11 L17_11 w17_12 L17_12 w17_13 L17_13
attribute [simp] body18 w18_0 L18_0 w18_1 L18_1 w18_2 L18_2 w18_3 L18_3 w18_4 L18_4 w18_5 L18_5 w18_6 L18_6 w18_7 L18_7 w18_8 L18_8 w18_9 L18_9 w18_10 L18_10 w18_11 L18_11 w18_12 L18_12 w18_13 L18_13 w18_14 L18_14 w18_15 L18_15 w18_16 L18_16 w18_17 L18_17 w18_18 L18_18
attribute [simp] body19 w19_0 L19_0 w19_1 L19_1 w19_2 L19_2 w19_3 L19_3
attribute [simp] body20 w20_0 L20_0 w20_1 L20_1 w20_2 L20_2 w20_3 L20_3 w20_4 L20_4 w20_5 L20_5 w20_6 L20_6 w20_7 L20_7 w20_8 L20_8 w20_9 L20_9
attribute [simp] body21 w21_0 L21_0 w21_1 L21_1 w21_2 L21_2 w21_3 L21_3 w21_4 L21_4 w21_5 L21_5 w21_6 L21_6 w21_7 L21_7 w21_8 L21_8 w21_9 L21_9 w21_10 L21_10 w21_11 L21_11 w21_12 L21_12 w21_13 L21_13
attribute [simp] body22 w22_0 L22_0 w22_1 L22_1 w22_2 L22_2 w22_3 L22_3 w22_4 L22_4 w22_5 L22_5 w22_6 L22_6 w22_7 L22_7 w22_8 L22_8 w22_9 L22_9 w22_10 L22_10 w22_11 L22_11 w22_12 L22_12 w22_13 L22_13 w22_14 L22_14 w22_15 L22_15 w22_16 L22_16 w22_17 L22_17 w22_18 L22_18 w22_19 L22_19
attribute [simp] body23 w23_0 L23_0 w23_1 L23_1 w23_2 L23_2 w23_3 L23_3 w23_4 L23_4 w23_5 L23_5 w23_6 L23_6 w23_7 L23_7 w23_8 L23_8
attribute [simp] body24 w24_0 L24_0 w24_1 L24_1 w24_2 L24_2 w24_3 L24_3 w24_4 L24_4 w24_5 L24_5 w24_6 L24_6 w24_7 L24_7 w24_8 L24_8
attribute [simp] body25 w25_0 L25_0 w25_1 L25_1 w25_2 L25_2 w25_3 L25_3 w25_4 L25_4 w25_5 L25_5 w25_6 L25_6 w25_7 L25_7 w25_8 L25_8 w25_9 L25_9 w25_10 L25_10 w25_11 L25_11 w25_12 L25_12 w25_13 L25_13 w25_14 L25_14 w25_15 L25_15 w25_16 L25_16 w25_17 L25_17 w25_18 L25_18 w25_19 L25_19 w25_20 L25_20 w25_21 L25_21 w25_22 L25_22 w25_23 L25_23
attribute [simp] body32 w32_0 L32_0 w32_1 L32_1 w32_2 L32_2 w32_3 L32_3 w32_4 L32_4 w32_5 L32_5 w32_6 L32_6 w32_7 L32_7 w32_8 L32_8 w32_9 L32_9
attribute [simp] body41 w41_0 L41_0 w41_1 L41_1 w41_2 L41_2 w41_3 L41_3 w41_4 L41_4 w41_5 L41_5 w41_6 L41_6 w41_7 L41_7 w41_8 L41_8 w41_9 L41_9 w41_10 L41_10 w41_11 L41_11 w41_12 L41_12 w41_13 L41_13 w41_14 L41_14 w41_15 L41_15 w41_16 L41_16 w41_17 L41_17 w41_18 L41_18 w41_19 L41_19 w41_20 L41_20 w41_21 L41_21
attribute [simp] body42 w42_0 L42_0 w42_1 L42_1 w42_2 L42_2 w42_3 L42_3 w42_4 L42_4 w42_5 L42_5 w42_6 L42_6 w42_7 L42_7 w42_8 L42_8 w42_9 L42_9 w42_10 L42_10 w42_11 L42_11 w42_12 L42_12 w42_13 L42_13 w42_14 L42_14 w42_15 L42_15 w42_16 L42_16
attribute [simp] body43 w43_0 L43_0 w43_1 L43_1 w43_2 L43_2 w43_3 L43_3 w43_4 L43_4 w43_5 L43_5 w43_6 L43_6 w43_7 L43_7 w43_8 L43_8 w43_9 L43_9 w43_10 L43_10 w43_11 L43_11 w43_12 L43_12 w43_13 L43_13 w43_14 L43_14 w43_15 L43_15 w43_16 L43_16 w43_17 L43_17 w43_18 L43_18 w43_19 L43_19 w43_20 L43_20 w43_21 L43_21 w43_22 L43_22 w43_23 L43_23 w43_24 L43_24 w43_25 L43_25 w43_26 L43_26 w43_27 L43_27 w43_28 L43_28 w43_29 L43_29
end Go.Proofs.YtkcehgajpalgnaaDoor.gen

