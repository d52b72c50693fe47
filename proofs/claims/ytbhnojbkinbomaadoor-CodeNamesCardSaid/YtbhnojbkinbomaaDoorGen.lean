/-
  This text names the regions of the functions that are walked, with the slots that they read and set, and the facts of the types.
  No condition.
-/
import Derived.Test.YtbhnojbkinbomaaDoorProg
import Derived.Test.YtbhnojbkinbomaaDoorShD
set_option maxRecDepth 100000
set_option linter.unusedSimpArgs false
set_option linter.unusedVariables false
namespace Go.Proofs.YtbhnojbkinbomaaDoor.gen
open Go.Sh
def fns : List FuncId := [4, 5, 7, 13, 14, 17, 18, 20, 21, 22, 23, 24, 25, 27, 28, 29, 33, 39, 40, 41, 48, 49, 50, 12, 34]
noncomputable def TT : FuncId → Option Func := Sh.tabOf Tryd.prog fns
variable {S : Sums} {m : Mem} {k : List Fr} {E : LEnv} {Q : Post}
/-- a region's stripped operations -/
abbrev Lt (c : Code) := {l : List Oper // (opsOf c).map strip = l}
abbrev Lc (c : Code) := {l : List Oper // (canonOps (opsOf c)).map strip = l}
/-- what a region comes to -/
abbrev Wp (c : Code) (nv : Nat) (C ups cs nd : List Nat) (ds : List (Option Nat)) (l : List Oper) : Prop := ∀ {S : Sums} {m : Mem} {k : List Fr} {E : LEnv} {Q : Post}, W Tryd.prog TT S nv C c k E m Q ↔ Rg Tryd.prog TT S nv C ups cs (lgo E nd (lops Tryd.prog (callw Tryd.prog TT S) ds l E m)) k E Q
abbrev Wd (c : Code) (nv : Nat) (C ups cs nd : List Nat) (ds : List (Option Nat)) (l : List Oper) (places : List (Nat × List Nat)) : Prop := ∀ {S : Sums} {m : Mem} {k : List Fr} {E : LEnv} {Q : Post}, W Tryd.prog TT S nv C c k E m Q ↔ Rg Tryd.prog TT S nv C ups cs (lgo E nd (lloud Tryd.prog (callw Tryd.prog TT S) ds l places (lstates Tryd.prog (callw Tryd.prog TT S) ds l E m))) k E Q
theorem ap26 : apOk Tryd.prog 26 3 24 = true := by kernel_rfl
theorem ap5 : apOk Tryd.prog 5 1 1 = true := by kernel_rfl
theorem b36 : (Tryd.prog.info? 36).isSome = true := by kernel_rfl
theorem bo26 : buildOk Tryd.prog 26 [.int .i64 0, .int .i64 0, .int .i64 0] [(0, 1), (1, 1), (2, 1)] = true := by kernel_rfl
theorem bo36 : buildOk Tryd.prog 36 [.string ⟨#[]⟩, .slice none 0 0, .int .i64 0, .slice none 0 0, .slice none 0 0] [(0, 1), (1, 1), (2, 1), (3, 1), (4, 1)] = true := by kernel_rfl
theorem bs26 : bsOk Tryd.prog 26 [.int .i64 0, .int .i64 0, .int .i64 0] = true := by kernel_rfl
theorem bs5 : bsOk Tryd.prog 5 [.int .u8 0] = true := by kernel_rfl
theorem co45 : Tryd.prog.cellsOf 45 = 2 := by kernel_rfl
theorem co5 : Tryd.prog.cellsOf 5 = 1 := by kernel_rfl
theorem fa26_0 : faOk Tryd.prog 26 0 0 = true := by kernel_rfl
theorem fa26_1 : faOk Tryd.prog 26 1 1 = true := by kernel_rfl
theorem fa26_2 : faOk Tryd.prog 26 2 2 = true := by kernel_rfl
theorem fa36_4 : faOk Tryd.prog 36 4 4 = true := by kernel_rfl
theorem fa45_0 : faOk Tryd.prog 45 0 0 = true := by kernel_rfl
theorem fa45_1 : faOk Tryd.prog 45 1 1 = true := by kernel_rfl
theorem ld26 : agOk Tryd.prog 26 3 = true := by kernel_rfl
theorem ld3 : ldOk Tryd.prog 3 = true := by kernel_rfl
theorem ld33 : ldOk Tryd.prog 33 = true := by kernel_rfl
theorem ld42 : ldOk Tryd.prog 42 = true := by kernel_rfl
theorem ld43 : ldOk Tryd.prog 43 = true := by kernel_rfl
theorem ld65 : ldOk Tryd.prog 65 = true := by kernel_rfl
theorem ld9 : ldOk Tryd.prog 9 = true := by kernel_rfl
theorem sz10 : sizeOfT Tryd.prog 10 = some 1 := by kernel_rfl
theorem sz11 : sizeOfT Tryd.prog 11 = some 1 := by kernel_rfl
theorem sz12 : sizeOfT Tryd.prog 12 = some 1 := by kernel_rfl
theorem sz2 : sizeOfT Tryd.prog 2 = some 1 := by kernel_rfl
theorem sz21 : sizeOfT Tryd.prog 21 = some 1 := by kernel_rfl
theorem sz26 : sizeOfT Tryd.prog 26 = some 3 := by kernel_rfl
theorem sz27 : sizeOfT Tryd.prog 27 = some 1 := by kernel_rfl
theorem sz3 : sizeOfT Tryd.prog 3 = some 1 := by kernel_rfl
theorem sz33 : sizeOfT Tryd.prog 33 = some 1 := by kernel_rfl
theorem sz39 : sizeOfT Tryd.prog 39 = some 1 := by kernel_rfl
theorem sz4 : sizeOfT Tryd.prog 4 = some 1 := by kernel_rfl
theorem sz42 : sizeOfT Tryd.prog 42 = some 1 := by kernel_rfl
theorem sz43 : sizeOfT Tryd.prog 43 = some 1 := by kernel_rfl
theorem sz45 : sizeOfT Tryd.prog 45 = some 2 := by kernel_rfl
theorem sz5 : sizeOfT Tryd.prog 5 = some 1 := by kernel_rfl
theorem sz6 : sizeOfT Tryd.prog 6 = some 1 := by kernel_rfl
theorem sz65 : sizeOfT Tryd.prog 65 = some 1 := by kernel_rfl
theorem sz70 : sizeOfT Tryd.prog 70 = some 1 := by kernel_rfl
theorem sz73 : sizeOfT Tryd.prog 73 = some 1 := by kernel_rfl
theorem sz9 : sizeOfT Tryd.prog 9 = some 1 := by kernel_rfl
theorem sz91 : sizeOfT Tryd.prog 91 = some 1 := by kernel_rfl
theorem sz92 : sizeOfT Tryd.prog 92 = some 1 := by kernel_rfl
theorem sz94 : sizeOfT Tryd.prog 94 = some 1 := by kernel_rfl
theorem sz95 : sizeOfT Tryd.prog 95 = some 1 := by kernel_rfl
theorem u10 : Tryd.prog.underlying 10 = some .string := by kernel_rfl
theorem u11 : Tryd.prog.underlying 11 = some .string := by kernel_rfl
theorem u12 : Tryd.prog.underlying 12 = some (.int .u64) := by kernel_rfl
theorem u2 : Tryd.prog.underlying 2 = some (.int .i64) := by kernel_rfl
theorem u21 : Tryd.prog.underlying 21 = some (.int .i32) := by kernel_rfl
theorem u27 : Tryd.prog.underlying 27 = some (.slice 3) := by kernel_rfl
theorem u3 : Tryd.prog.underlying 3 = some (.int .i64) := by kernel_rfl
theorem u33 : Tryd.prog.underlying 33 = some (.slice 26) := by kernel_rfl
theorem u39 : Tryd.prog.underlying 39 = some (.slice 9) := by kernel_rfl
theorem u4 : Tryd.prog.underlying 4 = some .bool := by kernel_rfl
theorem u41 : Tryd.prog.underlying 41 = some (.array 42 9) := by kernel_rfl
theorem u42 : Tryd.prog.underlying 42 = some (.pointer 45) := by kernel_rfl
theorem u43 : Tryd.prog.underlying 43 = some (.slice 5) := by kernel_rfl
theorem u5 : Tryd.prog.underlying 5 = some (.int .u8) := by kernel_rfl
theorem u54 : Tryd.prog.underlying 54 = some (.pointer 5) := by kernel_rfl
theorem u58 : Tryd.prog.underlying 58 = some .unsafePointer := by kernel_rfl
theorem u6 : Tryd.prog.underlying 6 = some (.int .u8) := by kernel_rfl
theorem u64 : Tryd.prog.underlying 64 = some (.array 24 5) := by kernel_rfl
theorem u65 : Tryd.prog.underlying 65 = some (.int .u64) := by kernel_rfl
theorem u70 : Tryd.prog.underlying 70 = some (.int .u64) := by kernel_rfl
theorem u72 : Tryd.prog.underlying 72 = some (.array 20 65) := by kernel_rfl
theorem u73 : Tryd.prog.underlying 73 = some (.int .u32) := by kernel_rfl
theorem u9 : Tryd.prog.underlying 9 = some .string := by kernel_rfl
theorem u91 : Tryd.prog.underlying 91 = some (.int .u8) := by kernel_rfl
theorem u92 : Tryd.prog.underlying 92 = some (.int .u8) := by kernel_rfl
theorem u94 : Tryd.prog.underlying 94 = some (.int .i32) := by kernel_rfl
theorem u95 : Tryd.prog.underlying 95 = some (.int .i32) := by kernel_rfl
theorem zo26 : zeroOk Tryd.prog 26 [.int .i64 0, .int .i64 0, .int .i64 0] = true := by kernel_rfl
theorem zo45 : zeroOk Tryd.prog 45 [.pointer none, .slice none 0 0] = true := by kernel_rfl
theorem zo64 : zeroOk Tryd.prog 64 [.int .u8 0, .int .u8 0, .int .u8 0, .int .u8 0, .int .u8 0, .int .u8 0, .int .u8 0, .int .u8 0, .int .u8 0, .int .u8 0, .int .u8 0, .int .u8 0, .int .u8 0, .int .u8 0, .int .u8 0, .int .u8 0, .int .u8 0, .int .u8 0, .int .u8 0, .int .u8 0, .int .u8 0, .int .u8 0, .int .u8 0, .int .u8 0] = true := by kernel_rfl

/- turnstonelaw7.CodeShows -/
noncomputable def c4 : Code := bodyOf Tryd.f4
noncomputable def r4_0 : Code := Code.sub [0] c4
noncomputable def r4_1 : Code := Code.sub [1, 0] c4
noncomputable def r4_2 : Code := Code.sub [1, 1, 0, 0] c4
noncomputable def r4_3 : Code := Code.sub [1, 1, 0, 1, 0, 0, 0, 0] c4
noncomputable def r4_4 : Code := Code.sub [1, 1, 0, 1, 0, 0, 1, 0, 0, 0] c4
noncomputable def r4_5 : Code := Code.sub [1, 1, 0, 1, 0, 0, 1, 0, 0, 1, 0, 0] c4
noncomputable def r4_6 : Code := Code.sub [1, 1, 0, 1, 0, 0, 1, 0, 0, 1, 0, 1, 0] c4
noncomputable def r4_7 : Code := Code.sub [1, 1, 0, 1, 0, 0, 1, 0, 0, 1, 1] c4
noncomputable def r4_8 : Code := Code.sub [1, 1, 0, 1, 0, 0, 1, 1] c4
noncomputable def r4_9 : Code := Code.sub [1, 1, 1, 0] c4
theorem body4 : c4 = (.seq r4_0 (.seq r4_1 (.seq (.seq r4_2 (.block 0 (.loop (.seq (.seq r4_3 (.cond (.tmp 15) .skip (.exit 0))) (.seq (.block 1 (.seq r4_4 (.seq (.seq r4_5 (.cond (.tmp 22) r4_6 .skip)) r4_7))) r4_8))))) (.seq r4_9 .ret)))) := by kernel_rfl
noncomputable def L4_0 : Lt r4_0 := by refine ⟨?l, ?h⟩; case h => simp only [r4_0, c4, bodyOf, Tryd.f4, Code.sub, opsOf, List.map_cons, List.map_nil, strip]; rfl
theorem w4_0 : Wp r4_0 8 [15, 22] [4] [] [] [some 4] (L4_0).1 := w_plain (by kernel_rfl) (L4_0).2
noncomputable def L4_1 : Lt r4_1 := by refine ⟨?l, ?h⟩; case h => simp only [r4_1, c4, bodyOf, Tryd.f4, Code.sub, opsOf, List.map_cons, List.map_nil, strip]; rfl
theorem w4_1 : Wp r4_1 8 [15, 22] [5] [] [] [some 5] (L4_1).1 := w_plain (by kernel_rfl) (L4_1).2
noncomputable def L4_2 : Lt r4_2 := by refine ⟨?l, ?h⟩; case h => simp only [r4_2, c4, bodyOf, Tryd.f4, Code.sub, opsOf, List.map_cons, List.map_nil, strip]; rfl
theorem w4_2 : Wp r4_2 8 [15, 22] [6] [] [] [some 6] (L4_2).1 := w_plain (by kernel_rfl) (L4_2).2
noncomputable def L4_3 : Lt r4_3 := by refine ⟨?l, ?h⟩; case h => simp only [r4_3, c4, bodyOf, Tryd.f4, Code.sub, opsOf, List.map_cons, List.map_nil, strip]; rfl
theorem w4_3 : Wp r4_3 8 [15, 22] [] [15] [0, 6] [some 8, some 9, some 10, some 11, some 12, some 13, some 14, some 15] (L4_3).1 := w_plain (by kernel_rfl) (L4_3).2
noncomputable def L4_4 : Lt r4_4 := by refine ⟨?l, ?h⟩; case h => simp only [r4_4, c4, bodyOf, Tryd.f4, Code.sub, opsOf, List.map_cons, List.map_nil, strip]; rfl
theorem w4_4 : Wp r4_4 8 [15, 22] [7] [] [0, 6] [some 18, some 19, some 20, some 21, some 7, none] (L4_4).1 := w_plain (by kernel_rfl) (L4_4).2
noncomputable def L4_5 : Lt r4_5 := by refine ⟨?l, ?h⟩; case h => simp only [r4_5, c4, bodyOf, Tryd.f4, Code.sub, opsOf, List.map_cons, List.map_nil, strip]; rfl
theorem w4_5 : Wp r4_5 8 [15, 22] [] [22] [1] [some 22] (L4_5).1 := w_plain (by kernel_rfl) (L4_5).2
noncomputable def L4_6 : Lt r4_6 := by refine ⟨?l, ?h⟩; case h => simp only [r4_6, c4, bodyOf, Tryd.f4, Code.sub, opsOf, List.map_cons, List.map_nil, strip]; rfl
theorem w4_6 : Wp r4_6 8 [15, 22] [] [] [7] [some 23, some 24, some 25, some 26, some 27, none] (L4_6).1 := w_plain (by kernel_rfl) (L4_6).2
noncomputable def L4_7 : Lt r4_7 := by refine ⟨?l, ?h⟩; case h => simp only [r4_7, c4, bodyOf, Tryd.f4, Code.sub, opsOf, List.map_cons, List.map_nil, strip]; rfl
theorem w4_7 : Wp r4_7 8 [15, 22] [5] [] [5, 7] [some 28, some 29, some 30, some 31, some 5] (L4_7).1 := w_plain (by kernel_rfl) (L4_7).2
noncomputable def L4_8 : Lt r4_8 := by refine ⟨?l, ?h⟩; case h => simp only [r4_8, c4, bodyOf, Tryd.f4, Code.sub, opsOf, List.map_cons, List.map_nil, strip]; rfl
theorem w4_8 : Wp r4_8 8 [15, 22] [6] [] [6] [some 16, some 17, some 6] (L4_8).1 := w_plain (by kernel_rfl) (L4_8).2
noncomputable def L4_9 : Lt r4_9 := by refine ⟨?l, ?h⟩; case h => simp only [r4_9, c4, bodyOf, Tryd.f4, Code.sub, opsOf, List.map_cons, List.map_nil, strip]; rfl
theorem w4_9 : Wp r4_9 8 [15, 22] [4] [] [5] [some 32, some 33, some 34, some 35, some 36, some 37, some 38, some 39, some 40, some 41, some 4] (L4_9).1 := w_plain (by kernel_rfl) (L4_9).2
theorem k4 : FnIs TT 4 c4 [.tmp 4] 2 := ⟨Tryd.f4, by kernel_rfl, by simp only [Tryd.f4, c4, bodyOf], by kernel_rfl, of_decide_eq_true (by kernel_rfl)⟩

/- turnstonelaw7.CodeNames -/
noncomputable def c5 : Code := bodyOf Tryd.f5
noncomputable def r5_0 : Code := Code.sub [0] c5
noncomputable def r5_1 : Code := Code.sub [1, 0] c5
noncomputable def r5_2 : Code := Code.sub [1, 1, 0] c5
noncomputable def r5_3 : Code := Code.sub [1, 1, 1, 0] c5
noncomputable def r5_4 : Code := Code.sub [1, 1, 1, 1, 0] c5
noncomputable def r5_5 : Code := Code.sub [1, 1, 1, 1, 1, 0] c5
theorem body5 : c5 = (.seq r5_0 (.seq r5_1 (.seq r5_2 (.seq r5_3 (.seq r5_4 (.seq r5_5 .ret)))))) := by kernel_rfl
noncomputable def L5_0 : Lt r5_0 := by refine ⟨?l, ?h⟩; case h => simp only [r5_0, c5, bodyOf, Tryd.f5, Code.sub, opsOf, List.map_cons, List.map_nil, strip]; rfl
theorem w5_0 : Wp r5_0 7 [] [4] [] [] [some 4] (L5_0).1 := w_plain (by kernel_rfl) (L5_0).2
noncomputable def L5_1 : Lt r5_1 := by refine ⟨?l, ?h⟩; case h => simp only [r5_1, c5, bodyOf, Tryd.f5, Code.sub, opsOf, List.map_cons, List.map_nil, strip]; rfl
theorem w5_1 : Wp r5_1 7 [] [0] [] [0] [some 7, some 8, some 9, some 0] (L5_1).1 := w_plain (by kernel_rfl) (L5_1).2
noncomputable def L5_2 : Lt r5_2 := by refine ⟨?l, ?h⟩; case h => simp only [r5_2, c5, bodyOf, Tryd.f5, Code.sub, opsOf, List.map_cons, List.map_nil, strip]; rfl
theorem w5_2 : Wp r5_2 7 [] [1] [] [1] [some 10, some 11, some 12, some 1] (L5_2).1 := w_plain (by kernel_rfl) (L5_2).2
noncomputable def L5_3 : Lt r5_3 := by refine ⟨?l, ?h⟩; case h => simp only [r5_3, c5, bodyOf, Tryd.f5, Code.sub, opsOf, List.map_cons, List.map_nil, strip]; rfl
theorem w5_3 : Wp r5_3 7 [] [5] [] [0] [some 13, some 14, some 5] (L5_3).1 := w_plain (by kernel_rfl) (L5_3).2
noncomputable def L5_4 : Lt r5_4 := by refine ⟨?l, ?h⟩; case h => simp only [r5_4, c5, bodyOf, Tryd.f5, Code.sub, opsOf, List.map_cons, List.map_nil, strip]; rfl
theorem w5_4 : Wp r5_4 7 [] [6] [] [0] [some 15, some 16, some 17, some 18, some 19, some 6] (L5_4).1 := w_plain (by kernel_rfl) (L5_4).2
noncomputable def L5_5 : Lt r5_5 := by refine ⟨?l, ?h⟩; case h => simp only [r5_5, c5, bodyOf, Tryd.f5, Code.sub, opsOf, List.map_cons, List.map_nil, strip]; rfl
theorem w5_5 : Wp r5_5 7 [] [4] [] [0, 1, 6, 5] [some 20, some 21, some 22, some 23, some 24, some 25, some 26, some 27, some 28, some 29, some 30, some 31, some 32, some 33, some 34, some 35, some 36, some 37, some 38, some 39, some 40, some 41, some 42, some 43, some 44, some 45, some 46, some 47, some 48, some 49, some 50, some 51, some 52, some 4] (L5_5).1 := w_plain (by kernel_rfl) (L5_5).2
theorem k5 : FnIs TT 5 c5 [.tmp 4] 2 := ⟨Tryd.f5, by kernel_rfl, by simp only [Tryd.f5, c5, bodyOf], by kernel_rfl, of_decide_eq_true (by kernel_rfl)⟩

/- turnstonehand.Pick -/
noncomputable def c7 : Code := bodyOf Tryd.f7
noncomputable def r7_0 : Code := Code.sub [0] c7
noncomputable def r7_1 : Code := Code.sub [1, 0] c7
noncomputable def r7_2 : Code := Code.sub [1, 1, 0, 0] c7
noncomputable def r7_3 : Code := Code.sub [1, 1, 0, 1, 0] c7
noncomputable def r7_4 : Code := Code.sub [1, 1, 1, 0] c7
theorem body7 : c7 = (.seq r7_0 (.seq r7_1 (.seq (.seq r7_2 (.cond (.tmp 9) r7_3 .skip)) (.seq r7_4 .ret)))) := by kernel_rfl
noncomputable def L7_0 : Lt r7_0 := by refine ⟨?l, ?h⟩; case h => simp only [r7_0, c7, bodyOf, Tryd.f7, Code.sub, opsOf, List.map_cons, List.map_nil, strip]; rfl
theorem w7_0 : Wp r7_0 5 [9] [4] [] [] [some 4] (L7_0).1 := w_plain (by kernel_rfl) (L7_0).2
noncomputable def L7_1 : Lt r7_1 := by refine ⟨?l, ?h⟩; case h => simp only [r7_1, c7, bodyOf, Tryd.f7, Code.sub, opsOf, List.map_cons, List.map_nil, strip]; rfl
theorem w7_1 : Wp r7_1 5 [9] [0] [] [0, 1] [some 5, some 6, some 7, some 0] (L7_1).1 := w_plain (by kernel_rfl) (L7_1).2
noncomputable def L7_2 : Lt r7_2 := by refine ⟨?l, ?h⟩; case h => simp only [r7_2, c7, bodyOf, Tryd.f7, Code.sub, opsOf, List.map_cons, List.map_nil, strip]; rfl
theorem w7_2 : Wp r7_2 5 [9] [] [9] [0] [some 8, some 9] (L7_2).1 := w_plain (by kernel_rfl) (L7_2).2
noncomputable def L7_3 : Lt r7_3 := by refine ⟨?l, ?h⟩; case h => simp only [r7_3, c7, bodyOf, Tryd.f7, Code.sub, opsOf, List.map_cons, List.map_nil, strip]; rfl
theorem w7_3 : Wp r7_3 5 [9] [0] [] [0, 1] [some 10, some 11, some 12, some 0] (L7_3).1 := w_plain (by kernel_rfl) (L7_3).2
noncomputable def L7_4 : Lt r7_4 := by refine ⟨?l, ?h⟩; case h => simp only [r7_4, c7, bodyOf, Tryd.f7, Code.sub, opsOf, List.map_cons, List.map_nil, strip]; rfl
theorem w7_4 : Wp r7_4 5 [9] [4] [] [0] [some 13, some 4] (L7_4).1 := w_plain (by kernel_rfl) (L7_4).2
theorem k7 : FnIs TT 7 c7 [.tmp 4] 2 := ⟨Tryd.f7, by kernel_rfl, by simp only [Tryd.f7, c7, bodyOf], by kernel_rfl, of_decide_eq_true (by kernel_rfl)⟩

/- code.Name -/
noncomputable def c13 : Code := bodyOf Tryd.f13
noncomputable def r13_0 : Code := Code.sub [0] c13
noncomputable def r13_1 : Code := Code.sub [1, 0, 0] c13
noncomputable def r13_2 : Code := Code.sub [1, 0, 1, 0, 0] c13
noncomputable def r13_3 : Code := Code.sub [1, 1, 0] c13
theorem body13 : c13 = (.seq r13_0 (.seq (.seq r13_1 (.cond (.tmp 8) (.seq r13_2 .ret) .skip)) (.seq r13_3 .ret))) := by kernel_rfl
noncomputable def L13_0 : Lt r13_0 := by refine ⟨?l, ?h⟩; case h => simp only [r13_0, c13, bodyOf, Tryd.f13, Code.sub, opsOf, List.map_cons, List.map_nil, strip]; rfl
theorem w13_0 : Wp r13_0 3 [8] [2] [] [] [some 2] (L13_0).1 := w_plain (by kernel_rfl) (L13_0).2
noncomputable def L13_1 : Lt r13_1 := by refine ⟨?l, ?h⟩; case h => simp only [r13_1, c13, bodyOf, Tryd.f13, Code.sub, opsOf, List.map_cons, List.map_nil, strip]; rfl
theorem w13_1 : Wp r13_1 3 [8] [] [8] [0] [some 3, some 4, some 5, some 6, some 7, some 8] (L13_1).1 := w_plain (by kernel_rfl) (L13_1).2
noncomputable def L13_2 : Lt r13_2 := by refine ⟨?l, ?h⟩; case h => simp only [r13_2, c13, bodyOf, Tryd.f13, Code.sub, opsOf, List.map_cons, List.map_nil, strip]; rfl
theorem w13_2 : Wp r13_2 3 [8] [2] [] [] [some 2] (L13_2).1 := w_plain (by kernel_rfl) (L13_2).2
noncomputable def L13_3 : Lt r13_3 := by refine ⟨?l, ?h⟩; case h => simp only [r13_3, c13, bodyOf, Tryd.f13, Code.sub, opsOf, List.map_cons, List.map_nil, strip]; rfl
theorem w13_3 : Wp r13_3 3 [8] [2] [] [0] [some 9, some 10, some 11, some 12, some 13, some 2] (L13_3).1 := w_plain (by kernel_rfl) (L13_3).2
theorem k13 : FnIs TT 13 c13 [.tmp 2] 1 := ⟨Tryd.f13, by kernel_rfl, by simp only [Tryd.f13, c13, bodyOf], by kernel_rfl, of_decide_eq_true (by kernel_rfl)⟩

/- turnstoneref9.Name -/
noncomputable def c14 : Code := bodyOf Tryd.f14
noncomputable def r14_0 : Code := Code.sub [0] c14
noncomputable def r14_1 : Code := Code.sub [1, 0, 0] c14
noncomputable def r14_2 : Code := Code.sub [1, 0, 1, 0, 0] c14
noncomputable def r14_3 : Code := Code.sub [1, 1, 0] c14
theorem body14 : c14 = (.seq r14_0 (.seq (.seq r14_1 (.cond (.tmp 8) (.seq r14_2 .ret) .skip)) (.seq r14_3 .ret))) := by kernel_rfl
noncomputable def L14_0 : Lt r14_0 := by refine ⟨?l, ?h⟩; case h => simp only [r14_0, c14, bodyOf, Tryd.f14, Code.sub, opsOf, List.map_cons, List.map_nil, strip]; rfl
theorem w14_0 : Wp r14_0 3 [8] [2] [] [] [some 2] (L14_0).1 := w_plain (by kernel_rfl) (L14_0).2
noncomputable def L14_1 : Lt r14_1 := by refine ⟨?l, ?h⟩; case h => simp only [r14_1, c14, bodyOf, Tryd.f14, Code.sub, opsOf, List.map_cons, List.map_nil, strip]; rfl
theorem w14_1 : Wp r14_1 3 [8] [] [8] [0] [some 3, some 4, some 5, some 6, some 7, some 8] (L14_1).1 := w_plain (by kernel_rfl) (L14_1).2
noncomputable def L14_2 : Lt r14_2 := by refine ⟨?l, ?h⟩; case h => simp only [r14_2, c14, bodyOf, Tryd.f14, Code.sub, opsOf, List.map_cons, List.map_nil, strip]; rfl
theorem w14_2 : Wp r14_2 3 [8] [2] [] [] [some 2] (L14_2).1 := w_plain (by kernel_rfl) (L14_2).2
noncomputable def L14_3 : Lt r14_3 := by refine ⟨?l, ?h⟩; case h => simp only [r14_3, c14, bodyOf, Tryd.f14, Code.sub, opsOf, List.map_cons, List.map_nil, strip]; rfl
theorem w14_3 : Wp r14_3 3 [8] [2] [] [0] [some 9, some 10, some 11, some 2] (L14_3).1 := w_plain (by kernel_rfl) (L14_3).2
theorem k14 : FnIs TT 14 c14 [.tmp 2] 1 := ⟨Tryd.f14, by kernel_rfl, by simp only [Tryd.f14, c14, bodyOf], by kernel_rfl, of_decide_eq_true (by kernel_rfl)⟩

/- code.Show -/
noncomputable def c17 : Code := bodyOf Tryd.f17
noncomputable def r17_0 : Code := Code.sub [0] c17
noncomputable def r17_1 : Code := Code.sub [1, 0] c17
noncomputable def r17_2 : Code := Code.sub [1, 1, 0, 0] c17
noncomputable def r17_3 : Code := Code.sub [1, 1, 0, 1, 0, 0, 0] c17
noncomputable def r17_4 : Code := Code.sub [1, 1, 0, 1, 0, 0, 1, 1, 0, 0, 0] c17
noncomputable def r17_5 : Code := Code.sub [1, 1, 0, 1, 0, 0, 1, 1, 0, 0, 1, 0] c17
noncomputable def r17_6 : Code := Code.sub [1, 1, 0, 1, 0, 0, 1, 1, 0, 0, 1, 1, 0, 0] c17
noncomputable def r17_7 : Code := Code.sub [1, 1, 0, 1, 0, 0, 1, 1, 0, 0, 1, 1, 0, 1, 0] c17
noncomputable def r17_8 : Code := Code.sub [1, 1, 0, 1, 0, 0, 1, 1, 0, 0, 1, 1, 1, 0] c17
noncomputable def r17_9 : Code := Code.sub [1, 1, 0, 1, 0, 0, 1, 1, 0, 0, 1, 1, 1, 1, 0, 0] c17
noncomputable def r17_10 : Code := Code.sub [1, 1, 0, 1, 0, 0, 1, 1, 0, 0, 1, 1, 1, 1, 0, 1, 0] c17
noncomputable def r17_11 : Code := Code.sub [1, 1, 0, 1, 0, 0, 1, 1, 0, 0, 1, 1, 1, 1, 1, 0, 0] c17
noncomputable def r17_12 : Code := Code.sub [1, 1, 0, 1, 0, 0, 1, 1, 0, 0, 1, 1, 1, 1, 1, 0, 1, 0] c17
noncomputable def r17_13 : Code := Code.sub [1, 1, 0, 1, 0, 0, 1, 1, 0, 0, 1, 1, 1, 1, 1, 1] c17
noncomputable def r17_14 : Code := Code.sub [1, 1, 0, 1, 0, 0, 1, 1, 1] c17
noncomputable def r17_15 : Code := Code.sub [1, 1, 1, 0] c17
theorem body17 : c17 = (.seq r17_0 (.seq r17_1 (.seq (.seq r17_2 (.block 0 (.loop (.seq r17_3 (.seq (.cond (.tmp 11) .skip (.exit 0)) (.seq (.block 1 (.seq r17_4 (.seq r17_5 (.seq (.seq r17_6 (.cond (.tmp 19) r17_7 .skip)) (.seq r17_8 (.seq (.seq r17_9 (.cond (.tmp 33) r17_10 .skip)) (.seq (.seq r17_11 (.cond (.tmp 42) r17_12 .skip)) r17_13))))))) r17_14)))))) (.seq r17_15 .ret)))) := by kernel_rfl
noncomputable def L17_0 : Lt r17_0 := by refine ⟨?l, ?h⟩; case h => simp only [r17_0, c17, bodyOf, Tryd.f17, Code.sub, opsOf, List.map_cons, List.map_nil, strip]; rfl
theorem w17_0 : Wp r17_0 11 [11, 19, 33, 42] [1, 2] [] [0] [some 1, some 2] (L17_0).1 := w_plain (by kernel_rfl) (L17_0).2
noncomputable def L17_1 : Lt r17_1 := by refine ⟨?l, ?h⟩; case h => simp only [r17_1, c17, bodyOf, Tryd.f17, Code.sub, opsOf, List.map_cons, List.map_nil, strip]; rfl
theorem w17_1 : Wp r17_1 11 [11, 19, 33, 42] [3] [] [] [some 3] (L17_1).1 := w_plain (by kernel_rfl) (L17_1).2
noncomputable def L17_2 : Lt r17_2 := by refine ⟨?l, ?h⟩; case h => simp only [r17_2, c17, bodyOf, Tryd.f17, Code.sub, opsOf, List.map_cons, List.map_nil, strip]; rfl
theorem w17_2 : Wp r17_2 11 [11, 19, 33, 42] [7, 8, 9, 10] [] [1] [some 7, some 8, some 9, some 10] (L17_2).1 := w_plain (by kernel_rfl) (L17_2).2
noncomputable def L17_3 : Lt r17_3 := by refine ⟨?l, ?h⟩; case h => simp only [r17_3, c17, bodyOf, Tryd.f17, Code.sub, opsOf, List.map_cons, List.map_nil, strip]; rfl
theorem w17_3 : Wp r17_3 11 [11, 19, 33, 42] [] [11] [10, 9] [some 11] (L17_3).1 := w_plain (by kernel_rfl) (L17_3).2
noncomputable def L17_4 : Lt r17_4 := by refine ⟨?l, ?h⟩; case h => simp only [r17_4, c17, bodyOf, Tryd.f17, Code.sub, opsOf, List.map_cons, List.map_nil, strip]; rfl
theorem w17_4 : Wp r17_4 11 [11, 19, 33, 42] [5, 4] [] [8, 10] [some 12, some 13, some 14, some 5, some 4, none] (L17_4).1 := w_plain (by kernel_rfl) (L17_4).2
noncomputable def L17_5 : Lt r17_5 := by refine ⟨?l, ?h⟩; case h => simp only [r17_5, c17, bodyOf, Tryd.f17, Code.sub, opsOf, List.map_cons, List.map_nil, strip]; rfl
theorem w17_5 : Wp r17_5 11 [11, 19, 33, 42] [6] [] [5] [some 15, some 16, some 17, some 6] (L17_5).1 := w_plain (by kernel_rfl) (L17_5).2
noncomputable def L17_6 : Lt r17_6 := by refine ⟨?l, ?h⟩; case h => simp only [r17_6, c17, bodyOf, Tryd.f17, Code.sub, opsOf, List.map_cons, List.map_nil, strip]; rfl
theorem w17_6 : Wp r17_6 11 [11, 19, 33, 42] [] [19] [6] [some 18, some 19] (L17_6).1 := w_plain (by kernel_rfl) (L17_6).2
noncomputable def L17_7 : Lt r17_7 := by refine ⟨?l, ?h⟩; case h => simp only [r17_7, c17, bodyOf, Tryd.f17, Code.sub, opsOf, List.map_cons, List.map_nil, strip]; rfl
theorem w17_7 : Wp r17_7 11 [11, 19, 33, 42] [6] [] [5] [some 20, some 21, some 22, some 23, some 6] (L17_7).1 := w_plain (by kernel_rfl) (L17_7).2
noncomputable def L17_8 : Lt r17_8 := by refine ⟨?l, ?h⟩; case h => simp only [r17_8, c17, bodyOf, Tryd.f17, Code.sub, opsOf, List.map_cons, List.map_nil, strip]; rfl
theorem w17_8 : Wp r17_8 11 [11, 19, 33, 42] [] [] [4, 6, 3] [some 24, some 25, some 26, some 27, some 28, some 29] (L17_8).1 := w_plain (by kernel_rfl) (L17_8).2
noncomputable def L17_9 : Lt r17_9 := by refine ⟨?l, ?h⟩; case h => simp only [r17_9, c17, bodyOf, Tryd.f17, Code.sub, opsOf, List.map_cons, List.map_nil, strip]; rfl
theorem w17_9 : Wp r17_9 11 [11, 19, 33, 42] [] [33] [5] [some 30, some 31, some 32, some 33] (L17_9).1 := w_plain (by kernel_rfl) (L17_9).2
noncomputable def L17_10 : Lt r17_10 := by refine ⟨?l, ?h⟩; case h => simp only [r17_10, c17, bodyOf, Tryd.f17, Code.sub, opsOf, List.map_cons, List.map_nil, strip]; rfl
theorem w17_10 : Wp r17_10 11 [11, 19, 33, 42] [] [] [5, 3] [some 34, some 35, some 36, some 37, some 38] (L17_10).1 := w_plain (by kernel_rfl) (L17_10).2
noncomputable def L17_11 : Lt r17_11 := by refine ⟨?l, ?h⟩; case h => simp only [r17_11, c17, bodyOf, Tryd.f17, Code.sub, opsOf, List.map_cons, List.map_nil, strip]; rfl
theorem w17_11 : Wp r17_11 11 [11, 19, 33, 42] [] [42] [5] [some 39, some 40, some 41, some 42] (L17_11).1 := w_plain (by kernel_rfl) (L17_11).2
noncomputable def L17_12 : Lt r17_12 := by refine ⟨?l, ?h⟩; case h => simp only [r17_12, c17, bodyOf, Tryd.f17, Code.sub, opsOf, List.map_cons, List.map_nil, strip]; rfl
theorem w17_12 : Wp r17_12 11 [11, 19, 33, 42] [] [] [5, 3] [some 43, some 44, some 45, some 46, some 47] (L17_12).1 := w_plain (by kernel_rfl) (L17_12).2
noncomputable def L17_13 : Lt r17_13 := by refine ⟨?l, ?h⟩; case h => simp only [r17_13, c17, bodyOf, Tryd.f17, Code.sub, opsOf, List.map_cons, List.map_nil, strip]; rfl
theorem w17_13 : Wp r17_13 11 [11, 19, 33, 42] [] [] [3] [some 48] (L17_13).1 := w_plain (by kernel_rfl) (L17_13).2
noncomputable def L17_14 : Lt r17_14 := by refine ⟨?l, ?h⟩; case h => simp only [r17_14, c17, bodyOf, Tryd.f17, Code.sub, opsOf, List.map_cons, List.map_nil, strip]; rfl
theorem w17_14 : Wp r17_14 11 [11, 19, 33, 42] [10] [] [10] [some 49, some 10] (L17_14).1 := w_plain (by kernel_rfl) (L17_14).2
noncomputable def L17_15 : Lt r17_15 := by refine ⟨?l, ?h⟩; case h => simp only [r17_15, c17, bodyOf, Tryd.f17, Code.sub, opsOf, List.map_cons, List.map_nil, strip]; rfl
theorem w17_15 : Wp r17_15 11 [11, 19, 33, 42] [2] [] [3] [some 50, some 2] (L17_15).1 := w_plain (by kernel_rfl) (L17_15).2
theorem k17 : FnIs TT 17 c17 [.tmp 2] 1 := ⟨Tryd.f17, by kernel_rfl, by simp only [Tryd.f17, c17, bodyOf], by kernel_rfl, of_decide_eq_true (by kernel_rfl)⟩

/- turnstoneref9.Show -/
noncomputable def c18 : Code := bodyOf Tryd.f18
noncomputable def r18_0 : Code := Code.sub [0] c18
noncomputable def r18_1 : Code := Code.sub [1, 0] c18
noncomputable def r18_2 : Code := Code.sub [1, 1, 0, 0] c18
noncomputable def r18_3 : Code := Code.sub [1, 1, 0, 1, 0, 0, 0, 0] c18
noncomputable def r18_4 : Code := Code.sub [1, 1, 0, 1, 0, 0, 1, 0, 0, 0] c18
noncomputable def r18_5 : Code := Code.sub [1, 1, 0, 1, 0, 0, 1, 0, 0, 1, 0] c18
noncomputable def r18_6 : Code := Code.sub [1, 1, 0, 1, 0, 0, 1, 0, 0, 1, 1, 0, 0] c18
noncomputable def r18_7 : Code := Code.sub [1, 1, 0, 1, 0, 0, 1, 0, 0, 1, 1, 0, 1, 0] c18
noncomputable def r18_8 : Code := Code.sub [1, 1, 0, 1, 0, 0, 1, 0, 0, 1, 1, 1, 0] c18
noncomputable def r18_9 : Code := Code.sub [1, 1, 0, 1, 0, 0, 1, 0, 0, 1, 1, 1, 1, 0, 0] c18
noncomputable def r18_10 : Code := Code.sub [1, 1, 0, 1, 0, 0, 1, 0, 0, 1, 1, 1, 1, 0, 1, 0, 0, 0] c18
noncomputable def r18_11 : Code := Code.sub [1, 1, 0, 1, 0, 0, 1, 0, 0, 1, 1, 1, 1, 0, 1, 0, 0, 1, 1, 0] c18
noncomputable def r18_12 : Code := Code.sub [1, 1, 0, 1, 0, 0, 1, 0, 0, 1, 1, 1, 1, 0, 1, 0, 0, 1, 1, 1, 1, 0] c18
noncomputable def r18_13 : Code := Code.sub [1, 1, 0, 1, 0, 0, 1, 0, 0, 1, 1, 1, 1, 0, 1, 0, 0, 1, 1, 1, 1, 1, 1, 0] c18
noncomputable def r18_14 : Code := Code.sub [1, 1, 0, 1, 0, 0, 1, 0, 0, 1, 1, 1, 1, 0, 1, 0, 0, 1, 1, 1, 1, 1, 1, 1, 1, 0] c18
noncomputable def r18_15 : Code := Code.sub [1, 1, 0, 1, 0, 0, 1, 0, 0, 1, 1, 1, 1, 0, 1, 0, 0, 1, 1, 1, 1, 1, 1, 1, 1, 1, 1, 0] c18
noncomputable def r18_16 : Code := Code.sub [1, 1, 0, 1, 0, 0, 1, 0, 0, 1, 1, 1, 1, 0, 1, 0, 0, 1, 1, 1, 1, 1, 1, 1, 1, 1, 1, 1, 1, 0] c18
noncomputable def r18_17 : Code := Code.sub [1, 1, 0, 1, 0, 0, 1, 0, 0, 1, 1, 1, 1, 0, 1, 0, 0, 1, 1, 1, 1, 1, 1, 1, 1, 1, 1, 1, 1, 1, 1, 0] c18
noncomputable def r18_18 : Code := Code.sub [1, 1, 0, 1, 0, 0, 1, 0, 0, 1, 1, 1, 1, 0, 1, 0, 0, 1, 1, 1, 1, 1, 1, 1, 1, 1, 1, 1, 1, 1, 1, 1, 1, 0] c18
noncomputable def r18_19 : Code := Code.sub [1, 1, 0, 1, 0, 0, 1, 0, 0, 1, 1, 1, 1, 0, 1, 0, 0, 1, 1, 1, 1, 1, 1, 1, 1, 1, 1, 1, 1, 1, 1, 1, 1, 1, 1, 0] c18
noncomputable def r18_20 : Code := Code.sub [1, 1, 0, 1, 0, 0, 1, 0, 0, 1, 1, 1, 1, 0, 1, 0, 0, 1, 1, 1, 1, 1, 1, 1, 1, 1, 1, 1, 1, 1, 1, 1, 1, 1, 1, 1, 1, 0] c18
noncomputable def r18_21 : Code := Code.sub [1, 1, 0, 1, 0, 0, 1, 0, 0, 1, 1, 1, 1, 0, 1, 0, 0, 1, 1, 1, 1, 1, 1, 1, 1, 1, 1, 1, 1, 1, 1, 1, 1, 1, 1, 1, 1, 1, 1, 0] c18
noncomputable def r18_22 : Code := Code.sub [1, 1, 0, 1, 0, 0, 1, 0, 0, 1, 1, 1, 1, 0, 1, 0, 0, 1, 1, 1, 1, 1, 1, 1, 1, 1, 1, 1, 1, 1, 1, 1, 1, 1, 1, 1, 1, 1, 1, 1, 1, 0] c18
noncomputable def r18_23 : Code := Code.sub [1, 1, 0, 1, 0, 0, 1, 0, 0, 1, 1, 1, 1, 0, 1, 0, 0, 1, 1, 1, 1, 1, 1, 1, 1, 1, 1, 1, 1, 1, 1, 1, 1, 1, 1, 1, 1, 1, 1, 1, 1, 1, 1, 0] c18
noncomputable def r18_24 : Code := Code.sub [1, 1, 0, 1, 0, 0, 1, 0, 0, 1, 1, 1, 1, 0, 1, 0, 0, 1, 1, 1, 1, 1, 1, 1, 1, 1, 1, 1, 1, 1, 1, 1, 1, 1, 1, 1, 1, 1, 1, 1, 1, 1, 1, 1, 1] c18
noncomputable def r18_25 : Code := Code.sub [1, 1, 0, 1, 0, 0, 1, 0, 0, 1, 1, 1, 1, 0, 1, 0, 1, 0] c18
noncomputable def r18_26 : Code := Code.sub [1, 1, 0, 1, 0, 0, 1, 0, 0, 1, 1, 1, 1, 0, 1, 0, 1, 1, 0, 0] c18
noncomputable def r18_27 : Code := Code.sub [1, 1, 0, 1, 0, 0, 1, 0, 0, 1, 1, 1, 1, 0, 1, 0, 1, 1, 0, 1, 1] c18
noncomputable def r18_28 : Code := Code.sub [1, 1, 0, 1, 0, 0, 1, 0, 0, 1, 1, 1, 1, 0, 1, 0, 1, 1, 1, 0] c18
noncomputable def r18_29 : Code := Code.sub [1, 1, 0, 1, 0, 0, 1, 0, 0, 1, 1, 1, 1, 1] c18
noncomputable def r18_30 : Code := Code.sub [1, 1, 0, 1, 0, 0, 1, 1] c18
noncomputable def r18_31 : Code := Code.sub [1, 1, 1, 0] c18
theorem body18 : c18 = (.seq r18_0 (.seq r18_1 (.seq (.seq r18_2 (.block 0 (.loop (.seq (.seq r18_3 (.cond (.tmp 11) .skip (.exit 0))) (.seq (.block 1 (.seq r18_4 (.seq r18_5 (.seq (.seq r18_6 (.cond (.tmp 23) r18_7 .skip)) (.seq r18_8 (.seq (.seq r18_9 (.block 2 (.seq (.seq r18_10 (.cond (.tmp 37) .skip (.seq r18_11 (.cond (.tmp 37) .skip (.seq r18_12 (.cond (.tmp 37) .skip (.seq r18_13 (.cond (.tmp 37) .skip (.seq r18_14 (.cond (.tmp 37) .skip (.seq r18_15 (.cond (.tmp 37) .skip (.seq r18_16 (.cond (.tmp 37) .skip (.seq r18_17 (.cond (.tmp 37) .skip (.seq r18_18 (.cond (.tmp 37) .skip (.seq r18_19 (.cond (.tmp 37) .skip (.seq r18_20 (.cond (.tmp 37) .skip (.seq r18_21 (.cond (.tmp 37) .skip (.seq r18_22 (.cond (.tmp 37) .skip (.seq r18_23 (.cond (.tmp 37) .skip r18_24)))))))))))))))))))))))))))) (.cond (.tmp 37) r18_25 (.seq (.seq r18_26 (.cond (.tmp 59) .skip r18_27)) (.cond (.tmp 59) r18_28 .skip)))))) r18_29)))))) r18_30))))) (.seq r18_31 .ret)))) := by kernel_rfl
noncomputable def L18_0 : Lt r18_0 := by refine ⟨?l, ?h⟩; case h => simp only [r18_0, c18, bodyOf, Tryd.f18, Code.sub, opsOf, List.map_cons, List.map_nil, strip]; rfl
theorem w18_0 : Wp r18_0 37 [37, 37, 37, 37, 37, 37, 37, 37, 37, 37, 37, 37, 37, 37, 37, 59, 59] [1, 2] [] [0] [some 1, some 2] (L18_0).1 := w_plain (by kernel_rfl) (L18_0).2
noncomputable def L18_1 : Lt r18_1 := by refine ⟨?l, ?h⟩; case h => simp only [r18_1, c18, bodyOf, Tryd.f18, Code.sub, opsOf, List.map_cons, List.map_nil, strip]; rfl
theorem w18_1 : Wp r18_1 37 [37, 37, 37, 37, 37, 37, 37, 37, 37, 37, 37, 37, 37, 37, 37, 59, 59] [3] [] [] [some 3] (L18_1).1 := w_plain (by kernel_rfl) (L18_1).2
noncomputable def L18_2 : Lt r18_2 := by refine ⟨?l, ?h⟩; case h => simp only [r18_2, c18, bodyOf, Tryd.f18, Code.sub, opsOf, List.map_cons, List.map_nil, strip]; rfl
theorem w18_2 : Wp r18_2 37 [37, 37, 37, 37, 37, 37, 37, 37, 37, 37, 37, 37, 37, 37, 37, 59, 59] [4] [] [] [some 4] (L18_2).1 := w_plain (by kernel_rfl) (L18_2).2
noncomputable def L18_3 : Lt r18_3 := by refine ⟨?l, ?h⟩; case h => simp only [r18_3, c18, bodyOf, Tryd.f18, Code.sub, opsOf, List.map_cons, List.map_nil, strip]; rfl
theorem w18_3 : Wp r18_3 37 [37, 37, 37, 37, 37, 37, 37, 37, 37, 37, 37, 37, 37, 37, 37, 59, 59] [7, 8, 9, 10, 11] [] [4, 1] [some 7, some 8, some 9, some 10, some 11] (L18_3).1 := w_plain (by kernel_rfl) (L18_3).2
noncomputable def L18_4 : Lt r18_4 := by refine ⟨?l, ?h⟩; case h => simp only [r18_4, c18, bodyOf, Tryd.f18, Code.sub, opsOf, List.map_cons, List.map_nil, strip]; rfl
theorem w18_4 : Wp r18_4 37 [37, 37, 37, 37, 37, 37, 37, 37, 37, 37, 37, 37, 37, 37, 37, 59, 59] [14, 15, 16, 17, 18, 5] [] [1, 4] [some 14, some 15, some 16, some 17, some 18, some 5, none] (L18_4).1 := w_plain (by kernel_rfl) (L18_4).2
noncomputable def L18_5 : Lt r18_5 := by refine ⟨?l, ?h⟩; case h => simp only [r18_5, c18, bodyOf, Tryd.f18, Code.sub, opsOf, List.map_cons, List.map_nil, strip]; rfl
theorem w18_5 : Wp r18_5 37 [37, 37, 37, 37, 37, 37, 37, 37, 37, 37, 37, 37, 37, 37, 37, 59, 59] [19, 20, 21, 6] [] [5] [some 19, some 20, some 21, some 6] (L18_5).1 := w_plain (by kernel_rfl) (L18_5).2
noncomputable def L18_6 : Lt r18_6 := by refine ⟨?l, ?h⟩; case h => simp only [r18_6, c18, bodyOf, Tryd.f18, Code.sub, opsOf, List.map_cons, List.map_nil, strip]; rfl
theorem w18_6 : Wp r18_6 37 [37, 37, 37, 37, 37, 37, 37, 37, 37, 37, 37, 37, 37, 37, 37, 59, 59] [22, 23] [] [6] [some 22, some 23] (L18_6).1 := w_plain (by kernel_rfl) (L18_6).2
noncomputable def L18_7 : Lt r18_7 := by refine ⟨?l, ?h⟩; case h => simp only [r18_7, c18, bodyOf, Tryd.f18, Code.sub, opsOf, List.map_cons, List.map_nil, strip]; rfl
theorem w18_7 : Wp r18_7 37 [37, 37, 37, 37, 37, 37, 37, 37, 37, 37, 37, 37, 37, 37, 37, 59, 59] [24, 25, 26, 27, 6] [] [5] [some 24, some 25, some 26, some 27, some 6] (L18_7).1 := w_plain (by kernel_rfl) (L18_7).2
noncomputable def L18_8 : Lt r18_8 := by refine ⟨?l, ?h⟩; case h => simp only [r18_8, c18, bodyOf, Tryd.f18, Code.sub, opsOf, List.map_cons, List.map_nil, strip]; rfl
theorem w18_8 : Wp r18_8 37 [37, 37, 37, 37, 37, 37, 37, 37, 37, 37, 37, 37, 37, 37, 37, 59, 59] [28, 29, 30, 31, 32, 33, 34, 3] [] [3, 4, 6] [some 28, some 29, some 30, some 31, some 32, some 33, some 34, some 3] (L18_8).1 := w_plain (by kernel_rfl) (L18_8).2
noncomputable def L18_9 : Lt r18_9 := by refine ⟨?l, ?h⟩; case h => simp only [r18_9, c18, bodyOf, Tryd.f18, Code.sub, opsOf, List.map_cons, List.map_nil, strip]; rfl
theorem w18_9 : Wp r18_9 37 [37, 37, 37, 37, 37, 37, 37, 37, 37, 37, 37, 37, 37, 37, 37, 59, 59] [35, 36] [] [5] [some 35, some 36] (L18_9).1 := w_plain (by kernel_rfl) (L18_9).2
noncomputable def L18_10 : Lt r18_10 := by refine ⟨?l, ?h⟩; case h => simp only [r18_10, c18, bodyOf, Tryd.f18, Code.sub, opsOf, List.map_cons, List.map_nil, strip]; rfl
theorem w18_10 : Wp r18_10 37 [37, 37, 37, 37, 37, 37, 37, 37, 37, 37, 37, 37, 37, 37, 37, 59, 59] [] [37] [36] [some 38, some 37] (L18_10).1 := w_plain (by kernel_rfl) (L18_10).2
noncomputable def L18_11 : Lt r18_11 := by refine ⟨?l, ?h⟩; case h => simp only [r18_11, c18, bodyOf, Tryd.f18, Code.sub, opsOf, List.map_cons, List.map_nil, strip]; rfl
theorem w18_11 : Wp r18_11 37 [37, 37, 37, 37, 37, 37, 37, 37, 37, 37, 37, 37, 37, 37, 37, 59, 59] [] [37] [36] [some 39, some 37] (L18_11).1 := w_plain (by kernel_rfl) (L18_11).2
noncomputable def L18_12 : Lt r18_12 := by refine ⟨?l, ?h⟩; case h => simp only [r18_12, c18, bodyOf, Tryd.f18, Code.sub, opsOf, List.map_cons, List.map_nil, strip]; rfl
theorem w18_12 : Wp r18_12 37 [37, 37, 37, 37, 37, 37, 37, 37, 37, 37, 37, 37, 37, 37, 37, 59, 59] [] [37] [36] [some 40, some 37] (L18_12).1 := w_plain (by kernel_rfl) (L18_12).2
noncomputable def L18_13 : Lt r18_13 := by refine ⟨?l, ?h⟩; case h => simp only [r18_13, c18, bodyOf, Tryd.f18, Code.sub, opsOf, List.map_cons, List.map_nil, strip]; rfl
theorem w18_13 : Wp r18_13 37 [37, 37, 37, 37, 37, 37, 37, 37, 37, 37, 37, 37, 37, 37, 37, 59, 59] [] [37] [36] [some 41, some 37] (L18_13).1 := w_plain (by kernel_rfl) (L18_13).2
noncomputable def L18_14 : Lt r18_14 := by refine ⟨?l, ?h⟩; case h => simp only [r18_14, c18, bodyOf, Tryd.f18, Code.sub, opsOf, List.map_cons, List.map_nil, strip]; rfl
theorem w18_14 : Wp r18_14 37 [37, 37, 37, 37, 37, 37, 37, 37, 37, 37, 37, 37, 37, 37, 37, 59, 59] [] [37] [36] [some 42, some 37] (L18_14).1 := w_plain (by kernel_rfl) (L18_14).2
noncomputable def L18_15 : Lt r18_15 := by refine ⟨?l, ?h⟩; case h => simp only [r18_15, c18, bodyOf, Tryd.f18, Code.sub, opsOf, List.map_cons, List.map_nil, strip]; rfl
theorem w18_15 : Wp r18_15 37 [37, 37, 37, 37, 37, 37, 37, 37, 37, 37, 37, 37, 37, 37, 37, 59, 59] [] [37] [36] [some 43, some 37] (L18_15).1 := w_plain (by kernel_rfl) (L18_15).2
noncomputable def L18_16 : Lt r18_16 := by refine ⟨?l, ?h⟩; case h => simp only [r18_16, c18, bodyOf, Tryd.f18, Code.sub, opsOf, List.map_cons, List.map_nil, strip]; rfl
theorem w18_16 : Wp r18_16 37 [37, 37, 37, 37, 37, 37, 37, 37, 37, 37, 37, 37, 37, 37, 37, 59, 59] [] [37] [36] [some 44, some 37] (L18_16).1 := w_plain (by kernel_rfl) (L18_16).2
noncomputable def L18_17 : Lt r18_17 := by refine ⟨?l, ?h⟩; case h => simp only [r18_17, c18, bodyOf, Tryd.f18, Code.sub, opsOf, List.map_cons, List.map_nil, strip]; rfl
theorem w18_17 : Wp r18_17 37 [37, 37, 37, 37, 37, 37, 37, 37, 37, 37, 37, 37, 37, 37, 37, 59, 59] [] [37] [36] [some 45, some 37] (L18_17).1 := w_plain (by kernel_rfl) (L18_17).2
noncomputable def L18_18 : Lt r18_18 := by refine ⟨?l, ?h⟩; case h => simp only [r18_18, c18, bodyOf, Tryd.f18, Code.sub, opsOf, List.map_cons, List.map_nil, strip]; rfl
theorem w18_18 : Wp r18_18 37 [37, 37, 37, 37, 37, 37, 37, 37, 37, 37, 37, 37, 37, 37, 37, 59, 59] [] [37] [36] [some 46, some 37] (L18_18).1 := w_plain (by kernel_rfl) (L18_18).2
noncomputable def L18_19 : Lt r18_19 := by refine ⟨?l, ?h⟩; case h => simp only [r18_19, c18, bodyOf, Tryd.f18, Code.sub, opsOf, List.map_cons, List.map_nil, strip]; rfl
theorem w18_19 : Wp r18_19 37 [37, 37, 37, 37, 37, 37, 37, 37, 37, 37, 37, 37, 37, 37, 37, 59, 59] [] [37] [36] [some 47, some 37] (L18_19).1 := w_plain (by kernel_rfl) (L18_19).2
noncomputable def L18_20 : Lt r18_20 := by refine ⟨?l, ?h⟩; case h => simp only [r18_20, c18, bodyOf, Tryd.f18, Code.sub, opsOf, List.map_cons, List.map_nil, strip]; rfl
theorem w18_20 : Wp r18_20 37 [37, 37, 37, 37, 37, 37, 37, 37, 37, 37, 37, 37, 37, 37, 37, 59, 59] [] [37] [36] [some 48, some 37] (L18_20).1 := w_plain (by kernel_rfl) (L18_20).2
noncomputable def L18_21 : Lt r18_21 := by refine ⟨?l, ?h⟩; case h => simp only [r18_21, c18, bodyOf, Tryd.f18, Code.sub, opsOf, List.map_cons, List.map_nil, strip]; rfl
theorem w18_21 : Wp r18_21 37 [37, 37, 37, 37, 37, 37, 37, 37, 37, 37, 37, 37, 37, 37, 37, 59, 59] [] [37] [36] [some 49, some 37] (L18_21).1 := w_plain (by kernel_rfl) (L18_21).2
noncomputable def L18_22 : Lt r18_22 := by refine ⟨?l, ?h⟩; case h => simp only [r18_22, c18, bodyOf, Tryd.f18, Code.sub, opsOf, List.map_cons, List.map_nil, strip]; rfl
theorem w18_22 : Wp r18_22 37 [37, 37, 37, 37, 37, 37, 37, 37, 37, 37, 37, 37, 37, 37, 37, 59, 59] [] [37] [36] [some 50, some 37] (L18_22).1 := w_plain (by kernel_rfl) (L18_22).2
noncomputable def L18_23 : Lt r18_23 := by refine ⟨?l, ?h⟩; case h => simp only [r18_23, c18, bodyOf, Tryd.f18, Code.sub, opsOf, List.map_cons, List.map_nil, strip]; rfl
theorem w18_23 : Wp r18_23 37 [37, 37, 37, 37, 37, 37, 37, 37, 37, 37, 37, 37, 37, 37, 37, 59, 59] [] [37] [36] [some 51, some 37] (L18_23).1 := w_plain (by kernel_rfl) (L18_23).2
noncomputable def L18_24 : Lt r18_24 := by refine ⟨?l, ?h⟩; case h => simp only [r18_24, c18, bodyOf, Tryd.f18, Code.sub, opsOf, List.map_cons, List.map_nil, strip]; rfl
theorem w18_24 : Wp r18_24 37 [37, 37, 37, 37, 37, 37, 37, 37, 37, 37, 37, 37, 37, 37, 37, 59, 59] [] [37] [36] [some 52, some 37] (L18_24).1 := w_plain (by kernel_rfl) (L18_24).2
noncomputable def L18_25 : Lt r18_25 := by refine ⟨?l, ?h⟩; case h => simp only [r18_25, c18, bodyOf, Tryd.f18, Code.sub, opsOf, List.map_cons, List.map_nil, strip]; rfl
theorem w18_25 : Wp r18_25 37 [37, 37, 37, 37, 37, 37, 37, 37, 37, 37, 37, 37, 37, 37, 37, 59, 59] [3] [] [3, 5] [some 53, some 54, some 55, some 56, some 57, some 58, some 3] (L18_25).1 := w_plain (by kernel_rfl) (L18_25).2
noncomputable def L18_26 : Lt r18_26 := by refine ⟨?l, ?h⟩; case h => simp only [r18_26, c18, bodyOf, Tryd.f18, Code.sub, opsOf, List.map_cons, List.map_nil, strip]; rfl
theorem w18_26 : Wp r18_26 37 [37, 37, 37, 37, 37, 37, 37, 37, 37, 37, 37, 37, 37, 37, 37, 59, 59] [] [59] [36] [some 60, some 59] (L18_26).1 := w_plain (by kernel_rfl) (L18_26).2
noncomputable def L18_27 : Lt r18_27 := by refine ⟨?l, ?h⟩; case h => simp only [r18_27, c18, bodyOf, Tryd.f18, Code.sub, opsOf, List.map_cons, List.map_nil, strip]; rfl
theorem w18_27 : Wp r18_27 37 [37, 37, 37, 37, 37, 37, 37, 37, 37, 37, 37, 37, 37, 37, 37, 59, 59] [] [59] [36] [some 61, some 59] (L18_27).1 := w_plain (by kernel_rfl) (L18_27).2
theorem can18_28 : canonOps (opsOf r18_28) = opsOf r18_28 := by kernel_rfl
noncomputable def L18_28 : Lc r18_28 := by refine ⟨?l, (congrArg (List.map strip) can18_28).trans ?h⟩; case h => simp only [r18_28, c18, bodyOf, Tryd.f18, Code.sub, opsOf, List.map_cons, List.map_nil, strip]; rfl
theorem w18_28 : Wd r18_28 37 [37, 37, 37, 37, 37, 37, 37, 37, 37, 37, 37, 37, 37, 37, 37, 59, 59] [3] [] [3, 5] [some 62, some 63, some 64, some 65, some 66, some 67, some 68, some 69, some 70, some 71, some 72, some 3] (L18_28).1 [(3, [4]), (8, [4, 9])] := w_loud (by kernel_rfl) (L18_28).2
noncomputable def L18_29 : Lt r18_29 := by refine ⟨?l, ?h⟩; case h => simp only [r18_29, c18, bodyOf, Tryd.f18, Code.sub, opsOf, List.map_cons, List.map_nil, strip]; rfl
theorem w18_29 : Wp r18_29 37 [37, 37, 37, 37, 37, 37, 37, 37, 37, 37, 37, 37, 37, 37, 37, 59, 59] [3] [] [3] [some 73, some 74, some 3] (L18_29).1 := w_plain (by kernel_rfl) (L18_29).2
noncomputable def L18_30 : Lt r18_30 := by refine ⟨?l, ?h⟩; case h => simp only [r18_30, c18, bodyOf, Tryd.f18, Code.sub, opsOf, List.map_cons, List.map_nil, strip]; rfl
theorem w18_30 : Wp r18_30 37 [37, 37, 37, 37, 37, 37, 37, 37, 37, 37, 37, 37, 37, 37, 37, 59, 59] [12, 13, 4] [] [4] [some 12, some 13, some 4] (L18_30).1 := w_plain (by kernel_rfl) (L18_30).2
noncomputable def L18_31 : Lt r18_31 := by refine ⟨?l, ?h⟩; case h => simp only [r18_31, c18, bodyOf, Tryd.f18, Code.sub, opsOf, List.map_cons, List.map_nil, strip]; rfl
theorem w18_31 : Wp r18_31 37 [37, 37, 37, 37, 37, 37, 37, 37, 37, 37, 37, 37, 37, 37, 37, 59, 59] [2] [] [3] [some 75, some 2] (L18_31).1 := w_plain (by kernel_rfl) (L18_31).2
theorem k18 : FnIs TT 18 c18 [.tmp 2] 1 := ⟨Tryd.f18, by kernel_rfl, by simp only [Tryd.f18, c18, bodyOf], by kernel_rfl, of_decide_eq_true (by kernel_rfl)⟩

/- strconv.Itoa -/
noncomputable def c20 : Code := bodyOf Tryd.f20
noncomputable def r20_0 : Code := Code.sub [0] c20
noncomputable def r20_1 : Code := Code.sub [1, 0] c20
theorem body20 : c20 = (.seq r20_0 (.seq r20_1 .ret)) := by kernel_rfl
noncomputable def L20_0 : Lt r20_0 := by refine ⟨?l, ?h⟩; case h => simp only [r20_0, c20, bodyOf, Tryd.f20, Code.sub, opsOf, List.map_cons, List.map_nil, strip]; rfl
theorem w20_0 : Wp r20_0 3 [] [2] [] [] [some 2] (L20_0).1 := w_plain (by kernel_rfl) (L20_0).2
noncomputable def L20_1 : Lt r20_1 := by refine ⟨?l, ?h⟩; case h => simp only [r20_1, c20, bodyOf, Tryd.f20, Code.sub, opsOf, List.map_cons, List.map_nil, strip]; rfl
theorem w20_1 : Wp r20_1 3 [] [2] [] [0] [some 3, some 4, some 2] (L20_1).1 := w_plain (by kernel_rfl) (L20_1).2
theorem k20 : FnIs TT 20 c20 [.tmp 2] 1 := ⟨Tryd.f20, by kernel_rfl, by simp only [Tryd.f20, c20, bodyOf], by kernel_rfl, of_decide_eq_true (by kernel_rfl)⟩

/- (*strings.Builder).WriteString -/
noncomputable def c21 : Code := bodyOf Tryd.f21
noncomputable def r21_0 : Code := Code.sub [0] c21
noncomputable def r21_1 : Code := Code.sub [1, 0] c21
noncomputable def r21_2 : Code := Code.sub [1, 1, 0] c21
noncomputable def r21_3 : Code := Code.sub [1, 1, 1, 0] c21
theorem body21 : c21 = (.seq r21_0 (.seq r21_1 (.seq r21_2 (.seq r21_3 .ret)))) := by kernel_rfl
noncomputable def L21_0 : Lt r21_0 := by refine ⟨?l, ?h⟩; case h => simp only [r21_0, c21, bodyOf, Tryd.f21, Code.sub, opsOf, List.map_cons, List.map_nil, strip]; rfl
theorem w21_0 : Wp r21_0 6 [] [4, 5] [] [] [some 4, some 5] (L21_0).1 := w_plain (by kernel_rfl) (L21_0).2
noncomputable def L21_1 : Lt r21_1 := by refine ⟨?l, ?h⟩; case h => simp only [r21_1, c21, bodyOf, Tryd.f21, Code.sub, opsOf, List.map_cons, List.map_nil, strip]; rfl
theorem w21_1 : Wp r21_1 6 [] [] [] [0] [some 6, some 7] (L21_1).1 := w_plain (by kernel_rfl) (L21_1).2
noncomputable def L21_2 : Lt r21_2 := by refine ⟨?l, ?h⟩; case h => simp only [r21_2, c21, bodyOf, Tryd.f21, Code.sub, opsOf, List.map_cons, List.map_nil, strip]; rfl
theorem w21_2 : Wp r21_2 6 [] [] [] [0, 1] [some 8, some 9, some 10, some 11, some 12, some 13, some 14, some 15, some 16, none] (L21_2).1 := w_plain (by kernel_rfl) (L21_2).2
noncomputable def L21_3 : Lt r21_3 := by refine ⟨?l, ?h⟩; case h => simp only [r21_3, c21, bodyOf, Tryd.f21, Code.sub, opsOf, List.map_cons, List.map_nil, strip]; rfl
theorem w21_3 : Wp r21_3 6 [] [4, 5] [] [1] [some 17, some 18, some 4, some 5] (L21_3).1 := w_plain (by kernel_rfl) (L21_3).2
theorem k21 : FnIs TT 21 c21 [.tmp 4, .tmp 5] 2 := ⟨Tryd.f21, by kernel_rfl, by simp only [Tryd.f21, c21, bodyOf], by kernel_rfl, of_decide_eq_true (by kernel_rfl)⟩

/- code.shown -/
noncomputable def c22 : Code := bodyOf Tryd.f22
noncomputable def r22_0 : Code := Code.sub [0] c22
noncomputable def r22_1 : Code := Code.sub [1, 0, 0] c22
noncomputable def r22_2 : Code := Code.sub [1, 0, 1, 0, 0, 0] c22
noncomputable def r22_3 : Code := Code.sub [1, 0, 1, 0, 0, 1, 1, 0] c22
noncomputable def r22_4 : Code := Code.sub [1, 0, 1, 0, 0, 1, 1, 1, 1, 0] c22
noncomputable def r22_5 : Code := Code.sub [1, 0, 1, 0, 0, 1, 1, 1, 1, 1, 1, 0] c22
noncomputable def r22_6 : Code := Code.sub [1, 0, 1, 0, 0, 1, 1, 1, 1, 1, 1, 1, 1, 0] c22
noncomputable def r22_7 : Code := Code.sub [1, 0, 1, 0, 0, 1, 1, 1, 1, 1, 1, 1, 1, 1, 1, 0] c22
noncomputable def r22_8 : Code := Code.sub [1, 0, 1, 0, 0, 1, 1, 1, 1, 1, 1, 1, 1, 1, 1, 1, 1, 0] c22
noncomputable def r22_9 : Code := Code.sub [1, 0, 1, 0, 0, 1, 1, 1, 1, 1, 1, 1, 1, 1, 1, 1, 1, 1, 1, 0] c22
noncomputable def r22_10 : Code := Code.sub [1, 0, 1, 0, 0, 1, 1, 1, 1, 1, 1, 1, 1, 1, 1, 1, 1, 1, 1, 1, 1, 0] c22
noncomputable def r22_11 : Code := Code.sub [1, 0, 1, 0, 0, 1, 1, 1, 1, 1, 1, 1, 1, 1, 1, 1, 1, 1, 1, 1, 1, 1, 1, 0] c22
noncomputable def r22_12 : Code := Code.sub [1, 0, 1, 0, 0, 1, 1, 1, 1, 1, 1, 1, 1, 1, 1, 1, 1, 1, 1, 1, 1, 1, 1, 1, 1, 0] c22
noncomputable def r22_13 : Code := Code.sub [1, 0, 1, 0, 0, 1, 1, 1, 1, 1, 1, 1, 1, 1, 1, 1, 1, 1, 1, 1, 1, 1, 1, 1, 1, 1, 1, 0] c22
noncomputable def r22_14 : Code := Code.sub [1, 0, 1, 0, 0, 1, 1, 1, 1, 1, 1, 1, 1, 1, 1, 1, 1, 1, 1, 1, 1, 1, 1, 1, 1, 1, 1, 1, 1, 0] c22
noncomputable def r22_15 : Code := Code.sub [1, 0, 1, 0, 0, 1, 1, 1, 1, 1, 1, 1, 1, 1, 1, 1, 1, 1, 1, 1, 1, 1, 1, 1, 1, 1, 1, 1, 1, 1, 1, 0] c22
noncomputable def r22_16 : Code := Code.sub [1, 0, 1, 0, 0, 1, 1, 1, 1, 1, 1, 1, 1, 1, 1, 1, 1, 1, 1, 1, 1, 1, 1, 1, 1, 1, 1, 1, 1, 1, 1, 1, 1] c22
noncomputable def r22_17 : Code := Code.sub [1, 0, 1, 0, 1, 0, 0] c22
noncomputable def r22_18 : Code := Code.sub [1, 0, 1, 0, 1, 1, 0, 0] c22
noncomputable def r22_19 : Code := Code.sub [1, 0, 1, 0, 1, 1, 0, 1, 1] c22
noncomputable def r22_20 : Code := Code.sub [1, 0, 1, 0, 1, 1, 1, 0, 0] c22
noncomputable def r22_21 : Code := Code.sub [1, 1, 0] c22
theorem body22 : c22 = (.seq r22_0 (.seq (.seq r22_1 (.block 0 (.seq (.seq r22_2 (.cond (.tmp 4) .skip (.seq r22_3 (.cond (.tmp 4) .skip (.seq r22_4 (.cond (.tmp 4) .skip (.seq r22_5 (.cond (.tmp 4) .skip (.seq r22_6 (.cond (.tmp 4) .skip (.seq r22_7 (.cond (.tmp 4) .skip (.seq r22_8 (.cond (.tmp 4) .skip (.seq r22_9 (.cond (.tmp 4) .skip (.seq r22_10 (.cond (.tmp 4) .skip (.seq r22_11 (.cond (.tmp 4) .skip (.seq r22_12 (.cond (.tmp 4) .skip (.seq r22_13 (.cond (.tmp 4) .skip (.seq r22_14 (.cond (.tmp 4) .skip (.seq r22_15 (.cond (.tmp 4) .skip r22_16)))))))))))))))))))))))))))) (.cond (.tmp 4) (.seq r22_17 .ret) (.seq (.seq r22_18 (.cond (.tmp 20) .skip r22_19)) (.cond (.tmp 20) (.seq r22_20 .ret) .skip)))))) (.seq r22_21 .ret))) := by kernel_rfl
noncomputable def L22_0 : Lt r22_0 := by refine ⟨?l, ?h⟩; case h => simp only [r22_0, c22, bodyOf, Tryd.f22, Code.sub, opsOf, List.map_cons, List.map_nil, strip]; rfl
theorem w22_0 : Wp r22_0 4 [4, 4, 4, 4, 4, 4, 4, 4, 4, 4, 4, 4, 4, 4, 4, 20, 20] [2] [] [] [some 2] (L22_0).1 := w_plain (by kernel_rfl) (L22_0).2
noncomputable def L22_1 : Lt r22_1 := by refine ⟨?l, ?h⟩; case h => simp only [r22_1, c22, bodyOf, Tryd.f22, Code.sub, opsOf, List.map_cons, List.map_nil, strip]; rfl
theorem w22_1 : Wp r22_1 4 [4, 4, 4, 4, 4, 4, 4, 4, 4, 4, 4, 4, 4, 4, 4, 20, 20] [3] [] [0] [some 3] (L22_1).1 := w_plain (by kernel_rfl) (L22_1).2
noncomputable def L22_2 : Lt r22_2 := by refine ⟨?l, ?h⟩; case h => simp only [r22_2, c22, bodyOf, Tryd.f22, Code.sub, opsOf, List.map_cons, List.map_nil, strip]; rfl
theorem w22_2 : Wp r22_2 4 [4, 4, 4, 4, 4, 4, 4, 4, 4, 4, 4, 4, 4, 4, 4, 20, 20] [] [4] [3] [some 5, some 4] (L22_2).1 := w_plain (by kernel_rfl) (L22_2).2
noncomputable def L22_3 : Lt r22_3 := by refine ⟨?l, ?h⟩; case h => simp only [r22_3, c22, bodyOf, Tryd.f22, Code.sub, opsOf, List.map_cons, List.map_nil, strip]; rfl
theorem w22_3 : Wp r22_3 4 [4, 4, 4, 4, 4, 4, 4, 4, 4, 4, 4, 4, 4, 4, 4, 20, 20] [] [4] [3] [some 6, some 4] (L22_3).1 := w_plain (by kernel_rfl) (L22_3).2
noncomputable def L22_4 : Lt r22_4 := by refine ⟨?l, ?h⟩; case h => simp only [r22_4, c22, bodyOf, Tryd.f22, Code.sub, opsOf, List.map_cons, List.map_nil, strip]; rfl
theorem w22_4 : Wp r22_4 4 [4, 4, 4, 4, 4, 4, 4, 4, 4, 4, 4, 4, 4, 4, 4, 20, 20] [] [4] [3] [some 7, some 4] (L22_4).1 := w_plain (by kernel_rfl) (L22_4).2
noncomputable def L22_5 : Lt r22_5 := by refine ⟨?l, ?h⟩; case h => simp only [r22_5, c22, bodyOf, Tryd.f22, Code.sub, opsOf, List.map_cons, List.map_nil, strip]; rfl
theorem w22_5 : Wp r22_5 4 [4, 4, 4, 4, 4, 4, 4, 4, 4, 4, 4, 4, 4, 4, 4, 20, 20] [] [4] [3] [some 8, some 4] (L22_5).1 := w_plain (by kernel_rfl) (L22_5).2
noncomputable def L22_6 : Lt r22_6 := by refine ⟨?l, ?h⟩; case h => simp only [r22_6, c22, bodyOf, Tryd.f22, Code.sub, opsOf, List.map_cons, List.map_nil, strip]; rfl
theorem w22_6 : Wp r22_6 4 [4, 4, 4, 4, 4, 4, 4, 4, 4, 4, 4, 4, 4, 4, 4, 20, 20] [] [4] [3] [some 9, some 4] (L22_6).1 := w_plain (by kernel_rfl) (L22_6).2
noncomputable def L22_7 : Lt r22_7 := by refine ⟨?l, ?h⟩; case h => simp only [r22_7, c22, bodyOf, Tryd.f22, Code.sub, opsOf, List.map_cons, List.map_nil, strip]; rfl
theorem w22_7 : Wp r22_7 4 [4, 4, 4, 4, 4, 4, 4, 4, 4, 4, 4, 4, 4, 4, 4, 20, 20] [] [4] [3] [some 10, some 4] (L22_7).1 := w_plain (by kernel_rfl) (L22_7).2
noncomputable def L22_8 : Lt r22_8 := by refine ⟨?l, ?h⟩; case h => simp only [r22_8, c22, bodyOf, Tryd.f22, Code.sub, opsOf, List.map_cons, List.map_nil, strip]; rfl
theorem w22_8 : Wp r22_8 4 [4, 4, 4, 4, 4, 4, 4, 4, 4, 4, 4, 4, 4, 4, 4, 20, 20] [] [4] [3] [some 11, some 4] (L22_8).1 := w_plain (by kernel_rfl) (L22_8).2
noncomputable def L22_9 : Lt r22_9 := by refine ⟨?l, ?h⟩; case h => simp only [r22_9, c22, bodyOf, Tryd.f22, Code.sub, opsOf, List.map_cons, List.map_nil, strip]; rfl
theorem w22_9 : Wp r22_9 4 [4, 4, 4, 4, 4, 4, 4, 4, 4, 4, 4, 4, 4, 4, 4, 20, 20] [] [4] [3] [some 12, some 4] (L22_9).1 := w_plain (by kernel_rfl) (L22_9).2
noncomputable def L22_10 : Lt r22_10 := by refine ⟨?l, ?h⟩; case h => simp only [r22_10, c22, bodyOf, Tryd.f22, Code.sub, opsOf, List.map_cons, List.map_nil, strip]; rfl
theorem w22_10 : Wp r22_10 4 [4, 4, 4, 4, 4, 4, 4, 4, 4, 4, 4, 4, 4, 4, 4, 20, 20] [] [4] [3] [some 13, some 4] (L22_10).1 := w_plain (by kernel_rfl) (L22_10).2
noncomputable def L22_11 : Lt r22_11 := by refine ⟨?l, ?h⟩; case h => simp only [r22_11, c22, bodyOf, Tryd.f22, Code.sub, opsOf, List.map_cons, List.map_nil, strip]; rfl
theorem w22_11 : Wp r22_11 4 [4, 4, 4, 4, 4, 4, 4, 4, 4, 4, 4, 4, 4, 4, 4, 20, 20] [] [4] [3] [some 14, some 4] (L22_11).1 := w_plain (by kernel_rfl) (L22_11).2
noncomputable def L22_12 : Lt r22_12 := by refine ⟨?l, ?h⟩; case h => simp only [r22_12, c22, bodyOf, Tryd.f22, Code.sub, opsOf, List.map_cons, List.map_nil, strip]; rfl
theorem w22_12 : Wp r22_12 4 [4, 4, 4, 4, 4, 4, 4, 4, 4, 4, 4, 4, 4, 4, 4, 20, 20] [] [4] [3] [some 15, some 4] (L22_12).1 := w_plain (by kernel_rfl) (L22_12).2
noncomputable def L22_13 : Lt r22_13 := by refine ⟨?l, ?h⟩; case h => simp only [r22_13, c22, bodyOf, Tryd.f22, Code.sub, opsOf, List.map_cons, List.map_nil, strip]; rfl
theorem w22_13 : Wp r22_13 4 [4, 4, 4, 4, 4, 4, 4, 4, 4, 4, 4, 4, 4, 4, 4, 20, 20] [] [4] [3] [some 16, some 4] (L22_13).1 := w_plain (by kernel_rfl) (L22_13).2
noncomputable def L22_14 : Lt r22_14 := by refine ⟨?l, ?h⟩; case h => simp only [r22_14, c22, bodyOf, Tryd.f22, Code.sub, opsOf, List.map_cons, List.map_nil, strip]; rfl
theorem w22_14 : Wp r22_14 4 [4, 4, 4, 4, 4, 4, 4, 4, 4, 4, 4, 4, 4, 4, 4, 20, 20] [] [4] [3] [some 17, some 4] (L22_14).1 := w_plain (by kernel_rfl) (L22_14).2
noncomputable def L22_15 : Lt r22_15 := by refine ⟨?l, ?h⟩; case h => simp only [r22_15, c22, bodyOf, Tryd.f22, Code.sub, opsOf, List.map_cons, List.map_nil, strip]; rfl
theorem w22_15 : Wp r22_15 4 [4, 4, 4, 4, 4, 4, 4, 4, 4, 4, 4, 4, 4, 4, 4, 20, 20] [] [4] [3] [some 18, some 4] (L22_15).1 := w_plain (by kernel_rfl) (L22_15).2
noncomputable def L22_16 : Lt r22_16 := by refine ⟨?l, ?h⟩; case h => simp only [r22_16, c22, bodyOf, Tryd.f22, Code.sub, opsOf, List.map_cons, List.map_nil, strip]; rfl
theorem w22_16 : Wp r22_16 4 [4, 4, 4, 4, 4, 4, 4, 4, 4, 4, 4, 4, 4, 4, 4, 20, 20] [] [4] [3] [some 19, some 4] (L22_16).1 := w_plain (by kernel_rfl) (L22_16).2
noncomputable def L22_17 : Lt r22_17 := by refine ⟨?l, ?h⟩; case h => simp only [r22_17, c22, bodyOf, Tryd.f22, Code.sub, opsOf, List.map_cons, List.map_nil, strip]; rfl
theorem w22_17 : Wp r22_17 4 [4, 4, 4, 4, 4, 4, 4, 4, 4, 4, 4, 4, 4, 4, 4, 20, 20] [2] [] [] [some 2] (L22_17).1 := w_plain (by kernel_rfl) (L22_17).2
noncomputable def L22_18 : Lt r22_18 := by refine ⟨?l, ?h⟩; case h => simp only [r22_18, c22, bodyOf, Tryd.f22, Code.sub, opsOf, List.map_cons, List.map_nil, strip]; rfl
theorem w22_18 : Wp r22_18 4 [4, 4, 4, 4, 4, 4, 4, 4, 4, 4, 4, 4, 4, 4, 4, 20, 20] [] [20] [3] [some 21, some 20] (L22_18).1 := w_plain (by kernel_rfl) (L22_18).2
noncomputable def L22_19 : Lt r22_19 := by refine ⟨?l, ?h⟩; case h => simp only [r22_19, c22, bodyOf, Tryd.f22, Code.sub, opsOf, List.map_cons, List.map_nil, strip]; rfl
theorem w22_19 : Wp r22_19 4 [4, 4, 4, 4, 4, 4, 4, 4, 4, 4, 4, 4, 4, 4, 4, 20, 20] [] [20] [3] [some 22, some 20] (L22_19).1 := w_plain (by kernel_rfl) (L22_19).2
noncomputable def L22_20 : Lt r22_20 := by refine ⟨?l, ?h⟩; case h => simp only [r22_20, c22, bodyOf, Tryd.f22, Code.sub, opsOf, List.map_cons, List.map_nil, strip]; rfl
theorem w22_20 : Wp r22_20 4 [4, 4, 4, 4, 4, 4, 4, 4, 4, 4, 4, 4, 4, 4, 4, 20, 20] [2] [] [] [some 2] (L22_20).1 := w_plain (by kernel_rfl) (L22_20).2
noncomputable def L22_21 : Lt r22_21 := by refine ⟨?l, ?h⟩; case h => simp only [r22_21, c22, bodyOf, Tryd.f22, Code.sub, opsOf, List.map_cons, List.map_nil, strip]; rfl
theorem w22_21 : Wp r22_21 4 [4, 4, 4, 4, 4, 4, 4, 4, 4, 4, 4, 4, 4, 4, 4, 20, 20] [2] [] [] [some 2] (L22_21).1 := w_plain (by kernel_rfl) (L22_21).2
theorem k22 : FnIs TT 22 c22 [.tmp 2] 1 := ⟨Tryd.f22, by kernel_rfl, by simp only [Tryd.f22, c22, bodyOf], by kernel_rfl, of_decide_eq_true (by kernel_rfl)⟩

/- (*strings.Builder).WriteByte -/
noncomputable def c23 : Code := bodyOf Tryd.f23
noncomputable def r23_0 : Code := Code.sub [0] c23
noncomputable def r23_1 : Code := Code.sub [1, 0] c23
noncomputable def r23_2 : Code := Code.sub [1, 1, 0] c23
noncomputable def r23_3 : Code := Code.sub [1, 1, 1, 0] c23
theorem body23 : c23 = (.seq r23_0 (.seq r23_1 (.seq r23_2 (.seq r23_3 .ret)))) := by kernel_rfl
noncomputable def L23_0 : Lt r23_0 := by refine ⟨?l, ?h⟩; case h => simp only [r23_0, c23, bodyOf, Tryd.f23, Code.sub, opsOf, List.map_cons, List.map_nil, strip]; rfl
theorem w23_0 : Wp r23_0 5 [] [4] [] [] [some 4] (L23_0).1 := w_plain (by kernel_rfl) (L23_0).2
noncomputable def L23_1 : Lt r23_1 := by refine ⟨?l, ?h⟩; case h => simp only [r23_1, c23, bodyOf, Tryd.f23, Code.sub, opsOf, List.map_cons, List.map_nil, strip]; rfl
theorem w23_1 : Wp r23_1 5 [] [] [] [0] [some 5, some 6] (L23_1).1 := w_plain (by kernel_rfl) (L23_1).2
noncomputable def L23_2 : Lt r23_2 := by refine ⟨?l, ?h⟩; case h => simp only [r23_2, c23, bodyOf, Tryd.f23, Code.sub, opsOf, List.map_cons, List.map_nil, strip]; rfl
theorem w23_2 : Wp r23_2 5 [] [] [] [0, 1] [some 7, some 8, some 9, some 10, some 11, some 12, some 13, some 14, some 15, some 16, none] (L23_2).1 := w_plain (by kernel_rfl) (L23_2).2
noncomputable def L23_3 : Lt r23_3 := by refine ⟨?l, ?h⟩; case h => simp only [r23_3, c23, bodyOf, Tryd.f23, Code.sub, opsOf, List.map_cons, List.map_nil, strip]; rfl
theorem w23_3 : Wp r23_3 5 [] [4] [] [] [some 4] (L23_3).1 := w_plain (by kernel_rfl) (L23_3).2
theorem k23 : FnIs TT 23 c23 [.tmp 4] 2 := ⟨Tryd.f23, by kernel_rfl, by simp only [Tryd.f23, c23, bodyOf], by kernel_rfl, of_decide_eq_true (by kernel_rfl)⟩

/- (*strings.Builder).String -/
noncomputable def c24 : Code := bodyOf Tryd.f24
noncomputable def r24_0 : Code := Code.sub [0] c24
noncomputable def r24_1 : Code := Code.sub [1, 0] c24
theorem body24 : c24 = (.seq r24_0 (.seq r24_1 .ret)) := by kernel_rfl
noncomputable def L24_0 : Lt r24_0 := by refine ⟨?l, ?h⟩; case h => simp only [r24_0, c24, bodyOf, Tryd.f24, Code.sub, opsOf, List.map_cons, List.map_nil, strip]; rfl
theorem w24_0 : Wp r24_0 3 [] [2] [] [] [some 2] (L24_0).1 := w_plain (by kernel_rfl) (L24_0).2
theorem can24_1 : canonOps (opsOf r24_1) = opsOf r24_1 := by kernel_rfl
noncomputable def L24_1 : Lc r24_1 := by refine ⟨?l, (congrArg (List.map strip) can24_1).trans ?h⟩; case h => simp only [r24_1, c24, bodyOf, Tryd.f24, Code.sub, opsOf, List.map_cons, List.map_nil, strip]; rfl
theorem w24_1 : Wd r24_1 3 [] [2] [] [0] [some 3, some 4, some 5, some 6, some 7, some 8, some 9, some 10, some 11, some 12, some 13, some 2] (L24_1).1 [(3, [4]), (8, [4, 10]), (9, [4, 10])] := w_loud (by kernel_rfl) (L24_1).2
theorem k24 : FnIs TT 24 c24 [.tmp 2] 1 := ⟨Tryd.f24, by kernel_rfl, by simp only [Tryd.f24, c24, bodyOf], by kernel_rfl, of_decide_eq_true (by kernel_rfl)⟩

/- turnstoneref9.digits -/
noncomputable def c25 : Code := bodyOf Tryd.f25
noncomputable def r25_0 : Code := Code.sub [0] c25
noncomputable def r25_1 : Code := Code.sub [1, 0, 0] c25
noncomputable def r25_2 : Code := Code.sub [1, 0, 1, 0, 0] c25
noncomputable def r25_3 : Code := Code.sub [1, 1, 0] c25
theorem body25 : c25 = (.seq r25_0 (.seq (.seq r25_1 (.cond (.tmp 4) (.seq r25_2 .ret) .skip)) (.seq r25_3 .ret))) := by kernel_rfl
noncomputable def L25_0 : Lt r25_0 := by refine ⟨?l, ?h⟩; case h => simp only [r25_0, c25, bodyOf, Tryd.f25, Code.sub, opsOf, List.map_cons, List.map_nil, strip]; rfl
theorem w25_0 : Wp r25_0 3 [4] [2] [] [] [some 2] (L25_0).1 := w_plain (by kernel_rfl) (L25_0).2
noncomputable def L25_1 : Lt r25_1 := by refine ⟨?l, ?h⟩; case h => simp only [r25_1, c25, bodyOf, Tryd.f25, Code.sub, opsOf, List.map_cons, List.map_nil, strip]; rfl
theorem w25_1 : Wp r25_1 3 [4] [] [4] [0] [some 3, some 4] (L25_1).1 := w_plain (by kernel_rfl) (L25_1).2
noncomputable def L25_2 : Lt r25_2 := by refine ⟨?l, ?h⟩; case h => simp only [r25_2, c25, bodyOf, Tryd.f25, Code.sub, opsOf, List.map_cons, List.map_nil, strip]; rfl
theorem w25_2 : Wp r25_2 3 [4] [2] [] [0] [some 5, some 6, some 7, some 2] (L25_2).1 := w_plain (by kernel_rfl) (L25_2).2
noncomputable def L25_3 : Lt r25_3 := by refine ⟨?l, ?h⟩; case h => simp only [r25_3, c25, bodyOf, Tryd.f25, Code.sub, opsOf, List.map_cons, List.map_nil, strip]; rfl
theorem w25_3 : Wp r25_3 3 [4] [2] [] [0] [some 8, some 9, some 10, some 11, some 2] (L25_3).1 := w_plain (by kernel_rfl) (L25_3).2
theorem k25 : FnIs TT 25 c25 [.tmp 2] 1 := ⟨Tryd.f25, by kernel_rfl, by simp only [Tryd.f25, c25, bodyOf], by kernel_rfl, of_decide_eq_true (by kernel_rfl)⟩

/- internal/strconv.Itoa -/
noncomputable def c27 : Code := bodyOf Tryd.f27
noncomputable def r27_0 : Code := Code.sub [0] c27
noncomputable def r27_1 : Code := Code.sub [1, 0] c27
theorem body27 : c27 = (.seq r27_0 (.seq r27_1 .ret)) := by kernel_rfl
noncomputable def L27_0 : Lt r27_0 := by refine ⟨?l, ?h⟩; case h => simp only [r27_0, c27, bodyOf, Tryd.f27, Code.sub, opsOf, List.map_cons, List.map_nil, strip]; rfl
theorem w27_0 : Wp r27_0 3 [] [2] [] [] [some 2] (L27_0).1 := w_plain (by kernel_rfl) (L27_0).2
noncomputable def L27_1 : Lt r27_1 := by refine ⟨?l, ?h⟩; case h => simp only [r27_1, c27, bodyOf, Tryd.f27, Code.sub, opsOf, List.map_cons, List.map_nil, strip]; rfl
theorem w27_1 : Wp r27_1 3 [] [2] [] [0] [some 3, some 4, some 2] (L27_1).1 := w_plain (by kernel_rfl) (L27_1).2
theorem k27 : FnIs TT 27 c27 [.tmp 2] 1 := ⟨Tryd.f27, by kernel_rfl, by simp only [Tryd.f27, c27, bodyOf], by kernel_rfl, of_decide_eq_true (by kernel_rfl)⟩

/- (*strings.Builder).copyCheck -/
noncomputable def c28 : Code := bodyOf Tryd.f28
noncomputable def r28_0 : Code := Code.sub [0] c28
noncomputable def r28_1 : Code := Code.sub [1, 0] c28
noncomputable def r28_2 : Code := Code.sub [1, 1, 0] c28
noncomputable def o28_0 : Code := Code.sub [1, 1, 1, 0] c28
theorem body28 : c28 = (.seq r28_0 (.cond (.tmp 6) r28_1 (.seq r28_2 (.cond (.tmp 19) o28_0 .skip)))) := by kernel_rfl
noncomputable def L28_0 : Lt r28_0 := by refine ⟨?l, ?h⟩; case h => simp only [r28_0, c28, bodyOf, Tryd.f28, Code.sub, opsOf, List.map_cons, List.map_nil, strip]; rfl
theorem w28_0 : Wp r28_0 1 [6, 19] [] [6] [0] [some 2, some 3, some 4, some 5, some 6] (L28_0).1 := w_plain (by kernel_rfl) (L28_0).2
noncomputable def L28_1 : Lt r28_1 := by refine ⟨?l, ?h⟩; case h => simp only [r28_1, c28, bodyOf, Tryd.f28, Code.sub, opsOf, List.map_cons, List.map_nil, strip]; rfl
theorem w28_1 : Wp r28_1 1 [6, 19] [] [] [0] [some 7, some 8, some 9, some 10, some 11, some 12, some 13, none] (L28_1).1 := w_plain (by kernel_rfl) (L28_1).2
noncomputable def L28_2 : Lt r28_2 := by refine ⟨?l, ?h⟩; case h => simp only [r28_2, c28, bodyOf, Tryd.f28, Code.sub, opsOf, List.map_cons, List.map_nil, strip]; rfl
theorem w28_2 : Wp r28_2 1 [6, 19] [] [19] [0] [some 14, some 15, some 16, some 17, some 18, some 19] (L28_2).1 := w_plain (by kernel_rfl) (L28_2).2
theorem k28 : FnIs TT 28 c28 [] 1 := ⟨Tryd.f28, by kernel_rfl, by simp only [Tryd.f28, c28, bodyOf], by kernel_rfl, of_decide_eq_true (by kernel_rfl)⟩

/- turnstoneref9.below -/
noncomputable def c29 : Code := bodyOf Tryd.f29
noncomputable def r29_0 : Code := Code.sub [0] c29
noncomputable def r29_1 : Code := Code.sub [1, 0, 0] c29
noncomputable def r29_2 : Code := Code.sub [1, 0, 1, 0, 0] c29
noncomputable def r29_3 : Code := Code.sub [1, 1, 0] c29
theorem body29 : c29 = (.seq r29_0 (.seq (.seq r29_1 (.cond (.tmp 4) (.seq r29_2 .ret) .skip)) (.seq r29_3 .ret))) := by kernel_rfl
noncomputable def L29_0 : Lt r29_0 := by refine ⟨?l, ?h⟩; case h => simp only [r29_0, c29, bodyOf, Tryd.f29, Code.sub, opsOf, List.map_cons, List.map_nil, strip]; rfl
theorem w29_0 : Wp r29_0 3 [4] [2] [] [] [some 2] (L29_0).1 := w_plain (by kernel_rfl) (L29_0).2
noncomputable def L29_1 : Lt r29_1 := by refine ⟨?l, ?h⟩; case h => simp only [r29_1, c29, bodyOf, Tryd.f29, Code.sub, opsOf, List.map_cons, List.map_nil, strip]; rfl
theorem w29_1 : Wp r29_1 3 [4] [] [4] [0] [some 3, some 4] (L29_1).1 := w_plain (by kernel_rfl) (L29_1).2
noncomputable def L29_2 : Lt r29_2 := by refine ⟨?l, ?h⟩; case h => simp only [r29_2, c29, bodyOf, Tryd.f29, Code.sub, opsOf, List.map_cons, List.map_nil, strip]; rfl
theorem w29_2 : Wp r29_2 3 [4] [2] [] [0] [some 5, some 6, some 7, some 8, some 9, some 2] (L29_2).1 := w_plain (by kernel_rfl) (L29_2).2
theorem can29_3 : canonOps (opsOf r29_3) = List.filterMap (fun i => ((opsOf r29_3)[i]?).map (renum [0, 1, 2, 3, 4, 5, 6, 7, 8, 9, 10])) [0, 1, 2, 3, 4, 5, 6, 7, 8, 9, 10] := by kernel_rfl
noncomputable def L29_3 : Lc r29_3 := by refine ⟨?l, (congrArg (List.map strip) can29_3).trans ?h⟩; case h => simp only [r29_3, c29, bodyOf, Tryd.f29, Code.sub, opsOf, List.filterMap_cons, List.filterMap_nil, List.getElem?_cons_succ, List.getElem?_cons_zero, Option.map_some, renum, List.map_cons, List.map_nil, strip]; rfl
theorem w29_3 : Wd r29_3 3 [4] [2] [] [0] [some 10, some 11, some 12, some 13, some 14, some 15, some 16, some 17, some 18, some 19, some 2] (L29_3).1 [(6, [2, 7]), (8, [11])] := w_loud (by kernel_rfl) (L29_3).2
theorem k29 : FnIs TT 29 c29 [.tmp 2] 1 := ⟨Tryd.f29, by kernel_rfl, by simp only [Tryd.f29, c29, bodyOf], by kernel_rfl, of_decide_eq_true (by kernel_rfl)⟩

/- internal/strconv.FormatInt -/
noncomputable def c33 : Code := bodyOf Tryd.f33
noncomputable def r33_0 : Code := Code.sub [0] c33
noncomputable def r33_1 : Code := Code.sub [1, 0, 0] c33
noncomputable def r33_2 : Code := Code.sub [1, 0, 1, 0, 0, 0] c33
noncomputable def r33_3 : Code := Code.sub [1, 0, 1, 0, 0, 1, 0, 0] c33
noncomputable def r33_4 : Code := Code.sub [1, 0, 1, 0, 1, 0] c33
noncomputable def r33_5 : Code := Code.sub [1, 0, 1, 0, 1, 1, 0] c33
noncomputable def r33_6 : Code := Code.sub [1, 0, 1, 0, 1, 1, 1, 0, 0] c33
noncomputable def r33_7 : Code := Code.sub [1, 0, 1, 0, 1, 1, 1, 0, 1, 0] c33
noncomputable def r33_8 : Code := Code.sub [1, 0, 1, 0, 1, 1, 1, 1, 0] c33
noncomputable def r33_9 : Code := Code.sub [1, 0, 1, 0, 1, 1, 1, 1, 1, 0] c33
noncomputable def r33_10 : Code := Code.sub [1, 0, 1, 0, 1, 1, 1, 1, 1, 1, 0, 0] c33
noncomputable def r33_11 : Code := Code.sub [1, 0, 1, 0, 1, 1, 1, 1, 1, 1, 0, 1, 0, 0] c33
noncomputable def r33_12 : Code := Code.sub [1, 0, 1, 0, 1, 1, 1, 1, 1, 1, 0, 1, 0, 1, 0] c33
noncomputable def r33_13 : Code := Code.sub [1, 0, 1, 0, 1, 1, 1, 1, 1, 1, 1, 0] c33
noncomputable def r33_14 : Code := Code.sub [1, 1, 0] c33
noncomputable def r33_15 : Code := Code.sub [1, 1, 1, 0] c33
theorem body33 : c33 = (.seq r33_0 (.seq (.seq r33_1 (.cond (.tmp 11) (.seq (.seq r33_2 (.cond (.tmp 17) (.seq r33_3 .ret) .skip)) (.seq r33_4 (.seq r33_5 (.seq (.seq r33_6 (.cond (.tmp 23) r33_7 .skip)) (.seq r33_8 (.seq r33_9 (.seq (.seq r33_10 (.cond (.tmp 34) (.seq r33_11 (.seq r33_12 .ret)) .skip)) (.seq r33_13 .ret)))))))) .skip)) (.seq r33_14 (.seq r33_15 .ret)))) := by kernel_rfl
noncomputable def L33_0 : Lt r33_0 := by refine ⟨?l, ?h⟩; case h => simp only [r33_0, c33, bodyOf, Tryd.f33, Code.sub, opsOf, List.map_cons, List.map_nil, strip]; rfl
theorem w33_0 : Wp r33_0 10 [11, 17, 23, 34] [4] [] [] [some 4] (L33_0).1 := w_plain (by kernel_rfl) (L33_0).2
noncomputable def L33_1 : Lt r33_1 := by refine ⟨?l, ?h⟩; case h => simp only [r33_1, c33, bodyOf, Tryd.f33, Code.sub, opsOf, List.map_cons, List.map_nil, strip]; rfl
theorem w33_1 : Wp r33_1 10 [11, 17, 23, 34] [] [11] [1] [some 10, some 11] (L33_1).1 := w_plain (by kernel_rfl) (L33_1).2
noncomputable def L33_2 : Lt r33_2 := by refine ⟨?l, ?h⟩; case h => simp only [r33_2, c33, bodyOf, Tryd.f33, Code.sub, opsOf, List.map_cons, List.map_nil, strip]; rfl
theorem w33_2 : Wp r33_2 10 [11, 17, 23, 34] [] [17] [0] [some 12, some 13, some 14, some 15, some 16, some 17] (L33_2).1 := w_plain (by kernel_rfl) (L33_2).2
noncomputable def L33_3 : Lt r33_3 := by refine ⟨?l, ?h⟩; case h => simp only [r33_3, c33, bodyOf, Tryd.f33, Code.sub, opsOf, List.map_cons, List.map_nil, strip]; rfl
theorem w33_3 : Wp r33_3 10 [11, 17, 23, 34] [4] [] [0] [some 18, some 19, some 4] (L33_3).1 := w_plain (by kernel_rfl) (L33_3).2
noncomputable def L33_4 : Lt r33_4 := by refine ⟨?l, ?h⟩; case h => simp only [r33_4, c33, bodyOf, Tryd.f33, Code.sub, opsOf, List.map_cons, List.map_nil, strip]; rfl
theorem w33_4 : Wp r33_4 10 [11, 17, 23, 34] [5] [] [] [some 5] (L33_4).1 := w_plain (by kernel_rfl) (L33_4).2
noncomputable def L33_5 : Lt r33_5 := by refine ⟨?l, ?h⟩; case h => simp only [r33_5, c33, bodyOf, Tryd.f33, Code.sub, opsOf, List.map_cons, List.map_nil, strip]; rfl
theorem w33_5 : Wp r33_5 10 [11, 17, 23, 34] [6] [] [0] [some 20, some 21, some 6] (L33_5).1 := w_plain (by kernel_rfl) (L33_5).2
noncomputable def L33_6 : Lt r33_6 := by refine ⟨?l, ?h⟩; case h => simp only [r33_6, c33, bodyOf, Tryd.f33, Code.sub, opsOf, List.map_cons, List.map_nil, strip]; rfl
theorem w33_6 : Wp r33_6 10 [11, 17, 23, 34] [] [23] [0] [some 22, some 23] (L33_6).1 := w_plain (by kernel_rfl) (L33_6).2
noncomputable def L33_7 : Lt r33_7 := by refine ⟨?l, ?h⟩; case h => simp only [r33_7, c33, bodyOf, Tryd.f33, Code.sub, opsOf, List.map_cons, List.map_nil, strip]; rfl
theorem w33_7 : Wp r33_7 10 [11, 17, 23, 34] [6] [] [6] [some 24, some 25, some 6] (L33_7).1 := w_plain (by kernel_rfl) (L33_7).2
noncomputable def L33_8 : Lt r33_8 := by refine ⟨?l, ?h⟩; case h => simp only [r33_8, c33, bodyOf, Tryd.f33, Code.sub, opsOf, List.map_cons, List.map_nil, strip]; rfl
theorem w33_8 : Wp r33_8 10 [11, 17, 23, 34] [7] [] [6] [some 26, some 27, some 7] (L33_8).1 := w_plain (by kernel_rfl) (L33_8).2
noncomputable def L33_9 : Lt r33_9 := by refine ⟨?l, ?h⟩; case h => simp only [r33_9, c33, bodyOf, Tryd.f33, Code.sub, opsOf, List.map_cons, List.map_nil, strip]; rfl
theorem w33_9 : Wp r33_9 10 [11, 17, 23, 34] [] [] [7, 5, 6] [some 28, some 29, some 30, some 31, some 32] (L33_9).1 := w_plain (by kernel_rfl) (L33_9).2
noncomputable def L33_10 : Lt r33_10 := by refine ⟨?l, ?h⟩; case h => simp only [r33_10, c33, bodyOf, Tryd.f33, Code.sub, opsOf, List.map_cons, List.map_nil, strip]; rfl
theorem w33_10 : Wp r33_10 10 [11, 17, 23, 34] [] [34] [0] [some 33, some 34] (L33_10).1 := w_plain (by kernel_rfl) (L33_10).2
noncomputable def L33_11 : Lt r33_11 := by refine ⟨?l, ?h⟩; case h => simp only [r33_11, c33, bodyOf, Tryd.f33, Code.sub, opsOf, List.map_cons, List.map_nil, strip]; rfl
theorem w33_11 : Wp r33_11 10 [11, 17, 23, 34] [] [] [5] [some 35, none] (L33_11).1 := w_plain (by kernel_rfl) (L33_11).2
noncomputable def L33_12 : Lt r33_12 := by refine ⟨?l, ?h⟩; case h => simp only [r33_12, c33, bodyOf, Tryd.f33, Code.sub, opsOf, List.map_cons, List.map_nil, strip]; rfl
theorem w33_12 : Wp r33_12 10 [11, 17, 23, 34] [4] [] [7, 5] [some 36, some 37, some 38, some 39, some 4] (L33_12).1 := w_plain (by kernel_rfl) (L33_12).2
noncomputable def L33_13 : Lt r33_13 := by refine ⟨?l, ?h⟩; case h => simp only [r33_13, c33, bodyOf, Tryd.f33, Code.sub, opsOf, List.map_cons, List.map_nil, strip]; rfl
theorem w33_13 : Wp r33_13 10 [11, 17, 23, 34] [4] [] [7, 5] [some 40, some 41, some 42, some 43, some 4] (L33_13).1 := w_plain (by kernel_rfl) (L33_13).2
noncomputable def L33_14 : Lt r33_14 := by refine ⟨?l, ?h⟩; case h => simp only [r33_14, c33, bodyOf, Tryd.f33, Code.sub, opsOf, List.map_cons, List.map_nil, strip]; rfl
theorem w33_14 : Wp r33_14 10 [11, 17, 23, 34] [8, 9] [] [1, 0] [some 45, some 46, some 47, some 48, some 49, some 50, some 44, some 51, some 52, some 8, some 9] (L33_14).1 := w_plain (by kernel_rfl) (L33_14).2
noncomputable def L33_15 : Lt r33_15 := by refine ⟨?l, ?h⟩; case h => simp only [r33_15, c33, bodyOf, Tryd.f33, Code.sub, opsOf, List.map_cons, List.map_nil, strip]; rfl
theorem w33_15 : Wp r33_15 10 [11, 17, 23, 34] [4] [] [9] [some 53, some 4] (L33_15).1 := w_plain (by kernel_rfl) (L33_15).2
theorem k33 : FnIs TT 33 c33 [.tmp 4] 2 := ⟨Tryd.f33, by kernel_rfl, by simp only [Tryd.f33, c33, bodyOf], by kernel_rfl, of_decide_eq_true (by kernel_rfl)⟩

/- internal/strconv.small -/
noncomputable def c39 : Code := bodyOf Tryd.f39
noncomputable def r39_0 : Code := Code.sub [0] c39
noncomputable def r39_1 : Code := Code.sub [1, 0, 0] c39
noncomputable def r39_2 : Code := Code.sub [1, 0, 1, 0, 0] c39
noncomputable def r39_3 : Code := Code.sub [1, 1, 0] c39
theorem body39 : c39 = (.seq r39_0 (.seq (.seq r39_1 (.cond (.tmp 4) (.seq r39_2 .ret) .skip)) (.seq r39_3 .ret))) := by kernel_rfl
noncomputable def L39_0 : Lt r39_0 := by refine ⟨?l, ?h⟩; case h => simp only [r39_0, c39, bodyOf, Tryd.f39, Code.sub, opsOf, List.map_cons, List.map_nil, strip]; rfl
theorem w39_0 : Wp r39_0 3 [4] [2] [] [] [some 2] (L39_0).1 := w_plain (by kernel_rfl) (L39_0).2
noncomputable def L39_1 : Lt r39_1 := by refine ⟨?l, ?h⟩; case h => simp only [r39_1, c39, bodyOf, Tryd.f39, Code.sub, opsOf, List.map_cons, List.map_nil, strip]; rfl
theorem w39_1 : Wp r39_1 3 [4] [] [4] [0] [some 3, some 4] (L39_1).1 := w_plain (by kernel_rfl) (L39_1).2
noncomputable def L39_2 : Lt r39_2 := by refine ⟨?l, ?h⟩; case h => simp only [r39_2, c39, bodyOf, Tryd.f39, Code.sub, opsOf, List.map_cons, List.map_nil, strip]; rfl
theorem w39_2 : Wp r39_2 3 [4] [2] [] [0] [some 5, some 6, some 7, some 8, some 2] (L39_2).1 := w_plain (by kernel_rfl) (L39_2).2
noncomputable def L39_3 : Lt r39_3 := by refine ⟨?l, ?h⟩; case h => simp only [r39_3, c39, bodyOf, Tryd.f39, Code.sub, opsOf, List.map_cons, List.map_nil, strip]; rfl
theorem w39_3 : Wp r39_3 3 [4] [2] [] [0] [some 9, some 10, some 11, some 12, some 13, some 14, some 2] (L39_3).1 := w_plain (by kernel_rfl) (L39_3).2
theorem k39 : FnIs TT 39 c39 [.tmp 2] 1 := ⟨Tryd.f39, by kernel_rfl, by simp only [Tryd.f39, c39, bodyOf], by kernel_rfl, of_decide_eq_true (by kernel_rfl)⟩

/- internal/strconv.numDigits -/
noncomputable def c40 : Code := bodyOf Tryd.f40
noncomputable def r40_0 : Code := Code.sub [0] c40
noncomputable def r40_1 : Code := Code.sub [1, 0] c40
noncomputable def r40_2 : Code := Code.sub [1, 1, 0] c40
theorem body40 : c40 = (.seq r40_0 (.seq r40_1 (.seq r40_2 .ret))) := by kernel_rfl
noncomputable def L40_0 : Lt r40_0 := by refine ⟨?l, ?h⟩; case h => simp only [r40_0, c40, bodyOf, Tryd.f40, Code.sub, opsOf, List.map_cons, List.map_nil, strip]; rfl
theorem w40_0 : Wp r40_0 4 [] [2] [] [] [some 2] (L40_0).1 := w_plain (by kernel_rfl) (L40_0).2
noncomputable def L40_1 : Lt r40_1 := by refine ⟨?l, ?h⟩; case h => simp only [r40_1, c40, bodyOf, Tryd.f40, Code.sub, opsOf, List.map_cons, List.map_nil, strip]; rfl
theorem w40_1 : Wp r40_1 4 [] [3] [] [0] [some 4, some 5, some 6, some 3] (L40_1).1 := w_plain (by kernel_rfl) (L40_1).2
noncomputable def L40_2 : Lt r40_2 := by refine ⟨?l, ?h⟩; case h => simp only [r40_2, c40, bodyOf, Tryd.f40, Code.sub, opsOf, List.map_cons, List.map_nil, strip]; rfl
theorem w40_2 : Wp r40_2 4 [] [2] [] [0, 3] [some 7, some 8, some 9, some 10, some 11, some 12, some 13, some 14, some 2] (L40_2).1 := w_plain (by kernel_rfl) (L40_2).2
theorem k40 : FnIs TT 40 c40 [.tmp 2] 1 := ⟨Tryd.f40, by kernel_rfl, by simp only [Tryd.f40, c40, bodyOf], by kernel_rfl, of_decide_eq_true (by kernel_rfl)⟩

/- internal/strconv.formatBase10 -/
noncomputable def c41 : Code := bodyOf Tryd.f41
noncomputable def r41_0 : Code := Code.sub [0] c41
noncomputable def r41_1 : Code := Code.sub [1, 0, 0, 0, 0, 0] c41
noncomputable def r41_2 : Code := Code.sub [1, 0, 0, 0, 1, 0, 0] c41
noncomputable def r41_3 : Code := Code.sub [1, 0, 0, 0, 1, 0, 1, 0] c41
noncomputable def r41_4 : Code := Code.sub [1, 0, 0, 0, 1, 0, 1, 1, 0] c41
noncomputable def r41_5 : Code := Code.sub [1, 0, 0, 0, 1, 0, 1, 1, 1, 0] c41
noncomputable def r41_6 : Code := Code.sub [1, 0, 0, 0, 1, 0, 1, 1, 1, 1, 0] c41
noncomputable def r41_7 : Code := Code.sub [1, 0, 0, 0, 1, 0, 1, 1, 1, 1, 1, 0] c41
noncomputable def r41_8 : Code := Code.sub [1, 0, 0, 0, 1, 0, 1, 1, 1, 1, 1, 1, 0] c41
noncomputable def r41_9 : Code := Code.sub [1, 0, 0, 0, 1, 0, 1, 1, 1, 1, 1, 1, 1, 0] c41
noncomputable def r41_10 : Code := Code.sub [1, 0, 0, 0, 1, 0, 1, 1, 1, 1, 1, 1, 1, 1, 0] c41
noncomputable def r41_11 : Code := Code.sub [1, 0, 0, 0, 1, 0, 1, 1, 1, 1, 1, 1, 1, 1, 1] c41
noncomputable def r41_12 : Code := Code.sub [1, 1, 0] c41
noncomputable def r41_13 : Code := Code.sub [1, 1, 1, 0, 0] c41
noncomputable def r41_14 : Code := Code.sub [1, 1, 1, 0, 1, 0, 0] c41
noncomputable def r41_15 : Code := Code.sub [1, 1, 1, 0, 1, 0, 1, 0] c41
noncomputable def r41_16 : Code := Code.sub [1, 1, 1, 0, 1, 0, 1, 1, 0] c41
noncomputable def r41_17 : Code := Code.sub [1, 1, 1, 0, 1, 0, 1, 1, 1, 0] c41
noncomputable def r41_18 : Code := Code.sub [1, 1, 1, 0, 1, 0, 1, 1, 1, 1, 0] c41
noncomputable def r41_19 : Code := Code.sub [1, 1, 1, 0, 1, 0, 1, 1, 1, 1, 1] c41
noncomputable def r41_20 : Code := Code.sub [1, 1, 1, 1, 0, 0] c41
noncomputable def r41_21 : Code := Code.sub [1, 1, 1, 1, 0, 1, 0, 0] c41
noncomputable def r41_22 : Code := Code.sub [1, 1, 1, 1, 0, 1, 0, 1, 0] c41
noncomputable def r41_23 : Code := Code.sub [1, 1, 1, 1, 0, 1, 0, 1, 1, 0] c41
noncomputable def r41_24 : Code := Code.sub [1, 1, 1, 1, 0, 1, 0, 1, 1, 1] c41
noncomputable def r41_25 : Code := Code.sub [1, 1, 1, 1, 1, 0] c41
noncomputable def r41_26 : Code := Code.sub [1, 1, 1, 1, 1, 1, 0] c41
theorem body41 : c41 = (.seq r41_0 (.seq (.block 0 (.loop (.seq (.seq r41_1 (.cond (.tmp 20) .skip (.exit 0))) (.block 1 (.seq r41_2 (.seq r41_3 (.seq r41_4 (.seq r41_5 (.seq r41_6 (.seq r41_7 (.seq r41_8 (.seq r41_9 (.seq r41_10 r41_11))))))))))))) (.seq r41_12 (.seq (.seq r41_13 (.cond (.tmp 99) (.seq r41_14 (.seq r41_15 (.seq r41_16 (.seq r41_17 (.seq r41_18 r41_19))))) .skip)) (.seq (.seq r41_20 (.cond (.tmp 139) (.seq r41_21 (.seq r41_22 (.seq r41_23 r41_24))) .skip)) (.seq r41_25 (.cond (.tmp 161) r41_26 .skip))))))) := by kernel_rfl
noncomputable def L41_0 : Lt r41_0 := by refine ⟨?l, ?h⟩; case h => simp only [r41_0, c41, bodyOf, Tryd.f41, Code.sub, opsOf, List.map_cons, List.map_nil, strip]; rfl
theorem w41_0 : Wp r41_0 17 [20, 99, 139, 161] [4] [] [0] [some 17, some 18, some 4] (L41_0).1 := w_plain (by kernel_rfl) (L41_0).2
noncomputable def L41_1 : Lt r41_1 := by refine ⟨?l, ?h⟩; case h => simp only [r41_1, c41, bodyOf, Tryd.f41, Code.sub, opsOf, List.map_cons, List.map_nil, strip]; rfl
theorem w41_1 : Wp r41_1 17 [20, 99, 139, 161] [] [20] [4] [some 19, some 20] (L41_1).1 := w_plain (by kernel_rfl) (L41_1).2
noncomputable def L41_2 : Lt r41_2 := by refine ⟨?l, ?h⟩; case h => simp only [r41_2, c41, bodyOf, Tryd.f41, Code.sub, opsOf, List.map_cons, List.map_nil, strip]; rfl
theorem w41_2 : Wp r41_2 17 [20, 99, 139, 161] [5] [] [1] [some 21, some 22, some 23, some 5] (L41_2).1 := w_plain (by kernel_rfl) (L41_2).2
noncomputable def L41_3 : Lt r41_3 := by refine ⟨?l, ?h⟩; case h => simp only [r41_3, c41, bodyOf, Tryd.f41, Code.sub, opsOf, List.map_cons, List.map_nil, strip]; rfl
theorem w41_3 : Wp r41_3 17 [20, 99, 139, 161] [1] [] [1] [some 24, some 25, some 1] (L41_3).1 := w_plain (by kernel_rfl) (L41_3).2
noncomputable def L41_4 : Lt r41_4 := by refine ⟨?l, ?h⟩; case h => simp only [r41_4, c41, bodyOf, Tryd.f41, Code.sub, opsOf, List.map_cons, List.map_nil, strip]; rfl
theorem w41_4 : Wp r41_4 17 [20, 99, 139, 161] [6, 7] [] [5] [some 26, some 27, some 28, some 29, some 6, some 7] (L41_4).1 := w_plain (by kernel_rfl) (L41_4).2
noncomputable def L41_5 : Lt r41_5 := by refine ⟨?l, ?h⟩; case h => simp only [r41_5, c41, bodyOf, Tryd.f41, Code.sub, opsOf, List.map_cons, List.map_nil, strip]; rfl
theorem w41_5 : Wp r41_5 17 [20, 99, 139, 161] [8, 9] [] [7] [some 30, some 31, some 32, some 33, some 34, some 35, some 8, some 9] (L41_5).1 := w_plain (by kernel_rfl) (L41_5).2
noncomputable def L41_6 : Lt r41_6 := by refine ⟨?l, ?h⟩; case h => simp only [r41_6, c41, bodyOf, Tryd.f41, Code.sub, opsOf, List.map_cons, List.map_nil, strip]; rfl
theorem w41_6 : Wp r41_6 17 [20, 99, 139, 161] [10, 11] [] [6] [some 36, some 37, some 38, some 39, some 40, some 41, some 10, some 11] (L41_6).1 := w_plain (by kernel_rfl) (L41_6).2
theorem can41_7 : canonOps (opsOf r41_7) = opsOf r41_7 := by kernel_rfl
noncomputable def L41_7 : Lc r41_7 := by refine ⟨?l, (congrArg (List.map strip) can41_7).trans ?h⟩; case h => simp only [r41_7, c41, bodyOf, Tryd.f41, Code.sub, opsOf, List.map_cons, List.map_nil, strip]; rfl
theorem w41_7 : Wd r41_7 17 [20, 99, 139, 161] [] [] [0, 4, 9] [some 42, some 43, some 44, some 45, some 46, some 47, some 48, some 49, some 50, some 51, some 52, some 53, none, some 54, none] (L41_7).1 [] := w_loud (by kernel_rfl) (L41_7).2
theorem can41_8 : canonOps (opsOf r41_8) = opsOf r41_8 := by kernel_rfl
noncomputable def L41_8 : Lc r41_8 := by refine ⟨?l, (congrArg (List.map strip) can41_8).trans ?h⟩; case h => simp only [r41_8, c41, bodyOf, Tryd.f41, Code.sub, opsOf, List.map_cons, List.map_nil, strip]; rfl
theorem w41_8 : Wd r41_8 17 [20, 99, 139, 161] [] [] [0, 4, 8] [some 55, some 56, some 57, some 58, some 59, some 60, some 61, some 62, some 63, some 64, some 65, some 66, none, some 67, none] (L41_8).1 [] := w_loud (by kernel_rfl) (L41_8).2
theorem can41_9 : canonOps (opsOf r41_9) = opsOf r41_9 := by kernel_rfl
noncomputable def L41_9 : Lc r41_9 := by refine ⟨?l, (congrArg (List.map strip) can41_9).trans ?h⟩; case h => simp only [r41_9, c41, bodyOf, Tryd.f41, Code.sub, opsOf, List.map_cons, List.map_nil, strip]; rfl
theorem w41_9 : Wd r41_9 17 [20, 99, 139, 161] [] [] [0, 4, 11] [some 68, some 69, some 70, some 71, some 72, some 73, some 74, some 75, some 76, some 77, some 78, some 79, none, some 80, none] (L41_9).1 [] := w_loud (by kernel_rfl) (L41_9).2
theorem can41_10 : canonOps (opsOf r41_10) = opsOf r41_10 := by kernel_rfl
noncomputable def L41_10 : Lc r41_10 := by refine ⟨?l, (congrArg (List.map strip) can41_10).trans ?h⟩; case h => simp only [r41_10, c41, bodyOf, Tryd.f41, Code.sub, opsOf, List.map_cons, List.map_nil, strip]; rfl
theorem w41_10 : Wd r41_10 17 [20, 99, 139, 161] [] [] [0, 4, 10] [some 81, some 82, some 83, some 84, some 85, some 86, some 87, some 88, some 89, some 90, some 91, some 92, none, some 93, none] (L41_10).1 [] := w_loud (by kernel_rfl) (L41_10).2
noncomputable def L41_11 : Lt r41_11 := by refine ⟨?l, ?h⟩; case h => simp only [r41_11, c41, bodyOf, Tryd.f41, Code.sub, opsOf, List.map_cons, List.map_nil, strip]; rfl
theorem w41_11 : Wp r41_11 17 [20, 99, 139, 161] [4] [] [4] [some 94, some 95, some 4] (L41_11).1 := w_plain (by kernel_rfl) (L41_11).2
noncomputable def L41_12 : Lt r41_12 := by refine ⟨?l, ?h⟩; case h => simp only [r41_12, c41, bodyOf, Tryd.f41, Code.sub, opsOf, List.map_cons, List.map_nil, strip]; rfl
theorem w41_12 : Wp r41_12 17 [20, 99, 139, 161] [12] [] [1] [some 96, some 97, some 12] (L41_12).1 := w_plain (by kernel_rfl) (L41_12).2
noncomputable def L41_13 : Lt r41_13 := by refine ⟨?l, ?h⟩; case h => simp only [r41_13, c41, bodyOf, Tryd.f41, Code.sub, opsOf, List.map_cons, List.map_nil, strip]; rfl
theorem w41_13 : Wp r41_13 17 [20, 99, 139, 161] [] [99] [4] [some 98, some 99] (L41_13).1 := w_plain (by kernel_rfl) (L41_13).2
noncomputable def L41_14 : Lt r41_14 := by refine ⟨?l, ?h⟩; case h => simp only [r41_14, c41, bodyOf, Tryd.f41, Code.sub, opsOf, List.map_cons, List.map_nil, strip]; rfl
theorem w41_14 : Wp r41_14 17 [20, 99, 139, 161] [13] [] [12] [some 100, some 101, some 13] (L41_14).1 := w_plain (by kernel_rfl) (L41_14).2
noncomputable def L41_15 : Lt r41_15 := by refine ⟨?l, ?h⟩; case h => simp only [r41_15, c41, bodyOf, Tryd.f41, Code.sub, opsOf, List.map_cons, List.map_nil, strip]; rfl
theorem w41_15 : Wp r41_15 17 [20, 99, 139, 161] [12] [] [12] [some 102, some 103, some 12] (L41_15).1 := w_plain (by kernel_rfl) (L41_15).2
noncomputable def L41_16 : Lt r41_16 := by refine ⟨?l, ?h⟩; case h => simp only [r41_16, c41, bodyOf, Tryd.f41, Code.sub, opsOf, List.map_cons, List.map_nil, strip]; rfl
theorem w41_16 : Wp r41_16 17 [20, 99, 139, 161] [14, 15] [] [13] [some 104, some 105, some 106, some 107, some 108, some 109, some 14, some 15] (L41_16).1 := w_plain (by kernel_rfl) (L41_16).2
theorem can41_17 : canonOps (opsOf r41_17) = opsOf r41_17 := by kernel_rfl
noncomputable def L41_17 : Lc r41_17 := by refine ⟨?l, (congrArg (List.map strip) can41_17).trans ?h⟩; case h => simp only [r41_17, c41, bodyOf, Tryd.f41, Code.sub, opsOf, List.map_cons, List.map_nil, strip]; rfl
theorem w41_17 : Wd r41_17 17 [20, 99, 139, 161] [] [] [0, 4, 15] [some 110, some 111, some 112, some 113, some 114, some 115, some 116, some 117, some 118, some 119, some 120, some 121, none, some 122, none] (L41_17).1 [] := w_loud (by kernel_rfl) (L41_17).2
theorem can41_18 : canonOps (opsOf r41_18) = opsOf r41_18 := by kernel_rfl
noncomputable def L41_18 : Lc r41_18 := by refine ⟨?l, (congrArg (List.map strip) can41_18).trans ?h⟩; case h => simp only [r41_18, c41, bodyOf, Tryd.f41, Code.sub, opsOf, List.map_cons, List.map_nil, strip]; rfl
theorem w41_18 : Wd r41_18 17 [20, 99, 139, 161] [] [] [0, 4, 14] [some 123, some 124, some 125, some 126, some 127, some 128, some 129, some 130, some 131, some 132, some 133, some 134, none, some 135, none] (L41_18).1 [] := w_loud (by kernel_rfl) (L41_18).2
noncomputable def L41_19 : Lt r41_19 := by refine ⟨?l, ?h⟩; case h => simp only [r41_19, c41, bodyOf, Tryd.f41, Code.sub, opsOf, List.map_cons, List.map_nil, strip]; rfl
theorem w41_19 : Wp r41_19 17 [20, 99, 139, 161] [4] [] [4] [some 136, some 137, some 4] (L41_19).1 := w_plain (by kernel_rfl) (L41_19).2
noncomputable def L41_20 : Lt r41_20 := by refine ⟨?l, ?h⟩; case h => simp only [r41_20, c41, bodyOf, Tryd.f41, Code.sub, opsOf, List.map_cons, List.map_nil, strip]; rfl
theorem w41_20 : Wp r41_20 17 [20, 99, 139, 161] [] [139] [4] [some 138, some 139] (L41_20).1 := w_plain (by kernel_rfl) (L41_20).2
noncomputable def L41_21 : Lt r41_21 := by refine ⟨?l, ?h⟩; case h => simp only [r41_21, c41, bodyOf, Tryd.f41, Code.sub, opsOf, List.map_cons, List.map_nil, strip]; rfl
theorem w41_21 : Wp r41_21 17 [20, 99, 139, 161] [16] [] [12] [some 140, some 141, some 142, some 16] (L41_21).1 := w_plain (by kernel_rfl) (L41_21).2
noncomputable def L41_22 : Lt r41_22 := by refine ⟨?l, ?h⟩; case h => simp only [r41_22, c41, bodyOf, Tryd.f41, Code.sub, opsOf, List.map_cons, List.map_nil, strip]; rfl
theorem w41_22 : Wp r41_22 17 [20, 99, 139, 161] [12] [] [12] [some 143, some 144, some 12] (L41_22).1 := w_plain (by kernel_rfl) (L41_22).2
theorem can41_23 : canonOps (opsOf r41_23) = opsOf r41_23 := by kernel_rfl
noncomputable def L41_23 : Lc r41_23 := by refine ⟨?l, (congrArg (List.map strip) can41_23).trans ?h⟩; case h => simp only [r41_23, c41, bodyOf, Tryd.f41, Code.sub, opsOf, List.map_cons, List.map_nil, strip]; rfl
theorem w41_23 : Wd r41_23 17 [20, 99, 139, 161] [] [] [0, 4, 16] [some 145, some 146, some 147, some 148, some 149, some 150, some 151, some 152, some 153, some 154, some 155, some 156, none, some 157, none] (L41_23).1 [] := w_loud (by kernel_rfl) (L41_23).2
noncomputable def L41_24 : Lt r41_24 := by refine ⟨?l, ?h⟩; case h => simp only [r41_24, c41, bodyOf, Tryd.f41, Code.sub, opsOf, List.map_cons, List.map_nil, strip]; rfl
theorem w41_24 : Wp r41_24 17 [20, 99, 139, 161] [4] [] [4] [some 158, some 159, some 4] (L41_24).1 := w_plain (by kernel_rfl) (L41_24).2
noncomputable def L41_25 : Lt r41_25 := by refine ⟨?l, ?h⟩; case h => simp only [r41_25, c41, bodyOf, Tryd.f41, Code.sub, opsOf, List.map_cons, List.map_nil, strip]; rfl
theorem w41_25 : Wp r41_25 17 [20, 99, 139, 161] [] [161] [4] [some 160, some 161] (L41_25).1 := w_plain (by kernel_rfl) (L41_25).2
noncomputable def L41_26 : Lt r41_26 := by refine ⟨?l, ?h⟩; case h => simp only [r41_26, c41, bodyOf, Tryd.f41, Code.sub, opsOf, List.map_cons, List.map_nil, strip]; rfl
theorem w41_26 : Wp r41_26 17 [20, 99, 139, 161] [] [] [0, 12] [some 162, some 163, some 164, some 165, some 166, none] (L41_26).1 := w_plain (by kernel_rfl) (L41_26).2
theorem k41 : FnIs TT 41 c41 [] 2 := ⟨Tryd.f41, by kernel_rfl, by simp only [Tryd.f41, c41, bodyOf], by kernel_rfl, of_decide_eq_true (by kernel_rfl)⟩

/- internal/strconv.log10Pow2 -/
noncomputable def c48 : Code := bodyOf Tryd.f48
noncomputable def r48_0 : Code := Code.sub [0] c48
noncomputable def r48_1 : Code := Code.sub [1, 0] c48
theorem body48 : c48 = (.seq r48_0 (.seq r48_1 .ret)) := by kernel_rfl
noncomputable def L48_0 : Lt r48_0 := by refine ⟨?l, ?h⟩; case h => simp only [r48_0, c48, bodyOf, Tryd.f48, Code.sub, opsOf, List.map_cons, List.map_nil, strip]; rfl
theorem w48_0 : Wp r48_0 3 [] [2] [] [] [some 2] (L48_0).1 := w_plain (by kernel_rfl) (L48_0).2
noncomputable def L48_1 : Lt r48_1 := by refine ⟨?l, ?h⟩; case h => simp only [r48_1, c48, bodyOf, Tryd.f48, Code.sub, opsOf, List.map_cons, List.map_nil, strip]; rfl
theorem w48_1 : Wp r48_1 3 [] [2] [] [0] [some 3, some 4, some 5, some 2] (L48_1).1 := w_plain (by kernel_rfl) (L48_1).2
theorem k48 : FnIs TT 48 c48 [.tmp 2] 1 := ⟨Tryd.f48, by kernel_rfl, by simp only [Tryd.f48, c48, bodyOf], by kernel_rfl, of_decide_eq_true (by kernel_rfl)⟩

/- math/bits.Len64 -/
noncomputable def c49 : Code := bodyOf Tryd.f49
noncomputable def r49_0 : Code := Code.sub [0] c49
noncomputable def r49_1 : Code := Code.sub [1, 0, 0] c49
noncomputable def r49_2 : Code := Code.sub [1, 0, 1, 0, 0] c49
noncomputable def r49_3 : Code := Code.sub [1, 0, 1, 0, 1] c49
noncomputable def r49_4 : Code := Code.sub [1, 1, 0, 0] c49
noncomputable def r49_5 : Code := Code.sub [1, 1, 0, 1, 0, 0] c49
noncomputable def r49_6 : Code := Code.sub [1, 1, 0, 1, 0, 1] c49
noncomputable def r49_7 : Code := Code.sub [1, 1, 1, 0, 0] c49
noncomputable def r49_8 : Code := Code.sub [1, 1, 1, 0, 1, 0, 0] c49
noncomputable def r49_9 : Code := Code.sub [1, 1, 1, 0, 1, 0, 1] c49
noncomputable def r49_10 : Code := Code.sub [1, 1, 1, 1, 0] c49
theorem body49 : c49 = (.seq r49_0 (.seq (.seq r49_1 (.cond (.tmp 4) (.seq r49_2 r49_3) .skip)) (.seq (.seq r49_4 (.cond (.tmp 8) (.seq r49_5 r49_6) .skip)) (.seq (.seq r49_7 (.cond (.tmp 14) (.seq r49_8 r49_9) .skip)) (.seq r49_10 .ret))))) := by kernel_rfl
noncomputable def L49_0 : Lt r49_0 := by refine ⟨?l, ?h⟩; case h => simp only [r49_0, c49, bodyOf, Tryd.f49, Code.sub, opsOf, List.map_cons, List.map_nil, strip]; rfl
theorem w49_0 : Wp r49_0 3 [4, 8, 14] [2] [] [] [some 2] (L49_0).1 := w_plain (by kernel_rfl) (L49_0).2
noncomputable def L49_1 : Lt r49_1 := by refine ⟨?l, ?h⟩; case h => simp only [r49_1, c49, bodyOf, Tryd.f49, Code.sub, opsOf, List.map_cons, List.map_nil, strip]; rfl
theorem w49_1 : Wp r49_1 3 [4, 8, 14] [] [4] [0] [some 3, some 4] (L49_1).1 := w_plain (by kernel_rfl) (L49_1).2
noncomputable def L49_2 : Lt r49_2 := by refine ⟨?l, ?h⟩; case h => simp only [r49_2, c49, bodyOf, Tryd.f49, Code.sub, opsOf, List.map_cons, List.map_nil, strip]; rfl
theorem w49_2 : Wp r49_2 3 [4, 8, 14] [0] [] [0] [some 5, some 6, some 0] (L49_2).1 := w_plain (by kernel_rfl) (L49_2).2
noncomputable def L49_3 : Lt r49_3 := by refine ⟨?l, ?h⟩; case h => simp only [r49_3, c49, bodyOf, Tryd.f49, Code.sub, opsOf, List.map_cons, List.map_nil, strip]; rfl
theorem w49_3 : Wp r49_3 3 [4, 8, 14] [2] [] [] [some 2] (L49_3).1 := w_plain (by kernel_rfl) (L49_3).2
noncomputable def L49_4 : Lt r49_4 := by refine ⟨?l, ?h⟩; case h => simp only [r49_4, c49, bodyOf, Tryd.f49, Code.sub, opsOf, List.map_cons, List.map_nil, strip]; rfl
theorem w49_4 : Wp r49_4 3 [4, 8, 14] [] [8] [0] [some 7, some 8] (L49_4).1 := w_plain (by kernel_rfl) (L49_4).2
noncomputable def L49_5 : Lt r49_5 := by refine ⟨?l, ?h⟩; case h => simp only [r49_5, c49, bodyOf, Tryd.f49, Code.sub, opsOf, List.map_cons, List.map_nil, strip]; rfl
theorem w49_5 : Wp r49_5 3 [4, 8, 14] [0] [] [0] [some 9, some 10, some 0] (L49_5).1 := w_plain (by kernel_rfl) (L49_5).2
noncomputable def L49_6 : Lt r49_6 := by refine ⟨?l, ?h⟩; case h => simp only [r49_6, c49, bodyOf, Tryd.f49, Code.sub, opsOf, List.map_cons, List.map_nil, strip]; rfl
theorem w49_6 : Wp r49_6 3 [4, 8, 14] [2] [] [2] [some 11, some 12, some 2] (L49_6).1 := w_plain (by kernel_rfl) (L49_6).2
noncomputable def L49_7 : Lt r49_7 := by refine ⟨?l, ?h⟩; case h => simp only [r49_7, c49, bodyOf, Tryd.f49, Code.sub, opsOf, List.map_cons, List.map_nil, strip]; rfl
theorem w49_7 : Wp r49_7 3 [4, 8, 14] [] [14] [0] [some 13, some 14] (L49_7).1 := w_plain (by kernel_rfl) (L49_7).2
noncomputable def L49_8 : Lt r49_8 := by refine ⟨?l, ?h⟩; case h => simp only [r49_8, c49, bodyOf, Tryd.f49, Code.sub, opsOf, List.map_cons, List.map_nil, strip]; rfl
theorem w49_8 : Wp r49_8 3 [4, 8, 14] [0] [] [0] [some 15, some 16, some 0] (L49_8).1 := w_plain (by kernel_rfl) (L49_8).2
noncomputable def L49_9 : Lt r49_9 := by refine ⟨?l, ?h⟩; case h => simp only [r49_9, c49, bodyOf, Tryd.f49, Code.sub, opsOf, List.map_cons, List.map_nil, strip]; rfl
theorem w49_9 : Wp r49_9 3 [4, 8, 14] [2] [] [2] [some 17, some 18, some 2] (L49_9).1 := w_plain (by kernel_rfl) (L49_9).2
noncomputable def L49_10 : Lt r49_10 := by refine ⟨?l, ?h⟩; case h => simp only [r49_10, c49, bodyOf, Tryd.f49, Code.sub, opsOf, List.map_cons, List.map_nil, strip]; rfl
theorem w49_10 : Wp r49_10 3 [4, 8, 14] [2] [] [2, 0] [some 19, some 20, some 21, some 22, some 23, some 24, some 2] (L49_10).1 := w_plain (by kernel_rfl) (L49_10).2
theorem k49 : FnIs TT 49 c49 [.tmp 2] 1 := ⟨Tryd.f49, by kernel_rfl, by simp only [Tryd.f49, c49, bodyOf], by kernel_rfl, of_decide_eq_true (by kernel_rfl)⟩

/- internal/strconv.bool2[int] -/
noncomputable def c50 : Code := bodyOf Tryd.f50
noncomputable def r50_0 : Code := Code.sub [0] c50
noncomputable def r50_1 : Code := Code.sub [1, 0, 0] c50
noncomputable def r50_2 : Code := Code.sub [1, 0, 1, 0, 0] c50
noncomputable def r50_3 : Code := Code.sub [1, 1, 0] c50
theorem body50 : c50 = (.seq r50_0 (.seq (.seq r50_1 (.cond (.tmp 3) (.seq r50_2 .ret) .skip)) (.seq r50_3 .ret))) := by kernel_rfl
noncomputable def L50_0 : Lt r50_0 := by refine ⟨?l, ?h⟩; case h => simp only [r50_0, c50, bodyOf, Tryd.f50, Code.sub, opsOf, List.map_cons, List.map_nil, strip]; rfl
theorem w50_0 : Wp r50_0 3 [3] [2] [] [] [some 2] (L50_0).1 := w_plain (by kernel_rfl) (L50_0).2
noncomputable def L50_1 : Lt r50_1 := by refine ⟨?l, ?h⟩; case h => simp only [r50_1, c50, bodyOf, Tryd.f50, Code.sub, opsOf, List.map_cons, List.map_nil, strip]; rfl
theorem w50_1 : Wp r50_1 3 [3] [] [3] [0] [some 3] (L50_1).1 := w_plain (by kernel_rfl) (L50_1).2
noncomputable def L50_2 : Lt r50_2 := by refine ⟨?l, ?h⟩; case h => simp only [r50_2, c50, bodyOf, Tryd.f50, Code.sub, opsOf, List.map_cons, List.map_nil, strip]; rfl
theorem w50_2 : Wp r50_2 3 [3] [2] [] [] [some 2] (L50_2).1 := w_plain (by kernel_rfl) (L50_2).2
noncomputable def L50_3 : Lt r50_3 := by refine ⟨?l, ?h⟩; case h => simp only [r50_3, c50, bodyOf, Tryd.f50, Code.sub, opsOf, List.map_cons, List.map_nil, strip]; rfl
theorem w50_3 : Wp r50_3 3 [3] [2] [] [] [some 2] (L50_3).1 := w_plain (by kernel_rfl) (L50_3).2
theorem k50 : FnIs TT 50 c50 [.tmp 2] 1 := ⟨Tryd.f50, by kernel_rfl, by simp only [Tryd.f50, c50, bodyOf], by kernel_rfl, of_decide_eq_true (by kernel_rfl)⟩

/- what rewriting uses in the walks -/
attribute [simp] w_seq w_cond_tmp w_ret w_skip w_exit w_block w_loop r_nil r_seq r_seq_ret r_seq_exit r_block
attribute [simp] r_block_ret r_block_exit r_loop r_loop_ret r_loop_exit cnd_t cnd_f rg_some lgo_n lgo_c lops_nil lops_cons
attribute [simp] lk_some lop1_plain lop1_guard gdv_b gdv_u gd_tt gd_ff gd_tf gd_ft lput_s lput_n lev_t
attribute [simp] lev_c lev_g lev_f lget_n lget_c lset_n lset_c lkeep_n lkeep_c lsets_n lsets_c lconds_n
attribute [simp] lconds_c lfill qf_d okx lresults lresultsL lres_tmp o_move o_assign o_bin o_pick o_nilCheck
attribute [simp] o_fieldAddr o_load o_len o_store o_conv o_un o_extract o_append o_call2 o_callv o_buildSlice o_box
attribute [simp] o_alloc o_build o_indexAddr o_slice o_index o_field o_makeFunc o_makeSlice o_min o_max loOf_none loOf_some
attribute [simp] hiOf_none hiOf_some natOf_int sliceS_some sliceA_some strOp sz_str cat_str list_str s_binOp fastBin s_unOp
attribute [simp] fastUn boolEq int_beq int_bne txt_beq one_int one_slice one_ptr one_bool one_str cells_int cells_slice
attribute [simp] cells_ptr cells_bool cells_str cells_agg flatEq_n flatEq_c ba_beq closedA_l closedL_n closedL_c closedV_int closedV_str
attribute [simp] closedV_bool loadRow_new window over Instr.fill repl lst_nil lst_cons lks_some lkc_some lloud_some lreads_n
attribute [simp] lreads_c lsame_d eqV_int eqV_slice eqV_ptr eqV_agg eqL_n eqL_c eqV_str eqV_bool eqV_undef o_lookup
attribute [simp] o_mapUpdate o_insert o_mapEntry o_entryStore o_makeMap o_makeInterface o_typeAssert o_delete o_invoke inv_of est_int o_sliceData
attribute [simp] o_unsafeString unsM_none unsM_some one_map one_iface cells_map cells_iface eqV_map eqV_ifc
attribute [simp] body4 w4_0 L4_0 w4_1 L4_1 w4_2 L4_2 w4_3 L4_3 w4_4 L4_4 w4_5 L4_5 w4_6 L4_6 w4_7 L4_7 w4_8 L4_8 w4_9 L4_9
attribute [simp] body5 w5_0 L5_0 w5_1 L5_1 w5_2 L5_2 w5_3 L5_3 w5_4 L5_4 w5_5 L5_5
attribute [simp] body7 w7_0 L7_0 w7_1 L7_1 w7_2 L7_2 w7_3 L7_3 w7_4 L7_4
attribute [simp] body13 w13_0 L13_0 w13_1 L13_1 w13_2 L13_2 w13_3 L13_3
attribute [simp] body14 w14_0 L14_0 w14_1 L14_1 w14_2 L14_2 w14_3 L14_3
attribute [simp] body17 w17_0 L17_0 w17_1 L17_1 w17_2 L17_2 w17_3 L17_3 w17_4 L17_4 w17_5 L17_5 w17_6 L17_6 w17_7 L17_7 w17_8 L17_8 w17_9 L17_9 w17_10 L17_10 w17_11 L17_11 w17_12 L17_12 w17_13 L17_13 w17_14 L17_14 w17_15 L17_15
attribute [simp] body18 w18_0 L18_0 w18_1 L18_1 w18_2 L18_2 w18_3 L18_3 w18_4 L18_4 w18_5 L18_5 w18_6 L18_6 w18_7 L18_7 w18_8 L18_8 w18_9 L18_9 w18_10 L18_10 w18_11 L18_11 w18_12 L18_12 w18_13 L18_13 w18_14 L18_14 w18_15 L18_15 w18_16 L18_16 w18_17 L18_17 w18_18 L18_18 w18_19 L18_19 w18_20 L18_20 w18_21 L18_21 w18_22 L18_22 w18_23 L18_23 w18_24 L18_24 w18_25 L18_25 w18_26 L18_26 w18_27 L18_27 w18_28 L18_28 w18_29 L18_29 w18_30 L18_30 w18_31 L18_31
attribute [simp] body20 w20_0 L20_0 w20_1 L20_1
attribute [simp] body21 w21_0 L21_0 w21_1 L21_1 w21_2 L21_2 w21_3 L21_3
attribute [simp] body22 w22_0 L22_0 w22_1 L22_1 w22_2 L22_2 w22_3 L22_3 w22_4 L22_4 w22_5 L22_5 w22_6 L22_6 w22_7 L22_7 w22_8 L22_8 w22_9 L22_9 w22_10 L22_10 w22_11 L22_11 w22_12 L22_12 w22_13 L22_13 w22_14 L22_14 w22_15 L22_15 w22_16 L22_16 w22_17 L22_17 w22_18 L22_18 w22_19 L22_19 w22_20 L22_20 w22_21 L22_21
attribute [simp] body23 w23_0 L23_0 w23_1 L23_1 w23_2 L23_2 w23_3 L23_3
attribute [simp] body24 w24_0 L24_0 w24_1 L24_1
attribute [simp] body25 w25_0 L25_0 w25_1 L25_1 w25_2 L25_2 w25_3 L25_3
attribute [simp] body27 w27_0 L27_0 w27_1 L27_1
attribute [simp] body28 w28_0 L28_0 w28_1 L28_1 w28_2 L28_2
attribute [simp] body29 w29_0 L29_0 w29_1 L29_1 w29_2 L29_2 w29_3 L29_3
attribute [simp] body33 w33_0 L33_0 w33_1 L33_1 w33_2 L33_2 w33_3 L33_3 w33_4 L33_4 w33_5 L33_5 w33_6 L33_6 w33_7 L33_7 w33_8 L33_8 w33_9 L33_9 w33_10 L33_10 w33_11 L33_11 w33_12 L33_12 w33_13 L33_13 w33_14 L33_14 w33_15 L33_15
attribute [simp] body39 w39_0 L39_0 w39_1 L39_1 w39_2 L39_2 w39_3 L39_3
attribute [simp] body40 w40_0 L40_0 w40_1 L40_1 w40_2 L40_2
attribute [simp] body41 w41_0 L41_0 w41_1 L41_1 w41_2 L41_2 w41_3 L41_3 w41_4 L41_4 w41_5 L41_5 w41_6 L41_6 w41_7 L41_7 w41_8 L41_8 w41_9 L41_9 w41_10 L41_10 w41_11 L41_11 w41_12 L41_12 w41_13 L41_13 w41_14 L41_14 w41_15 L41_15 w41_16 L41_16 w41_17 L41_17 w41_18 L41_18 w41_19 L41_19 w41_20 L41_20 w41_21 L41_21 w41_22 L41_22 w41_23 L41_23 w41_24 L41_24 w41_25 L41_25 w41_26 L41_26
attribute [simp] body48 w48_0 L48_0 w48_1 L48_1
attribute [simp] body49 w49_0 L49_0 w49_1 L49_1 w49_2 L49_2 w49_3 L49_3 w49_4 L49_4 w49_5 L49_5 w49_6 L49_6 w49_7 L49_7 w49_8 L49_8 w49_9 L49_9 w49_10 L49_10
attribute [simp] body50 w50_0 L50_0 w50_1 L50_1 w50_2 L50_2 w50_3 L50_3
end Go.Proofs.YtbhnojbkinbomaaDoor.gen

