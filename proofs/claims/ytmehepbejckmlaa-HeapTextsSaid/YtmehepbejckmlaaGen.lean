/-
  This text names the regions of the functions that are walked, with the slots that they read and set, and the facts of the types.
  No condition.
-/
import Derived.Test.YtmehepbejckmlaaProg
import Derived.Test.YtmehepbejckmlaaShD
set_option maxRecDepth 100000
set_option linter.unusedSimpArgs false
set_option linter.unusedVariables false
namespace Go.Proofs.Ytmehepbejckmlaa.gen
open Go.Sh
def fns : List FuncId := [3, 4, 5, 6, 8, 9, 10, 11, 12, 13, 14, 15, 16, 17, 18, 19, 20, 21, 22, 23, 24, 25, 26, 27, 28, 29, 30, 31, 32, 33, 34, 35, 36, 37]
noncomputable def TT : FuncId → Option Func := Sh.tabOf Try.prog fns
variable {S : Sums} {m : Mem} {k : List Fr} {E : LEnv} {Q : Post}
theorem ap29 : apOk Try.prog 29 1 8 = true := by kernel_rfl
theorem ap5 : apOk Try.prog 5 1 1 = true := by kernel_rfl
theorem b58 : (Try.prog.info? 58).isSome = true := by kernel_rfl
theorem bo58 : buildOk Try.prog 58 [.slice none 0 0, .int .i64 0] [(0, 1), (1, 1)] = true := by kernel_rfl
theorem bs29 : bsOk Try.prog 29 [.int .u64 0] = true := by kernel_rfl
theorem bs5 : bsOk Try.prog 5 [.int .u8 0] = true := by kernel_rfl
theorem fa58_0 : faOk Try.prog 58 0 0 = true := by kernel_rfl
theorem fa58_1 : faOk Try.prog 58 1 1 = true := by kernel_rfl
theorem ld29 : ldOk Try.prog 29 = true := by kernel_rfl
theorem ld3 : ldOk Try.prog 3 = true := by kernel_rfl
theorem ld34 : ldOk Try.prog 34 = true := by kernel_rfl
theorem ld9 : ldOk Try.prog 9 = true := by kernel_rfl
theorem sz29 : sizeOfT Try.prog 29 = some 1 := by kernel_rfl
theorem sz34 : sizeOfT Try.prog 34 = some 1 := by kernel_rfl
theorem sz5 : sizeOfT Try.prog 5 = some 1 := by kernel_rfl
theorem sz9 : sizeOfT Try.prog 9 = some 1 := by kernel_rfl
theorem u24 : Try.prog.underlying 24 = some (.pointer 58) := by kernel_rfl
theorem u29 : Try.prog.underlying 29 = some (.int .u64) := by kernel_rfl
theorem u3 : Try.prog.underlying 3 = some (.int .i64) := by kernel_rfl
theorem u34 : Try.prog.underlying 34 = some (.slice 29) := by kernel_rfl
theorem u4 : Try.prog.underlying 4 = some .bool := by kernel_rfl
theorem u46 : Try.prog.underlying 46 = some (.slice 9) := by kernel_rfl
theorem u5 : Try.prog.underlying 5 = some (.int .u8) := by kernel_rfl
theorem u60 : Try.prog.underlying 60 = some (.slice 5) := by kernel_rfl
theorem u9 : Try.prog.underlying 9 = some .string := by kernel_rfl

/- turnstonelaw1.HeapTexts -/
noncomputable def c6 : Code := bodyOf Try.f6
noncomputable def r6_0 : Code := Code.sub [0] c6
noncomputable def r6_1 : Code := Code.sub [1, 0] c6
noncomputable def r6_2 : Code := Code.sub [1, 1, 0, 0] c6
noncomputable def r6_3 : Code := Code.sub [1, 1, 0, 1, 0, 0] c6
noncomputable def r6_4 : Code := Code.sub [1, 1, 1, 0] c6
noncomputable def r6_5 : Code := Code.sub [1, 1, 1, 1, 0, 0] c6
noncomputable def r6_6 : Code := Code.sub [1, 1, 1, 1, 0, 1, 0, 0, 0, 0] c6
noncomputable def r6_7 : Code := Code.sub [1, 1, 1, 1, 0, 1, 0, 0, 1, 0, 0, 0] c6
noncomputable def r6_8 : Code := Code.sub [1, 1, 1, 1, 0, 1, 0, 0, 1, 0, 0, 1, 0] c6
noncomputable def r6_9 : Code := Code.sub [1, 1, 1, 1, 0, 1, 0, 0, 1, 0, 0, 1, 1, 0, 0] c6
noncomputable def r6_10 : Code := Code.sub [1, 1, 1, 1, 0, 1, 0, 0, 1, 0, 0, 1, 1, 0, 1, 0, 0] c6
noncomputable def r6_11 : Code := Code.sub [1, 1, 1, 1, 0, 1, 0, 0, 1, 0, 0, 1, 1, 1] c6
noncomputable def r6_12 : Code := Code.sub [1, 1, 1, 1, 0, 1, 0, 0, 1, 1] c6
noncomputable def r6_13 : Code := Code.sub [1, 1, 1, 1, 1, 0, 0] c6
noncomputable def r6_14 : Code := Code.sub [1, 1, 1, 1, 1, 0, 1, 0, 0, 0, 0] c6
noncomputable def r6_15 : Code := Code.sub [1, 1, 1, 1, 1, 0, 1, 0, 0, 1, 0, 0, 0] c6
noncomputable def r6_16 : Code := Code.sub [1, 1, 1, 1, 1, 0, 1, 0, 0, 1, 0, 0, 1, 0] c6
noncomputable def r6_17 : Code := Code.sub [1, 1, 1, 1, 1, 0, 1, 0, 0, 1, 0, 0, 1, 1, 0, 0] c6
noncomputable def r6_18 : Code := Code.sub [1, 1, 1, 1, 1, 0, 1, 0, 0, 1, 1] c6
noncomputable def r6_19 : Code := Code.sub [1, 1, 1, 1, 1, 1, 0] c6
theorem body6 : c6 = (.seq r6_0 (.seq r6_1 (.seq (.seq r6_2 (.cond (.tmp 25) (.seq r6_3 .ret) .skip)) (.seq r6_4 (.seq (.seq r6_5 (.block 0 (.loop (.seq (.seq r6_6 (.cond (.tmp 33) .skip (.exit 0))) (.seq (.block 1 (.seq r6_7 (.seq r6_8 (.seq (.seq r6_9 (.cond (.tmp 61) (.seq r6_10 .ret) .skip)) r6_11)))) r6_12))))) (.seq (.seq r6_13 (.block 2 (.loop (.seq (.seq r6_14 (.cond (.tmp 69) .skip (.exit 2))) (.seq (.block 3 (.seq r6_15 (.seq r6_16 (.cond (.tmp 101) (.seq r6_17 .ret) .skip)))) r6_18))))) (.seq r6_19 .ret))))))) := by kernel_rfl
noncomputable def L6_0 : {l : List Oper // opsOf r6_0 = l} := by refine ⟨?l, ?h⟩; case h => simp only [r6_0, c6, bodyOf, Try.f6, Code.sub, opsOf]; rfl
theorem w6_0 : W Try.prog TT S 12 [25, 33, 61, 69, 101] r6_0 k E m Q ↔ Rg Try.prog TT S 12 [25, 33, 61, 69, 101] [2] [] (lgo E [] (lops Try.prog (callw Try.prog TT S) [(some 2)] (L6_0).1 E m)) k E Q := w_plain (by kernel_rfl) (L6_0).2
noncomputable def L6_1 : {l : List Oper // opsOf r6_1 = l} := by refine ⟨?l, ?h⟩; case h => simp only [r6_1, c6, bodyOf, Try.f6, Code.sub, opsOf]; rfl
theorem w6_1 : W Try.prog TT S 12 [25, 33, 61, 69, 101] r6_1 k E m Q ↔ Rg Try.prog TT S 12 [25, 33, 61, 69, 101] [3, 4] [] (lgo E [] (lops Try.prog (callw Try.prog TT S) [(some 13), (some 12), (some 14), (some 15), (some 3), (some 4)] (L6_1).1 E m)) k E Q := w_plain (by kernel_rfl) (L6_1).2
noncomputable def L6_2 : {l : List Oper // opsOf r6_2 = l} := by refine ⟨?l, ?h⟩; case h => simp only [r6_2, c6, bodyOf, Try.f6, Code.sub, opsOf]; rfl
theorem w6_2 : W Try.prog TT S 12 [25, 33, 61, 69, 101] r6_2 k E m Q ↔ Rg Try.prog TT S 12 [25, 33, 61, 69, 101] [] [25] (lgo E [4, 3] (lops Try.prog (callw Try.prog TT S) [(some 16), (some 17), (some 18), (some 19), (some 20), (some 21), (some 22), (some 23), (some 24), (some 25)] (L6_2).1 E m)) k E Q := w_plain (by kernel_rfl) (L6_2).2
noncomputable def L6_3 : {l : List Oper // opsOf r6_3 = l} := by refine ⟨?l, ?h⟩; case h => simp only [r6_3, c6, bodyOf, Try.f6, Code.sub, opsOf]; rfl
theorem w6_3 : W Try.prog TT S 12 [25, 33, 61, 69, 101] r6_3 k E m Q ↔ Rg Try.prog TT S 12 [25, 33, 61, 69, 101] [2] [] (lgo E [] (lops Try.prog (callw Try.prog TT S) [(some 2)] (L6_3).1 E m)) k E Q := w_plain (by kernel_rfl) (L6_3).2
noncomputable def L6_4 : {l : List Oper // opsOf r6_4 = l} := by refine ⟨?l, ?h⟩; case h => simp only [r6_4, c6, bodyOf, Try.f6, Code.sub, opsOf]; rfl
theorem w6_4 : W Try.prog TT S 12 [25, 33, 61, 69, 101] r6_4 k E m Q ↔ Rg Try.prog TT S 12 [25, 33, 61, 69, 101] [5] [] (lgo E [] (lops Try.prog (callw Try.prog TT S) [(some 5)] (L6_4).1 E m)) k E Q := w_plain (by kernel_rfl) (L6_4).2
noncomputable def L6_5 : {l : List Oper // opsOf r6_5 = l} := by refine ⟨?l, ?h⟩; case h => simp only [r6_5, c6, bodyOf, Try.f6, Code.sub, opsOf]; rfl
theorem w6_5 : W Try.prog TT S 12 [25, 33, 61, 69, 101] r6_5 k E m Q ↔ Rg Try.prog TT S 12 [25, 33, 61, 69, 101] [6] [] (lgo E [] (lops Try.prog (callw Try.prog TT S) [(some 6)] (L6_5).1 E m)) k E Q := w_plain (by kernel_rfl) (L6_5).2
noncomputable def L6_6 : {l : List Oper // opsOf r6_6 = l} := by refine ⟨?l, ?h⟩; case h => simp only [r6_6, c6, bodyOf, Try.f6, Code.sub, opsOf]; rfl
theorem w6_6 : W Try.prog TT S 12 [25, 33, 61, 69, 101] r6_6 k E m Q ↔ Rg Try.prog TT S 12 [25, 33, 61, 69, 101] [] [33] (lgo E [0, 6] (lops Try.prog (callw Try.prog TT S) [(some 26), (some 27), (some 28), (some 29), (some 30), (some 31), (some 32), (some 33)] (L6_6).1 E m)) k E Q := w_plain (by kernel_rfl) (L6_6).2
noncomputable def L6_7 : {l : List Oper // opsOf r6_7 = l} := by refine ⟨?l, ?h⟩; case h => simp only [r6_7, c6, bodyOf, Try.f6, Code.sub, opsOf]; rfl
theorem w6_7 : W Try.prog TT S 12 [25, 33, 61, 69, 101] r6_7 k E m Q ↔ Rg Try.prog TT S 12 [25, 33, 61, 69, 101] [7] [] (lgo E [0, 6] (lops Try.prog (callw Try.prog TT S) [(some 36), (some 37), (some 38), (some 39), (some 40), (some 41), (some 42), (some 43), (some 44), (some 45), (some 46), (some 7)] (L6_7).1 E m)) k E Q := w_plain (by kernel_rfl) (L6_7).2
noncomputable def L6_8 : {l : List Oper // opsOf r6_8 = l} := by refine ⟨?l, ?h⟩; case h => simp only [r6_8, c6, bodyOf, Try.f6, Code.sub, opsOf]; rfl
theorem w6_8 : W Try.prog TT S 12 [25, 33, 61, 69, 101] r6_8 k E m Q ↔ Rg Try.prog TT S 12 [25, 33, 61, 69, 101] [8, 9] [] (lgo E [3, 7] (lops Try.prog (callw Try.prog TT S) [(some 48), (some 49), (some 50), (some 47), (some 51), (some 52), (some 8), (some 9)] (L6_8).1 E m)) k E Q := w_plain (by kernel_rfl) (L6_8).2
noncomputable def L6_9 : {l : List Oper // opsOf r6_9 = l} := by refine ⟨?l, ?h⟩; case h => simp only [r6_9, c6, bodyOf, Try.f6, Code.sub, opsOf]; rfl
theorem w6_9 : W Try.prog TT S 12 [25, 33, 61, 69, 101] r6_9 k E m Q ↔ Rg Try.prog TT S 12 [25, 33, 61, 69, 101] [] [61] (lgo E [9, 8, 7] (lops Try.prog (callw Try.prog TT S) [(some 53), (some 54), (some 55), (some 56), (some 57), (some 58), (some 59), (some 60), (some 61)] (L6_9).1 E m)) k E Q := w_plain (by kernel_rfl) (L6_9).2
noncomputable def L6_10 : {l : List Oper // opsOf r6_10 = l} := by refine ⟨?l, ?h⟩; case h => simp only [r6_10, c6, bodyOf, Try.f6, Code.sub, opsOf]; rfl
theorem w6_10 : W Try.prog TT S 12 [25, 33, 61, 69, 101] r6_10 k E m Q ↔ Rg Try.prog TT S 12 [25, 33, 61, 69, 101] [2] [] (lgo E [] (lops Try.prog (callw Try.prog TT S) [(some 2)] (L6_10).1 E m)) k E Q := w_plain (by kernel_rfl) (L6_10).2
noncomputable def L6_11 : {l : List Oper // opsOf r6_11 = l} := by refine ⟨?l, ?h⟩; case h => simp only [r6_11, c6, bodyOf, Try.f6, Code.sub, opsOf]; rfl
theorem w6_11 : W Try.prog TT S 12 [25, 33, 61, 69, 101] r6_11 k E m Q ↔ Rg Try.prog TT S 12 [25, 33, 61, 69, 101] [5] [] (lgo E [5, 8] (lops Try.prog (callw Try.prog TT S) [(some 62), (some 63), (some 64), (some 65), (some 5)] (L6_11).1 E m)) k E Q := w_plain (by kernel_rfl) (L6_11).2
noncomputable def L6_12 : {l : List Oper // opsOf r6_12 = l} := by refine ⟨?l, ?h⟩; case h => simp only [r6_12, c6, bodyOf, Try.f6, Code.sub, opsOf]; rfl
theorem w6_12 : W Try.prog TT S 12 [25, 33, 61, 69, 101] r6_12 k E m Q ↔ Rg Try.prog TT S 12 [25, 33, 61, 69, 101] [6] [] (lgo E [6] (lops Try.prog (callw Try.prog TT S) [(some 34), (some 35), (some 6)] (L6_12).1 E m)) k E Q := w_plain (by kernel_rfl) (L6_12).2
noncomputable def L6_13 : {l : List Oper // opsOf r6_13 = l} := by refine ⟨?l, ?h⟩; case h => simp only [r6_13, c6, bodyOf, Try.f6, Code.sub, opsOf]; rfl
theorem w6_13 : W Try.prog TT S 12 [25, 33, 61, 69, 101] r6_13 k E m Q ↔ Rg Try.prog TT S 12 [25, 33, 61, 69, 101] [10] [] (lgo E [] (lops Try.prog (callw Try.prog TT S) [(some 10)] (L6_13).1 E m)) k E Q := w_plain (by kernel_rfl) (L6_13).2
noncomputable def L6_14 : {l : List Oper // opsOf r6_14 = l} := by refine ⟨?l, ?h⟩; case h => simp only [r6_14, c6, bodyOf, Try.f6, Code.sub, opsOf]; rfl
theorem w6_14 : W Try.prog TT S 12 [25, 33, 61, 69, 101] r6_14 k E m Q ↔ Rg Try.prog TT S 12 [25, 33, 61, 69, 101] [] [69] (lgo E [10, 5] (lops Try.prog (callw Try.prog TT S) [(some 66), (some 67), (some 68), (some 69)] (L6_14).1 E m)) k E Q := w_plain (by kernel_rfl) (L6_14).2
noncomputable def L6_15 : {l : List Oper // opsOf r6_15 = l} := by refine ⟨?l, ?h⟩; case h => simp only [r6_15, c6, bodyOf, Try.f6, Code.sub, opsOf]; rfl
theorem w6_15 : W Try.prog TT S 12 [25, 33, 61, 69, 101] r6_15 k E m Q ↔ Rg Try.prog TT S 12 [25, 33, 61, 69, 101] [11] [] (lgo E [0, 10] (lops Try.prog (callw Try.prog TT S) [(some 72), (some 73), (some 74), (some 75), (some 76), (some 77), (some 78), (some 79), (some 80), (some 81), (some 82), (some 11)] (L6_15).1 E m)) k E Q := w_plain (by kernel_rfl) (L6_15).2
noncomputable def L6_16 : {l : List Oper // opsOf r6_16 = l} := by refine ⟨?l, ?h⟩; case h => simp only [r6_16, c6, bodyOf, Try.f6, Code.sub, opsOf]; rfl
theorem w6_16 : W Try.prog TT S 12 [25, 33, 61, 69, 101] r6_16 k E m Q ↔ Rg Try.prog TT S 12 [25, 33, 61, 69, 101] [] [101] (lgo E [3, 5, 10, 11] (lops Try.prog (callw Try.prog TT S) [(some 83), (some 84), (some 85), (some 86), (some 87), (some 88), (some 89), (some 90), (some 91), (some 92), (some 93), (some 94), (some 95), (some 96), (some 97), (some 98), (some 99), (some 100), (some 101)] (L6_16).1 E m)) k E Q := w_plain (by kernel_rfl) (L6_16).2
noncomputable def L6_17 : {l : List Oper // opsOf r6_17 = l} := by refine ⟨?l, ?h⟩; case h => simp only [r6_17, c6, bodyOf, Try.f6, Code.sub, opsOf]; rfl
theorem w6_17 : W Try.prog TT S 12 [25, 33, 61, 69, 101] r6_17 k E m Q ↔ Rg Try.prog TT S 12 [25, 33, 61, 69, 101] [2] [] (lgo E [] (lops Try.prog (callw Try.prog TT S) [(some 2)] (L6_17).1 E m)) k E Q := w_plain (by kernel_rfl) (L6_17).2
noncomputable def L6_18 : {l : List Oper // opsOf r6_18 = l} := by refine ⟨?l, ?h⟩; case h => simp only [r6_18, c6, bodyOf, Try.f6, Code.sub, opsOf]; rfl
theorem w6_18 : W Try.prog TT S 12 [25, 33, 61, 69, 101] r6_18 k E m Q ↔ Rg Try.prog TT S 12 [25, 33, 61, 69, 101] [10] [] (lgo E [10] (lops Try.prog (callw Try.prog TT S) [(some 70), (some 71), (some 10)] (L6_18).1 E m)) k E Q := w_plain (by kernel_rfl) (L6_18).2
noncomputable def L6_19 : {l : List Oper // opsOf r6_19 = l} := by refine ⟨?l, ?h⟩; case h => simp only [r6_19, c6, bodyOf, Try.f6, Code.sub, opsOf]; rfl
theorem w6_19 : W Try.prog TT S 12 [25, 33, 61, 69, 101] r6_19 k E m Q ↔ Rg Try.prog TT S 12 [25, 33, 61, 69, 101] [2] [] (lgo E [] (lops Try.prog (callw Try.prog TT S) [(some 2)] (L6_19).1 E m)) k E Q := w_plain (by kernel_rfl) (L6_19).2
theorem k6 : FnIs TT 6 c6 [.tmp 2] 1 := ⟨Try.f6, by kernel_rfl, by simp only [Try.f6, c6, bodyOf], by kernel_rfl, of_decide_eq_true (by kernel_rfl)⟩

/- turnstonehand.Pick -/
noncomputable def c9 : Code := bodyOf Try.f9
noncomputable def r9_0 : Code := Code.sub [0] c9
noncomputable def r9_1 : Code := Code.sub [1, 0] c9
noncomputable def r9_2 : Code := Code.sub [1, 1, 0, 0] c9
noncomputable def r9_3 : Code := Code.sub [1, 1, 0, 1, 0] c9
noncomputable def r9_4 : Code := Code.sub [1, 1, 1, 0] c9
theorem body9 : c9 = (.seq r9_0 (.seq r9_1 (.seq (.seq r9_2 (.cond (.tmp 9) r9_3 .skip)) (.seq r9_4 .ret)))) := by kernel_rfl
noncomputable def L9_0 : {l : List Oper // opsOf r9_0 = l} := by refine ⟨?l, ?h⟩; case h => simp only [r9_0, c9, bodyOf, Try.f9, Code.sub, opsOf]; rfl
theorem w9_0 : W Try.prog TT S 5 [9] r9_0 k E m Q ↔ Rg Try.prog TT S 5 [9] [4] [] (lgo E [] (lops Try.prog (callw Try.prog TT S) [(some 4)] (L9_0).1 E m)) k E Q := w_plain (by kernel_rfl) (L9_0).2
noncomputable def L9_1 : {l : List Oper // opsOf r9_1 = l} := by refine ⟨?l, ?h⟩; case h => simp only [r9_1, c9, bodyOf, Try.f9, Code.sub, opsOf]; rfl
theorem w9_1 : W Try.prog TT S 5 [9] r9_1 k E m Q ↔ Rg Try.prog TT S 5 [9] [0] [] (lgo E [0, 1] (lops Try.prog (callw Try.prog TT S) [(some 5), (some 6), (some 7), (some 0)] (L9_1).1 E m)) k E Q := w_plain (by kernel_rfl) (L9_1).2
noncomputable def L9_2 : {l : List Oper // opsOf r9_2 = l} := by refine ⟨?l, ?h⟩; case h => simp only [r9_2, c9, bodyOf, Try.f9, Code.sub, opsOf]; rfl
theorem w9_2 : W Try.prog TT S 5 [9] r9_2 k E m Q ↔ Rg Try.prog TT S 5 [9] [] [9] (lgo E [0] (lops Try.prog (callw Try.prog TT S) [(some 8), (some 9)] (L9_2).1 E m)) k E Q := w_plain (by kernel_rfl) (L9_2).2
noncomputable def L9_3 : {l : List Oper // opsOf r9_3 = l} := by refine ⟨?l, ?h⟩; case h => simp only [r9_3, c9, bodyOf, Try.f9, Code.sub, opsOf]; rfl
theorem w9_3 : W Try.prog TT S 5 [9] r9_3 k E m Q ↔ Rg Try.prog TT S 5 [9] [0] [] (lgo E [0, 1] (lops Try.prog (callw Try.prog TT S) [(some 10), (some 11), (some 12), (some 0)] (L9_3).1 E m)) k E Q := w_plain (by kernel_rfl) (L9_3).2
noncomputable def L9_4 : {l : List Oper // opsOf r9_4 = l} := by refine ⟨?l, ?h⟩; case h => simp only [r9_4, c9, bodyOf, Try.f9, Code.sub, opsOf]; rfl
theorem w9_4 : W Try.prog TT S 5 [9] r9_4 k E m Q ↔ Rg Try.prog TT S 5 [9] [4] [] (lgo E [0] (lops Try.prog (callw Try.prog TT S) [(some 13), (some 4)] (L9_4).1 E m)) k E Q := w_plain (by kernel_rfl) (L9_4).2
theorem k9 : FnIs TT 9 c9 [.tmp 4] 2 := ⟨Try.f9, by kernel_rfl, by simp only [Try.f9, c9, bodyOf], by kernel_rfl, of_decide_eq_true (by kernel_rfl)⟩

/- heap.New -/
noncomputable def c10 : Code := bodyOf Try.f10
noncomputable def r10_0 : Code := Code.sub [0] c10
noncomputable def r10_1 : Code := Code.sub [1, 0, 0] c10
noncomputable def r10_2 : Code := Code.sub [1, 0, 1, 0, 0] c10
noncomputable def r10_3 : Code := Code.sub [1, 1, 0] c10
theorem body10 : c10 = (.seq r10_0 (.seq (.seq r10_1 (.cond (.tmp 9) (.seq r10_2 .ret) .skip)) (.seq r10_3 .ret))) := by kernel_rfl
noncomputable def L10_0 : {l : List Oper // opsOf r10_0 = l} := by refine ⟨?l, ?h⟩; case h => simp only [r10_0, c10, bodyOf, Try.f10, Code.sub, opsOf]; rfl
theorem w10_0 : W Try.prog TT S 4 [9] r10_0 k E m Q ↔ Rg Try.prog TT S 4 [9] [2, 3] [] (lgo E [] (lops Try.prog (callw Try.prog TT S) [(some 2), (some 3)] (L10_0).1 E m)) k E Q := w_plain (by kernel_rfl) (L10_0).2
noncomputable def L10_1 : {l : List Oper // opsOf r10_1 = l} := by refine ⟨?l, ?h⟩; case h => simp only [r10_1, c10, bodyOf, Try.f10, Code.sub, opsOf]; rfl
theorem w10_1 : W Try.prog TT S 4 [9] r10_1 k E m Q ↔ Rg Try.prog TT S 4 [9] [] [9] (lgo E [0] (lops Try.prog (callw Try.prog TT S) [(some 4), (some 5), (some 6), (some 7), (some 8), (some 9)] (L10_1).1 E m)) k E Q := w_plain (by kernel_rfl) (L10_1).2
noncomputable def L10_2 : {l : List Oper // opsOf r10_2 = l} := by refine ⟨?l, ?h⟩; case h => simp only [r10_2, c10, bodyOf, Try.f10, Code.sub, opsOf]; rfl
theorem w10_2 : W Try.prog TT S 4 [9] r10_2 k E m Q ↔ Rg Try.prog TT S 4 [9] [2, 3] [] (lgo E [] (lops Try.prog (callw Try.prog TT S) [(some 2), (some 3)] (L10_2).1 E m)) k E Q := w_plain (by kernel_rfl) (L10_2).2
noncomputable def L10_3 : {l : List Oper // opsOf r10_3 = l} := by refine ⟨?l, ?h⟩; case h => simp only [r10_3, c10, bodyOf, Try.f10, Code.sub, opsOf]; rfl
theorem w10_3 : W Try.prog TT S 4 [9] r10_3 k E m Q ↔ Rg Try.prog TT S 4 [9] [2, 3] [] (lgo E [0] (lops Try.prog (callw Try.prog TT S) [(some 10), (some 11), (some 12), (some 13), (some 2), (some 3)] (L10_3).1 E m)) k E Q := w_plain (by kernel_rfl) (L10_3).2
theorem k10 : FnIs TT 10 c10 [.tmp 2, .tmp 3] 1 := ⟨Try.f10, by kernel_rfl, by simp only [Try.f10, c10, bodyOf], by kernel_rfl, of_decide_eq_true (by kernel_rfl)⟩

/- (*heap.Heap).Alloc -/
noncomputable def c12 : Code := bodyOf Try.f12
noncomputable def r12_0 : Code := Code.sub [0] c12
noncomputable def r12_1 : Code := Code.sub [1, 0, 0] c12
noncomputable def r12_2 : Code := Code.sub [1, 0, 1, 0, 0] c12
noncomputable def r12_3 : Code := Code.sub [1, 1, 0] c12
noncomputable def r12_4 : Code := Code.sub [1, 1, 1, 0] c12
noncomputable def r12_5 : Code := Code.sub [1, 1, 1, 1, 0] c12
noncomputable def r12_6 : Code := Code.sub [1, 1, 1, 1, 1, 0] c12
theorem body12 : c12 = (.seq r12_0 (.seq (.seq r12_1 (.cond (.tmp 36) (.seq r12_2 .ret) .skip)) (.seq r12_3 (.seq r12_4 (.seq r12_5 (.seq r12_6 .ret)))))) := by kernel_rfl
noncomputable def L12_0 : {l : List Oper // opsOf r12_0 = l} := by refine ⟨?l, ?h⟩; case h => simp only [r12_0, c12, bodyOf, Try.f12, Code.sub, opsOf]; rfl
theorem w12_0 : W Try.prog TT S 9 [36] r12_0 k E m Q ↔ Rg Try.prog TT S 9 [36] [6, 7] [] (lgo E [] (lops Try.prog (callw Try.prog TT S) [(some 6), (some 7)] (L12_0).1 E m)) k E Q := w_plain (by kernel_rfl) (L12_0).2
noncomputable def L12_1 : {l : List Oper // opsOf r12_1 = l} := by refine ⟨?l, ?h⟩; case h => simp only [r12_1, c12, bodyOf, Try.f12, Code.sub, opsOf]; rfl
theorem w12_1 : W Try.prog TT S 9 [36] r12_1 k E m Q ↔ Rg Try.prog TT S 9 [36] [] [36] (lgo E [1, 2, 0] (lops Try.prog (callw Try.prog TT S) [(some 9), (some 10), (some 11), (some 12), (some 13), (some 14), (some 15), (some 16), (some 17), (some 18), (some 19), (some 20), (some 21), (some 22), (some 23), (some 24), (some 25), (some 26), (some 27), (some 28), (some 29), (some 30), (some 31), (some 32), (some 33), (some 34), (some 35), (some 36)] (L12_1).1 E m)) k E Q := w_plain (by kernel_rfl) (L12_1).2
noncomputable def L12_2 : {l : List Oper // opsOf r12_2 = l} := by refine ⟨?l, ?h⟩; case h => simp only [r12_2, c12, bodyOf, Try.f12, Code.sub, opsOf]; rfl
theorem w12_2 : W Try.prog TT S 9 [36] r12_2 k E m Q ↔ Rg Try.prog TT S 9 [36] [6, 7] [] (lgo E [] (lops Try.prog (callw Try.prog TT S) [(some 6), (some 7)] (L12_2).1 E m)) k E Q := w_plain (by kernel_rfl) (L12_2).2
noncomputable def L12_3 : {l : List Oper // opsOf r12_3 = l} := by refine ⟨?l, ?h⟩; case h => simp only [r12_3, c12, bodyOf, Try.f12, Code.sub, opsOf]; rfl
theorem w12_3 : W Try.prog TT S 9 [36] r12_3 k E m Q ↔ Rg Try.prog TT S 9 [36] [8] [] (lgo E [0] (lops Try.prog (callw Try.prog TT S) [(some 37), (some 38), (some 39), (some 40), (some 41), (some 42), (some 8)] (L12_3).1 E m)) k E Q := w_plain (by kernel_rfl) (L12_3).2
noncomputable def L12_4 : {l : List Oper // opsOf r12_4 = l} := by refine ⟨?l, ?h⟩; case h => simp only [r12_4, c12, bodyOf, Try.f12, Code.sub, opsOf]; rfl
theorem w12_4 : W Try.prog TT S 9 [36] r12_4 k E m Q ↔ Rg Try.prog TT S 9 [36] [] [] (lgo E [0, 1, 2] (lops Try.prog (callw Try.prog TT S) [(some 43), (some 44), (some 45), (some 46), (some 47), (some 48), (some 49), (some 50), (some 51), (some 52), (some 53), (some 54), (some 55), (some 56), (some 57), none] (L12_4).1 E m)) k E Q := w_plain (by kernel_rfl) (L12_4).2
noncomputable def L12_5 : {l : List Oper // opsOf r12_5 = l} := by refine ⟨?l, ?h⟩; case h => simp only [r12_5, c12, bodyOf, Try.f12, Code.sub, opsOf]; rfl
theorem w12_5 : W Try.prog TT S 9 [36] r12_5 k E m Q ↔ Rg Try.prog TT S 9 [36] [] [] (lgo E [0, 2] (lops Try.prog (callw Try.prog TT S) [(some 58), (some 59), (some 60), (some 61), (some 62), (some 63), (some 64), (some 65), (some 66), none] (L12_5).1 E m)) k E Q := w_plain (by kernel_rfl) (L12_5).2
noncomputable def L12_6 : {l : List Oper // opsOf r12_6 = l} := by refine ⟨?l, ?h⟩; case h => simp only [r12_6, c12, bodyOf, Try.f12, Code.sub, opsOf]; rfl
theorem w12_6 : W Try.prog TT S 9 [36] r12_6 k E m Q ↔ Rg Try.prog TT S 9 [36] [6, 7] [] (lgo E [8] (lops Try.prog (callw Try.prog TT S) [(some 67), (some 6), (some 7)] (L12_6).1 E m)) k E Q := w_plain (by kernel_rfl) (L12_6).2
theorem k12 : FnIs TT 12 c12 [.tmp 6, .tmp 7] 3 := ⟨Try.f12, by kernel_rfl, by simp only [Try.f12, c12, bodyOf], by kernel_rfl, of_decide_eq_true (by kernel_rfl)⟩

/- (*heap.Heap).Used -/
noncomputable def c13 : Code := bodyOf Try.f13
noncomputable def r13_0 : Code := Code.sub [0] c13
noncomputable def r13_1 : Code := Code.sub [1, 0] c13
theorem body13 : c13 = (.seq r13_0 (.seq r13_1 .ret)) := by kernel_rfl
noncomputable def L13_0 : {l : List Oper // opsOf r13_0 = l} := by refine ⟨?l, ?h⟩; case h => simp only [r13_0, c13, bodyOf, Try.f13, Code.sub, opsOf]; rfl
theorem w13_0 : W Try.prog TT S 3 [] r13_0 k E m Q ↔ Rg Try.prog TT S 3 [] [2] [] (lgo E [] (lops Try.prog (callw Try.prog TT S) [(some 2)] (L13_0).1 E m)) k E Q := w_plain (by kernel_rfl) (L13_0).2
noncomputable def L13_1 : {l : List Oper // opsOf r13_1 = l} := by refine ⟨?l, ?h⟩; case h => simp only [r13_1, c13, bodyOf, Try.f13, Code.sub, opsOf]; rfl
theorem w13_1 : W Try.prog TT S 3 [] r13_1 k E m Q ↔ Rg Try.prog TT S 3 [] [2] [] (lgo E [0] (lops Try.prog (callw Try.prog TT S) [(some 3), (some 4), (some 5), (some 6), (some 7), (some 2)] (L13_1).1 E m)) k E Q := w_plain (by kernel_rfl) (L13_1).2
theorem k13 : FnIs TT 13 c13 [.tmp 2] 1 := ⟨Try.f13, by kernel_rfl, by simp only [Try.f13, c13, bodyOf], by kernel_rfl, of_decide_eq_true (by kernel_rfl)⟩

/- (*heap.Heap).Copy -/
noncomputable def c14 : Code := bodyOf Try.f14
noncomputable def r14_0 : Code := Code.sub [0] c14
noncomputable def r14_1 : Code := Code.sub [1, 0] c14
theorem body14 : c14 = (.seq r14_0 (.seq r14_1 .ret)) := by kernel_rfl
noncomputable def L14_0 : {l : List Oper // opsOf r14_0 = l} := by refine ⟨?l, ?h⟩; case h => simp only [r14_0, c14, bodyOf, Try.f14, Code.sub, opsOf]; rfl
theorem w14_0 : W Try.prog TT S 3 [] r14_0 k E m Q ↔ Rg Try.prog TT S 3 [] [2] [] (lgo E [] (lops Try.prog (callw Try.prog TT S) [(some 2)] (L14_0).1 E m)) k E Q := w_plain (by kernel_rfl) (L14_0).2
theorem can14_1 : canonOps (opsOf r14_1) = List.filterMap (fun i => ((opsOf r14_1)[i]?).map (renum [0, 1, 2, 3, 4, 5, 6, 7, 8])) [0, 1, 2, 3, 4, 5, 6, 7, 8] := by kernel_rfl
noncomputable def L14_1 : {l : List Oper // canonOps (opsOf r14_1) = l} := by refine ⟨?l, (can14_1).trans ?h⟩; case h => simp only [r14_1, c14, bodyOf, Try.f14, Code.sub, opsOf, List.filterMap_cons, List.filterMap_nil, List.getElem?_cons_succ, List.getElem?_cons_zero, Option.map_some, renum]; rfl
theorem w14_1 : W Try.prog TT S 3 [] r14_1 k E m Q ↔ Rg Try.prog TT S 3 [] [2] [] (lgo E [0] (lloud Try.prog (callw Try.prog TT S) [(some 3), (some 4), (some 5), (some 6), (some 7), (some 8), (some 9), (some 10), (some 2)] (L14_1).1 [(5, [1, 7])] (lstates Try.prog (callw Try.prog TT S) [(some 3), (some 4), (some 5), (some 6), (some 7), (some 8), (some 9), (some 10), (some 2)] (L14_1).1 E m))) k E Q := w_loud (by kernel_rfl) (L14_1).2
theorem k14 : FnIs TT 14 c14 [.tmp 2] 1 := ⟨Try.f14, by kernel_rfl, by simp only [Try.f14, c14, bodyOf], by kernel_rfl, of_decide_eq_true (by kernel_rfl)⟩

/- (*heap.Heap).Words -/
noncomputable def c15 : Code := bodyOf Try.f15
noncomputable def r15_0 : Code := Code.sub [0] c15
noncomputable def r15_1 : Code := Code.sub [1, 0] c15
theorem body15 : c15 = (.seq r15_0 (.seq r15_1 .ret)) := by kernel_rfl
noncomputable def L15_0 : {l : List Oper // opsOf r15_0 = l} := by refine ⟨?l, ?h⟩; case h => simp only [r15_0, c15, bodyOf, Try.f15, Code.sub, opsOf]; rfl
theorem w15_0 : W Try.prog TT S 3 [] r15_0 k E m Q ↔ Rg Try.prog TT S 3 [] [2] [] (lgo E [] (lops Try.prog (callw Try.prog TT S) [(some 2)] (L15_0).1 E m)) k E Q := w_plain (by kernel_rfl) (L15_0).2
noncomputable def L15_1 : {l : List Oper // opsOf r15_1 = l} := by refine ⟨?l, ?h⟩; case h => simp only [r15_1, c15, bodyOf, Try.f15, Code.sub, opsOf]; rfl
theorem w15_1 : W Try.prog TT S 3 [] r15_1 k E m Q ↔ Rg Try.prog TT S 3 [] [2] [] (lgo E [0] (lops Try.prog (callw Try.prog TT S) [(some 3), (some 4), (some 5), (some 6), (some 7), (some 8), (some 2)] (L15_1).1 E m)) k E Q := w_plain (by kernel_rfl) (L15_1).2
theorem k15 : FnIs TT 15 c15 [.tmp 2] 1 := ⟨Try.f15, by kernel_rfl, by simp only [Try.f15, c15, bodyOf], by kernel_rfl, of_decide_eq_true (by kernel_rfl)⟩

/- turnstonelaw1.words -/
noncomputable def c16 : Code := bodyOf Try.f16
noncomputable def r16_0 : Code := Code.sub [0] c16
noncomputable def r16_1 : Code := Code.sub [1, 0, 0] c16
noncomputable def r16_2 : Code := Code.sub [1, 0, 1, 0, 0] c16
noncomputable def r16_3 : Code := Code.sub [1, 1, 0, 0] c16
noncomputable def r16_4 : Code := Code.sub [1, 1, 0, 1, 0, 0, 0, 0] c16
noncomputable def r16_5 : Code := Code.sub [1, 1, 0, 1, 0, 0, 1, 0, 0, 0] c16
noncomputable def r16_6 : Code := Code.sub [1, 1, 0, 1, 0, 0, 1, 0, 0, 1, 0, 0] c16
noncomputable def r16_7 : Code := Code.sub [1, 1, 0, 1, 0, 0, 1, 1] c16
noncomputable def r16_8 : Code := Code.sub [1, 1, 1, 0] c16
theorem body16 : c16 = (.seq r16_0 (.seq (.seq r16_1 (.cond (.tmp 10) (.seq r16_2 .ret) .skip)) (.seq (.seq r16_3 (.block 0 (.loop (.seq (.seq r16_4 (.cond (.tmp 14) .skip (.exit 0))) (.seq (.block 1 (.seq r16_5 (.cond (.tmp 25) (.seq r16_6 .ret) .skip))) r16_7))))) (.seq r16_8 .ret)))) := by kernel_rfl
noncomputable def L16_0 : {l : List Oper // opsOf r16_0 = l} := by refine ⟨?l, ?h⟩; case h => simp only [r16_0, c16, bodyOf, Try.f16, Code.sub, opsOf]; rfl
theorem w16_0 : W Try.prog TT S 6 [10, 14, 25] r16_0 k E m Q ↔ Rg Try.prog TT S 6 [10, 14, 25] [4] [] (lgo E [] (lops Try.prog (callw Try.prog TT S) [(some 4)] (L16_0).1 E m)) k E Q := w_plain (by kernel_rfl) (L16_0).2
noncomputable def L16_1 : {l : List Oper // opsOf r16_1 = l} := by refine ⟨?l, ?h⟩; case h => simp only [r16_1, c16, bodyOf, Try.f16, Code.sub, opsOf]; rfl
theorem w16_1 : W Try.prog TT S 6 [10, 14, 25] r16_1 k E m Q ↔ Rg Try.prog TT S 6 [10, 14, 25] [] [10] (lgo E [0, 1] (lops Try.prog (callw Try.prog TT S) [(some 6), (some 7), (some 8), (some 9), (some 10)] (L16_1).1 E m)) k E Q := w_plain (by kernel_rfl) (L16_1).2
noncomputable def L16_2 : {l : List Oper // opsOf r16_2 = l} := by refine ⟨?l, ?h⟩; case h => simp only [r16_2, c16, bodyOf, Try.f16, Code.sub, opsOf]; rfl
theorem w16_2 : W Try.prog TT S 6 [10, 14, 25] r16_2 k E m Q ↔ Rg Try.prog TT S 6 [10, 14, 25] [4] [] (lgo E [] (lops Try.prog (callw Try.prog TT S) [(some 4)] (L16_2).1 E m)) k E Q := w_plain (by kernel_rfl) (L16_2).2
noncomputable def L16_3 : {l : List Oper // opsOf r16_3 = l} := by refine ⟨?l, ?h⟩; case h => simp only [r16_3, c16, bodyOf, Try.f16, Code.sub, opsOf]; rfl
theorem w16_3 : W Try.prog TT S 6 [10, 14, 25] r16_3 k E m Q ↔ Rg Try.prog TT S 6 [10, 14, 25] [5] [] (lgo E [] (lops Try.prog (callw Try.prog TT S) [(some 5)] (L16_3).1 E m)) k E Q := w_plain (by kernel_rfl) (L16_3).2
noncomputable def L16_4 : {l : List Oper // opsOf r16_4 = l} := by refine ⟨?l, ?h⟩; case h => simp only [r16_4, c16, bodyOf, Try.f16, Code.sub, opsOf]; rfl
theorem w16_4 : W Try.prog TT S 6 [10, 14, 25] r16_4 k E m Q ↔ Rg Try.prog TT S 6 [10, 14, 25] [] [14] (lgo E [5, 0] (lops Try.prog (callw Try.prog TT S) [(some 11), (some 12), (some 13), (some 14)] (L16_4).1 E m)) k E Q := w_plain (by kernel_rfl) (L16_4).2
noncomputable def L16_5 : {l : List Oper // opsOf r16_5 = l} := by refine ⟨?l, ?h⟩; case h => simp only [r16_5, c16, bodyOf, Try.f16, Code.sub, opsOf]; rfl
theorem w16_5 : W Try.prog TT S 6 [10, 14, 25] r16_5 k E m Q ↔ Rg Try.prog TT S 6 [10, 14, 25] [] [25] (lgo E [0, 1, 5] (lops Try.prog (callw Try.prog TT S) [(some 17), (some 18), (some 19), (some 20), (some 21), (some 22), (some 23), (some 24), (some 25)] (L16_5).1 E m)) k E Q := w_plain (by kernel_rfl) (L16_5).2
noncomputable def L16_6 : {l : List Oper // opsOf r16_6 = l} := by refine ⟨?l, ?h⟩; case h => simp only [r16_6, c16, bodyOf, Try.f16, Code.sub, opsOf]; rfl
theorem w16_6 : W Try.prog TT S 6 [10, 14, 25] r16_6 k E m Q ↔ Rg Try.prog TT S 6 [10, 14, 25] [4] [] (lgo E [] (lops Try.prog (callw Try.prog TT S) [(some 4)] (L16_6).1 E m)) k E Q := w_plain (by kernel_rfl) (L16_6).2
noncomputable def L16_7 : {l : List Oper // opsOf r16_7 = l} := by refine ⟨?l, ?h⟩; case h => simp only [r16_7, c16, bodyOf, Try.f16, Code.sub, opsOf]; rfl
theorem w16_7 : W Try.prog TT S 6 [10, 14, 25] r16_7 k E m Q ↔ Rg Try.prog TT S 6 [10, 14, 25] [5] [] (lgo E [5] (lops Try.prog (callw Try.prog TT S) [(some 15), (some 16), (some 5)] (L16_7).1 E m)) k E Q := w_plain (by kernel_rfl) (L16_7).2
noncomputable def L16_8 : {l : List Oper // opsOf r16_8 = l} := by refine ⟨?l, ?h⟩; case h => simp only [r16_8, c16, bodyOf, Try.f16, Code.sub, opsOf]; rfl
theorem w16_8 : W Try.prog TT S 6 [10, 14, 25] r16_8 k E m Q ↔ Rg Try.prog TT S 6 [10, 14, 25] [4] [] (lgo E [] (lops Try.prog (callw Try.prog TT S) [(some 4)] (L16_8).1 E m)) k E Q := w_plain (by kernel_rfl) (L16_8).2
theorem k16 : FnIs TT 16 c16 [.tmp 4] 2 := ⟨Try.f16, by kernel_rfl, by simp only [Try.f16, c16, bodyOf], by kernel_rfl, of_decide_eq_true (by kernel_rfl)⟩

/- (*heap.Heap).Put -/
noncomputable def c17 : Code := bodyOf Try.f17
noncomputable def r17_0 : Code := Code.sub [0] c17
noncomputable def r17_1 : Code := Code.sub [1, 0, 0] c17
noncomputable def r17_2 : Code := Code.sub [1, 0, 1, 0, 0] c17
noncomputable def r17_3 : Code := Code.sub [1, 1, 0] c17
noncomputable def r17_4 : Code := Code.sub [1, 1, 1, 0] c17
theorem body17 : c17 = (.seq r17_0 (.seq (.seq r17_1 (.cond (.tmp 18) (.seq r17_2 .ret) .skip)) (.seq r17_3 (.seq r17_4 .ret)))) := by kernel_rfl
noncomputable def L17_0 : {l : List Oper // opsOf r17_0 = l} := by refine ⟨?l, ?h⟩; case h => simp only [r17_0, c17, bodyOf, Try.f17, Code.sub, opsOf]; rfl
theorem w17_0 : W Try.prog TT S 7 [18] r17_0 k E m Q ↔ Rg Try.prog TT S 7 [18] [6] [] (lgo E [] (lops Try.prog (callw Try.prog TT S) [(some 6)] (L17_0).1 E m)) k E Q := w_plain (by kernel_rfl) (L17_0).2
noncomputable def L17_1 : {l : List Oper // opsOf r17_1 = l} := by refine ⟨?l, ?h⟩; case h => simp only [r17_1, c17, bodyOf, Try.f17, Code.sub, opsOf]; rfl
theorem w17_1 : W Try.prog TT S 7 [18] r17_1 k E m Q ↔ Rg Try.prog TT S 7 [18] [] [18] (lgo E [1, 0] (lops Try.prog (callw Try.prog TT S) [(some 7), (some 8), (some 9), (some 10), (some 11), (some 12), (some 13), (some 14), (some 15), (some 16), (some 17), (some 18)] (L17_1).1 E m)) k E Q := w_plain (by kernel_rfl) (L17_1).2
noncomputable def L17_2 : {l : List Oper // opsOf r17_2 = l} := by refine ⟨?l, ?h⟩; case h => simp only [r17_2, c17, bodyOf, Try.f17, Code.sub, opsOf]; rfl
theorem w17_2 : W Try.prog TT S 7 [18] r17_2 k E m Q ↔ Rg Try.prog TT S 7 [18] [6] [] (lgo E [] (lops Try.prog (callw Try.prog TT S) [(some 6)] (L17_2).1 E m)) k E Q := w_plain (by kernel_rfl) (L17_2).2
noncomputable def L17_3 : {l : List Oper // opsOf r17_3 = l} := by refine ⟨?l, ?h⟩; case h => simp only [r17_3, c17, bodyOf, Try.f17, Code.sub, opsOf]; rfl
theorem w17_3 : W Try.prog TT S 7 [18] r17_3 k E m Q ↔ Rg Try.prog TT S 7 [18] [] [] (lgo E [0, 1, 2] (lops Try.prog (callw Try.prog TT S) [(some 19), (some 20), (some 21), (some 22), (some 23), (some 24), (some 25), none] (L17_3).1 E m)) k E Q := w_plain (by kernel_rfl) (L17_3).2
noncomputable def L17_4 : {l : List Oper // opsOf r17_4 = l} := by refine ⟨?l, ?h⟩; case h => simp only [r17_4, c17, bodyOf, Try.f17, Code.sub, opsOf]; rfl
theorem w17_4 : W Try.prog TT S 7 [18] r17_4 k E m Q ↔ Rg Try.prog TT S 7 [18] [6] [] (lgo E [] (lops Try.prog (callw Try.prog TT S) [(some 6)] (L17_4).1 E m)) k E Q := w_plain (by kernel_rfl) (L17_4).2
theorem k17 : FnIs TT 17 c17 [.tmp 6] 3 := ⟨Try.f17, by kernel_rfl, by simp only [Try.f17, c17, bodyOf], by kernel_rfl, of_decide_eq_true (by kernel_rfl)⟩

/- (*heap.Heap).Set -/
noncomputable def c18 : Code := bodyOf Try.f18
noncomputable def r18_0 : Code := Code.sub [0] c18
noncomputable def r18_1 : Code := Code.sub [1, 0] c18
theorem body18 : c18 = (.seq r18_0 (.seq r18_1 .ret)) := by kernel_rfl
noncomputable def L18_0 : {l : List Oper // opsOf r18_0 = l} := by refine ⟨?l, ?h⟩; case h => simp only [r18_0, c18, bodyOf, Try.f18, Code.sub, opsOf]; rfl
theorem w18_0 : W Try.prog TT S 9 [] r18_0 k E m Q ↔ Rg Try.prog TT S 9 [] [8] [] (lgo E [] (lops Try.prog (callw Try.prog TT S) [(some 8)] (L18_0).1 E m)) k E Q := w_plain (by kernel_rfl) (L18_0).2
noncomputable def L18_1 : {l : List Oper // opsOf r18_1 = l} := by refine ⟨?l, ?h⟩; case h => simp only [r18_1, c18, bodyOf, Try.f18, Code.sub, opsOf]; rfl
theorem w18_1 : W Try.prog TT S 9 [] r18_1 k E m Q ↔ Rg Try.prog TT S 9 [] [8] [] (lgo E [0, 1, 2, 3] (lops Try.prog (callw Try.prog TT S) [(some 9), (some 10), (some 11), (some 12), (some 13), (some 14), (some 15), (some 8)] (L18_1).1 E m)) k E Q := w_plain (by kernel_rfl) (L18_1).2
theorem k18 : FnIs TT 18 c18 [.tmp 8] 4 := ⟨Try.f18, by kernel_rfl, by simp only [Try.f18, c18, bodyOf], by kernel_rfl, of_decide_eq_true (by kernel_rfl)⟩

/- (*heap.Heap).Type -/
noncomputable def c19 : Code := bodyOf Try.f19
noncomputable def r19_0 : Code := Code.sub [0] c19
noncomputable def r19_1 : Code := Code.sub [1, 0] c19
theorem body19 : c19 = (.seq r19_0 (.seq r19_1 .ret)) := by kernel_rfl
noncomputable def L19_0 : {l : List Oper // opsOf r19_0 = l} := by refine ⟨?l, ?h⟩; case h => simp only [r19_0, c19, bodyOf, Try.f19, Code.sub, opsOf]; rfl
theorem w19_0 : W Try.prog TT S 5 [] r19_0 k E m Q ↔ Rg Try.prog TT S 5 [] [4] [] (lgo E [] (lops Try.prog (callw Try.prog TT S) [(some 4)] (L19_0).1 E m)) k E Q := w_plain (by kernel_rfl) (L19_0).2
noncomputable def L19_1 : {l : List Oper // opsOf r19_1 = l} := by refine ⟨?l, ?h⟩; case h => simp only [r19_1, c19, bodyOf, Try.f19, Code.sub, opsOf]; rfl
theorem w19_1 : W Try.prog TT S 5 [] r19_1 k E m Q ↔ Rg Try.prog TT S 5 [] [4] [] (lgo E [0, 1] (lops Try.prog (callw Try.prog TT S) [(some 5), (some 6), (some 7), (some 8), (some 9), (some 4)] (L19_1).1 E m)) k E Q := w_plain (by kernel_rfl) (L19_1).2
theorem k19 : FnIs TT 19 c19 [.tmp 4] 2 := ⟨Try.f19, by kernel_rfl, by simp only [Try.f19, c19, bodyOf], by kernel_rfl, of_decide_eq_true (by kernel_rfl)⟩

/- (*heap.Heap).Len -/
noncomputable def c20 : Code := bodyOf Try.f20
noncomputable def r20_0 : Code := Code.sub [0] c20
noncomputable def r20_1 : Code := Code.sub [1, 0] c20
theorem body20 : c20 = (.seq r20_0 (.seq r20_1 .ret)) := by kernel_rfl
noncomputable def L20_0 : {l : List Oper // opsOf r20_0 = l} := by refine ⟨?l, ?h⟩; case h => simp only [r20_0, c20, bodyOf, Try.f20, Code.sub, opsOf]; rfl
theorem w20_0 : W Try.prog TT S 5 [] r20_0 k E m Q ↔ Rg Try.prog TT S 5 [] [4] [] (lgo E [] (lops Try.prog (callw Try.prog TT S) [(some 4)] (L20_0).1 E m)) k E Q := w_plain (by kernel_rfl) (L20_0).2
noncomputable def L20_1 : {l : List Oper // opsOf r20_1 = l} := by refine ⟨?l, ?h⟩; case h => simp only [r20_1, c20, bodyOf, Try.f20, Code.sub, opsOf]; rfl
theorem w20_1 : W Try.prog TT S 5 [] r20_1 k E m Q ↔ Rg Try.prog TT S 5 [] [4] [] (lgo E [0, 1] (lops Try.prog (callw Try.prog TT S) [(some 5), (some 6), (some 7), (some 8), (some 9), (some 4)] (L20_1).1 E m)) k E Q := w_plain (by kernel_rfl) (L20_1).2
theorem k20 : FnIs TT 20 c20 [.tmp 4] 2 := ⟨Try.f20, by kernel_rfl, by simp only [Try.f20, c20, bodyOf], by kernel_rfl, of_decide_eq_true (by kernel_rfl)⟩

/- (*heap.Heap).Get -/
noncomputable def c21 : Code := bodyOf Try.f21
noncomputable def r21_0 : Code := Code.sub [0] c21
noncomputable def r21_1 : Code := Code.sub [1, 0] c21
theorem body21 : c21 = (.seq r21_0 (.seq r21_1 .ret)) := by kernel_rfl
noncomputable def L21_0 : {l : List Oper // opsOf r21_0 = l} := by refine ⟨?l, ?h⟩; case h => simp only [r21_0, c21, bodyOf, Try.f21, Code.sub, opsOf]; rfl
theorem w21_0 : W Try.prog TT S 7 [] r21_0 k E m Q ↔ Rg Try.prog TT S 7 [] [6] [] (lgo E [] (lops Try.prog (callw Try.prog TT S) [(some 6)] (L21_0).1 E m)) k E Q := w_plain (by kernel_rfl) (L21_0).2
noncomputable def L21_1 : {l : List Oper // opsOf r21_1 = l} := by refine ⟨?l, ?h⟩; case h => simp only [r21_1, c21, bodyOf, Try.f21, Code.sub, opsOf]; rfl
theorem w21_1 : W Try.prog TT S 7 [] r21_1 k E m Q ↔ Rg Try.prog TT S 7 [] [6] [] (lgo E [0, 1, 2] (lops Try.prog (callw Try.prog TT S) [(some 7), (some 8), (some 9), (some 10), (some 11), (some 12), (some 6)] (L21_1).1 E m)) k E Q := w_plain (by kernel_rfl) (L21_1).2
theorem k21 : FnIs TT 21 c21 [.tmp 6] 3 := ⟨Try.f21, by kernel_rfl, by simp only [Try.f21, c21, bodyOf], by kernel_rfl, of_decide_eq_true (by kernel_rfl)⟩

/- (*heap.Heap).Word -/
noncomputable def c22 : Code := bodyOf Try.f22
noncomputable def r22_0 : Code := Code.sub [0] c22
noncomputable def r22_1 : Code := Code.sub [1, 0, 0] c22
noncomputable def r22_2 : Code := Code.sub [1, 0, 1, 0, 0] c22
noncomputable def r22_3 : Code := Code.sub [1, 1, 0] c22
theorem body22 : c22 = (.seq r22_0 (.seq (.seq r22_1 (.cond (.tmp 12) (.seq r22_2 .ret) .skip)) (.seq r22_3 .ret))) := by kernel_rfl
noncomputable def L22_0 : {l : List Oper // opsOf r22_0 = l} := by refine ⟨?l, ?h⟩; case h => simp only [r22_0, c22, bodyOf, Try.f22, Code.sub, opsOf]; rfl
theorem w22_0 : W Try.prog TT S 5 [12] r22_0 k E m Q ↔ Rg Try.prog TT S 5 [12] [4] [] (lgo E [] (lops Try.prog (callw Try.prog TT S) [(some 4)] (L22_0).1 E m)) k E Q := w_plain (by kernel_rfl) (L22_0).2
noncomputable def L22_1 : {l : List Oper // opsOf r22_1 = l} := by refine ⟨?l, ?h⟩; case h => simp only [r22_1, c22, bodyOf, Try.f22, Code.sub, opsOf]; rfl
theorem w22_1 : W Try.prog TT S 5 [12] r22_1 k E m Q ↔ Rg Try.prog TT S 5 [12] [] [12] (lgo E [1, 0] (lops Try.prog (callw Try.prog TT S) [(some 5), (some 6), (some 7), (some 8), (some 9), (some 10), (some 11), (some 12)] (L22_1).1 E m)) k E Q := w_plain (by kernel_rfl) (L22_1).2
noncomputable def L22_2 : {l : List Oper // opsOf r22_2 = l} := by refine ⟨?l, ?h⟩; case h => simp only [r22_2, c22, bodyOf, Try.f22, Code.sub, opsOf]; rfl
theorem w22_2 : W Try.prog TT S 5 [12] r22_2 k E m Q ↔ Rg Try.prog TT S 5 [12] [4] [] (lgo E [] (lops Try.prog (callw Try.prog TT S) [(some 4)] (L22_2).1 E m)) k E Q := w_plain (by kernel_rfl) (L22_2).2
noncomputable def L22_3 : {l : List Oper // opsOf r22_3 = l} := by refine ⟨?l, ?h⟩; case h => simp only [r22_3, c22, bodyOf, Try.f22, Code.sub, opsOf]; rfl
theorem w22_3 : W Try.prog TT S 5 [12] r22_3 k E m Q ↔ Rg Try.prog TT S 5 [12] [4] [] (lgo E [0, 1] (lops Try.prog (callw Try.prog TT S) [(some 13), (some 14), (some 15), (some 16), (some 17), (some 18), (some 19), (some 4)] (L22_3).1 E m)) k E Q := w_plain (by kernel_rfl) (L22_3).2
theorem k22 : FnIs TT 22 c22 [.tmp 4] 2 := ⟨Try.f22, by kernel_rfl, by simp only [Try.f22, c22, bodyOf], by kernel_rfl, of_decide_eq_true (by kernel_rfl)⟩

/- (*heap.Heap).Text -/
noncomputable def c23 : Code := bodyOf Try.f23
noncomputable def r23_0 : Code := Code.sub [0] c23
noncomputable def r23_1 : Code := Code.sub [1, 0, 0] c23
noncomputable def r23_2 : Code := Code.sub [1, 0, 1, 0, 0] c23
noncomputable def r23_3 : Code := Code.sub [1, 1, 0] c23
noncomputable def r23_4 : Code := Code.sub [1, 1, 1, 0, 0] c23
noncomputable def r23_5 : Code := Code.sub [1, 1, 1, 0, 1, 0, 0, 0, 0] c23
noncomputable def r23_6 : Code := Code.sub [1, 1, 1, 0, 1, 0, 0, 1, 0, 0] c23
noncomputable def r23_7 : Code := Code.sub [1, 1, 1, 0, 1, 0, 0, 1, 1] c23
noncomputable def r23_8 : Code := Code.sub [1, 1, 1, 1, 0] c23
theorem body23 : c23 = (.seq r23_0 (.seq (.seq r23_1 (.cond (.tmp 10) (.seq r23_2 .ret) .skip)) (.seq r23_3 (.seq (.seq r23_4 (.block 0 (.loop (.seq (.seq r23_5 (.cond (.tmp 24) .skip (.exit 0))) (.seq (.block 1 r23_6) r23_7))))) (.seq r23_8 .ret))))) := by kernel_rfl
noncomputable def L23_0 : {l : List Oper // opsOf r23_0 = l} := by refine ⟨?l, ?h⟩; case h => simp only [r23_0, c23, bodyOf, Try.f23, Code.sub, opsOf]; rfl
theorem w23_0 : W Try.prog TT S 9 [10, 24] r23_0 k E m Q ↔ Rg Try.prog TT S 9 [10, 24] [4, 5] [] (lgo E [] (lops Try.prog (callw Try.prog TT S) [(some 4), (some 5)] (L23_0).1 E m)) k E Q := w_plain (by kernel_rfl) (L23_0).2
noncomputable def L23_1 : {l : List Oper // opsOf r23_1 = l} := by refine ⟨?l, ?h⟩; case h => simp only [r23_1, c23, bodyOf, Try.f23, Code.sub, opsOf]; rfl
theorem w23_1 : W Try.prog TT S 9 [10, 24] r23_1 k E m Q ↔ Rg Try.prog TT S 9 [10, 24] [] [10] (lgo E [1] (lops Try.prog (callw Try.prog TT S) [(some 9), (some 10)] (L23_1).1 E m)) k E Q := w_plain (by kernel_rfl) (L23_1).2
noncomputable def L23_2 : {l : List Oper // opsOf r23_2 = l} := by refine ⟨?l, ?h⟩; case h => simp only [r23_2, c23, bodyOf, Try.f23, Code.sub, opsOf]; rfl
theorem w23_2 : W Try.prog TT S 9 [10, 24] r23_2 k E m Q ↔ Rg Try.prog TT S 9 [10, 24] [4, 5] [] (lgo E [] (lops Try.prog (callw Try.prog TT S) [(some 4), (some 5)] (L23_2).1 E m)) k E Q := w_plain (by kernel_rfl) (L23_2).2
noncomputable def L23_3 : {l : List Oper // opsOf r23_3 = l} := by refine ⟨?l, ?h⟩; case h => simp only [r23_3, c23, bodyOf, Try.f23, Code.sub, opsOf]; rfl
theorem w23_3 : W Try.prog TT S 9 [10, 24] r23_3 k E m Q ↔ Rg Try.prog TT S 9 [10, 24] [6, 7] [] (lgo E [0, 1] (lops Try.prog (callw Try.prog TT S) [(some 12), (some 13), (some 14), (some 15), (some 11), (some 16), (some 17), (some 6), (some 7)] (L23_3).1 E m)) k E Q := w_plain (by kernel_rfl) (L23_3).2
noncomputable def L23_4 : {l : List Oper // opsOf r23_4 = l} := by refine ⟨?l, ?h⟩; case h => simp only [r23_4, c23, bodyOf, Try.f23, Code.sub, opsOf]; rfl
theorem w23_4 : W Try.prog TT S 9 [10, 24] r23_4 k E m Q ↔ Rg Try.prog TT S 9 [10, 24] [8] [] (lgo E [] (lops Try.prog (callw Try.prog TT S) [(some 8)] (L23_4).1 E m)) k E Q := w_plain (by kernel_rfl) (L23_4).2
noncomputable def L23_5 : {l : List Oper // opsOf r23_5 = l} := by refine ⟨?l, ?h⟩; case h => simp only [r23_5, c23, bodyOf, Try.f23, Code.sub, opsOf]; rfl
theorem w23_5 : W Try.prog TT S 9 [10, 24] r23_5 k E m Q ↔ Rg Try.prog TT S 9 [10, 24] [] [24] (lgo E [7, 8, 1] (lops Try.prog (callw Try.prog TT S) [(some 18), (some 19), (some 20), (some 21), (some 22), (some 23), (some 24)] (L23_5).1 E m)) k E Q := w_plain (by kernel_rfl) (L23_5).2
noncomputable def L23_6 : {l : List Oper // opsOf r23_6 = l} := by refine ⟨?l, ?h⟩; case h => simp only [r23_6, c23, bodyOf, Try.f23, Code.sub, opsOf]; rfl
theorem w23_6 : W Try.prog TT S 9 [10, 24] r23_6 k E m Q ↔ Rg Try.prog TT S 9 [10, 24] [] [] (lgo E [0, 6, 1, 8] (lops Try.prog (callw Try.prog TT S) [(some 27), (some 28), (some 29), (some 30), (some 31), (some 32), (some 33), (some 34)] (L23_6).1 E m)) k E Q := w_plain (by kernel_rfl) (L23_6).2
noncomputable def L23_7 : {l : List Oper // opsOf r23_7 = l} := by refine ⟨?l, ?h⟩; case h => simp only [r23_7, c23, bodyOf, Try.f23, Code.sub, opsOf]; rfl
theorem w23_7 : W Try.prog TT S 9 [10, 24] r23_7 k E m Q ↔ Rg Try.prog TT S 9 [10, 24] [8] [] (lgo E [8] (lops Try.prog (callw Try.prog TT S) [(some 25), (some 26), (some 8)] (L23_7).1 E m)) k E Q := w_plain (by kernel_rfl) (L23_7).2
noncomputable def L23_8 : {l : List Oper // opsOf r23_8 = l} := by refine ⟨?l, ?h⟩; case h => simp only [r23_8, c23, bodyOf, Try.f23, Code.sub, opsOf]; rfl
theorem w23_8 : W Try.prog TT S 9 [10, 24] r23_8 k E m Q ↔ Rg Try.prog TT S 9 [10, 24] [4, 5] [] (lgo E [6, 7] (lops Try.prog (callw Try.prog TT S) [(some 35), (some 36), (some 4), (some 5)] (L23_8).1 E m)) k E Q := w_plain (by kernel_rfl) (L23_8).2
theorem k23 : FnIs TT 23 c23 [.tmp 4, .tmp 5] 2 := ⟨Try.f23, by kernel_rfl, by simp only [Try.f23, c23, bodyOf], by kernel_rfl, of_decide_eq_true (by kernel_rfl)⟩

/- (*heap.Heap).String -/
noncomputable def c24 : Code := bodyOf Try.f24
noncomputable def r24_0 : Code := Code.sub [0] c24
noncomputable def r24_1 : Code := Code.sub [1, 0] c24
noncomputable def r24_2 : Code := Code.sub [1, 1, 0] c24
noncomputable def r24_3 : Code := Code.sub [1, 1, 1, 0, 0] c24
noncomputable def r24_4 : Code := Code.sub [1, 1, 1, 0, 1, 0, 0, 0, 0] c24
noncomputable def r24_5 : Code := Code.sub [1, 1, 1, 0, 1, 0, 0, 1, 0, 0] c24
noncomputable def r24_6 : Code := Code.sub [1, 1, 1, 0, 1, 0, 0, 1, 1] c24
noncomputable def r24_7 : Code := Code.sub [1, 1, 1, 1, 0] c24
theorem body24 : c24 = (.seq r24_0 (.seq r24_1 (.seq r24_2 (.seq (.seq r24_3 (.block 0 (.loop (.seq (.seq r24_4 (.cond (.tmp 20) .skip (.exit 0))) (.seq (.block 1 r24_5) r24_6))))) (.seq r24_7 .ret))))) := by kernel_rfl
noncomputable def L24_0 : {l : List Oper // opsOf r24_0 = l} := by refine ⟨?l, ?h⟩; case h => simp only [r24_0, c24, bodyOf, Try.f24, Code.sub, opsOf]; rfl
theorem w24_0 : W Try.prog TT S 8 [20] r24_0 k E m Q ↔ Rg Try.prog TT S 8 [20] [4] [] (lgo E [] (lops Try.prog (callw Try.prog TT S) [(some 4)] (L24_0).1 E m)) k E Q := w_plain (by kernel_rfl) (L24_0).2
noncomputable def L24_1 : {l : List Oper // opsOf r24_1 = l} := by refine ⟨?l, ?h⟩; case h => simp only [r24_1, c24, bodyOf, Try.f24, Code.sub, opsOf]; rfl
theorem w24_1 : W Try.prog TT S 8 [20] r24_1 k E m Q ↔ Rg Try.prog TT S 8 [20] [5] [] (lgo E [] (lops Try.prog (callw Try.prog TT S) [(some 5)] (L24_1).1 E m)) k E Q := w_plain (by kernel_rfl) (L24_1).2
noncomputable def L24_2 : {l : List Oper // opsOf r24_2 = l} := by refine ⟨?l, ?h⟩; case h => simp only [r24_2, c24, bodyOf, Try.f24, Code.sub, opsOf]; rfl
theorem w24_2 : W Try.prog TT S 8 [20] r24_2 k E m Q ↔ Rg Try.prog TT S 8 [20] [6] [] (lgo E [0] (lops Try.prog (callw Try.prog TT S) [(some 8), (some 9), (some 6)] (L24_2).1 E m)) k E Q := w_plain (by kernel_rfl) (L24_2).2
noncomputable def L24_3 : {l : List Oper // opsOf r24_3 = l} := by refine ⟨?l, ?h⟩; case h => simp only [r24_3, c24, bodyOf, Try.f24, Code.sub, opsOf]; rfl
theorem w24_3 : W Try.prog TT S 8 [20] r24_3 k E m Q ↔ Rg Try.prog TT S 8 [20] [7] [] (lgo E [] (lops Try.prog (callw Try.prog TT S) [(some 7)] (L24_3).1 E m)) k E Q := w_plain (by kernel_rfl) (L24_3).2
theorem can24_4 : canonOps (opsOf r24_4) = opsOf r24_4 := by kernel_rfl
noncomputable def L24_4 : {l : List Oper // canonOps (opsOf r24_4) = l} := by refine ⟨?l, (can24_4).trans ?h⟩; case h => simp only [r24_4, c24, bodyOf, Try.f24, Code.sub, opsOf]; rfl
theorem w24_4 : W Try.prog TT S 8 [20] r24_4 k E m Q ↔ Rg Try.prog TT S 8 [20] [] [20] (lgo E [7, 1, 0] (lloud Try.prog (callw Try.prog TT S) [(some 10), (some 11), (some 12), (some 13), (some 14), (some 15), (some 16), (some 17), (some 18), (some 19), (some 20)] (L24_4).1 [(7, [3, 11]), (8, [3, 11])] (lstates Try.prog (callw Try.prog TT S) [(some 10), (some 11), (some 12), (some 13), (some 14), (some 15), (some 16), (some 17), (some 18), (some 19), (some 20)] (L24_4).1 E m))) k E Q := w_loud (by kernel_rfl) (L24_4).2
noncomputable def L24_5 : {l : List Oper // opsOf r24_5 = l} := by refine ⟨?l, ?h⟩; case h => simp only [r24_5, c24, bodyOf, Try.f24, Code.sub, opsOf]; rfl
theorem w24_5 : W Try.prog TT S 8 [20] r24_5 k E m Q ↔ Rg Try.prog TT S 8 [20] [5] [] (lgo E [5, 6, 1, 7] (lops Try.prog (callw Try.prog TT S) [(some 23), (some 24), (some 25), (some 26), (some 27), (some 28), (some 29), (some 30), (some 5)] (L24_5).1 E m)) k E Q := w_plain (by kernel_rfl) (L24_5).2
noncomputable def L24_6 : {l : List Oper // opsOf r24_6 = l} := by refine ⟨?l, ?h⟩; case h => simp only [r24_6, c24, bodyOf, Try.f24, Code.sub, opsOf]; rfl
theorem w24_6 : W Try.prog TT S 8 [20] r24_6 k E m Q ↔ Rg Try.prog TT S 8 [20] [7] [] (lgo E [7] (lops Try.prog (callw Try.prog TT S) [(some 21), (some 22), (some 7)] (L24_6).1 E m)) k E Q := w_plain (by kernel_rfl) (L24_6).2
noncomputable def L24_7 : {l : List Oper // opsOf r24_7 = l} := by refine ⟨?l, ?h⟩; case h => simp only [r24_7, c24, bodyOf, Try.f24, Code.sub, opsOf]; rfl
theorem w24_7 : W Try.prog TT S 8 [20] r24_7 k E m Q ↔ Rg Try.prog TT S 8 [20] [4] [] (lgo E [5] (lops Try.prog (callw Try.prog TT S) [(some 31), (some 32), (some 4)] (L24_7).1 E m)) k E Q := w_plain (by kernel_rfl) (L24_7).2
theorem k24 : FnIs TT 24 c24 [.tmp 4] 2 := ⟨Try.f24, by kernel_rfl, by simp only [Try.f24, c24, bodyOf], by kernel_rfl, of_decide_eq_true (by kernel_rfl)⟩

/- (*heap.Heap).at -/
noncomputable def c36 : Code := bodyOf Try.f36
noncomputable def r36_0 : Code := Code.sub [0] c36
noncomputable def r36_1 : Code := Code.sub [1, 0, 0] c36
noncomputable def r36_2 : Code := Code.sub [1, 0, 1, 0, 0] c36
noncomputable def r36_3 : Code := Code.sub [1, 1, 0] c36
theorem body36 : c36 = (.seq r36_0 (.seq (.seq r36_1 (.cond (.tmp 15) (.seq r36_2 .ret) .skip)) (.seq r36_3 .ret))) := by kernel_rfl
noncomputable def L36_0 : {l : List Oper // opsOf r36_0 = l} := by refine ⟨?l, ?h⟩; case h => simp only [r36_0, c36, bodyOf, Try.f36, Code.sub, opsOf]; rfl
theorem w36_0 : W Try.prog TT S 7 [15] r36_0 k E m Q ↔ Rg Try.prog TT S 7 [15] [6] [] (lgo E [] (lops Try.prog (callw Try.prog TT S) [(some 6)] (L36_0).1 E m)) k E Q := w_plain (by kernel_rfl) (L36_0).2
noncomputable def L36_1 : {l : List Oper // opsOf r36_1 = l} := by refine ⟨?l, ?h⟩; case h => simp only [r36_1, c36, bodyOf, Try.f36, Code.sub, opsOf]; rfl
theorem w36_1 : W Try.prog TT S 7 [15] r36_1 k E m Q ↔ Rg Try.prog TT S 7 [15] [] [15] (lgo E [2, 0, 1] (lops Try.prog (callw Try.prog TT S) [(some 7), (some 8), (some 9), (some 10), (some 11), (some 12), (some 13), (some 14), (some 15)] (L36_1).1 E m)) k E Q := w_plain (by kernel_rfl) (L36_1).2
noncomputable def L36_2 : {l : List Oper // opsOf r36_2 = l} := by refine ⟨?l, ?h⟩; case h => simp only [r36_2, c36, bodyOf, Try.f36, Code.sub, opsOf]; rfl
theorem w36_2 : W Try.prog TT S 7 [15] r36_2 k E m Q ↔ Rg Try.prog TT S 7 [15] [6] [] (lgo E [] (lops Try.prog (callw Try.prog TT S) [(some 6)] (L36_2).1 E m)) k E Q := w_plain (by kernel_rfl) (L36_2).2
noncomputable def L36_3 : {l : List Oper // opsOf r36_3 = l} := by refine ⟨?l, ?h⟩; case h => simp only [r36_3, c36, bodyOf, Try.f36, Code.sub, opsOf]; rfl
theorem w36_3 : W Try.prog TT S 7 [15] r36_3 k E m Q ↔ Rg Try.prog TT S 7 [15] [6] [] (lgo E [1, 2] (lops Try.prog (callw Try.prog TT S) [(some 16), (some 17), (some 18), (some 19), (some 20), (some 6)] (L36_3).1 E m)) k E Q := w_plain (by kernel_rfl) (L36_3).2
theorem k36 : FnIs TT 36 c36 [.tmp 6] 3 := ⟨Try.f36, by kernel_rfl, by simp only [Try.f36, c36, bodyOf], by kernel_rfl, of_decide_eq_true (by kernel_rfl)⟩

/- (*heap.Heap).head -/
noncomputable def c37 : Code := bodyOf Try.f37
noncomputable def r37_0 : Code := Code.sub [0] c37
noncomputable def r37_1 : Code := Code.sub [1, 0] c37
theorem body37 : c37 = (.seq r37_0 (.seq r37_1 .ret)) := by kernel_rfl
noncomputable def L37_0 : {l : List Oper // opsOf r37_0 = l} := by refine ⟨?l, ?h⟩; case h => simp only [r37_0, c37, bodyOf, Try.f37, Code.sub, opsOf]; rfl
theorem w37_0 : W Try.prog TT S 5 [] r37_0 k E m Q ↔ Rg Try.prog TT S 5 [] [4] [] (lgo E [] (lops Try.prog (callw Try.prog TT S) [(some 4)] (L37_0).1 E m)) k E Q := w_plain (by kernel_rfl) (L37_0).2
noncomputable def L37_1 : {l : List Oper // opsOf r37_1 = l} := by refine ⟨?l, ?h⟩; case h => simp only [r37_1, c37, bodyOf, Try.f37, Code.sub, opsOf]; rfl
theorem w37_1 : W Try.prog TT S 5 [] r37_1 k E m Q ↔ Rg Try.prog TT S 5 [] [4] [] (lgo E [0, 1] (lops Try.prog (callw Try.prog TT S) [(some 5), (some 6), (some 7), (some 4)] (L37_1).1 E m)) k E Q := w_plain (by kernel_rfl) (L37_1).2
theorem k37 : FnIs TT 37 c37 [.tmp 4] 2 := ⟨Try.f37, by kernel_rfl, by simp only [Try.f37, c37, bodyOf], by kernel_rfl, of_decide_eq_true (by kernel_rfl)⟩
end Go.Proofs.Ytmehepbejckmlaa.gen

