/-
  This text names the regions of the functions that are walked, with the slots that they read and set, and the facts of the types.
  No condition.
-/
import Derived.Test.YtmehepbejckmlaaProg
import Derived.Test.YtmehepbejckmlaaShD
set_option maxRecDepth 100000
set_option linter.unusedSimpArgs false
set_option linter.unusedVariables false
namespace Go.Proofs.Ytmehepbejckmlaa.gen
open Go.Sh
def fns : List FuncId := [3, 4, 5, 6, 8, 9, 10, 11, 12, 13, 14, 15, 16, 17, 18, 19, 20, 21, 22, 23, 24, 25, 26, 27, 28, 29, 30, 31, 32, 33, 34, 35, 36, 37]
noncomputable def TT : FuncId → Option Func := Sh.tabOf Try.prog fns
variable {S : Sums} {m : Mem} {k : List Fr} {E : LEnv} {Q : Post}
theorem ap29 : apOk Try.prog 29 1 8 = true := by kernel_rfl
theorem ap5 : apOk Try.prog 5 1 1 = true := by kernel_rfl
theorem b58 : (Try.prog.info? 58).isSome = true := by kernel_rfl
theorem b62 : (Try.prog.info? 62).isSome = true := by kernel_rfl
theorem bo58 : buildOk Try.prog 58 [.slice none 0 0, .int .i64 0] [(0, 1), (1, 1)] = true := by kernel_rfl
theorem bo62 : buildOk Try.prog 62 [.int .i64 0, .slice none 0 0] [(0, 1), (1, 1)] = true := by kernel_rfl
theorem bs29 : bsOk Try.prog 29 [.int .u64 0] = true := by kernel_rfl
theorem bs5 : bsOk Try.prog 5 [.int .u8 0] = true := by kernel_rfl
theorem fa54_0 : faOk Try.prog 54 0 0 = true := by kernel_rfl
theorem fa54_1 : faOk Try.prog 54 1 1 = true := by kernel_rfl
theorem fa54_2 : faOk Try.prog 54 2 2 = true := by kernel_rfl
theorem fa54_3 : faOk Try.prog 54 3 3 = true := by kernel_rfl
theorem fa54_4 : faOk Try.prog 54 4 4 = true := by kernel_rfl
theorem fa54_5 : faOk Try.prog 54 5 5 = true := by kernel_rfl
theorem fa54_6 : faOk Try.prog 54 6 6 = true := by kernel_rfl
theorem fa58_0 : faOk Try.prog 58 0 0 = true := by kernel_rfl
theorem fa58_1 : faOk Try.prog 58 1 1 = true := by kernel_rfl
theorem fa62_0 : faOk Try.prog 62 0 0 = true := by kernel_rfl
theorem fa62_1 : faOk Try.prog 62 1 1 = true := by kernel_rfl
theorem ld29 : ldOk Try.prog 29 = true := by kernel_rfl
theorem ld3 : ldOk Try.prog 3 = true := by kernel_rfl
theorem ld34 : ldOk Try.prog 34 = true := by kernel_rfl
theorem ld4 : ldOk Try.prog 4 = true := by kernel_rfl
theorem ld54 : agOk Try.prog 54 7 = true := by kernel_rfl
theorem ld9 : ldOk Try.prog 9 = true := by kernel_rfl
theorem sz10 : sizeOfT Try.prog 10 = some 1 := by kernel_rfl
theorem sz11 : sizeOfT Try.prog 11 = some 1 := by kernel_rfl
theorem sz12 : sizeOfT Try.prog 12 = some 1 := by kernel_rfl
theorem sz2 : sizeOfT Try.prog 2 = some 1 := by kernel_rfl
theorem sz21 : sizeOfT Try.prog 21 = some 1 := by kernel_rfl
theorem sz22 : sizeOfT Try.prog 22 = some 1 := by kernel_rfl
theorem sz25 : sizeOfT Try.prog 25 = some 1 := by kernel_rfl
theorem sz29 : sizeOfT Try.prog 29 = some 1 := by kernel_rfl
theorem sz3 : sizeOfT Try.prog 3 = some 1 := by kernel_rfl
theorem sz34 : sizeOfT Try.prog 34 = some 1 := by kernel_rfl
theorem sz4 : sizeOfT Try.prog 4 = some 1 := by kernel_rfl
theorem sz40 : sizeOfT Try.prog 40 = some 1 := by kernel_rfl
theorem sz46 : sizeOfT Try.prog 46 = some 1 := by kernel_rfl
theorem sz5 : sizeOfT Try.prog 5 = some 1 := by kernel_rfl
theorem sz50 : sizeOfT Try.prog 50 = some 1 := by kernel_rfl
theorem sz54 : sizeOfT Try.prog 54 = some 7 := by kernel_rfl
theorem sz59 : sizeOfT Try.prog 59 = some 1 := by kernel_rfl
theorem sz6 : sizeOfT Try.prog 6 = some 1 := by kernel_rfl
theorem sz60 : sizeOfT Try.prog 60 = some 1 := by kernel_rfl
theorem sz69 : sizeOfT Try.prog 69 = some 1 := by kernel_rfl
theorem sz70 : sizeOfT Try.prog 70 = some 1 := by kernel_rfl
theorem sz71 : sizeOfT Try.prog 71 = some 1 := by kernel_rfl
theorem sz74 : sizeOfT Try.prog 74 = some 1 := by kernel_rfl
theorem sz75 : sizeOfT Try.prog 75 = some 1 := by kernel_rfl
theorem sz9 : sizeOfT Try.prog 9 = some 1 := by kernel_rfl
theorem u10 : Try.prog.underlying 10 = some .string := by kernel_rfl
theorem u11 : Try.prog.underlying 11 = some .string := by kernel_rfl
theorem u12 : Try.prog.underlying 12 = some (.int .u64) := by kernel_rfl
theorem u2 : Try.prog.underlying 2 = some (.int .i64) := by kernel_rfl
theorem u21 : Try.prog.underlying 21 = some (.int .i32) := by kernel_rfl
theorem u22 : Try.prog.underlying 22 = some (.slice 3) := by kernel_rfl
theorem u24 : Try.prog.underlying 24 = some (.pointer 58) := by kernel_rfl
theorem u25 : Try.prog.underlying 25 = some (.int .i64) := by kernel_rfl
theorem u29 : Try.prog.underlying 29 = some (.int .u64) := by kernel_rfl
theorem u3 : Try.prog.underlying 3 = some (.int .i64) := by kernel_rfl
theorem u34 : Try.prog.underlying 34 = some (.slice 29) := by kernel_rfl
theorem u4 : Try.prog.underlying 4 = some .bool := by kernel_rfl
theorem u40 : Try.prog.underlying 40 = some (.slice 34) := by kernel_rfl
theorem u46 : Try.prog.underlying 46 = some (.slice 9) := by kernel_rfl
theorem u5 : Try.prog.underlying 5 = some (.int .u8) := by kernel_rfl
theorem u50 : Try.prog.underlying 50 = some (.slice 54) := by kernel_rfl
theorem u59 : Try.prog.underlying 59 = some (.int .u64) := by kernel_rfl
theorem u6 : Try.prog.underlying 6 = some (.int .u8) := by kernel_rfl
theorem u60 : Try.prog.underlying 60 = some (.slice 5) := by kernel_rfl
theorem u69 : Try.prog.underlying 69 = some (.int .u32) := by kernel_rfl
theorem u70 : Try.prog.underlying 70 = some (.int .u8) := by kernel_rfl
theorem u71 : Try.prog.underlying 71 = some (.int .u8) := by kernel_rfl
theorem u74 : Try.prog.underlying 74 = some (.int .i32) := by kernel_rfl
theorem u75 : Try.prog.underlying 75 = some (.int .i32) := by kernel_rfl
theorem u9 : Try.prog.underlying 9 = some .string := by kernel_rfl
theorem zo54 : zeroOk Try.prog 54 [.int .i64 0, .int .i64 0, .int .i64 0, .int .u64 0, .int .u64 0, .string ⟨#[]⟩, .bool false] = true := by kernel_rfl

/- turnstonelaw1.HeapPlays -/
noncomputable def c8 : Code := bodyOf Try.f8
noncomputable def r8_0 : Code := Code.sub [0] c8
noncomputable def r8_1 : Code := Code.sub [1, 0] c8
noncomputable def r8_2 : Code := Code.sub [1, 1, 0] c8
noncomputable def r8_3 : Code := Code.sub [1, 1, 1, 0, 0] c8
noncomputable def r8_4 : Code := Code.sub [1, 1, 1, 0, 1, 0, 0] c8
noncomputable def r8_5 : Code := Code.sub [1, 1, 1, 1, 0] c8
noncomputable def r8_6 : Code := Code.sub [1, 1, 1, 1, 1, 0, 0] c8
noncomputable def r8_7 : Code := Code.sub [1, 1, 1, 1, 1, 0, 1, 0, 0, 0, 0] c8
noncomputable def r8_8 : Code := Code.sub [1, 1, 1, 1, 1, 0, 1, 0, 0, 1, 0, 0, 0] c8
noncomputable def r8_9 : Code := Code.sub [1, 1, 1, 1, 1, 0, 1, 0, 0, 1, 0, 0, 1, 0] c8
noncomputable def r8_10 : Code := Code.sub [1, 1, 1, 1, 1, 0, 1, 0, 0, 1, 0, 0, 1, 1, 0] c8
noncomputable def r8_11 : Code := Code.sub [1, 1, 1, 1, 1, 0, 1, 0, 0, 1, 0, 0, 1, 1, 1, 0, 0] c8
noncomputable def r8_12 : Code := Code.sub [1, 1, 1, 1, 1, 0, 1, 0, 0, 1, 0, 0, 1, 1, 1, 0, 1, 0, 0] c8
noncomputable def r8_13 : Code := Code.sub [1, 1, 1, 1, 1, 0, 1, 0, 0, 1, 0, 0, 1, 1, 1, 0, 1, 0, 1] c8
noncomputable def r8_14 : Code := Code.sub [1, 1, 1, 1, 1, 0, 1, 0, 0, 1, 0, 0, 1, 1, 1, 1, 0] c8
noncomputable def r8_15 : Code := Code.sub [1, 1, 1, 1, 1, 0, 1, 0, 0, 1, 0, 0, 1, 1, 1, 1, 1, 0, 0] c8
noncomputable def r8_16 : Code := Code.sub [1, 1, 1, 1, 1, 0, 1, 0, 0, 1, 0, 0, 1, 1, 1, 1, 1, 0, 1, 0, 0, 0] c8
noncomputable def r8_17 : Code := Code.sub [1, 1, 1, 1, 1, 0, 1, 0, 0, 1, 0, 0, 1, 1, 1, 1, 1, 0, 1, 0, 0, 1, 1] c8
noncomputable def r8_18 : Code := Code.sub [1, 1, 1, 1, 1, 0, 1, 0, 0, 1, 0, 0, 1, 1, 1, 1, 1, 0, 1, 0, 1, 0] c8
noncomputable def r8_19 : Code := Code.sub [1, 1, 1, 1, 1, 0, 1, 0, 0, 1, 0, 0, 1, 1, 1, 1, 1, 0, 1, 0, 1, 1, 0] c8
noncomputable def r8_20 : Code := Code.sub [1, 1, 1, 1, 1, 0, 1, 0, 0, 1, 0, 0, 1, 1, 1, 1, 1, 0, 1, 0, 1, 1, 1, 0] c8
noncomputable def r8_21 : Code := Code.sub [1, 1, 1, 1, 1, 0, 1, 0, 0, 1, 0, 0, 1, 1, 1, 1, 1, 0, 1, 0, 1, 1, 1, 1, 0] c8
noncomputable def r8_22 : Code := Code.sub [1, 1, 1, 1, 1, 0, 1, 0, 0, 1, 0, 0, 1, 1, 1, 1, 1, 0, 1, 0, 1, 1, 1, 1, 1, 0, 0] c8
noncomputable def r8_23 : Code := Code.sub [1, 1, 1, 1, 1, 0, 1, 0, 0, 1, 0, 0, 1, 1, 1, 1, 1, 0, 1, 0, 1, 1, 1, 1, 1, 0, 1, 0] c8
noncomputable def r8_24 : Code := Code.sub [1, 1, 1, 1, 1, 0, 1, 0, 0, 1, 0, 0, 1, 1, 1, 1, 1, 0, 1, 0, 1, 1, 1, 1, 1, 0, 1, 1] c8
noncomputable def r8_25 : Code := Code.sub [1, 1, 1, 1, 1, 0, 1, 0, 0, 1, 0, 0, 1, 1, 1, 1, 1, 0, 1, 0, 1, 1, 1, 1, 1, 1, 0] c8
noncomputable def r8_26 : Code := Code.sub [1, 1, 1, 1, 1, 0, 1, 0, 0, 1, 0, 0, 1, 1, 1, 1, 1, 0, 1, 0, 1, 1, 1, 1, 1, 1, 1, 0, 0] c8
noncomputable def r8_27 : Code := Code.sub [1, 1, 1, 1, 1, 0, 1, 0, 0, 1, 0, 0, 1, 1, 1, 1, 1, 0, 1, 0, 1, 1, 1, 1, 1, 1, 1, 0, 1, 0] c8
noncomputable def r8_28 : Code := Code.sub [1, 1, 1, 1, 1, 0, 1, 0, 0, 1, 0, 0, 1, 1, 1, 1, 1, 0, 1, 0, 1, 1, 1, 1, 1, 1, 1, 0, 1, 1, 0] c8
noncomputable def r8_29 : Code := Code.sub [1, 1, 1, 1, 1, 0, 1, 0, 0, 1, 0, 0, 1, 1, 1, 1, 1, 0, 1, 0, 1, 1, 1, 1, 1, 1, 1, 0, 1, 1, 1, 0, 0] c8
noncomputable def r8_30 : Code := Code.sub [1, 1, 1, 1, 1, 0, 1, 0, 0, 1, 0, 0, 1, 1, 1, 1, 1, 0, 1, 0, 1, 1, 1, 1, 1, 1, 1, 0, 1, 1, 1, 0, 1] c8
noncomputable def r8_31 : Code := Code.sub [1, 1, 1, 1, 1, 0, 1, 0, 0, 1, 0, 0, 1, 1, 1, 1, 1, 0, 1, 0, 1, 1, 1, 1, 1, 1, 1, 1, 0] c8
noncomputable def r8_32 : Code := Code.sub [1, 1, 1, 1, 1, 0, 1, 0, 0, 1, 0, 0, 1, 1, 1, 1, 1, 0, 1, 0, 1, 1, 1, 1, 1, 1, 1, 1, 1, 0] c8
noncomputable def r8_33 : Code := Code.sub [1, 1, 1, 1, 1, 0, 1, 0, 0, 1, 0, 0, 1, 1, 1, 1, 1, 0, 1, 0, 1, 1, 1, 1, 1, 1, 1, 1, 1, 1] c8
noncomputable def r8_34 : Code := Code.sub [1, 1, 1, 1, 1, 0, 1, 0, 0, 1, 0, 0, 1, 1, 1, 1, 1, 1, 0, 0] c8
noncomputable def r8_35 : Code := Code.sub [1, 1, 1, 1, 1, 0, 1, 0, 0, 1, 0, 0, 1, 1, 1, 1, 1, 1, 0, 1, 0, 0] c8
noncomputable def r8_36 : Code := Code.sub [1, 1, 1, 1, 1, 0, 1, 0, 0, 1, 0, 0, 1, 1, 1, 1, 1, 1, 1, 0] c8
noncomputable def r8_37 : Code := Code.sub [1, 1, 1, 1, 1, 0, 1, 0, 0, 1, 0, 0, 1, 1, 1, 1, 1, 1, 1, 1, 0, 0] c8
noncomputable def r8_38 : Code := Code.sub [1, 1, 1, 1, 1, 0, 1, 0, 0, 1, 1] c8
noncomputable def r8_39 : Code := Code.sub [1, 1, 1, 1, 1, 1, 0] c8
theorem body8 : c8 = (.seq r8_0 (.seq r8_1 (.seq r8_2 (.seq (.seq r8_3 (.cond (.tmp 39) (.seq r8_4 .ret) .skip)) (.seq r8_5 (.seq (.seq r8_6 (.block 0 (.loop (.seq (.seq r8_7 (.cond (.tmp 49) .skip (.exit 0))) (.seq (.block 1 (.seq r8_8 (.seq r8_9 (.seq r8_10 (.seq (.seq r8_11 (.cond (.tmp 62) (.seq r8_12 r8_13) .skip)) (.seq r8_14 (.seq (.seq r8_15 (.block 2 (.seq (.seq r8_16 (.cond (.tmp 102) .skip r8_17)) (.cond (.tmp 102) r8_18 (.seq r8_19 (.cond (.tmp 118) r8_20 (.seq r8_21 (.cond (.tmp 131) (.seq r8_22 (.seq r8_23 r8_24)) (.seq r8_25 (.cond (.tmp 155) (.seq r8_26 (.seq r8_27 (.seq r8_28 (.cond (.tmp 166) (.seq r8_29 r8_30) .skip)))) (.seq r8_31 (.seq r8_32 r8_33)))))))))))) (.seq (.seq r8_34 (.cond (.tmp 218) (.seq r8_35 .ret) .skip)) (.seq r8_36 (.cond (.tmp 231) (.seq r8_37 .ret) .skip)))))))))) r8_38))))) (.seq r8_39 .ret))))))) := by kernel_rfl
noncomputable def L8_0 : {l : List Oper // (opsOf r8_0).map strip = l} := by refine ⟨?l, ?h⟩; case h => simp only [r8_0, c8, bodyOf, Try.f8, Code.sub, opsOf, List.map_cons, List.map_nil, strip]; rfl
theorem w8_0 : W Try.prog TT S 78 [102, 102, 118, 131, 155, 166, 218, 231] r8_0 k E m Q ↔ Rg Try.prog TT S 78 [102, 102, 118, 131, 155, 166, 218, 231] [4] [] (lgo E [] (lops Try.prog (callw Try.prog TT S) [(some 4)] (L8_0).1 E m)) k E Q := w_plain (by kernel_rfl) (L8_0).2
noncomputable def L8_1 : {l : List Oper // (opsOf r8_1).map strip = l} := by refine ⟨?l, ?h⟩; case h => simp only [r8_1, c8, bodyOf, Try.f8, Code.sub, opsOf, List.map_cons, List.map_nil, strip]; rfl
theorem w8_1 : W Try.prog TT S 78 [102, 102, 118, 131, 155, 166, 218, 231] r8_1 k E m Q ↔ Rg Try.prog TT S 78 [102, 102, 118, 131, 155, 166, 218, 231] [22, 23, 24, 0] [] (lgo E [0] (lops Try.prog (callw Try.prog TT S) [(some 22), (some 23), (some 24), (some 0)] (L8_1).1 E m)) k E Q := w_plain (by kernel_rfl) (L8_1).2
noncomputable def L8_2 : {l : List Oper // (opsOf r8_2).map strip = l} := by refine ⟨?l, ?h⟩; case h => simp only [r8_2, c8, bodyOf, Try.f8, Code.sub, opsOf, List.map_cons, List.map_nil, strip]; rfl
theorem w8_2 : W Try.prog TT S 78 [102, 102, 118, 131, 155, 166, 218, 231] r8_2 k E m Q ↔ Rg Try.prog TT S 78 [102, 102, 118, 131, 155, 166, 218, 231] [26, 27, 25, 28, 29, 5, 6] [] (lgo E [0] (lops Try.prog (callw Try.prog TT S) [(some 26), (some 27), (some 25), (some 28), (some 29), (some 5), (some 6)] (L8_2).1 E m)) k E Q := w_plain (by kernel_rfl) (L8_2).2
noncomputable def L8_3 : {l : List Oper // (opsOf r8_3).map strip = l} := by refine ⟨?l, ?h⟩; case h => simp only [r8_3, c8, bodyOf, Try.f8, Code.sub, opsOf, List.map_cons, List.map_nil, strip]; rfl
theorem w8_3 : W Try.prog TT S 78 [102, 102, 118, 131, 155, 166, 218, 231] r8_3 k E m Q ↔ Rg Try.prog TT S 78 [102, 102, 118, 131, 155, 166, 218, 231] [30, 31, 32, 33, 34, 35, 36, 37, 38, 39] [] (lgo E [6, 5] (lops Try.prog (callw Try.prog TT S) [(some 30), (some 31), (some 32), (some 33), (some 34), (some 35), (some 36), (some 37), (some 38), (some 39)] (L8_3).1 E m)) k E Q := w_plain (by kernel_rfl) (L8_3).2
noncomputable def L8_4 : {l : List Oper // (opsOf r8_4).map strip = l} := by refine ⟨?l, ?h⟩; case h => simp only [r8_4, c8, bodyOf, Try.f8, Code.sub, opsOf, List.map_cons, List.map_nil, strip]; rfl
theorem w8_4 : W Try.prog TT S 78 [102, 102, 118, 131, 155, 166, 218, 231] r8_4 k E m Q ↔ Rg Try.prog TT S 78 [102, 102, 118, 131, 155, 166, 218, 231] [4] [] (lgo E [] (lops Try.prog (callw Try.prog TT S) [(some 4)] (L8_4).1 E m)) k E Q := w_plain (by kernel_rfl) (L8_4).2
noncomputable def L8_5 : {l : List Oper // (opsOf r8_5).map strip = l} := by refine ⟨?l, ?h⟩; case h => simp only [r8_5, c8, bodyOf, Try.f8, Code.sub, opsOf, List.map_cons, List.map_nil, strip]; rfl
theorem w8_5 : W Try.prog TT S 78 [102, 102, 118, 131, 155, 166, 218, 231] r8_5 k E m Q ↔ Rg Try.prog TT S 78 [102, 102, 118, 131, 155, 166, 218, 231] [40, 41, 7] [] (lgo E [0] (lops Try.prog (callw Try.prog TT S) [(some 40), (some 41), (some 7)] (L8_5).1 E m)) k E Q := w_plain (by kernel_rfl) (L8_5).2
noncomputable def L8_6 : {l : List Oper // (opsOf r8_6).map strip = l} := by refine ⟨?l, ?h⟩; case h => simp only [r8_6, c8, bodyOf, Try.f8, Code.sub, opsOf, List.map_cons, List.map_nil, strip]; rfl
theorem w8_6 : W Try.prog TT S 78 [102, 102, 118, 131, 155, 166, 218, 231] r8_6 k E m Q ↔ Rg Try.prog TT S 78 [102, 102, 118, 131, 155, 166, 218, 231] [8] [] (lgo E [] (lops Try.prog (callw Try.prog TT S) [(some 8)] (L8_6).1 E m)) k E Q := w_plain (by kernel_rfl) (L8_6).2
noncomputable def L8_7 : {l : List Oper // (opsOf r8_7).map strip = l} := by refine ⟨?l, ?h⟩; case h => simp only [r8_7, c8, bodyOf, Try.f8, Code.sub, opsOf, List.map_cons, List.map_nil, strip]; rfl
theorem w8_7 : W Try.prog TT S 78 [102, 102, 118, 131, 155, 166, 218, 231] r8_7 k E m Q ↔ Rg Try.prog TT S 78 [102, 102, 118, 131, 155, 166, 218, 231] [42, 43, 44, 45, 46, 47, 48, 49] [] (lgo E [1, 8] (lops Try.prog (callw Try.prog TT S) [(some 42), (some 43), (some 44), (some 45), (some 46), (some 47), (some 48), (some 49)] (L8_7).1 E m)) k E Q := w_plain (by kernel_rfl) (L8_7).2
noncomputable def L8_8 : {l : List Oper // (opsOf r8_8).map strip = l} := by refine ⟨?l, ?h⟩; case h => simp only [r8_8, c8, bodyOf, Try.f8, Code.sub, opsOf, List.map_cons, List.map_nil, strip]; rfl
theorem w8_8 : W Try.prog TT S 78 [102, 102, 118, 131, 155, 166, 218, 231] r8_8 k E m Q ↔ Rg Try.prog TT S 78 [102, 102, 118, 131, 155, 166, 218, 231] [52, 53, 54, 55, 9] [] (lgo E [1, 8] (lops Try.prog (callw Try.prog TT S) [(some 52), (some 53), (some 54), (some 55), (some 9), none] (L8_8).1 E m)) k E Q := w_plain (by kernel_rfl) (L8_8).2
noncomputable def L8_9 : {l : List Oper // (opsOf r8_9).map strip = l} := by refine ⟨?l, ?h⟩; case h => simp only [r8_9, c8, bodyOf, Try.f8, Code.sub, opsOf, List.map_cons, List.map_nil, strip]; rfl
theorem w8_9 : W Try.prog TT S 78 [102, 102, 118, 131, 155, 166, 218, 231] r8_9 k E m Q ↔ Rg Try.prog TT S 78 [102, 102, 118, 131, 155, 166, 218, 231] [56, 57, 10] [] (lgo E [9] (lops Try.prog (callw Try.prog TT S) [(some 56), (some 57), (some 10)] (L8_9).1 E m)) k E Q := w_plain (by kernel_rfl) (L8_9).2
noncomputable def L8_10 : {l : List Oper // (opsOf r8_10).map strip = l} := by refine ⟨?l, ?h⟩; case h => simp only [r8_10, c8, bodyOf, Try.f8, Code.sub, opsOf, List.map_cons, List.map_nil, strip]; rfl
theorem w8_10 : W Try.prog TT S 78 [102, 102, 118, 131, 155, 166, 218, 231] r8_10 k E m Q ↔ Rg Try.prog TT S 78 [102, 102, 118, 131, 155, 166, 218, 231] [58, 59, 11] [] (lgo E [9] (lops Try.prog (callw Try.prog TT S) [(some 58), (some 59), (some 11)] (L8_10).1 E m)) k E Q := w_plain (by kernel_rfl) (L8_10).2
noncomputable def L8_11 : {l : List Oper // (opsOf r8_11).map strip = l} := by refine ⟨?l, ?h⟩; case h => simp only [r8_11, c8, bodyOf, Try.f8, Code.sub, opsOf, List.map_cons, List.map_nil, strip]; rfl
theorem w8_11 : W Try.prog TT S 78 [102, 102, 118, 131, 155, 166, 218, 231] r8_11 k E m Q ↔ Rg Try.prog TT S 78 [102, 102, 118, 131, 155, 166, 218, 231] [60, 61, 62] [] (lgo E [9] (lops Try.prog (callw Try.prog TT S) [(some 60), (some 61), (some 62)] (L8_11).1 E m)) k E Q := w_plain (by kernel_rfl) (L8_11).2
noncomputable def L8_12 : {l : List Oper // (opsOf r8_12).map strip = l} := by refine ⟨?l, ?h⟩; case h => simp only [r8_12, c8, bodyOf, Try.f8, Code.sub, opsOf, List.map_cons, List.map_nil, strip]; rfl
theorem w8_12 : W Try.prog TT S 78 [102, 102, 118, 131, 155, 166, 218, 231] r8_12 k E m Q ↔ Rg Try.prog TT S 78 [102, 102, 118, 131, 155, 166, 218, 231] [63, 64, 65, 66, 67, 68, 69, 70, 10] [] (lgo E [9, 0] (lops Try.prog (callw Try.prog TT S) [(some 63), (some 64), (some 65), (some 66), (some 67), (some 68), (some 69), (some 70), (some 10)] (L8_12).1 E m)) k E Q := w_plain (by kernel_rfl) (L8_12).2
noncomputable def L8_13 : {l : List Oper // (opsOf r8_13).map strip = l} := by refine ⟨?l, ?h⟩; case h => simp only [r8_13, c8, bodyOf, Try.f8, Code.sub, opsOf, List.map_cons, List.map_nil, strip]; rfl
theorem w8_13 : W Try.prog TT S 78 [102, 102, 118, 131, 155, 166, 218, 231] r8_13 k E m Q ↔ Rg Try.prog TT S 78 [102, 102, 118, 131, 155, 166, 218, 231] [71, 72, 73, 74, 11] [] (lgo E [9] (lops Try.prog (callw Try.prog TT S) [(some 71), (some 72), (some 73), (some 74), (some 11)] (L8_13).1 E m)) k E Q := w_plain (by kernel_rfl) (L8_13).2
noncomputable def L8_14 : {l : List Oper // (opsOf r8_14).map strip = l} := by refine ⟨?l, ?h⟩; case h => simp only [r8_14, c8, bodyOf, Try.f8, Code.sub, opsOf, List.map_cons, List.map_nil, strip]; rfl
theorem w8_14 : W Try.prog TT S 78 [102, 102, 118, 131, 155, 166, 218, 231] r8_14 k E m Q ↔ Rg Try.prog TT S 78 [102, 102, 118, 131, 155, 166, 218, 231] [12] [] (lgo E [] (lops Try.prog (callw Try.prog TT S) [(some 12)] (L8_14).1 E m)) k E Q := w_plain (by kernel_rfl) (L8_14).2
noncomputable def L8_15 : {l : List Oper // (opsOf r8_15).map strip = l} := by refine ⟨?l, ?h⟩; case h => simp only [r8_15, c8, bodyOf, Try.f8, Code.sub, opsOf, List.map_cons, List.map_nil, strip]; rfl
theorem w8_15 : W Try.prog TT S 78 [102, 102, 118, 131, 155, 166, 218, 231] r8_15 k E m Q ↔ Rg Try.prog TT S 78 [102, 102, 118, 131, 155, 166, 218, 231] [75, 76, 77] [] (lgo E [9] (lops Try.prog (callw Try.prog TT S) [(some 75), (some 76), (some 77)] (L8_15).1 E m)) k E Q := w_plain (by kernel_rfl) (L8_15).2
noncomputable def L8_16 : {l : List Oper // (opsOf r8_16).map strip = l} := by refine ⟨?l, ?h⟩; case h => simp only [r8_16, c8, bodyOf, Try.f8, Code.sub, opsOf, List.map_cons, List.map_nil, strip]; rfl
theorem w8_16 : W Try.prog TT S 78 [102, 102, 118, 131, 155, 166, 218, 231] r8_16 k E m Q ↔ Rg Try.prog TT S 78 [102, 102, 118, 131, 155, 166, 218, 231] [] [102] (lgo E [77] (lops Try.prog (callw Try.prog TT S) [(some 103), (some 102)] (L8_16).1 E m)) k E Q := w_plain (by kernel_rfl) (L8_16).2
noncomputable def L8_17 : {l : List Oper // (opsOf r8_17).map strip = l} := by refine ⟨?l, ?h⟩; case h => simp only [r8_17, c8, bodyOf, Try.f8, Code.sub, opsOf, List.map_cons, List.map_nil, strip]; rfl
theorem w8_17 : W Try.prog TT S 78 [102, 102, 118, 131, 155, 166, 218, 231] r8_17 k E m Q ↔ Rg Try.prog TT S 78 [102, 102, 118, 131, 155, 166, 218, 231] [] [102] (lgo E [77] (lops Try.prog (callw Try.prog TT S) [(some 104), (some 102)] (L8_17).1 E m)) k E Q := w_plain (by kernel_rfl) (L8_17).2
theorem can8_18 : canonOps (opsOf r8_18) = opsOf r8_18 := by kernel_rfl
noncomputable def L8_18 : {l : List Oper // (canonOps (opsOf r8_18)).map strip = l} := by refine ⟨?l, (congrArg (List.map strip) can8_18).trans ?h⟩; case h => simp only [r8_18, c8, bodyOf, Try.f8, Code.sub, opsOf, List.map_cons, List.map_nil, strip]; rfl
theorem w8_18 : W Try.prog TT S 78 [102, 102, 118, 131, 155, 166, 218, 231] r8_18 k E m Q ↔ Rg Try.prog TT S 78 [102, 102, 118, 131, 155, 166, 218, 231] [12] [] (lgo E [5, 7, 10, 11, 9] (lloud Try.prog (callw Try.prog TT S) [(some 105), (some 106), (some 107), (some 108), (some 109), (some 110), (some 111), (some 112), (some 113), (some 114), (some 115), (some 116), (some 117), (some 12)] (L8_18).1 [(4, [5]), (10, [5, 11])] (lstates Try.prog (callw Try.prog TT S) [(some 105), (some 106), (some 107), (some 108), (some 109), (some 110), (some 111), (some 112), (some 113), (some 114), (some 115), (some 116), (some 117), (some 12)] (L8_18).1 E m))) k E Q := w_loud (by kernel_rfl) (L8_18).2
noncomputable def L8_19 : {l : List Oper // (opsOf r8_19).map strip = l} := by refine ⟨?l, ?h⟩; case h => simp only [r8_19, c8, bodyOf, Try.f8, Code.sub, opsOf, List.map_cons, List.map_nil, strip]; rfl
theorem w8_19 : W Try.prog TT S 78 [102, 102, 118, 131, 155, 166, 218, 231] r8_19 k E m Q ↔ Rg Try.prog TT S 78 [102, 102, 118, 131, 155, 166, 218, 231] [] [118] (lgo E [77] (lops Try.prog (callw Try.prog TT S) [(some 119), (some 118)] (L8_19).1 E m)) k E Q := w_plain (by kernel_rfl) (L8_19).2
theorem can8_20 : canonOps (opsOf r8_20) = opsOf r8_20 := by kernel_rfl
noncomputable def L8_20 : {l : List Oper // (canonOps (opsOf r8_20)).map strip = l} := by refine ⟨?l, (congrArg (List.map strip) can8_20).trans ?h⟩; case h => simp only [r8_20, c8, bodyOf, Try.f8, Code.sub, opsOf, List.map_cons, List.map_nil, strip]; rfl
theorem w8_20 : W Try.prog TT S 78 [102, 102, 118, 131, 155, 166, 218, 231] r8_20 k E m Q ↔ Rg Try.prog TT S 78 [102, 102, 118, 131, 155, 166, 218, 231] [12] [] (lgo E [5, 7, 10, 9] (lloud Try.prog (callw Try.prog TT S) [(some 120), (some 121), (some 122), (some 123), (some 124), (some 125), (some 126), (some 127), (some 128), (some 129), (some 130), (some 12)] (L8_20).1 [(3, [4]), (8, [4, 9])] (lstates Try.prog (callw Try.prog TT S) [(some 120), (some 121), (some 122), (some 123), (some 124), (some 125), (some 126), (some 127), (some 128), (some 129), (some 130), (some 12)] (L8_20).1 E m))) k E Q := w_loud (by kernel_rfl) (L8_20).2
noncomputable def L8_21 : {l : List Oper // (opsOf r8_21).map strip = l} := by refine ⟨?l, ?h⟩; case h => simp only [r8_21, c8, bodyOf, Try.f8, Code.sub, opsOf, List.map_cons, List.map_nil, strip]; rfl
theorem w8_21 : W Try.prog TT S 78 [102, 102, 118, 131, 155, 166, 218, 231] r8_21 k E m Q ↔ Rg Try.prog TT S 78 [102, 102, 118, 131, 155, 166, 218, 231] [] [131] (lgo E [77] (lops Try.prog (callw Try.prog TT S) [(some 132), (some 131)] (L8_21).1 E m)) k E Q := w_plain (by kernel_rfl) (L8_21).2
noncomputable def L8_22 : {l : List Oper // (opsOf r8_22).map strip = l} := by refine ⟨?l, ?h⟩; case h => simp only [r8_22, c8, bodyOf, Try.f8, Code.sub, opsOf, List.map_cons, List.map_nil, strip]; rfl
theorem w8_22 : W Try.prog TT S 78 [102, 102, 118, 131, 155, 166, 218, 231] r8_22 k E m Q ↔ Rg Try.prog TT S 78 [102, 102, 118, 131, 155, 166, 218, 231] [13, 14] [] (lgo E [5, 9] (lops Try.prog (callw Try.prog TT S) [(some 134), (some 135), (some 136), (some 137), (some 133), (some 138), (some 139), (some 13), (some 14)] (L8_22).1 E m)) k E Q := w_plain (by kernel_rfl) (L8_22).2
noncomputable def L8_23 : {l : List Oper // (opsOf r8_23).map strip = l} := by refine ⟨?l, ?h⟩; case h => simp only [r8_23, c8, bodyOf, Try.f8, Code.sub, opsOf, List.map_cons, List.map_nil, strip]; rfl
theorem w8_23 : W Try.prog TT S 78 [102, 102, 118, 131, 155, 166, 218, 231] r8_23 k E m Q ↔ Rg Try.prog TT S 78 [102, 102, 118, 131, 155, 166, 218, 231] [15, 16] [] (lgo E [7, 9] (lops Try.prog (callw Try.prog TT S) [(some 141), (some 142), (some 143), (some 144), (some 140), (some 145), (some 146), (some 15), (some 16)] (L8_23).1 E m)) k E Q := w_plain (by kernel_rfl) (L8_23).2
noncomputable def L8_24 : {l : List Oper // (opsOf r8_24).map strip = l} := by refine ⟨?l, ?h⟩; case h => simp only [r8_24, c8, bodyOf, Try.f8, Code.sub, opsOf, List.map_cons, List.map_nil, strip]; rfl
theorem w8_24 : W Try.prog TT S 78 [102, 102, 118, 131, 155, 166, 218, 231] r8_24 k E m Q ↔ Rg Try.prog TT S 78 [102, 102, 118, 131, 155, 166, 218, 231] [12] [] (lgo E [13, 15, 14, 16] (lops Try.prog (callw Try.prog TT S) [(some 147), (some 148), (some 149), (some 150), (some 151), (some 152), (some 153), (some 154), (some 12)] (L8_24).1 E m)) k E Q := w_plain (by kernel_rfl) (L8_24).2
noncomputable def L8_25 : {l : List Oper // (opsOf r8_25).map strip = l} := by refine ⟨?l, ?h⟩; case h => simp only [r8_25, c8, bodyOf, Try.f8, Code.sub, opsOf, List.map_cons, List.map_nil, strip]; rfl
theorem w8_25 : W Try.prog TT S 78 [102, 102, 118, 131, 155, 166, 218, 231] r8_25 k E m Q ↔ Rg Try.prog TT S 78 [102, 102, 118, 131, 155, 166, 218, 231] [] [155] (lgo E [77] (lops Try.prog (callw Try.prog TT S) [(some 156), (some 155)] (L8_25).1 E m)) k E Q := w_plain (by kernel_rfl) (L8_25).2
noncomputable def L8_26 : {l : List Oper // (opsOf r8_26).map strip = l} := by refine ⟨?l, ?h⟩; case h => simp only [r8_26, c8, bodyOf, Try.f8, Code.sub, opsOf, List.map_cons, List.map_nil, strip]; rfl
theorem w8_26 : W Try.prog TT S 78 [102, 102, 118, 131, 155, 166, 218, 231] r8_26 k E m Q ↔ Rg Try.prog TT S 78 [102, 102, 118, 131, 155, 166, 218, 231] [17] [] (lgo E [5] (lops Try.prog (callw Try.prog TT S) [(some 157), (some 158), (some 17)] (L8_26).1 E m)) k E Q := w_plain (by kernel_rfl) (L8_26).2
noncomputable def L8_27 : {l : List Oper // (opsOf r8_27).map strip = l} := by refine ⟨?l, ?h⟩; case h => simp only [r8_27, c8, bodyOf, Try.f8, Code.sub, opsOf, List.map_cons, List.map_nil, strip]; rfl
theorem w8_27 : W Try.prog TT S 78 [102, 102, 118, 131, 155, 166, 218, 231] r8_27 k E m Q ↔ Rg Try.prog TT S 78 [102, 102, 118, 131, 155, 166, 218, 231] [12] [] (lgo E [17, 7] (lops Try.prog (callw Try.prog TT S) [(some 159), (some 160), (some 161), (some 162), (some 163), (some 164), (some 165), (some 12)] (L8_27).1 E m)) k E Q := w_plain (by kernel_rfl) (L8_27).2
noncomputable def L8_28 : {l : List Oper // (opsOf r8_28).map strip = l} := by refine ⟨?l, ?h⟩; case h => simp only [r8_28, c8, bodyOf, Try.f8, Code.sub, opsOf, List.map_cons, List.map_nil, strip]; rfl
theorem w8_28 : W Try.prog TT S 78 [102, 102, 118, 131, 155, 166, 218, 231] r8_28 k E m Q ↔ Rg Try.prog TT S 78 [102, 102, 118, 131, 155, 166, 218, 231] [] [166] (lgo E [12] (lops Try.prog (callw Try.prog TT S) [(some 166)] (L8_28).1 E m)) k E Q := w_plain (by kernel_rfl) (L8_28).2
noncomputable def L8_29 : {l : List Oper // (opsOf r8_29).map strip = l} := by refine ⟨?l, ?h⟩; case h => simp only [r8_29, c8, bodyOf, Try.f8, Code.sub, opsOf, List.map_cons, List.map_nil, strip]; rfl
theorem w8_29 : W Try.prog TT S 78 [102, 102, 118, 131, 155, 166, 218, 231] r8_29 k E m Q ↔ Rg Try.prog TT S 78 [102, 102, 118, 131, 155, 166, 218, 231] [] [] (lgo E [17, 9] (lops Try.prog (callw Try.prog TT S) [(some 167), (some 168), (some 169), (some 170)] (L8_29).1 E m)) k E Q := w_plain (by kernel_rfl) (L8_29).2
noncomputable def L8_30 : {l : List Oper // (opsOf r8_30).map strip = l} := by refine ⟨?l, ?h⟩; case h => simp only [r8_30, c8, bodyOf, Try.f8, Code.sub, opsOf, List.map_cons, List.map_nil, strip]; rfl
theorem w8_30 : W Try.prog TT S 78 [102, 102, 118, 131, 155, 166, 218, 231] r8_30 k E m Q ↔ Rg Try.prog TT S 78 [102, 102, 118, 131, 155, 166, 218, 231] [] [] (lgo E [17] (lops Try.prog (callw Try.prog TT S) [(some 171), (some 172)] (L8_30).1 E m)) k E Q := w_plain (by kernel_rfl) (L8_30).2
noncomputable def L8_31 : {l : List Oper // (opsOf r8_31).map strip = l} := by refine ⟨?l, ?h⟩; case h => simp only [r8_31, c8, bodyOf, Try.f8, Code.sub, opsOf, List.map_cons, List.map_nil, strip]; rfl
theorem w8_31 : W Try.prog TT S 78 [102, 102, 118, 131, 155, 166, 218, 231] r8_31 k E m Q ↔ Rg Try.prog TT S 78 [102, 102, 118, 131, 155, 166, 218, 231] [18, 19] [] (lgo E [5, 9, 11] (lops Try.prog (callw Try.prog TT S) [(some 79), (some 80), (some 81), (some 82), (some 83), (some 78), (some 84), (some 85), (some 18), (some 19)] (L8_31).1 E m)) k E Q := w_plain (by kernel_rfl) (L8_31).2
noncomputable def L8_32 : {l : List Oper // (opsOf r8_32).map strip = l} := by refine ⟨?l, ?h⟩; case h => simp only [r8_32, c8, bodyOf, Try.f8, Code.sub, opsOf, List.map_cons, List.map_nil, strip]; rfl
theorem w8_32 : W Try.prog TT S 78 [102, 102, 118, 131, 155, 166, 218, 231] r8_32 k E m Q ↔ Rg Try.prog TT S 78 [102, 102, 118, 131, 155, 166, 218, 231] [20, 21] [] (lgo E [7, 9, 11] (lops Try.prog (callw Try.prog TT S) [(some 87), (some 88), (some 89), (some 90), (some 91), (some 86), (some 92), (some 93), (some 20), (some 21)] (L8_32).1 E m)) k E Q := w_plain (by kernel_rfl) (L8_32).2
noncomputable def L8_33 : {l : List Oper // (opsOf r8_33).map strip = l} := by refine ⟨?l, ?h⟩; case h => simp only [r8_33, c8, bodyOf, Try.f8, Code.sub, opsOf, List.map_cons, List.map_nil, strip]; rfl
theorem w8_33 : W Try.prog TT S 78 [102, 102, 118, 131, 155, 166, 218, 231] r8_33 k E m Q ↔ Rg Try.prog TT S 78 [102, 102, 118, 131, 155, 166, 218, 231] [12] [] (lgo E [18, 20, 19, 21] (lops Try.prog (callw Try.prog TT S) [(some 94), (some 95), (some 96), (some 97), (some 98), (some 99), (some 100), (some 101), (some 12)] (L8_33).1 E m)) k E Q := w_plain (by kernel_rfl) (L8_33).2
noncomputable def L8_34 : {l : List Oper // (opsOf r8_34).map strip = l} := by refine ⟨?l, ?h⟩; case h => simp only [r8_34, c8, bodyOf, Try.f8, Code.sub, opsOf, List.map_cons, List.map_nil, strip]; rfl
theorem w8_34 : W Try.prog TT S 78 [102, 102, 118, 131, 155, 166, 218, 231] r8_34 k E m Q ↔ Rg Try.prog TT S 78 [102, 102, 118, 131, 155, 166, 218, 231] [] [218] (lgo E [12, 11, 5, 7, 10] (lops Try.prog (callw Try.prog TT S) [(some 173), (some 174), (some 175), (some 176), (some 177), (some 178), (some 179), (some 180), (some 181), (some 182), (some 183), (some 184), (some 185), (some 186), (some 187), (some 188), (some 189), (some 190), (some 191), (some 192), (some 193), (some 194), (some 195), (some 196), (some 197), (some 198), (some 199), (some 200), (some 201), (some 202), (some 203), (some 204), (some 205), (some 206), (some 207), (some 208), (some 209), (some 210), (some 211), (some 212), (some 213), (some 214), (some 215), (some 216), (some 217), (some 218)] (L8_34).1 E m)) k E Q := w_plain (by kernel_rfl) (L8_34).2
noncomputable def L8_35 : {l : List Oper // (opsOf r8_35).map strip = l} := by refine ⟨?l, ?h⟩; case h => simp only [r8_35, c8, bodyOf, Try.f8, Code.sub, opsOf, List.map_cons, List.map_nil, strip]; rfl
theorem w8_35 : W Try.prog TT S 78 [102, 102, 118, 131, 155, 166, 218, 231] r8_35 k E m Q ↔ Rg Try.prog TT S 78 [102, 102, 118, 131, 155, 166, 218, 231] [4] [] (lgo E [] (lops Try.prog (callw Try.prog TT S) [(some 4)] (L8_35).1 E m)) k E Q := w_plain (by kernel_rfl) (L8_35).2
noncomputable def L8_36 : {l : List Oper // (opsOf r8_36).map strip = l} := by refine ⟨?l, ?h⟩; case h => simp only [r8_36, c8, bodyOf, Try.f8, Code.sub, opsOf, List.map_cons, List.map_nil, strip]; rfl
theorem w8_36 : W Try.prog TT S 78 [102, 102, 118, 131, 155, 166, 218, 231] r8_36 k E m Q ↔ Rg Try.prog TT S 78 [102, 102, 118, 131, 155, 166, 218, 231] [] [231] (lgo E [5, 7, 10] (lops Try.prog (callw Try.prog TT S) [(some 219), (some 220), (some 221), (some 222), (some 223), (some 224), (some 225), (some 226), (some 227), (some 228), (some 229), (some 230), (some 231)] (L8_36).1 E m)) k E Q := w_plain (by kernel_rfl) (L8_36).2
noncomputable def L8_37 : {l : List Oper // (opsOf r8_37).map strip = l} := by refine ⟨?l, ?h⟩; case h => simp only [r8_37, c8, bodyOf, Try.f8, Code.sub, opsOf, List.map_cons, List.map_nil, strip]; rfl
theorem w8_37 : W Try.prog TT S 78 [102, 102, 118, 131, 155, 166, 218, 231] r8_37 k E m Q ↔ Rg Try.prog TT S 78 [102, 102, 118, 131, 155, 166, 218, 231] [4] [] (lgo E [] (lops Try.prog (callw Try.prog TT S) [(some 4)] (L8_37).1 E m)) k E Q := w_plain (by kernel_rfl) (L8_37).2
noncomputable def L8_38 : {l : List Oper // (opsOf r8_38).map strip = l} := by refine ⟨?l, ?h⟩; case h => simp only [r8_38, c8, bodyOf, Try.f8, Code.sub, opsOf, List.map_cons, List.map_nil, strip]; rfl
theorem w8_38 : W Try.prog TT S 78 [102, 102, 118, 131, 155, 166, 218, 231] r8_38 k E m Q ↔ Rg Try.prog TT S 78 [102, 102, 118, 131, 155, 166, 218, 231] [50, 51, 8] [] (lgo E [8] (lops Try.prog (callw Try.prog TT S) [(some 50), (some 51), (some 8)] (L8_38).1 E m)) k E Q := w_plain (by kernel_rfl) (L8_38).2
noncomputable def L8_39 : {l : List Oper // (opsOf r8_39).map strip = l} := by refine ⟨?l, ?h⟩; case h => simp only [r8_39, c8, bodyOf, Try.f8, Code.sub, opsOf, List.map_cons, List.map_nil, strip]; rfl
theorem w8_39 : W Try.prog TT S 78 [102, 102, 118, 131, 155, 166, 218, 231] r8_39 k E m Q ↔ Rg Try.prog TT S 78 [102, 102, 118, 131, 155, 166, 218, 231] [4] [] (lgo E [] (lops Try.prog (callw Try.prog TT S) [(some 4)] (L8_39).1 E m)) k E Q := w_plain (by kernel_rfl) (L8_39).2
theorem k8 : FnIs TT 8 c8 [.tmp 4] 2 := ⟨Try.f8, by kernel_rfl, by simp only [Try.f8, c8, bodyOf], by kernel_rfl, of_decide_eq_true (by kernel_rfl)⟩

/- turnstonehand.Pick -/
noncomputable def c9 : Code := bodyOf Try.f9
noncomputable def r9_0 : Code := Code.sub [0] c9
noncomputable def r9_1 : Code := Code.sub [1, 0] c9
noncomputable def r9_2 : Code := Code.sub [1, 1, 0, 0] c9
noncomputable def r9_3 : Code := Code.sub [1, 1, 0, 1, 0] c9
noncomputable def r9_4 : Code := Code.sub [1, 1, 1, 0] c9
theorem body9 : c9 = (.seq r9_0 (.seq r9_1 (.seq (.seq r9_2 (.cond (.tmp 9) r9_3 .skip)) (.seq r9_4 .ret)))) := by kernel_rfl
noncomputable def L9_0 : {l : List Oper // (opsOf r9_0).map strip = l} := by refine ⟨?l, ?h⟩; case h => simp only [r9_0, c9, bodyOf, Try.f9, Code.sub, opsOf, List.map_cons, List.map_nil, strip]; rfl
theorem w9_0 : W Try.prog TT S 5 [9] r9_0 k E m Q ↔ Rg Try.prog TT S 5 [9] [4] [] (lgo E [] (lops Try.prog (callw Try.prog TT S) [(some 4)] (L9_0).1 E m)) k E Q := w_plain (by kernel_rfl) (L9_0).2
noncomputable def L9_1 : {l : List Oper // (opsOf r9_1).map strip = l} := by refine ⟨?l, ?h⟩; case h => simp only [r9_1, c9, bodyOf, Try.f9, Code.sub, opsOf, List.map_cons, List.map_nil, strip]; rfl
theorem w9_1 : W Try.prog TT S 5 [9] r9_1 k E m Q ↔ Rg Try.prog TT S 5 [9] [0] [] (lgo E [0, 1] (lops Try.prog (callw Try.prog TT S) [(some 5), (some 6), (some 7), (some 0)] (L9_1).1 E m)) k E Q := w_plain (by kernel_rfl) (L9_1).2
noncomputable def L9_2 : {l : List Oper // (opsOf r9_2).map strip = l} := by refine ⟨?l, ?h⟩; case h => simp only [r9_2, c9, bodyOf, Try.f9, Code.sub, opsOf, List.map_cons, List.map_nil, strip]; rfl
theorem w9_2 : W Try.prog TT S 5 [9] r9_2 k E m Q ↔ Rg Try.prog TT S 5 [9] [] [9] (lgo E [0] (lops Try.prog (callw Try.prog TT S) [(some 8), (some 9)] (L9_2).1 E m)) k E Q := w_plain (by kernel_rfl) (L9_2).2
noncomputable def L9_3 : {l : List Oper // (opsOf r9_3).map strip = l} := by refine ⟨?l, ?h⟩; case h => simp only [r9_3, c9, bodyOf, Try.f9, Code.sub, opsOf, List.map_cons, List.map_nil, strip]; rfl
theorem w9_3 : W Try.prog TT S 5 [9] r9_3 k E m Q ↔ Rg Try.prog TT S 5 [9] [0] [] (lgo E [0, 1] (lops Try.prog (callw Try.prog TT S) [(some 10), (some 11), (some 12), (some 0)] (L9_3).1 E m)) k E Q := w_plain (by kernel_rfl) (L9_3).2
noncomputable def L9_4 : {l : List Oper // (opsOf r9_4).map strip = l} := by refine ⟨?l, ?h⟩; case h => simp only [r9_4, c9, bodyOf, Try.f9, Code.sub, opsOf, List.map_cons, List.map_nil, strip]; rfl
theorem w9_4 : W Try.prog TT S 5 [9] r9_4 k E m Q ↔ Rg Try.prog TT S 5 [9] [4] [] (lgo E [0] (lops Try.prog (callw Try.prog TT S) [(some 13), (some 4)] (L9_4).1 E m)) k E Q := w_plain (by kernel_rfl) (L9_4).2
theorem k9 : FnIs TT 9 c9 [.tmp 4] 2 := ⟨Try.f9, by kernel_rfl, by simp only [Try.f9, c9, bodyOf], by kernel_rfl, of_decide_eq_true (by kernel_rfl)⟩

/- heap.New -/
noncomputable def c10 : Code := bodyOf Try.f10
noncomputable def r10_0 : Code := Code.sub [0] c10
noncomputable def r10_1 : Code := Code.sub [1, 0, 0] c10
noncomputable def r10_2 : Code := Code.sub [1, 0, 1, 0, 0] c10
noncomputable def r10_3 : Code := Code.sub [1, 1, 0] c10
theorem body10 : c10 = (.seq r10_0 (.seq (.seq r10_1 (.cond (.tmp 9) (.seq r10_2 .ret) .skip)) (.seq r10_3 .ret))) := by kernel_rfl
noncomputable def L10_0 : {l : List Oper // (opsOf r10_0).map strip = l} := by refine ⟨?l, ?h⟩; case h => simp only [r10_0, c10, bodyOf, Try.f10, Code.sub, opsOf, List.map_cons, List.map_nil, strip]; rfl
theorem w10_0 : W Try.prog TT S 4 [9] r10_0 k E m Q ↔ Rg Try.prog TT S 4 [9] [2, 3] [] (lgo E [] (lops Try.prog (callw Try.prog TT S) [(some 2), (some 3)] (L10_0).1 E m)) k E Q := w_plain (by kernel_rfl) (L10_0).2
noncomputable def L10_1 : {l : List Oper // (opsOf r10_1).map strip = l} := by refine ⟨?l, ?h⟩; case h => simp only [r10_1, c10, bodyOf, Try.f10, Code.sub, opsOf, List.map_cons, List.map_nil, strip]; rfl
theorem w10_1 : W Try.prog TT S 4 [9] r10_1 k E m Q ↔ Rg Try.prog TT S 4 [9] [] [9] (lgo E [0] (lops Try.prog (callw Try.prog TT S) [(some 4), (some 5), (some 6), (some 7), (some 8), (some 9)] (L10_1).1 E m)) k E Q := w_plain (by kernel_rfl) (L10_1).2
noncomputable def L10_2 : {l : List Oper // (opsOf r10_2).map strip = l} := by refine ⟨?l, ?h⟩; case h => simp only [r10_2, c10, bodyOf, Try.f10, Code.sub, opsOf, List.map_cons, List.map_nil, strip]; rfl
theorem w10_2 : W Try.prog TT S 4 [9] r10_2 k E m Q ↔ Rg Try.prog TT S 4 [9] [2, 3] [] (lgo E [] (lops Try.prog (callw Try.prog TT S) [(some 2), (some 3)] (L10_2).1 E m)) k E Q := w_plain (by kernel_rfl) (L10_2).2
noncomputable def L10_3 : {l : List Oper // (opsOf r10_3).map strip = l} := by refine ⟨?l, ?h⟩; case h => simp only [r10_3, c10, bodyOf, Try.f10, Code.sub, opsOf, List.map_cons, List.map_nil, strip]; rfl
theorem w10_3 : W Try.prog TT S 4 [9] r10_3 k E m Q ↔ Rg Try.prog TT S 4 [9] [2, 3] [] (lgo E [0] (lops Try.prog (callw Try.prog TT S) [(some 10), (some 11), (some 12), (some 13), (some 2), (some 3)] (L10_3).1 E m)) k E Q := w_plain (by kernel_rfl) (L10_3).2
theorem k10 : FnIs TT 10 c10 [.tmp 2, .tmp 3] 1 := ⟨Try.f10, by kernel_rfl, by simp only [Try.f10, c10, bodyOf], by kernel_rfl, of_decide_eq_true (by kernel_rfl)⟩

/- (*heap.Heap).Alloc -/
noncomputable def c12 : Code := bodyOf Try.f12
noncomputable def r12_0 : Code := Code.sub [0] c12
noncomputable def r12_1 : Code := Code.sub [1, 0, 0] c12
noncomputable def r12_2 : Code := Code.sub [1, 0, 1, 0, 0] c12
noncomputable def r12_3 : Code := Code.sub [1, 1, 0] c12
noncomputable def r12_4 : Code := Code.sub [1, 1, 1, 0] c12
noncomputable def r12_5 : Code := Code.sub [1, 1, 1, 1, 0] c12
noncomputable def r12_6 : Code := Code.sub [1, 1, 1, 1, 1, 0] c12
theorem body12 : c12 = (.seq r12_0 (.seq (.seq r12_1 (.cond (.tmp 36) (.seq r12_2 .ret) .skip)) (.seq r12_3 (.seq r12_4 (.seq r12_5 (.seq r12_6 .ret)))))) := by kernel_rfl
noncomputable def L12_0 : {l : List Oper // (opsOf r12_0).map strip = l} := by refine ⟨?l, ?h⟩; case h => simp only [r12_0, c12, bodyOf, Try.f12, Code.sub, opsOf, List.map_cons, List.map_nil, strip]; rfl
theorem w12_0 : W Try.prog TT S 9 [36] r12_0 k E m Q ↔ Rg Try.prog TT S 9 [36] [6, 7] [] (lgo E [] (lops Try.prog (callw Try.prog TT S) [(some 6), (some 7)] (L12_0).1 E m)) k E Q := w_plain (by kernel_rfl) (L12_0).2
noncomputable def L12_1 : {l : List Oper // (opsOf r12_1).map strip = l} := by refine ⟨?l, ?h⟩; case h => simp only [r12_1, c12, bodyOf, Try.f12, Code.sub, opsOf, List.map_cons, List.map_nil, strip]; rfl
theorem w12_1 : W Try.prog TT S 9 [36] r12_1 k E m Q ↔ Rg Try.prog TT S 9 [36] [] [36] (lgo E [1, 2, 0] (lops Try.prog (callw Try.prog TT S) [(some 9), (some 10), (some 11), (some 12), (some 13), (some 14), (some 15), (some 16), (some 17), (some 18), (some 19), (some 20), (some 21), (some 22), (some 23), (some 24), (some 25), (some 26), (some 27), (some 28), (some 29), (some 30), (some 31), (some 32), (some 33), (some 34), (some 35), (some 36)] (L12_1).1 E m)) k E Q := w_plain (by kernel_rfl) (L12_1).2
noncomputable def L12_2 : {l : List Oper // (opsOf r12_2).map strip = l} := by refine ⟨?l, ?h⟩; case h => simp only [r12_2, c12, bodyOf, Try.f12, Code.sub, opsOf, List.map_cons, List.map_nil, strip]; rfl
theorem w12_2 : W Try.prog TT S 9 [36] r12_2 k E m Q ↔ Rg Try.prog TT S 9 [36] [6, 7] [] (lgo E [] (lops Try.prog (callw Try.prog TT S) [(some 6), (some 7)] (L12_2).1 E m)) k E Q := w_plain (by kernel_rfl) (L12_2).2
noncomputable def L12_3 : {l : List Oper // (opsOf r12_3).map strip = l} := by refine ⟨?l, ?h⟩; case h => simp only [r12_3, c12, bodyOf, Try.f12, Code.sub, opsOf, List.map_cons, List.map_nil, strip]; rfl
theorem w12_3 : W Try.prog TT S 9 [36] r12_3 k E m Q ↔ Rg Try.prog TT S 9 [36] [8] [] (lgo E [0] (lops Try.prog (callw Try.prog TT S) [(some 37), (some 38), (some 39), (some 40), (some 41), (some 42), (some 8)] (L12_3).1 E m)) k E Q := w_plain (by kernel_rfl) (L12_3).2
noncomputable def L12_4 : {l : List Oper // (opsOf r12_4).map strip = l} := by refine ⟨?l, ?h⟩; case h => simp only [r12_4, c12, bodyOf, Try.f12, Code.sub, opsOf, List.map_cons, List.map_nil, strip]; rfl
theorem w12_4 : W Try.prog TT S 9 [36] r12_4 k E m Q ↔ Rg Try.prog TT S 9 [36] [] [] (lgo E [0, 1, 2] (lops Try.prog (callw Try.prog TT S) [(some 43), (some 44), (some 45), (some 46), (some 47), (some 48), (some 49), (some 50), (some 51), (some 52), (some 53), (some 54), (some 55), (some 56), (some 57), none] (L12_4).1 E m)) k E Q := w_plain (by kernel_rfl) (L12_4).2
noncomputable def L12_5 : {l : List Oper // (opsOf r12_5).map strip = l} := by refine ⟨?l, ?h⟩; case h => simp only [r12_5, c12, bodyOf, Try.f12, Code.sub, opsOf, List.map_cons, List.map_nil, strip]; rfl
theorem w12_5 : W Try.prog TT S 9 [36] r12_5 k E m Q ↔ Rg Try.prog TT S 9 [36] [] [] (lgo E [0, 2] (lops Try.prog (callw Try.prog TT S) [(some 58), (some 59), (some 60), (some 61), (some 62), (some 63), (some 64), (some 65), (some 66), none] (L12_5).1 E m)) k E Q := w_plain (by kernel_rfl) (L12_5).2
noncomputable def L12_6 : {l : List Oper // (opsOf r12_6).map strip = l} := by refine ⟨?l, ?h⟩; case h => simp only [r12_6, c12, bodyOf, Try.f12, Code.sub, opsOf, List.map_cons, List.map_nil, strip]; rfl
theorem w12_6 : W Try.prog TT S 9 [36] r12_6 k E m Q ↔ Rg Try.prog TT S 9 [36] [6, 7] [] (lgo E [8] (lops Try.prog (callw Try.prog TT S) [(some 67), (some 6), (some 7)] (L12_6).1 E m)) k E Q := w_plain (by kernel_rfl) (L12_6).2
theorem k12 : FnIs TT 12 c12 [.tmp 6, .tmp 7] 3 := ⟨Try.f12, by kernel_rfl, by simp only [Try.f12, c12, bodyOf], by kernel_rfl, of_decide_eq_true (by kernel_rfl)⟩

/- (*heap.Heap).Used -/
noncomputable def c13 : Code := bodyOf Try.f13
noncomputable def r13_0 : Code := Code.sub [0] c13
noncomputable def r13_1 : Code := Code.sub [1, 0] c13
theorem body13 : c13 = (.seq r13_0 (.seq r13_1 .ret)) := by kernel_rfl
noncomputable def L13_0 : {l : List Oper // (opsOf r13_0).map strip = l} := by refine ⟨?l, ?h⟩; case h => simp only [r13_0, c13, bodyOf, Try.f13, Code.sub, opsOf, List.map_cons, List.map_nil, strip]; rfl
theorem w13_0 : W Try.prog TT S 3 [] r13_0 k E m Q ↔ Rg Try.prog TT S 3 [] [2] [] (lgo E [] (lops Try.prog (callw Try.prog TT S) [(some 2)] (L13_0).1 E m)) k E Q := w_plain (by kernel_rfl) (L13_0).2
noncomputable def L13_1 : {l : List Oper // (opsOf r13_1).map strip = l} := by refine ⟨?l, ?h⟩; case h => simp only [r13_1, c13, bodyOf, Try.f13, Code.sub, opsOf, List.map_cons, List.map_nil, strip]; rfl
theorem w13_1 : W Try.prog TT S 3 [] r13_1 k E m Q ↔ Rg Try.prog TT S 3 [] [2] [] (lgo E [0] (lops Try.prog (callw Try.prog TT S) [(some 3), (some 4), (some 5), (some 6), (some 7), (some 2)] (L13_1).1 E m)) k E Q := w_plain (by kernel_rfl) (L13_1).2
theorem k13 : FnIs TT 13 c13 [.tmp 2] 1 := ⟨Try.f13, by kernel_rfl, by simp only [Try.f13, c13, bodyOf], by kernel_rfl, of_decide_eq_true (by kernel_rfl)⟩

/- (*heap.Heap).Copy -/
noncomputable def c14 : Code := bodyOf Try.f14
noncomputable def r14_0 : Code := Code.sub [0] c14
noncomputable def r14_1 : Code := Code.sub [1, 0] c14
theorem body14 : c14 = (.seq r14_0 (.seq r14_1 .ret)) := by kernel_rfl
noncomputable def L14_0 : {l : List Oper // (opsOf r14_0).map strip = l} := by refine ⟨?l, ?h⟩; case h => simp only [r14_0, c14, bodyOf, Try.f14, Code.sub, opsOf, List.map_cons, List.map_nil, strip]; rfl
theorem w14_0 : W Try.prog TT S 3 [] r14_0 k E m Q ↔ Rg Try.prog TT S 3 [] [2] [] (lgo E [] (lops Try.prog (callw Try.prog TT S) [(some 2)] (L14_0).1 E m)) k E Q := w_plain (by kernel_rfl) (L14_0).2
theorem can14_1 : canonOps (opsOf r14_1) = List.filterMap (fun i => ((opsOf r14_1)[i]?).map (renum [0, 1, 2, 3, 4, 5, 6, 7, 8])) [0, 1, 2, 3, 4, 5, 6, 7, 8] := by kernel_rfl
noncomputable def L14_1 : {l : List Oper // (canonOps (opsOf r14_1)).map strip = l} := by refine ⟨?l, (congrArg (List.map strip) can14_1).trans ?h⟩; case h => simp only [r14_1, c14, bodyOf, Try.f14, Code.sub, opsOf, List.filterMap_cons, List.filterMap_nil, List.getElem?_cons_succ, List.getElem?_cons_zero, Option.map_some, renum, List.map_cons, List.map_nil, strip]; rfl
theorem w14_1 : W Try.prog TT S 3 [] r14_1 k E m Q ↔ Rg Try.prog TT S 3 [] [2] [] (lgo E [0] (lloud Try.prog (callw Try.prog TT S) [(some 3), (some 4), (some 5), (some 6), (some 7), (some 8), (some 9), (some 10), (some 2)] (L14_1).1 [(5, [1, 7])] (lstates Try.prog (callw Try.prog TT S) [(some 3), (some 4), (some 5), (some 6), (some 7), (some 8), (some 9), (some 10), (some 2)] (L14_1).1 E m))) k E Q := w_loud (by kernel_rfl) (L14_1).2
theorem k14 : FnIs TT 14 c14 [.tmp 2] 1 := ⟨Try.f14, by kernel_rfl, by simp only [Try.f14, c14, bodyOf], by kernel_rfl, of_decide_eq_true (by kernel_rfl)⟩

/- (*heap.Heap).Words -/
noncomputable def c15 : Code := bodyOf Try.f15
noncomputable def r15_0 : Code := Code.sub [0] c15
noncomputable def r15_1 : Code := Code.sub [1, 0] c15
theorem body15 : c15 = (.seq r15_0 (.seq r15_1 .ret)) := by kernel_rfl
noncomputable def L15_0 : {l : List Oper // (opsOf r15_0).map strip = l} := by refine ⟨?l, ?h⟩; case h => simp only [r15_0, c15, bodyOf, Try.f15, Code.sub, opsOf, List.map_cons, List.map_nil, strip]; rfl
theorem w15_0 : W Try.prog TT S 3 [] r15_0 k E m Q ↔ Rg Try.prog TT S 3 [] [2] [] (lgo E [] (lops Try.prog (callw Try.prog TT S) [(some 2)] (L15_0).1 E m)) k E Q := w_plain (by kernel_rfl) (L15_0).2
noncomputable def L15_1 : {l : List Oper // (opsOf r15_1).map strip = l} := by refine ⟨?l, ?h⟩; case h => simp only [r15_1, c15, bodyOf, Try.f15, Code.sub, opsOf, List.map_cons, List.map_nil, strip]; rfl
theorem w15_1 : W Try.prog TT S 3 [] r15_1 k E m Q ↔ Rg Try.prog TT S 3 [] [2] [] (lgo E [0] (lops Try.prog (callw Try.prog TT S) [(some 3), (some 4), (some 5), (some 6), (some 7), (some 8), (some 2)] (L15_1).1 E m)) k E Q := w_plain (by kernel_rfl) (L15_1).2
theorem k15 : FnIs TT 15 c15 [.tmp 2] 1 := ⟨Try.f15, by kernel_rfl, by simp only [Try.f15, c15, bodyOf], by kernel_rfl, of_decide_eq_true (by kernel_rfl)⟩

/- (*heap.Heap).Put -/
noncomputable def c17 : Code := bodyOf Try.f17
noncomputable def r17_0 : Code := Code.sub [0] c17
noncomputable def r17_1 : Code := Code.sub [1, 0, 0] c17
noncomputable def r17_2 : Code := Code.sub [1, 0, 1, 0, 0] c17
noncomputable def r17_3 : Code := Code.sub [1, 1, 0] c17
noncomputable def r17_4 : Code := Code.sub [1, 1, 1, 0] c17
theorem body17 : c17 = (.seq r17_0 (.seq (.seq r17_1 (.cond (.tmp 18) (.seq r17_2 .ret) .skip)) (.seq r17_3 (.seq r17_4 .ret)))) := by kernel_rfl
noncomputable def L17_0 : {l : List Oper // (opsOf r17_0).map strip = l} := by refine ⟨?l, ?h⟩; case h => simp only [r17_0, c17, bodyOf, Try.f17, Code.sub, opsOf, List.map_cons, List.map_nil, strip]; rfl
theorem w17_0 : W Try.prog TT S 7 [18] r17_0 k E m Q ↔ Rg Try.prog TT S 7 [18] [6] [] (lgo E [] (lops Try.prog (callw Try.prog TT S) [(some 6)] (L17_0).1 E m)) k E Q := w_plain (by kernel_rfl) (L17_0).2
noncomputable def L17_1 : {l : List Oper // (opsOf r17_1).map strip = l} := by refine ⟨?l, ?h⟩; case h => simp only [r17_1, c17, bodyOf, Try.f17, Code.sub, opsOf, List.map_cons, List.map_nil, strip]; rfl
theorem w17_1 : W Try.prog TT S 7 [18] r17_1 k E m Q ↔ Rg Try.prog TT S 7 [18] [] [18] (lgo E [1, 0] (lops Try.prog (callw Try.prog TT S) [(some 7), (some 8), (some 9), (some 10), (some 11), (some 12), (some 13), (some 14), (some 15), (some 16), (some 17), (some 18)] (L17_1).1 E m)) k E Q := w_plain (by kernel_rfl) (L17_1).2
noncomputable def L17_2 : {l : List Oper // (opsOf r17_2).map strip = l} := by refine ⟨?l, ?h⟩; case h => simp only [r17_2, c17, bodyOf, Try.f17, Code.sub, opsOf, List.map_cons, List.map_nil, strip]; rfl
theorem w17_2 : W Try.prog TT S 7 [18] r17_2 k E m Q ↔ Rg Try.prog TT S 7 [18] [6] [] (lgo E [] (lops Try.prog (callw Try.prog TT S) [(some 6)] (L17_2).1 E m)) k E Q := w_plain (by kernel_rfl) (L17_2).2
noncomputable def L17_3 : {l : List Oper // (opsOf r17_3).map strip = l} := by refine ⟨?l, ?h⟩; case h => simp only [r17_3, c17, bodyOf, Try.f17, Code.sub, opsOf, List.map_cons, List.map_nil, strip]; rfl
theorem w17_3 : W Try.prog TT S 7 [18] r17_3 k E m Q ↔ Rg Try.prog TT S 7 [18] [] [] (lgo E [0, 1, 2] (lops Try.prog (callw Try.prog TT S) [(some 19), (some 20), (some 21), (some 22), (some 23), (some 24), (some 25), none] (L17_3).1 E m)) k E Q := w_plain (by kernel_rfl) (L17_3).2
noncomputable def L17_4 : {l : List Oper // (opsOf r17_4).map strip = l} := by refine ⟨?l, ?h⟩; case h => simp only [r17_4, c17, bodyOf, Try.f17, Code.sub, opsOf, List.map_cons, List.map_nil, strip]; rfl
theorem w17_4 : W Try.prog TT S 7 [18] r17_4 k E m Q ↔ Rg Try.prog TT S 7 [18] [6] [] (lgo E [] (lops Try.prog (callw Try.prog TT S) [(some 6)] (L17_4).1 E m)) k E Q := w_plain (by kernel_rfl) (L17_4).2
theorem k17 : FnIs TT 17 c17 [.tmp 6] 3 := ⟨Try.f17, by kernel_rfl, by simp only [Try.f17, c17, bodyOf], by kernel_rfl, of_decide_eq_true (by kernel_rfl)⟩

/- (*heap.Heap).Set -/
noncomputable def c18 : Code := bodyOf Try.f18
noncomputable def r18_0 : Code := Code.sub [0] c18
noncomputable def r18_1 : Code := Code.sub [1, 0] c18
theorem body18 : c18 = (.seq r18_0 (.seq r18_1 .ret)) := by kernel_rfl
noncomputable def L18_0 : {l : List Oper // (opsOf r18_0).map strip = l} := by refine ⟨?l, ?h⟩; case h => simp only [r18_0, c18, bodyOf, Try.f18, Code.sub, opsOf, List.map_cons, List.map_nil, strip]; rfl
theorem w18_0 : W Try.prog TT S 9 [] r18_0 k E m Q ↔ Rg Try.prog TT S 9 [] [8] [] (lgo E [] (lops Try.prog (callw Try.prog TT S) [(some 8)] (L18_0).1 E m)) k E Q := w_plain (by kernel_rfl) (L18_0).2
noncomputable def L18_1 : {l : List Oper // (opsOf r18_1).map strip = l} := by refine ⟨?l, ?h⟩; case h => simp only [r18_1, c18, bodyOf, Try.f18, Code.sub, opsOf, List.map_cons, List.map_nil, strip]; rfl
theorem w18_1 : W Try.prog TT S 9 [] r18_1 k E m Q ↔ Rg Try.prog TT S 9 [] [8] [] (lgo E [0, 1, 2, 3] (lops Try.prog (callw Try.prog TT S) [(some 9), (some 10), (some 11), (some 12), (some 13), (some 14), (some 15), (some 8)] (L18_1).1 E m)) k E Q := w_plain (by kernel_rfl) (L18_1).2
theorem k18 : FnIs TT 18 c18 [.tmp 8] 4 := ⟨Try.f18, by kernel_rfl, by simp only [Try.f18, c18, bodyOf], by kernel_rfl, of_decide_eq_true (by kernel_rfl)⟩

/- (*heap.Heap).Type -/
noncomputable def c19 : Code := bodyOf Try.f19
noncomputable def r19_0 : Code := Code.sub [0] c19
noncomputable def r19_1 : Code := Code.sub [1, 0] c19
theorem body19 : c19 = (.seq r19_0 (.seq r19_1 .ret)) := by kernel_rfl
noncomputable def L19_0 : {l : List Oper // (opsOf r19_0).map strip = l} := by refine ⟨?l, ?h⟩; case h => simp only [r19_0, c19, bodyOf, Try.f19, Code.sub, opsOf, List.map_cons, List.map_nil, strip]; rfl
theorem w19_0 : W Try.prog TT S 5 [] r19_0 k E m Q ↔ Rg Try.prog TT S 5 [] [4] [] (lgo E [] (lops Try.prog (callw Try.prog TT S) [(some 4)] (L19_0).1 E m)) k E Q := w_plain (by kernel_rfl) (L19_0).2
noncomputable def L19_1 : {l : List Oper // (opsOf r19_1).map strip = l} := by refine ⟨?l, ?h⟩; case h => simp only [r19_1, c19, bodyOf, Try.f19, Code.sub, opsOf, List.map_cons, List.map_nil, strip]; rfl
theorem w19_1 : W Try.prog TT S 5 [] r19_1 k E m Q ↔ Rg Try.prog TT S 5 [] [4] [] (lgo E [0, 1] (lops Try.prog (callw Try.prog TT S) [(some 5), (some 6), (some 7), (some 8), (some 9), (some 4)] (L19_1).1 E m)) k E Q := w_plain (by kernel_rfl) (L19_1).2
theorem k19 : FnIs TT 19 c19 [.tmp 4] 2 := ⟨Try.f19, by kernel_rfl, by simp only [Try.f19, c19, bodyOf], by kernel_rfl, of_decide_eq_true (by kernel_rfl)⟩

/- (*heap.Heap).Len -/
noncomputable def c20 : Code := bodyOf Try.f20
noncomputable def r20_0 : Code := Code.sub [0] c20
noncomputable def r20_1 : Code := Code.sub [1, 0] c20
theorem body20 : c20 = (.seq r20_0 (.seq r20_1 .ret)) := by kernel_rfl
noncomputable def L20_0 : {l : List Oper // (opsOf r20_0).map strip = l} := by refine ⟨?l, ?h⟩; case h => simp only [r20_0, c20, bodyOf, Try.f20, Code.sub, opsOf, List.map_cons, List.map_nil, strip]; rfl
theorem w20_0 : W Try.prog TT S 5 [] r20_0 k E m Q ↔ Rg Try.prog TT S 5 [] [4] [] (lgo E [] (lops Try.prog (callw Try.prog TT S) [(some 4)] (L20_0).1 E m)) k E Q := w_plain (by kernel_rfl) (L20_0).2
noncomputable def L20_1 : {l : List Oper // (opsOf r20_1).map strip = l} := by refine ⟨?l, ?h⟩; case h => simp only [r20_1, c20, bodyOf, Try.f20, Code.sub, opsOf, List.map_cons, List.map_nil, strip]; rfl
theorem w20_1 : W Try.prog TT S 5 [] r20_1 k E m Q ↔ Rg Try.prog TT S 5 [] [4] [] (lgo E [0, 1] (lops Try.prog (callw Try.prog TT S) [(some 5), (some 6), (some 7), (some 8), (some 9), (some 4)] (L20_1).1 E m)) k E Q := w_plain (by kernel_rfl) (L20_1).2
theorem k20 : FnIs TT 20 c20 [.tmp 4] 2 := ⟨Try.f20, by kernel_rfl, by simp only [Try.f20, c20, bodyOf], by kernel_rfl, of_decide_eq_true (by kernel_rfl)⟩

/- (*heap.Heap).Get -/
noncomputable def c21 : Code := bodyOf Try.f21
noncomputable def r21_0 : Code := Code.sub [0] c21
noncomputable def r21_1 : Code := Code.sub [1, 0] c21
theorem body21 : c21 = (.seq r21_0 (.seq r21_1 .ret)) := by kernel_rfl
noncomputable def L21_0 : {l : List Oper // (opsOf r21_0).map strip = l} := by refine ⟨?l, ?h⟩; case h => simp only [r21_0, c21, bodyOf, Try.f21, Code.sub, opsOf, List.map_cons, List.map_nil, strip]; rfl
theorem w21_0 : W Try.prog TT S 7 [] r21_0 k E m Q ↔ Rg Try.prog TT S 7 [] [6] [] (lgo E [] (lops Try.prog (callw Try.prog TT S) [(some 6)] (L21_0).1 E m)) k E Q := w_plain (by kernel_rfl) (L21_0).2
noncomputable def L21_1 : {l : List Oper // (opsOf r21_1).map strip = l} := by refine ⟨?l, ?h⟩; case h => simp only [r21_1, c21, bodyOf, Try.f21, Code.sub, opsOf, List.map_cons, List.map_nil, strip]; rfl
theorem w21_1 : W Try.prog TT S 7 [] r21_1 k E m Q ↔ Rg Try.prog TT S 7 [] [6] [] (lgo E [0, 1, 2] (lops Try.prog (callw Try.prog TT S) [(some 7), (some 8), (some 9), (some 10), (some 11), (some 12), (some 6)] (L21_1).1 E m)) k E Q := w_plain (by kernel_rfl) (L21_1).2
theorem k21 : FnIs TT 21 c21 [.tmp 6] 3 := ⟨Try.f21, by kernel_rfl, by simp only [Try.f21, c21, bodyOf], by kernel_rfl, of_decide_eq_true (by kernel_rfl)⟩

/- (*heap.Heap).Word -/
noncomputable def c22 : Code := bodyOf Try.f22
noncomputable def r22_0 : Code := Code.sub [0] c22
noncomputable def r22_1 : Code := Code.sub [1, 0, 0] c22
noncomputable def r22_2 : Code := Code.sub [1, 0, 1, 0, 0] c22
noncomputable def r22_3 : Code := Code.sub [1, 1, 0] c22
theorem body22 : c22 = (.seq r22_0 (.seq (.seq r22_1 (.cond (.tmp 12) (.seq r22_2 .ret) .skip)) (.seq r22_3 .ret))) := by kernel_rfl
noncomputable def L22_0 : {l : List Oper // (opsOf r22_0).map strip = l} := by refine ⟨?l, ?h⟩; case h => simp only [r22_0, c22, bodyOf, Try.f22, Code.sub, opsOf, List.map_cons, List.map_nil, strip]; rfl
theorem w22_0 : W Try.prog TT S 5 [12] r22_0 k E m Q ↔ Rg Try.prog TT S 5 [12] [4] [] (lgo E [] (lops Try.prog (callw Try.prog TT S) [(some 4)] (L22_0).1 E m)) k E Q := w_plain (by kernel_rfl) (L22_0).2
noncomputable def L22_1 : {l : List Oper // (opsOf r22_1).map strip = l} := by refine ⟨?l, ?h⟩; case h => simp only [r22_1, c22, bodyOf, Try.f22, Code.sub, opsOf, List.map_cons, List.map_nil, strip]; rfl
theorem w22_1 : W Try.prog TT S 5 [12] r22_1 k E m Q ↔ Rg Try.prog TT S 5 [12] [] [12] (lgo E [1, 0] (lops Try.prog (callw Try.prog TT S) [(some 5), (some 6), (some 7), (some 8), (some 9), (some 10), (some 11), (some 12)] (L22_1).1 E m)) k E Q := w_plain (by kernel_rfl) (L22_1).2
noncomputable def L22_2 : {l : List Oper // (opsOf r22_2).map strip = l} := by refine ⟨?l, ?h⟩; case h => simp only [r22_2, c22, bodyOf, Try.f22, Code.sub, opsOf, List.map_cons, List.map_nil, strip]; rfl
theorem w22_2 : W Try.prog TT S 5 [12] r22_2 k E m Q ↔ Rg Try.prog TT S 5 [12] [4] [] (lgo E [] (lops Try.prog (callw Try.prog TT S) [(some 4)] (L22_2).1 E m)) k E Q := w_plain (by kernel_rfl) (L22_2).2
noncomputable def L22_3 : {l : List Oper // (opsOf r22_3).map strip = l} := by refine ⟨?l, ?h⟩; case h => simp only [r22_3, c22, bodyOf, Try.f22, Code.sub, opsOf, List.map_cons, List.map_nil, strip]; rfl
theorem w22_3 : W Try.prog TT S 5 [12] r22_3 k E m Q ↔ Rg Try.prog TT S 5 [12] [4] [] (lgo E [0, 1] (lops Try.prog (callw Try.prog TT S) [(some 13), (some 14), (some 15), (some 16), (some 17), (some 18), (some 19), (some 4)] (L22_3).1 E m)) k E Q := w_plain (by kernel_rfl) (L22_3).2
theorem k22 : FnIs TT 22 c22 [.tmp 4] 2 := ⟨Try.f22, by kernel_rfl, by simp only [Try.f22, c22, bodyOf], by kernel_rfl, of_decide_eq_true (by kernel_rfl)⟩

/- (*heap.Heap).Text -/
noncomputable def c23 : Code := bodyOf Try.f23
noncomputable def r23_0 : Code := Code.sub [0] c23
noncomputable def r23_1 : Code := Code.sub [1, 0, 0] c23
noncomputable def r23_2 : Code := Code.sub [1, 0, 1, 0, 0] c23
noncomputable def r23_3 : Code := Code.sub [1, 1, 0] c23
noncomputable def r23_4 : Code := Code.sub [1, 1, 1, 0, 0] c23
noncomputable def r23_5 : Code := Code.sub [1, 1, 1, 0, 1, 0, 0, 0, 0] c23
noncomputable def r23_6 : Code := Code.sub [1, 1, 1, 0, 1, 0, 0, 1, 0, 0] c23
noncomputable def r23_7 : Code := Code.sub [1, 1, 1, 0, 1, 0, 0, 1, 1] c23
noncomputable def r23_8 : Code := Code.sub [1, 1, 1, 1, 0] c23
theorem body23 : c23 = (.seq r23_0 (.seq (.seq r23_1 (.cond (.tmp 10) (.seq r23_2 .ret) .skip)) (.seq r23_3 (.seq (.seq r23_4 (.block 0 (.loop (.seq (.seq r23_5 (.cond (.tmp 24) .skip (.exit 0))) (.seq (.block 1 r23_6) r23_7))))) (.seq r23_8 .ret))))) := by kernel_rfl
noncomputable def L23_0 : {l : List Oper // (opsOf r23_0).map strip = l} := by refine ⟨?l, ?h⟩; case h => simp only [r23_0, c23, bodyOf, Try.f23, Code.sub, opsOf, List.map_cons, List.map_nil, strip]; rfl
theorem w23_0 : W Try.prog TT S 9 [10, 24] r23_0 k E m Q ↔ Rg Try.prog TT S 9 [10, 24] [4, 5] [] (lgo E [] (lops Try.prog (callw Try.prog TT S) [(some 4), (some 5)] (L23_0).1 E m)) k E Q := w_plain (by kernel_rfl) (L23_0).2
noncomputable def L23_1 : {l : List Oper // (opsOf r23_1).map strip = l} := by refine ⟨?l, ?h⟩; case h => simp only [r23_1, c23, bodyOf, Try.f23, Code.sub, opsOf, List.map_cons, List.map_nil, strip]; rfl
theorem w23_1 : W Try.prog TT S 9 [10, 24] r23_1 k E m Q ↔ Rg Try.prog TT S 9 [10, 24] [] [10] (lgo E [1] (lops Try.prog (callw Try.prog TT S) [(some 9), (some 10)] (L23_1).1 E m)) k E Q := w_plain (by kernel_rfl) (L23_1).2
noncomputable def L23_2 : {l : List Oper // (opsOf r23_2).map strip = l} := by refine ⟨?l, ?h⟩; case h => simp only [r23_2, c23, bodyOf, Try.f23, Code.sub, opsOf, List.map_cons, List.map_nil, strip]; rfl
theorem w23_2 : W Try.prog TT S 9 [10, 24] r23_2 k E m Q ↔ Rg Try.prog TT S 9 [10, 24] [4, 5] [] (lgo E [] (lops Try.prog (callw Try.prog TT S) [(some 4), (some 5)] (L23_2).1 E m)) k E Q := w_plain (by kernel_rfl) (L23_2).2
noncomputable def L23_3 : {l : List Oper // (opsOf r23_3).map strip = l} := by refine ⟨?l, ?h⟩; case h => simp only [r23_3, c23, bodyOf, Try.f23, Code.sub, opsOf, List.map_cons, List.map_nil, strip]; rfl
theorem w23_3 : W Try.prog TT S 9 [10, 24] r23_3 k E m Q ↔ Rg Try.prog TT S 9 [10, 24] [6, 7] [] (lgo E [0, 1] (lops Try.prog (callw Try.prog TT S) [(some 12), (some 13), (some 14), (some 15), (some 11), (some 16), (some 17), (some 6), (some 7)] (L23_3).1 E m)) k E Q := w_plain (by kernel_rfl) (L23_3).2
noncomputable def L23_4 : {l : List Oper // (opsOf r23_4).map strip = l} := by refine ⟨?l, ?h⟩; case h => simp only [r23_4, c23, bodyOf, Try.f23, Code.sub, opsOf, List.map_cons, List.map_nil, strip]; rfl
theorem w23_4 : W Try.prog TT S 9 [10, 24] r23_4 k E m Q ↔ Rg Try.prog TT S 9 [10, 24] [8] [] (lgo E [] (lops Try.prog (callw Try.prog TT S) [(some 8)] (L23_4).1 E m)) k E Q := w_plain (by kernel_rfl) (L23_4).2
noncomputable def L23_5 : {l : List Oper // (opsOf r23_5).map strip = l} := by refine ⟨?l, ?h⟩; case h => simp only [r23_5, c23, bodyOf, Try.f23, Code.sub, opsOf, List.map_cons, List.map_nil, strip]; rfl
theorem w23_5 : W Try.prog TT S 9 [10, 24] r23_5 k E m Q ↔ Rg Try.prog TT S 9 [10, 24] [] [24] (lgo E [7, 8, 1] (lops Try.prog (callw Try.prog TT S) [(some 18), (some 19), (some 20), (some 21), (some 22), (some 23), (some 24)] (L23_5).1 E m)) k E Q := w_plain (by kernel_rfl) (L23_5).2
noncomputable def L23_6 : {l : List Oper // (opsOf r23_6).map strip = l} := by refine ⟨?l, ?h⟩; case h => simp only [r23_6, c23, bodyOf, Try.f23, Code.sub, opsOf, List.map_cons, List.map_nil, strip]; rfl
theorem w23_6 : W Try.prog TT S 9 [10, 24] r23_6 k E m Q ↔ Rg Try.prog TT S 9 [10, 24] [] [] (lgo E [0, 6, 1, 8] (lops Try.prog (callw Try.prog TT S) [(some 27), (some 28), (some 29), (some 30), (some 31), (some 32), (some 33), (some 34)] (L23_6).1 E m)) k E Q := w_plain (by kernel_rfl) (L23_6).2
noncomputable def L23_7 : {l : List Oper // (opsOf r23_7).map strip = l} := by refine ⟨?l, ?h⟩; case h => simp only [r23_7, c23, bodyOf, Try.f23, Code.sub, opsOf, List.map_cons, List.map_nil, strip]; rfl
theorem w23_7 : W Try.prog TT S 9 [10, 24] r23_7 k E m Q ↔ Rg Try.prog TT S 9 [10, 24] [8] [] (lgo E [8] (lops Try.prog (callw Try.prog TT S) [(some 25), (some 26), (some 8)] (L23_7).1 E m)) k E Q := w_plain (by kernel_rfl) (L23_7).2
noncomputable def L23_8 : {l : List Oper // (opsOf r23_8).map strip = l} := by refine ⟨?l, ?h⟩; case h => simp only [r23_8, c23, bodyOf, Try.f23, Code.sub, opsOf, List.map_cons, List.map_nil, strip]; rfl
theorem w23_8 : W Try.prog TT S 9 [10, 24] r23_8 k E m Q ↔ Rg Try.prog TT S 9 [10, 24] [4, 5] [] (lgo E [6, 7] (lops Try.prog (callw Try.prog TT S) [(some 35), (some 36), (some 4), (some 5)] (L23_8).1 E m)) k E Q := w_plain (by kernel_rfl) (L23_8).2
theorem k23 : FnIs TT 23 c23 [.tmp 4, .tmp 5] 2 := ⟨Try.f23, by kernel_rfl, by simp only [Try.f23, c23, bodyOf], by kernel_rfl, of_decide_eq_true (by kernel_rfl)⟩

/- (*heap.Heap).String -/
noncomputable def c24 : Code := bodyOf Try.f24
noncomputable def r24_0 : Code := Code.sub [0] c24
noncomputable def r24_1 : Code := Code.sub [1, 0] c24
noncomputable def r24_2 : Code := Code.sub [1, 1, 0] c24
noncomputable def r24_3 : Code := Code.sub [1, 1, 1, 0, 0] c24
noncomputable def r24_4 : Code := Code.sub [1, 1, 1, 0, 1, 0, 0, 0, 0] c24
noncomputable def r24_5 : Code := Code.sub [1, 1, 1, 0, 1, 0, 0, 1, 0, 0] c24
noncomputable def r24_6 : Code := Code.sub [1, 1, 1, 0, 1, 0, 0, 1, 1] c24
noncomputable def r24_7 : Code := Code.sub [1, 1, 1, 1, 0] c24
theorem body24 : c24 = (.seq r24_0 (.seq r24_1 (.seq r24_2 (.seq (.seq r24_3 (.block 0 (.loop (.seq (.seq r24_4 (.cond (.tmp 20) .skip (.exit 0))) (.seq (.block 1 r24_5) r24_6))))) (.seq r24_7 .ret))))) := by kernel_rfl
noncomputable def L24_0 : {l : List Oper // (opsOf r24_0).map strip = l} := by refine ⟨?l, ?h⟩; case h => simp only [r24_0, c24, bodyOf, Try.f24, Code.sub, opsOf, List.map_cons, List.map_nil, strip]; rfl
theorem w24_0 : W Try.prog TT S 8 [20] r24_0 k E m Q ↔ Rg Try.prog TT S 8 [20] [4] [] (lgo E [] (lops Try.prog (callw Try.prog TT S) [(some 4)] (L24_0).1 E m)) k E Q := w_plain (by kernel_rfl) (L24_0).2
noncomputable def L24_1 : {l : List Oper // (opsOf r24_1).map strip = l} := by refine ⟨?l, ?h⟩; case h => simp only [r24_1, c24, bodyOf, Try.f24, Code.sub, opsOf, List.map_cons, List.map_nil, strip]; rfl
theorem w24_1 : W Try.prog TT S 8 [20] r24_1 k E m Q ↔ Rg Try.prog TT S 8 [20] [5] [] (lgo E [] (lops Try.prog (callw Try.prog TT S) [(some 5)] (L24_1).1 E m)) k E Q := w_plain (by kernel_rfl) (L24_1).2
noncomputable def L24_2 : {l : List Oper // (opsOf r24_2).map strip = l} := by refine ⟨?l, ?h⟩; case h => simp only [r24_2, c24, bodyOf, Try.f24, Code.sub, opsOf, List.map_cons, List.map_nil, strip]; rfl
theorem w24_2 : W Try.prog TT S 8 [20] r24_2 k E m Q ↔ Rg Try.prog TT S 8 [20] [6] [] (lgo E [0] (lops Try.prog (callw Try.prog TT S) [(some 8), (some 9), (some 6)] (L24_2).1 E m)) k E Q := w_plain (by kernel_rfl) (L24_2).2
noncomputable def L24_3 : {l : List Oper // (opsOf r24_3).map strip = l} := by refine ⟨?l, ?h⟩; case h => simp only [r24_3, c24, bodyOf, Try.f24, Code.sub, opsOf, List.map_cons, List.map_nil, strip]; rfl
theorem w24_3 : W Try.prog TT S 8 [20] r24_3 k E m Q ↔ Rg Try.prog TT S 8 [20] [7] [] (lgo E [] (lops Try.prog (callw Try.prog TT S) [(some 7)] (L24_3).1 E m)) k E Q := w_plain (by kernel_rfl) (L24_3).2
theorem can24_4 : canonOps (opsOf r24_4) = opsOf r24_4 := by kernel_rfl
noncomputable def L24_4 : {l : List Oper // (canonOps (opsOf r24_4)).map strip = l} := by refine ⟨?l, (congrArg (List.map strip) can24_4).trans ?h⟩; case h => simp only [r24_4, c24, bodyOf, Try.f24, Code.sub, opsOf, List.map_cons, List.map_nil, strip]; rfl
theorem w24_4 : W Try.prog TT S 8 [20] r24_4 k E m Q ↔ Rg Try.prog TT S 8 [20] [] [20] (lgo E [7, 1, 0] (lloud Try.prog (callw Try.prog TT S) [(some 10), (some 11), (some 12), (some 13), (some 14), (some 15), (some 16), (some 17), (some 18), (some 19), (some 20)] (L24_4).1 [(7, [3, 11]), (8, [3, 11])] (lstates Try.prog (callw Try.prog TT S) [(some 10), (some 11), (some 12), (some 13), (some 14), (some 15), (some 16), (some 17), (some 18), (some 19), (some 20)] (L24_4).1 E m))) k E Q := w_loud (by kernel_rfl) (L24_4).2
noncomputable def L24_5 : {l : List Oper // (opsOf r24_5).map strip = l} := by refine ⟨?l, ?h⟩; case h => simp only [r24_5, c24, bodyOf, Try.f24, Code.sub, opsOf, List.map_cons, List.map_nil, strip]; rfl
theorem w24_5 : W Try.prog TT S 8 [20] r24_5 k E m Q ↔ Rg Try.prog TT S 8 [20] [5] [] (lgo E [5, 6, 1, 7] (lops Try.prog (callw Try.prog TT S) [(some 23), (some 24), (some 25), (some 26), (some 27), (some 28), (some 29), (some 30), (some 5)] (L24_5).1 E m)) k E Q := w_plain (by kernel_rfl) (L24_5).2
noncomputable def L24_6 : {l : List Oper // (opsOf r24_6).map strip = l} := by refine ⟨?l, ?h⟩; case h => simp only [r24_6, c24, bodyOf, Try.f24, Code.sub, opsOf, List.map_cons, List.map_nil, strip]; rfl
theorem w24_6 : W Try.prog TT S 8 [20] r24_6 k E m Q ↔ Rg Try.prog TT S 8 [20] [7] [] (lgo E [7] (lops Try.prog (callw Try.prog TT S) [(some 21), (some 22), (some 7)] (L24_6).1 E m)) k E Q := w_plain (by kernel_rfl) (L24_6).2
noncomputable def L24_7 : {l : List Oper // (opsOf r24_7).map strip = l} := by refine ⟨?l, ?h⟩; case h => simp only [r24_7, c24, bodyOf, Try.f24, Code.sub, opsOf, List.map_cons, List.map_nil, strip]; rfl
theorem w24_7 : W Try.prog TT S 8 [20] r24_7 k E m Q ↔ Rg Try.prog TT S 8 [20] [4] [] (lgo E [5] (lops Try.prog (callw Try.prog TT S) [(some 31), (some 32), (some 4)] (L24_7).1 E m)) k E Q := w_plain (by kernel_rfl) (L24_7).2
theorem k24 : FnIs TT 24 c24 [.tmp 4] 2 := ⟨Try.f24, by kernel_rfl, by simp only [Try.f24, c24, bodyOf], by kernel_rfl, of_decide_eq_true (by kernel_rfl)⟩

/- turnstoneref1.NewHeap -/
noncomputable def c25 : Code := bodyOf Try.f25
noncomputable def r25_0 : Code := Code.sub [0] c25
noncomputable def r25_1 : Code := Code.sub [1, 0] c25
theorem body25 : c25 = (.seq r25_0 (.seq r25_1 .ret)) := by kernel_rfl
noncomputable def L25_0 : {l : List Oper // (opsOf r25_0).map strip = l} := by refine ⟨?l, ?h⟩; case h => simp only [r25_0, c25, bodyOf, Try.f25, Code.sub, opsOf, List.map_cons, List.map_nil, strip]; rfl
theorem w25_0 : W Try.prog TT S 3 [] r25_0 k E m Q ↔ Rg Try.prog TT S 3 [] [2] [] (lgo E [] (lops Try.prog (callw Try.prog TT S) [(some 2)] (L25_0).1 E m)) k E Q := w_plain (by kernel_rfl) (L25_0).2
noncomputable def L25_1 : {l : List Oper // (opsOf r25_1).map strip = l} := by refine ⟨?l, ?h⟩; case h => simp only [r25_1, c25, bodyOf, Try.f25, Code.sub, opsOf, List.map_cons, List.map_nil, strip]; rfl
theorem w25_1 : W Try.prog TT S 3 [] r25_1 k E m Q ↔ Rg Try.prog TT S 3 [] [2] [] (lgo E [0] (lops Try.prog (callw Try.prog TT S) [(some 3), (some 4), (some 5), (some 6), (some 2)] (L25_1).1 E m)) k E Q := w_plain (by kernel_rfl) (L25_1).2
theorem k25 : FnIs TT 25 c25 [.tmp 2] 1 := ⟨Try.f25, by kernel_rfl, by simp only [Try.f25, c25, bodyOf], by kernel_rfl, of_decide_eq_true (by kernel_rfl)⟩

/- (*turnstoneref1.Heap).Set -/
noncomputable def c26 : Code := bodyOf Try.f26
noncomputable def r26_0 : Code := Code.sub [0] c26
noncomputable def r26_1 : Code := Code.sub [1, 0, 0] c26
noncomputable def r26_2 : Code := Code.sub [1, 0, 1, 0, 0] c26
noncomputable def r26_3 : Code := Code.sub [1, 1, 0] c26
theorem body26 : c26 = (.seq r26_0 (.seq (.seq r26_1 (.cond (.tmp 21) (.seq r26_2 .ret) .skip)) (.seq r26_3 .ret))) := by kernel_rfl
noncomputable def L26_0 : {l : List Oper // (opsOf r26_0).map strip = l} := by refine ⟨?l, ?h⟩; case h => simp only [r26_0, c26, bodyOf, Try.f26, Code.sub, opsOf, List.map_cons, List.map_nil, strip]; rfl
theorem w26_0 : W Try.prog TT S 9 [21] r26_0 k E m Q ↔ Rg Try.prog TT S 9 [21] [8] [] (lgo E [] (lops Try.prog (callw Try.prog TT S) [(some 8)] (L26_0).1 E m)) k E Q := w_plain (by kernel_rfl) (L26_0).2
noncomputable def L26_1 : {l : List Oper // (opsOf r26_1).map strip = l} := by refine ⟨?l, ?h⟩; case h => simp only [r26_1, c26, bodyOf, Try.f26, Code.sub, opsOf, List.map_cons, List.map_nil, strip]; rfl
theorem w26_1 : W Try.prog TT S 9 [21] r26_1 k E m Q ↔ Rg Try.prog TT S 9 [21] [] [21] (lgo E [2, 0, 1] (lops Try.prog (callw Try.prog TT S) [(some 9), (some 10), (some 11), (some 12), (some 13), (some 14), (some 15), (some 16), (some 17), (some 18), (some 19), (some 20), (some 21)] (L26_1).1 E m)) k E Q := w_plain (by kernel_rfl) (L26_1).2
noncomputable def L26_2 : {l : List Oper // (opsOf r26_2).map strip = l} := by refine ⟨?l, ?h⟩; case h => simp only [r26_2, c26, bodyOf, Try.f26, Code.sub, opsOf, List.map_cons, List.map_nil, strip]; rfl
theorem w26_2 : W Try.prog TT S 9 [21] r26_2 k E m Q ↔ Rg Try.prog TT S 9 [21] [8] [] (lgo E [] (lops Try.prog (callw Try.prog TT S) [(some 8)] (L26_2).1 E m)) k E Q := w_plain (by kernel_rfl) (L26_2).2
noncomputable def L26_3 : {l : List Oper // (opsOf r26_3).map strip = l} := by refine ⟨?l, ?h⟩; case h => simp only [r26_3, c26, bodyOf, Try.f26, Code.sub, opsOf, List.map_cons, List.map_nil, strip]; rfl
theorem w26_3 : W Try.prog TT S 9 [21] r26_3 k E m Q ↔ Rg Try.prog TT S 9 [21] [8] [] (lgo E [0, 1, 2, 3] (lops Try.prog (callw Try.prog TT S) [(some 22), (some 23), (some 24), (some 25), (some 26), (some 27), (some 28), (some 29), (some 8)] (L26_3).1 E m)) k E Q := w_plain (by kernel_rfl) (L26_3).2
theorem k26 : FnIs TT 26 c26 [.tmp 8] 4 := ⟨Try.f26, by kernel_rfl, by simp only [Try.f26, c26, bodyOf], by kernel_rfl, of_decide_eq_true (by kernel_rfl)⟩

/- (*turnstoneref1.Heap).Put -/
noncomputable def c27 : Code := bodyOf Try.f27
noncomputable def r27_0 : Code := Code.sub [0] c27
noncomputable def r27_1 : Code := Code.sub [1, 0, 0] c27
noncomputable def r27_2 : Code := Code.sub [1, 0, 1, 0, 0] c27
noncomputable def r27_3 : Code := Code.sub [1, 1, 0] c27
noncomputable def r27_4 : Code := Code.sub [1, 1, 1, 0] c27
theorem body27 : c27 = (.seq r27_0 (.seq (.seq r27_1 (.cond (.tmp 18) (.seq r27_2 .ret) .skip)) (.seq r27_3 (.seq r27_4 .ret)))) := by kernel_rfl
noncomputable def L27_0 : {l : List Oper // (opsOf r27_0).map strip = l} := by refine ⟨?l, ?h⟩; case h => simp only [r27_0, c27, bodyOf, Try.f27, Code.sub, opsOf, List.map_cons, List.map_nil, strip]; rfl
theorem w27_0 : W Try.prog TT S 7 [18] r27_0 k E m Q ↔ Rg Try.prog TT S 7 [18] [6] [] (lgo E [] (lops Try.prog (callw Try.prog TT S) [(some 6)] (L27_0).1 E m)) k E Q := w_plain (by kernel_rfl) (L27_0).2
noncomputable def L27_1 : {l : List Oper // (opsOf r27_1).map strip = l} := by refine ⟨?l, ?h⟩; case h => simp only [r27_1, c27, bodyOf, Try.f27, Code.sub, opsOf, List.map_cons, List.map_nil, strip]; rfl
theorem w27_1 : W Try.prog TT S 7 [18] r27_1 k E m Q ↔ Rg Try.prog TT S 7 [18] [] [18] (lgo E [1, 0] (lops Try.prog (callw Try.prog TT S) [(some 7), (some 8), (some 9), (some 10), (some 11), (some 12), (some 13), (some 14), (some 15), (some 16), (some 17), (some 18)] (L27_1).1 E m)) k E Q := w_plain (by kernel_rfl) (L27_1).2
noncomputable def L27_2 : {l : List Oper // (opsOf r27_2).map strip = l} := by refine ⟨?l, ?h⟩; case h => simp only [r27_2, c27, bodyOf, Try.f27, Code.sub, opsOf, List.map_cons, List.map_nil, strip]; rfl
theorem w27_2 : W Try.prog TT S 7 [18] r27_2 k E m Q ↔ Rg Try.prog TT S 7 [18] [6] [] (lgo E [] (lops Try.prog (callw Try.prog TT S) [(some 6)] (L27_2).1 E m)) k E Q := w_plain (by kernel_rfl) (L27_2).2
noncomputable def L27_3 : {l : List Oper // (opsOf r27_3).map strip = l} := by refine ⟨?l, ?h⟩; case h => simp only [r27_3, c27, bodyOf, Try.f27, Code.sub, opsOf, List.map_cons, List.map_nil, strip]; rfl
theorem w27_3 : W Try.prog TT S 7 [18] r27_3 k E m Q ↔ Rg Try.prog TT S 7 [18] [] [] (lgo E [0, 1, 2] (lops Try.prog (callw Try.prog TT S) [(some 19), (some 20), (some 21), (some 22), (some 23), (some 24), (some 25), none] (L27_3).1 E m)) k E Q := w_plain (by kernel_rfl) (L27_3).2
noncomputable def L27_4 : {l : List Oper // (opsOf r27_4).map strip = l} := by refine ⟨?l, ?h⟩; case h => simp only [r27_4, c27, bodyOf, Try.f27, Code.sub, opsOf, List.map_cons, List.map_nil, strip]; rfl
theorem w27_4 : W Try.prog TT S 7 [18] r27_4 k E m Q ↔ Rg Try.prog TT S 7 [18] [6] [] (lgo E [] (lops Try.prog (callw Try.prog TT S) [(some 6)] (L27_4).1 E m)) k E Q := w_plain (by kernel_rfl) (L27_4).2
theorem k27 : FnIs TT 27 c27 [.tmp 6] 3 := ⟨Try.f27, by kernel_rfl, by simp only [Try.f27, c27, bodyOf], by kernel_rfl, of_decide_eq_true (by kernel_rfl)⟩

/- (*turnstoneref1.Heap).Text -/
noncomputable def c28 : Code := bodyOf Try.f28
noncomputable def r28_0 : Code := Code.sub [0] c28
noncomputable def r28_1 : Code := Code.sub [1, 0, 0] c28
noncomputable def r28_2 : Code := Code.sub [1, 0, 1, 0, 0] c28
noncomputable def r28_3 : Code := Code.sub [1, 1, 0] c28
noncomputable def r28_4 : Code := Code.sub [1, 1, 1, 0, 0] c28
noncomputable def r28_5 : Code := Code.sub [1, 1, 1, 0, 1, 0, 0] c28
noncomputable def r28_6 : Code := Code.sub [1, 1, 1, 1, 0, 0] c28
noncomputable def r28_7 : Code := Code.sub [1, 1, 1, 1, 0, 1, 0, 0, 0, 0] c28
noncomputable def r28_8 : Code := Code.sub [1, 1, 1, 1, 0, 1, 0, 0, 1, 0, 0] c28
noncomputable def r28_9 : Code := Code.sub [1, 1, 1, 1, 0, 1, 0, 0, 1, 1] c28
noncomputable def r28_10 : Code := Code.sub [1, 1, 1, 1, 1, 0] c28
theorem body28 : c28 = (.seq r28_0 (.seq (.seq r28_1 (.cond (.tmp 10) (.seq r28_2 .ret) .skip)) (.seq r28_3 (.seq (.seq r28_4 (.cond (.tmp 19) (.seq r28_5 .ret) .skip)) (.seq (.seq r28_6 (.block 0 (.loop (.seq (.seq r28_7 (.cond (.tmp 23) .skip (.exit 0))) (.seq (.block 1 r28_8) r28_9))))) (.seq r28_10 .ret)))))) := by kernel_rfl
noncomputable def L28_0 : {l : List Oper // (opsOf r28_0).map strip = l} := by refine ⟨?l, ?h⟩; case h => simp only [r28_0, c28, bodyOf, Try.f28, Code.sub, opsOf, List.map_cons, List.map_nil, strip]; rfl
theorem w28_0 : W Try.prog TT S 9 [10, 19, 23] r28_0 k E m Q ↔ Rg Try.prog TT S 9 [10, 19, 23] [4, 5] [] (lgo E [] (lops Try.prog (callw Try.prog TT S) [(some 4), (some 5)] (L28_0).1 E m)) k E Q := w_plain (by kernel_rfl) (L28_0).2
noncomputable def L28_1 : {l : List Oper // (opsOf r28_1).map strip = l} := by refine ⟨?l, ?h⟩; case h => simp only [r28_1, c28, bodyOf, Try.f28, Code.sub, opsOf, List.map_cons, List.map_nil, strip]; rfl
theorem w28_1 : W Try.prog TT S 9 [10, 19, 23] r28_1 k E m Q ↔ Rg Try.prog TT S 9 [10, 19, 23] [] [10] (lgo E [1] (lops Try.prog (callw Try.prog TT S) [(some 9), (some 10)] (L28_1).1 E m)) k E Q := w_plain (by kernel_rfl) (L28_1).2
noncomputable def L28_2 : {l : List Oper // (opsOf r28_2).map strip = l} := by refine ⟨?l, ?h⟩; case h => simp only [r28_2, c28, bodyOf, Try.f28, Code.sub, opsOf, List.map_cons, List.map_nil, strip]; rfl
theorem w28_2 : W Try.prog TT S 9 [10, 19, 23] r28_2 k E m Q ↔ Rg Try.prog TT S 9 [10, 19, 23] [4, 5] [] (lgo E [] (lops Try.prog (callw Try.prog TT S) [(some 4), (some 5)] (L28_2).1 E m)) k E Q := w_plain (by kernel_rfl) (L28_2).2
noncomputable def L28_3 : {l : List Oper // (opsOf r28_3).map strip = l} := by refine ⟨?l, ?h⟩; case h => simp only [r28_3, c28, bodyOf, Try.f28, Code.sub, opsOf, List.map_cons, List.map_nil, strip]; rfl
theorem w28_3 : W Try.prog TT S 9 [10, 19, 23] r28_3 k E m Q ↔ Rg Try.prog TT S 9 [10, 19, 23] [6, 7] [] (lgo E [0, 1] (lops Try.prog (callw Try.prog TT S) [(some 12), (some 13), (some 14), (some 15), (some 11), (some 16), (some 17), (some 6), (some 7)] (L28_3).1 E m)) k E Q := w_plain (by kernel_rfl) (L28_3).2
noncomputable def L28_4 : {l : List Oper // (opsOf r28_4).map strip = l} := by refine ⟨?l, ?h⟩; case h => simp only [r28_4, c28, bodyOf, Try.f28, Code.sub, opsOf, List.map_cons, List.map_nil, strip]; rfl
theorem w28_4 : W Try.prog TT S 9 [10, 19, 23] r28_4 k E m Q ↔ Rg Try.prog TT S 9 [10, 19, 23] [] [19] (lgo E [7] (lops Try.prog (callw Try.prog TT S) [(some 18), (some 19)] (L28_4).1 E m)) k E Q := w_plain (by kernel_rfl) (L28_4).2
noncomputable def L28_5 : {l : List Oper // (opsOf r28_5).map strip = l} := by refine ⟨?l, ?h⟩; case h => simp only [r28_5, c28, bodyOf, Try.f28, Code.sub, opsOf, List.map_cons, List.map_nil, strip]; rfl
theorem w28_5 : W Try.prog TT S 9 [10, 19, 23] r28_5 k E m Q ↔ Rg Try.prog TT S 9 [10, 19, 23] [4, 5] [] (lgo E [] (lops Try.prog (callw Try.prog TT S) [(some 4), (some 5)] (L28_5).1 E m)) k E Q := w_plain (by kernel_rfl) (L28_5).2
noncomputable def L28_6 : {l : List Oper // (opsOf r28_6).map strip = l} := by refine ⟨?l, ?h⟩; case h => simp only [r28_6, c28, bodyOf, Try.f28, Code.sub, opsOf, List.map_cons, List.map_nil, strip]; rfl
theorem w28_6 : W Try.prog TT S 9 [10, 19, 23] r28_6 k E m Q ↔ Rg Try.prog TT S 9 [10, 19, 23] [8] [] (lgo E [] (lops Try.prog (callw Try.prog TT S) [(some 8)] (L28_6).1 E m)) k E Q := w_plain (by kernel_rfl) (L28_6).2
noncomputable def L28_7 : {l : List Oper // (opsOf r28_7).map strip = l} := by refine ⟨?l, ?h⟩; case h => simp only [r28_7, c28, bodyOf, Try.f28, Code.sub, opsOf, List.map_cons, List.map_nil, strip]; rfl
theorem w28_7 : W Try.prog TT S 9 [10, 19, 23] r28_7 k E m Q ↔ Rg Try.prog TT S 9 [10, 19, 23] [] [23] (lgo E [8, 1] (lops Try.prog (callw Try.prog TT S) [(some 20), (some 21), (some 22), (some 23)] (L28_7).1 E m)) k E Q := w_plain (by kernel_rfl) (L28_7).2
noncomputable def L28_8 : {l : List Oper // (opsOf r28_8).map strip = l} := by refine ⟨?l, ?h⟩; case h => simp only [r28_8, c28, bodyOf, Try.f28, Code.sub, opsOf, List.map_cons, List.map_nil, strip]; rfl
theorem w28_8 : W Try.prog TT S 9 [10, 19, 23] r28_8 k E m Q ↔ Rg Try.prog TT S 9 [10, 19, 23] [] [] (lgo E [0, 6, 1, 8] (lops Try.prog (callw Try.prog TT S) [(some 26), (some 27), (some 28), (some 29), (some 30), (some 31), (some 32), (some 33)] (L28_8).1 E m)) k E Q := w_plain (by kernel_rfl) (L28_8).2
noncomputable def L28_9 : {l : List Oper // (opsOf r28_9).map strip = l} := by refine ⟨?l, ?h⟩; case h => simp only [r28_9, c28, bodyOf, Try.f28, Code.sub, opsOf, List.map_cons, List.map_nil, strip]; rfl
theorem w28_9 : W Try.prog TT S 9 [10, 19, 23] r28_9 k E m Q ↔ Rg Try.prog TT S 9 [10, 19, 23] [8] [] (lgo E [8] (lops Try.prog (callw Try.prog TT S) [(some 24), (some 25), (some 8)] (L28_9).1 E m)) k E Q := w_plain (by kernel_rfl) (L28_9).2
noncomputable def L28_10 : {l : List Oper // (opsOf r28_10).map strip = l} := by refine ⟨?l, ?h⟩; case h => simp only [r28_10, c28, bodyOf, Try.f28, Code.sub, opsOf, List.map_cons, List.map_nil, strip]; rfl
theorem w28_10 : W Try.prog TT S 9 [10, 19, 23] r28_10 k E m Q ↔ Rg Try.prog TT S 9 [10, 19, 23] [4, 5] [] (lgo E [6] (lops Try.prog (callw Try.prog TT S) [(some 34), (some 4), (some 5)] (L28_10).1 E m)) k E Q := w_plain (by kernel_rfl) (L28_10).2
theorem k28 : FnIs TT 28 c28 [.tmp 4, .tmp 5] 2 := ⟨Try.f28, by kernel_rfl, by simp only [Try.f28, c28, bodyOf], by kernel_rfl, of_decide_eq_true (by kernel_rfl)⟩

/- turnstonelaw1.same -/
noncomputable def c29 : Code := bodyOf Try.f29
noncomputable def r29_0 : Code := Code.sub [0] c29
noncomputable def r29_1 : Code := Code.sub [1, 0] c29
noncomputable def r29_2 : Code := Code.sub [1, 1, 0, 0] c29
noncomputable def r29_3 : Code := Code.sub [1, 1, 0, 1, 0, 0] c29
noncomputable def r29_4 : Code := Code.sub [1, 1, 1, 0, 0] c29
noncomputable def r29_5 : Code := Code.sub [1, 1, 1, 0, 1, 0, 0, 0, 0] c29
noncomputable def r29_6 : Code := Code.sub [1, 1, 1, 0, 1, 0, 0, 1, 0, 0, 0, 0] c29
noncomputable def r29_7 : Code := Code.sub [1, 1, 1, 0, 1, 0, 0, 1, 0, 0, 0, 1, 0, 0] c29
noncomputable def r29_8 : Code := Code.sub [1, 1, 1, 0, 1, 0, 0, 1, 0, 0, 1] c29
noncomputable def r29_9 : Code := Code.sub [1, 1, 1, 0, 1, 0, 0, 1, 1] c29
noncomputable def r29_10 : Code := Code.sub [1, 1, 1, 1, 0] c29
theorem body29 : c29 = (.seq r29_0 (.seq r29_1 (.seq (.seq r29_2 (.cond (.tmp 26) (.seq r29_3 .ret) .skip)) (.seq (.seq r29_4 (.block 0 (.loop (.seq (.seq r29_5 (.cond (.tmp 30) .skip (.exit 0))) (.seq (.block 1 (.seq (.seq r29_6 (.cond (.tmp 44) (.seq r29_7 .ret) .skip)) r29_8)) r29_9))))) (.seq r29_10 .ret))))) := by kernel_rfl
noncomputable def L29_0 : {l : List Oper // (opsOf r29_0).map strip = l} := by refine ⟨?l, ?h⟩; case h => simp only [r29_0, c29, bodyOf, Try.f29, Code.sub, opsOf, List.map_cons, List.map_nil, strip]; rfl
theorem w29_0 : W Try.prog TT S 7 [26, 30, 44] r29_0 k E m Q ↔ Rg Try.prog TT S 7 [26, 30, 44] [4] [] (lgo E [] (lops Try.prog (callw Try.prog TT S) [(some 4)] (L29_0).1 E m)) k E Q := w_plain (by kernel_rfl) (L29_0).2
noncomputable def L29_1 : {l : List Oper // (opsOf r29_1).map strip = l} := by refine ⟨?l, ?h⟩; case h => simp only [r29_1, c29, bodyOf, Try.f29, Code.sub, opsOf, List.map_cons, List.map_nil, strip]; rfl
theorem w29_1 : W Try.prog TT S 7 [26, 30, 44] r29_1 k E m Q ↔ Rg Try.prog TT S 7 [26, 30, 44] [5] [] (lgo E [0] (lops Try.prog (callw Try.prog TT S) [(some 7), (some 8), (some 5)] (L29_1).1 E m)) k E Q := w_plain (by kernel_rfl) (L29_1).2
theorem can29_2 : canonOps (opsOf r29_2) = opsOf r29_2 := by kernel_rfl
noncomputable def L29_2 : {l : List Oper // (canonOps (opsOf r29_2)).map strip = l} := by refine ⟨?l, (congrArg (List.map strip) can29_2).trans ?h⟩; case h => simp only [r29_2, c29, bodyOf, Try.f29, Code.sub, opsOf, List.map_cons, List.map_nil, strip]; rfl
theorem w29_2 : W Try.prog TT S 7 [26, 30, 44] r29_2 k E m Q ↔ Rg Try.prog TT S 7 [26, 30, 44] [] [26] (lgo E [5, 0, 1] (lloud Try.prog (callw Try.prog TT S) [(some 9), (some 10), (some 11), (some 12), (some 13), (some 14), (some 15), (some 16), (some 17), (some 18), (some 19), (some 20), (some 21), (some 22), (some 23), (some 24), (some 25), (some 26)] (L29_2).1 [(1, [10]), (5, [10]), (6, [10]), (14, [10, 18]), (15, [10, 18])] (lstates Try.prog (callw Try.prog TT S) [(some 9), (some 10), (some 11), (some 12), (some 13), (some 14), (some 15), (some 16), (some 17), (some 18), (some 19), (some 20), (some 21), (some 22), (some 23), (some 24), (some 25), (some 26)] (L29_2).1 E m))) k E Q := w_loud (by kernel_rfl) (L29_2).2
noncomputable def L29_3 : {l : List Oper // (opsOf r29_3).map strip = l} := by refine ⟨?l, ?h⟩; case h => simp only [r29_3, c29, bodyOf, Try.f29, Code.sub, opsOf, List.map_cons, List.map_nil, strip]; rfl
theorem w29_3 : W Try.prog TT S 7 [26, 30, 44] r29_3 k E m Q ↔ Rg Try.prog TT S 7 [26, 30, 44] [4] [] (lgo E [] (lops Try.prog (callw Try.prog TT S) [(some 4)] (L29_3).1 E m)) k E Q := w_plain (by kernel_rfl) (L29_3).2
noncomputable def L29_4 : {l : List Oper // (opsOf r29_4).map strip = l} := by refine ⟨?l, ?h⟩; case h => simp only [r29_4, c29, bodyOf, Try.f29, Code.sub, opsOf, List.map_cons, List.map_nil, strip]; rfl
theorem w29_4 : W Try.prog TT S 7 [26, 30, 44] r29_4 k E m Q ↔ Rg Try.prog TT S 7 [26, 30, 44] [6] [] (lgo E [] (lops Try.prog (callw Try.prog TT S) [(some 6)] (L29_4).1 E m)) k E Q := w_plain (by kernel_rfl) (L29_4).2
noncomputable def L29_5 : {l : List Oper // (opsOf r29_5).map strip = l} := by refine ⟨?l, ?h⟩; case h => simp only [r29_5, c29, bodyOf, Try.f29, Code.sub, opsOf, List.map_cons, List.map_nil, strip]; rfl
theorem w29_5 : W Try.prog TT S 7 [26, 30, 44] r29_5 k E m Q ↔ Rg Try.prog TT S 7 [26, 30, 44] [] [30] (lgo E [6, 5] (lops Try.prog (callw Try.prog TT S) [(some 27), (some 28), (some 29), (some 30)] (L29_5).1 E m)) k E Q := w_plain (by kernel_rfl) (L29_5).2
noncomputable def L29_6 : {l : List Oper // (opsOf r29_6).map strip = l} := by refine ⟨?l, ?h⟩; case h => simp only [r29_6, c29, bodyOf, Try.f29, Code.sub, opsOf, List.map_cons, List.map_nil, strip]; rfl
theorem w29_6 : W Try.prog TT S 7 [26, 30, 44] r29_6 k E m Q ↔ Rg Try.prog TT S 7 [26, 30, 44] [] [44] (lgo E [5, 1, 6] (lops Try.prog (callw Try.prog TT S) [(some 33), (some 34), (some 35), (some 36), (some 37), (some 38), (some 39), (some 40), (some 41), (some 42), (some 43), (some 44)] (L29_6).1 E m)) k E Q := w_plain (by kernel_rfl) (L29_6).2
noncomputable def L29_7 : {l : List Oper // (opsOf r29_7).map strip = l} := by refine ⟨?l, ?h⟩; case h => simp only [r29_7, c29, bodyOf, Try.f29, Code.sub, opsOf, List.map_cons, List.map_nil, strip]; rfl
theorem w29_7 : W Try.prog TT S 7 [26, 30, 44] r29_7 k E m Q ↔ Rg Try.prog TT S 7 [26, 30, 44] [4] [] (lgo E [] (lops Try.prog (callw Try.prog TT S) [(some 4)] (L29_7).1 E m)) k E Q := w_plain (by kernel_rfl) (L29_7).2
noncomputable def L29_8 : {l : List Oper // (opsOf r29_8).map strip = l} := by refine ⟨?l, ?h⟩; case h => simp only [r29_8, c29, bodyOf, Try.f29, Code.sub, opsOf, List.map_cons, List.map_nil, strip]; rfl
theorem w29_8 : W Try.prog TT S 7 [26, 30, 44] r29_8 k E m Q ↔ Rg Try.prog TT S 7 [26, 30, 44] [] [] (lgo E [5, 6] (lops Try.prog (callw Try.prog TT S) [(some 45), (some 46), (some 47), none] (L29_8).1 E m)) k E Q := w_plain (by kernel_rfl) (L29_8).2
noncomputable def L29_9 : {l : List Oper // (opsOf r29_9).map strip = l} := by refine ⟨?l, ?h⟩; case h => simp only [r29_9, c29, bodyOf, Try.f29, Code.sub, opsOf, List.map_cons, List.map_nil, strip]; rfl
theorem w29_9 : W Try.prog TT S 7 [26, 30, 44] r29_9 k E m Q ↔ Rg Try.prog TT S 7 [26, 30, 44] [6] [] (lgo E [6] (lops Try.prog (callw Try.prog TT S) [(some 31), (some 32), (some 6)] (L29_9).1 E m)) k E Q := w_plain (by kernel_rfl) (L29_9).2
noncomputable def L29_10 : {l : List Oper // (opsOf r29_10).map strip = l} := by refine ⟨?l, ?h⟩; case h => simp only [r29_10, c29, bodyOf, Try.f29, Code.sub, opsOf, List.map_cons, List.map_nil, strip]; rfl
theorem w29_10 : W Try.prog TT S 7 [26, 30, 44] r29_10 k E m Q ↔ Rg Try.prog TT S 7 [26, 30, 44] [4] [] (lgo E [] (lops Try.prog (callw Try.prog TT S) [(some 4)] (L29_10).1 E m)) k E Q := w_plain (by kernel_rfl) (L29_10).2
theorem k29 : FnIs TT 29 c29 [.tmp 4] 2 := ⟨Try.f29, by kernel_rfl, by simp only [Try.f29, c29, bodyOf], by kernel_rfl, of_decide_eq_true (by kernel_rfl)⟩

/- (*turnstoneref1.Heap).Alloc -/
noncomputable def c30 : Code := bodyOf Try.f30
noncomputable def r30_0 : Code := Code.sub [0] c30
noncomputable def r30_1 : Code := Code.sub [1, 0, 0] c30
noncomputable def r30_2 : Code := Code.sub [1, 0, 1, 0, 0] c30
noncomputable def r30_3 : Code := Code.sub [1, 1, 0] c30
noncomputable def r30_4 : Code := Code.sub [1, 1, 1, 0] c30
noncomputable def r30_5 : Code := Code.sub [1, 1, 1, 1, 0, 0] c30
noncomputable def r30_6 : Code := Code.sub [1, 1, 1, 1, 0, 1, 0, 0, 0, 0] c30
noncomputable def r30_7 : Code := Code.sub [1, 1, 1, 1, 0, 1, 0, 0, 1, 0, 0] c30
noncomputable def r30_8 : Code := Code.sub [1, 1, 1, 1, 0, 1, 0, 0, 1, 1] c30
noncomputable def r30_9 : Code := Code.sub [1, 1, 1, 1, 1, 0] c30
theorem body30 : c30 = (.seq r30_0 (.seq (.seq r30_1 (.cond (.tmp 38) (.seq r30_2 .ret) .skip)) (.seq r30_3 (.seq r30_4 (.seq (.seq r30_5 (.block 0 (.loop (.seq (.seq r30_6 (.cond (.tmp 62) .skip (.exit 0))) (.seq (.block 1 r30_7) r30_8))))) (.seq r30_9 .ret)))))) := by kernel_rfl
noncomputable def L30_0 : {l : List Oper // (opsOf r30_0).map strip = l} := by refine ⟨?l, ?h⟩; case h => simp only [r30_0, c30, bodyOf, Try.f30, Code.sub, opsOf, List.map_cons, List.map_nil, strip]; rfl
theorem w30_0 : W Try.prog TT S 10 [38, 62] r30_0 k E m Q ↔ Rg Try.prog TT S 10 [38, 62] [6, 7] [] (lgo E [] (lops Try.prog (callw Try.prog TT S) [(some 6), (some 7)] (L30_0).1 E m)) k E Q := w_plain (by kernel_rfl) (L30_0).2
noncomputable def L30_1 : {l : List Oper // (opsOf r30_1).map strip = l} := by refine ⟨?l, ?h⟩; case h => simp only [r30_1, c30, bodyOf, Try.f30, Code.sub, opsOf, List.map_cons, List.map_nil, strip]; rfl
theorem w30_1 : W Try.prog TT S 10 [38, 62] r30_1 k E m Q ↔ Rg Try.prog TT S 10 [38, 62] [] [38] (lgo E [1, 2, 0] (lops Try.prog (callw Try.prog TT S) [(some 10), (some 11), (some 12), (some 13), (some 14), (some 15), (some 16), (some 17), (some 18), (some 19), (some 20), (some 21), (some 22), (some 23), (some 24), (some 25), (some 26), (some 27), (some 28), (some 29), (some 30), (some 31), (some 32), (some 33), (some 34), (some 35), (some 36), (some 37), (some 38)] (L30_1).1 E m)) k E Q := w_plain (by kernel_rfl) (L30_1).2
noncomputable def L30_2 : {l : List Oper // (opsOf r30_2).map strip = l} := by refine ⟨?l, ?h⟩; case h => simp only [r30_2, c30, bodyOf, Try.f30, Code.sub, opsOf, List.map_cons, List.map_nil, strip]; rfl
theorem w30_2 : W Try.prog TT S 10 [38, 62] r30_2 k E m Q ↔ Rg Try.prog TT S 10 [38, 62] [6, 7] [] (lgo E [] (lops Try.prog (callw Try.prog TT S) [(some 6), (some 7)] (L30_2).1 E m)) k E Q := w_plain (by kernel_rfl) (L30_2).2
noncomputable def L30_3 : {l : List Oper // (opsOf r30_3).map strip = l} := by refine ⟨?l, ?h⟩; case h => simp only [r30_3, c30, bodyOf, Try.f30, Code.sub, opsOf, List.map_cons, List.map_nil, strip]; rfl
theorem w30_3 : W Try.prog TT S 10 [38, 62] r30_3 k E m Q ↔ Rg Try.prog TT S 10 [38, 62] [8] [] (lgo E [0] (lops Try.prog (callw Try.prog TT S) [(some 39), (some 40), (some 41), (some 42), (some 43), (some 44), (some 8)] (L30_3).1 E m)) k E Q := w_plain (by kernel_rfl) (L30_3).2
noncomputable def L30_4 : {l : List Oper // (opsOf r30_4).map strip = l} := by refine ⟨?l, ?h⟩; case h => simp only [r30_4, c30, bodyOf, Try.f30, Code.sub, opsOf, List.map_cons, List.map_nil, strip]; rfl
theorem w30_4 : W Try.prog TT S 10 [38, 62] r30_4 k E m Q ↔ Rg Try.prog TT S 10 [38, 62] [] [] (lgo E [0, 1, 2] (lops Try.prog (callw Try.prog TT S) [(some 45), (some 46), (some 47), (some 48), (some 49), (some 50), (some 51), (some 52), (some 53), (some 54), (some 55), (some 56), (some 57), (some 58), (some 59), none] (L30_4).1 E m)) k E Q := w_plain (by kernel_rfl) (L30_4).2
noncomputable def L30_5 : {l : List Oper // (opsOf r30_5).map strip = l} := by refine ⟨?l, ?h⟩; case h => simp only [r30_5, c30, bodyOf, Try.f30, Code.sub, opsOf, List.map_cons, List.map_nil, strip]; rfl
theorem w30_5 : W Try.prog TT S 10 [38, 62] r30_5 k E m Q ↔ Rg Try.prog TT S 10 [38, 62] [9] [] (lgo E [] (lops Try.prog (callw Try.prog TT S) [(some 9)] (L30_5).1 E m)) k E Q := w_plain (by kernel_rfl) (L30_5).2
noncomputable def L30_6 : {l : List Oper // (opsOf r30_6).map strip = l} := by refine ⟨?l, ?h⟩; case h => simp only [r30_6, c30, bodyOf, Try.f30, Code.sub, opsOf, List.map_cons, List.map_nil, strip]; rfl
theorem w30_6 : W Try.prog TT S 10 [38, 62] r30_6 k E m Q ↔ Rg Try.prog TT S 10 [38, 62] [] [62] (lgo E [9, 2] (lops Try.prog (callw Try.prog TT S) [(some 60), (some 61), (some 62)] (L30_6).1 E m)) k E Q := w_plain (by kernel_rfl) (L30_6).2
noncomputable def L30_7 : {l : List Oper // (opsOf r30_7).map strip = l} := by refine ⟨?l, ?h⟩; case h => simp only [r30_7, c30, bodyOf, Try.f30, Code.sub, opsOf, List.map_cons, List.map_nil, strip]; rfl
theorem w30_7 : W Try.prog TT S 10 [38, 62] r30_7 k E m Q ↔ Rg Try.prog TT S 10 [38, 62] [] [] (lgo E [0] (lops Try.prog (callw Try.prog TT S) [(some 65), (some 66), (some 67), (some 68), (some 69), (some 70), (some 71), (some 72), (some 73), none] (L30_7).1 E m)) k E Q := w_plain (by kernel_rfl) (L30_7).2
noncomputable def L30_8 : {l : List Oper // (opsOf r30_8).map strip = l} := by refine ⟨?l, ?h⟩; case h => simp only [r30_8, c30, bodyOf, Try.f30, Code.sub, opsOf, List.map_cons, List.map_nil, strip]; rfl
theorem w30_8 : W Try.prog TT S 10 [38, 62] r30_8 k E m Q ↔ Rg Try.prog TT S 10 [38, 62] [9] [] (lgo E [9] (lops Try.prog (callw Try.prog TT S) [(some 63), (some 64), (some 9)] (L30_8).1 E m)) k E Q := w_plain (by kernel_rfl) (L30_8).2
noncomputable def L30_9 : {l : List Oper // (opsOf r30_9).map strip = l} := by refine ⟨?l, ?h⟩; case h => simp only [r30_9, c30, bodyOf, Try.f30, Code.sub, opsOf, List.map_cons, List.map_nil, strip]; rfl
theorem w30_9 : W Try.prog TT S 10 [38, 62] r30_9 k E m Q ↔ Rg Try.prog TT S 10 [38, 62] [6, 7] [] (lgo E [8] (lops Try.prog (callw Try.prog TT S) [(some 74), (some 6), (some 7)] (L30_9).1 E m)) k E Q := w_plain (by kernel_rfl) (L30_9).2
theorem k30 : FnIs TT 30 c30 [.tmp 6, .tmp 7] 3 := ⟨Try.f30, by kernel_rfl, by simp only [Try.f30, c30, bodyOf], by kernel_rfl, of_decide_eq_true (by kernel_rfl)⟩

/- (*turnstoneref1.Heap).Type -/
noncomputable def c31 : Code := bodyOf Try.f31
noncomputable def r31_0 : Code := Code.sub [0] c31
noncomputable def r31_1 : Code := Code.sub [1, 0] c31
theorem body31 : c31 = (.seq r31_0 (.seq r31_1 .ret)) := by kernel_rfl
noncomputable def L31_0 : {l : List Oper // (opsOf r31_0).map strip = l} := by refine ⟨?l, ?h⟩; case h => simp only [r31_0, c31, bodyOf, Try.f31, Code.sub, opsOf, List.map_cons, List.map_nil, strip]; rfl
theorem w31_0 : W Try.prog TT S 5 [] r31_0 k E m Q ↔ Rg Try.prog TT S 5 [] [4] [] (lgo E [] (lops Try.prog (callw Try.prog TT S) [(some 4)] (L31_0).1 E m)) k E Q := w_plain (by kernel_rfl) (L31_0).2
noncomputable def L31_1 : {l : List Oper // (opsOf r31_1).map strip = l} := by refine ⟨?l, ?h⟩; case h => simp only [r31_1, c31, bodyOf, Try.f31, Code.sub, opsOf, List.map_cons, List.map_nil, strip]; rfl
theorem w31_1 : W Try.prog TT S 5 [] r31_1 k E m Q ↔ Rg Try.prog TT S 5 [] [4] [] (lgo E [0, 1] (lops Try.prog (callw Try.prog TT S) [(some 5), (some 6), (some 7), (some 8), (some 9), (some 4)] (L31_1).1 E m)) k E Q := w_plain (by kernel_rfl) (L31_1).2
theorem k31 : FnIs TT 31 c31 [.tmp 4] 2 := ⟨Try.f31, by kernel_rfl, by simp only [Try.f31, c31, bodyOf], by kernel_rfl, of_decide_eq_true (by kernel_rfl)⟩

/- (*turnstoneref1.Heap).Len -/
noncomputable def c32 : Code := bodyOf Try.f32
noncomputable def r32_0 : Code := Code.sub [0] c32
noncomputable def r32_1 : Code := Code.sub [1, 0] c32
theorem body32 : c32 = (.seq r32_0 (.seq r32_1 .ret)) := by kernel_rfl
noncomputable def L32_0 : {l : List Oper // (opsOf r32_0).map strip = l} := by refine ⟨?l, ?h⟩; case h => simp only [r32_0, c32, bodyOf, Try.f32, Code.sub, opsOf, List.map_cons, List.map_nil, strip]; rfl
theorem w32_0 : W Try.prog TT S 5 [] r32_0 k E m Q ↔ Rg Try.prog TT S 5 [] [4] [] (lgo E [] (lops Try.prog (callw Try.prog TT S) [(some 4)] (L32_0).1 E m)) k E Q := w_plain (by kernel_rfl) (L32_0).2
noncomputable def L32_1 : {l : List Oper // (opsOf r32_1).map strip = l} := by refine ⟨?l, ?h⟩; case h => simp only [r32_1, c32, bodyOf, Try.f32, Code.sub, opsOf, List.map_cons, List.map_nil, strip]; rfl
theorem w32_1 : W Try.prog TT S 5 [] r32_1 k E m Q ↔ Rg Try.prog TT S 5 [] [4] [] (lgo E [0, 1] (lops Try.prog (callw Try.prog TT S) [(some 5), (some 6), (some 7), (some 8), (some 9), (some 4)] (L32_1).1 E m)) k E Q := w_plain (by kernel_rfl) (L32_1).2
theorem k32 : FnIs TT 32 c32 [.tmp 4] 2 := ⟨Try.f32, by kernel_rfl, by simp only [Try.f32, c32, bodyOf], by kernel_rfl, of_decide_eq_true (by kernel_rfl)⟩

/- (*turnstoneref1.Heap).Get -/
noncomputable def c33 : Code := bodyOf Try.f33
noncomputable def r33_0 : Code := Code.sub [0] c33
noncomputable def r33_1 : Code := Code.sub [1, 0, 0] c33
noncomputable def r33_2 : Code := Code.sub [1, 0, 1, 0, 0] c33
noncomputable def r33_3 : Code := Code.sub [1, 1, 0] c33
theorem body33 : c33 = (.seq r33_0 (.seq (.seq r33_1 (.cond (.tmp 19) (.seq r33_2 .ret) .skip)) (.seq r33_3 .ret))) := by kernel_rfl
noncomputable def L33_0 : {l : List Oper // (opsOf r33_0).map strip = l} := by refine ⟨?l, ?h⟩; case h => simp only [r33_0, c33, bodyOf, Try.f33, Code.sub, opsOf, List.map_cons, List.map_nil, strip]; rfl
theorem w33_0 : W Try.prog TT S 7 [19] r33_0 k E m Q ↔ Rg Try.prog TT S 7 [19] [6] [] (lgo E [] (lops Try.prog (callw Try.prog TT S) [(some 6)] (L33_0).1 E m)) k E Q := w_plain (by kernel_rfl) (L33_0).2
noncomputable def L33_1 : {l : List Oper // (opsOf r33_1).map strip = l} := by refine ⟨?l, ?h⟩; case h => simp only [r33_1, c33, bodyOf, Try.f33, Code.sub, opsOf, List.map_cons, List.map_nil, strip]; rfl
theorem w33_1 : W Try.prog TT S 7 [19] r33_1 k E m Q ↔ Rg Try.prog TT S 7 [19] [] [19] (lgo E [2, 0, 1] (lops Try.prog (callw Try.prog TT S) [(some 7), (some 8), (some 9), (some 10), (some 11), (some 12), (some 13), (some 14), (some 15), (some 16), (some 17), (some 18), (some 19)] (L33_1).1 E m)) k E Q := w_plain (by kernel_rfl) (L33_1).2
noncomputable def L33_2 : {l : List Oper // (opsOf r33_2).map strip = l} := by refine ⟨?l, ?h⟩; case h => simp only [r33_2, c33, bodyOf, Try.f33, Code.sub, opsOf, List.map_cons, List.map_nil, strip]; rfl
theorem w33_2 : W Try.prog TT S 7 [19] r33_2 k E m Q ↔ Rg Try.prog TT S 7 [19] [6] [] (lgo E [] (lops Try.prog (callw Try.prog TT S) [(some 6)] (L33_2).1 E m)) k E Q := w_plain (by kernel_rfl) (L33_2).2
noncomputable def L33_3 : {l : List Oper // (opsOf r33_3).map strip = l} := by refine ⟨?l, ?h⟩; case h => simp only [r33_3, c33, bodyOf, Try.f33, Code.sub, opsOf, List.map_cons, List.map_nil, strip]; rfl
theorem w33_3 : W Try.prog TT S 7 [19] r33_3 k E m Q ↔ Rg Try.prog TT S 7 [19] [6] [] (lgo E [0, 1, 2] (lops Try.prog (callw Try.prog TT S) [(some 20), (some 21), (some 22), (some 23), (some 24), (some 25), (some 26), (some 6)] (L33_3).1 E m)) k E Q := w_plain (by kernel_rfl) (L33_3).2
theorem k33 : FnIs TT 33 c33 [.tmp 6] 3 := ⟨Try.f33, by kernel_rfl, by simp only [Try.f33, c33, bodyOf], by kernel_rfl, of_decide_eq_true (by kernel_rfl)⟩

/- (*turnstoneref1.Heap).Word -/
noncomputable def c34 : Code := bodyOf Try.f34
noncomputable def r34_0 : Code := Code.sub [0] c34
noncomputable def r34_1 : Code := Code.sub [1, 0, 0] c34
noncomputable def r34_2 : Code := Code.sub [1, 0, 1, 0, 0] c34
noncomputable def r34_3 : Code := Code.sub [1, 1, 0] c34
theorem body34 : c34 = (.seq r34_0 (.seq (.seq r34_1 (.cond (.tmp 12) (.seq r34_2 .ret) .skip)) (.seq r34_3 .ret))) := by kernel_rfl
noncomputable def L34_0 : {l : List Oper // (opsOf r34_0).map strip = l} := by refine ⟨?l, ?h⟩; case h => simp only [r34_0, c34, bodyOf, Try.f34, Code.sub, opsOf, List.map_cons, List.map_nil, strip]; rfl
theorem w34_0 : W Try.prog TT S 5 [12] r34_0 k E m Q ↔ Rg Try.prog TT S 5 [12] [4] [] (lgo E [] (lops Try.prog (callw Try.prog TT S) [(some 4)] (L34_0).1 E m)) k E Q := w_plain (by kernel_rfl) (L34_0).2
noncomputable def L34_1 : {l : List Oper // (opsOf r34_1).map strip = l} := by refine ⟨?l, ?h⟩; case h => simp only [r34_1, c34, bodyOf, Try.f34, Code.sub, opsOf, List.map_cons, List.map_nil, strip]; rfl
theorem w34_1 : W Try.prog TT S 5 [12] r34_1 k E m Q ↔ Rg Try.prog TT S 5 [12] [] [12] (lgo E [1, 0] (lops Try.prog (callw Try.prog TT S) [(some 5), (some 6), (some 7), (some 8), (some 9), (some 10), (some 11), (some 12)] (L34_1).1 E m)) k E Q := w_plain (by kernel_rfl) (L34_1).2
noncomputable def L34_2 : {l : List Oper // (opsOf r34_2).map strip = l} := by refine ⟨?l, ?h⟩; case h => simp only [r34_2, c34, bodyOf, Try.f34, Code.sub, opsOf, List.map_cons, List.map_nil, strip]; rfl
theorem w34_2 : W Try.prog TT S 5 [12] r34_2 k E m Q ↔ Rg Try.prog TT S 5 [12] [4] [] (lgo E [] (lops Try.prog (callw Try.prog TT S) [(some 4)] (L34_2).1 E m)) k E Q := w_plain (by kernel_rfl) (L34_2).2
noncomputable def L34_3 : {l : List Oper // (opsOf r34_3).map strip = l} := by refine ⟨?l, ?h⟩; case h => simp only [r34_3, c34, bodyOf, Try.f34, Code.sub, opsOf, List.map_cons, List.map_nil, strip]; rfl
theorem w34_3 : W Try.prog TT S 5 [12] r34_3 k E m Q ↔ Rg Try.prog TT S 5 [12] [4] [] (lgo E [0, 1] (lops Try.prog (callw Try.prog TT S) [(some 13), (some 14), (some 15), (some 16), (some 17), (some 18), (some 19), (some 4)] (L34_3).1 E m)) k E Q := w_plain (by kernel_rfl) (L34_3).2
theorem k34 : FnIs TT 34 c34 [.tmp 4] 2 := ⟨Try.f34, by kernel_rfl, by simp only [Try.f34, c34, bodyOf], by kernel_rfl, of_decide_eq_true (by kernel_rfl)⟩

/- (*turnstoneref1.Heap).String -/
noncomputable def c35 : Code := bodyOf Try.f35
noncomputable def r35_0 : Code := Code.sub [0] c35
noncomputable def r35_1 : Code := Code.sub [1, 0] c35
noncomputable def r35_2 : Code := Code.sub [1, 1, 0, 0] c35
noncomputable def r35_3 : Code := Code.sub [1, 1, 0, 1, 0, 0, 0, 0] c35
noncomputable def r35_4 : Code := Code.sub [1, 1, 0, 1, 0, 0, 1, 0, 0] c35
noncomputable def r35_5 : Code := Code.sub [1, 1, 0, 1, 0, 0, 1, 1] c35
noncomputable def r35_6 : Code := Code.sub [1, 1, 1, 0] c35
theorem body35 : c35 = (.seq r35_0 (.seq r35_1 (.seq (.seq r35_2 (.block 0 (.loop (.seq (.seq r35_3 (.cond (.tmp 21) .skip (.exit 0))) (.seq (.block 1 r35_4) r35_5))))) (.seq r35_6 .ret)))) := by kernel_rfl
noncomputable def L35_0 : {l : List Oper // (opsOf r35_0).map strip = l} := by refine ⟨?l, ?h⟩; case h => simp only [r35_0, c35, bodyOf, Try.f35, Code.sub, opsOf, List.map_cons, List.map_nil, strip]; rfl
theorem w35_0 : W Try.prog TT S 7 [21] r35_0 k E m Q ↔ Rg Try.prog TT S 7 [21] [4] [] (lgo E [] (lops Try.prog (callw Try.prog TT S) [(some 4)] (L35_0).1 E m)) k E Q := w_plain (by kernel_rfl) (L35_0).2
noncomputable def L35_1 : {l : List Oper // (opsOf r35_1).map strip = l} := by refine ⟨?l, ?h⟩; case h => simp only [r35_1, c35, bodyOf, Try.f35, Code.sub, opsOf, List.map_cons, List.map_nil, strip]; rfl
theorem w35_1 : W Try.prog TT S 7 [21] r35_1 k E m Q ↔ Rg Try.prog TT S 7 [21] [5] [] (lgo E [] (lops Try.prog (callw Try.prog TT S) [(some 5)] (L35_1).1 E m)) k E Q := w_plain (by kernel_rfl) (L35_1).2
noncomputable def L35_2 : {l : List Oper // (opsOf r35_2).map strip = l} := by refine ⟨?l, ?h⟩; case h => simp only [r35_2, c35, bodyOf, Try.f35, Code.sub, opsOf, List.map_cons, List.map_nil, strip]; rfl
theorem w35_2 : W Try.prog TT S 7 [21] r35_2 k E m Q ↔ Rg Try.prog TT S 7 [21] [6] [] (lgo E [] (lops Try.prog (callw Try.prog TT S) [(some 6)] (L35_2).1 E m)) k E Q := w_plain (by kernel_rfl) (L35_2).2
noncomputable def L35_3 : {l : List Oper // (opsOf r35_3).map strip = l} := by refine ⟨?l, ?h⟩; case h => simp only [r35_3, c35, bodyOf, Try.f35, Code.sub, opsOf, List.map_cons, List.map_nil, strip]; rfl
theorem w35_3 : W Try.prog TT S 7 [21] r35_3 k E m Q ↔ Rg Try.prog TT S 7 [21] [] [21] (lgo E [6, 1, 5, 0] (lops Try.prog (callw Try.prog TT S) [(some 7), (some 8), (some 9), (some 10), (some 11), (some 12), (some 13), (some 14), (some 15), (some 16), (some 17), (some 18), (some 19), (some 20), (some 21)] (L35_3).1 E m)) k E Q := w_plain (by kernel_rfl) (L35_3).2
noncomputable def L35_4 : {l : List Oper // (opsOf r35_4).map strip = l} := by refine ⟨?l, ?h⟩; case h => simp only [r35_4, c35, bodyOf, Try.f35, Code.sub, opsOf, List.map_cons, List.map_nil, strip]; rfl
theorem w35_4 : W Try.prog TT S 7 [21] r35_4 k E m Q ↔ Rg Try.prog TT S 7 [21] [5] [] (lgo E [5, 0, 1, 6] (lops Try.prog (callw Try.prog TT S) [(some 24), (some 25), (some 26), (some 27), (some 28), (some 29), (some 30), (some 31), (some 5)] (L35_4).1 E m)) k E Q := w_plain (by kernel_rfl) (L35_4).2
noncomputable def L35_5 : {l : List Oper // (opsOf r35_5).map strip = l} := by refine ⟨?l, ?h⟩; case h => simp only [r35_5, c35, bodyOf, Try.f35, Code.sub, opsOf, List.map_cons, List.map_nil, strip]; rfl
theorem w35_5 : W Try.prog TT S 7 [21] r35_5 k E m Q ↔ Rg Try.prog TT S 7 [21] [6] [] (lgo E [6] (lops Try.prog (callw Try.prog TT S) [(some 22), (some 23), (some 6)] (L35_5).1 E m)) k E Q := w_plain (by kernel_rfl) (L35_5).2
noncomputable def L35_6 : {l : List Oper // (opsOf r35_6).map strip = l} := by refine ⟨?l, ?h⟩; case h => simp only [r35_6, c35, bodyOf, Try.f35, Code.sub, opsOf, List.map_cons, List.map_nil, strip]; rfl
theorem w35_6 : W Try.prog TT S 7 [21] r35_6 k E m Q ↔ Rg Try.prog TT S 7 [21] [4] [] (lgo E [5] (lops Try.prog (callw Try.prog TT S) [(some 32), (some 33), (some 4)] (L35_6).1 E m)) k E Q := w_plain (by kernel_rfl) (L35_6).2
theorem k35 : FnIs TT 35 c35 [.tmp 4] 2 := ⟨Try.f35, by kernel_rfl, by simp only [Try.f35, c35, bodyOf], by kernel_rfl, of_decide_eq_true (by kernel_rfl)⟩

/- (*heap.Heap).at -/
noncomputable def c36 : Code := bodyOf Try.f36
noncomputable def r36_0 : Code := Code.sub [0] c36
noncomputable def r36_1 : Code := Code.sub [1, 0, 0] c36
noncomputable def r36_2 : Code := Code.sub [1, 0, 1, 0, 0] c36
noncomputable def r36_3 : Code := Code.sub [1, 1, 0] c36
theorem body36 : c36 = (.seq r36_0 (.seq (.seq r36_1 (.cond (.tmp 15) (.seq r36_2 .ret) .skip)) (.seq r36_3 .ret))) := by kernel_rfl
noncomputable def L36_0 : {l : List Oper // (opsOf r36_0).map strip = l} := by refine ⟨?l, ?h⟩; case h => simp only [r36_0, c36, bodyOf, Try.f36, Code.sub, opsOf, List.map_cons, List.map_nil, strip]; rfl
theorem w36_0 : W Try.prog TT S 7 [15] r36_0 k E m Q ↔ Rg Try.prog TT S 7 [15] [6] [] (lgo E [] (lops Try.prog (callw Try.prog TT S) [(some 6)] (L36_0).1 E m)) k E Q := w_plain (by kernel_rfl) (L36_0).2
noncomputable def L36_1 : {l : List Oper // (opsOf r36_1).map strip = l} := by refine ⟨?l, ?h⟩; case h => simp only [r36_1, c36, bodyOf, Try.f36, Code.sub, opsOf, List.map_cons, List.map_nil, strip]; rfl
theorem w36_1 : W Try.prog TT S 7 [15] r36_1 k E m Q ↔ Rg Try.prog TT S 7 [15] [] [15] (lgo E [2, 0, 1] (lops Try.prog (callw Try.prog TT S) [(some 7), (some 8), (some 9), (some 10), (some 11), (some 12), (some 13), (some 14), (some 15)] (L36_1).1 E m)) k E Q := w_plain (by kernel_rfl) (L36_1).2
noncomputable def L36_2 : {l : List Oper // (opsOf r36_2).map strip = l} := by refine ⟨?l, ?h⟩; case h => simp only [r36_2, c36, bodyOf, Try.f36, Code.sub, opsOf, List.map_cons, List.map_nil, strip]; rfl
theorem w36_2 : W Try.prog TT S 7 [15] r36_2 k E m Q ↔ Rg Try.prog TT S 7 [15] [6] [] (lgo E [] (lops Try.prog (callw Try.prog TT S) [(some 6)] (L36_2).1 E m)) k E Q := w_plain (by kernel_rfl) (L36_2).2
noncomputable def L36_3 : {l : List Oper // (opsOf r36_3).map strip = l} := by refine ⟨?l, ?h⟩; case h => simp only [r36_3, c36, bodyOf, Try.f36, Code.sub, opsOf, List.map_cons, List.map_nil, strip]; rfl
theorem w36_3 : W Try.prog TT S 7 [15] r36_3 k E m Q ↔ Rg Try.prog TT S 7 [15] [6] [] (lgo E [1, 2] (lops Try.prog (callw Try.prog TT S) [(some 16), (some 17), (some 18), (some 19), (some 20), (some 6)] (L36_3).1 E m)) k E Q := w_plain (by kernel_rfl) (L36_3).2
theorem k36 : FnIs TT 36 c36 [.tmp 6] 3 := ⟨Try.f36, by kernel_rfl, by simp only [Try.f36, c36, bodyOf], by kernel_rfl, of_decide_eq_true (by kernel_rfl)⟩

/- (*heap.Heap).head -/
noncomputable def c37 : Code := bodyOf Try.f37
noncomputable def r37_0 : Code := Code.sub [0] c37
noncomputable def r37_1 : Code := Code.sub [1, 0] c37
theorem body37 : c37 = (.seq r37_0 (.seq r37_1 .ret)) := by kernel_rfl
noncomputable def L37_0 : {l : List Oper // (opsOf r37_0).map strip = l} := by refine ⟨?l, ?h⟩; case h => simp only [r37_0, c37, bodyOf, Try.f37, Code.sub, opsOf, List.map_cons, List.map_nil, strip]; rfl
theorem w37_0 : W Try.prog TT S 5 [] r37_0 k E m Q ↔ Rg Try.prog TT S 5 [] [4] [] (lgo E [] (lops Try.prog (callw Try.prog TT S) [(some 4)] (L37_0).1 E m)) k E Q := w_plain (by kernel_rfl) (L37_0).2
noncomputable def L37_1 : {l : List Oper // (opsOf r37_1).map strip = l} := by refine ⟨?l, ?h⟩; case h => simp only [r37_1, c37, bodyOf, Try.f37, Code.sub, opsOf, List.map_cons, List.map_nil, strip]; rfl
theorem w37_1 : W Try.prog TT S 5 [] r37_1 k E m Q ↔ Rg Try.prog TT S 5 [] [4] [] (lgo E [0, 1] (lops Try.prog (callw Try.prog TT S) [(some 5), (some 6), (some 7), (some 4)] (L37_1).1 E m)) k E Q := w_plain (by kernel_rfl) (L37_1).2
theorem k37 : FnIs TT 37 c37 [.tmp 4] 2 := ⟨Try.f37, by kernel_rfl, by simp only [Try.f37, c37, bodyOf], by kernel_rfl, of_decide_eq_true (by kernel_rfl)⟩

/- what rewriting uses in the walks -/
attribute [simp] w_seq w_cond_tmp w_ret w_skip w_exit w_block w_loop r_nil r_seq r_seq_ret r_seq_exit r_block
attribute [simp] r_block_ret r_block_exit r_loop r_loop_ret r_loop_exit cnd_t cnd_f rg_some lgo_n lgo_c lops_nil lops_cons
attribute [simp] lk_some lop1_plain lop1_guard gdv_b gdv_u gd_tt gd_ff gd_tf gd_ft lput_s lput_n lev_t
attribute [simp] lev_c lev_g lev_f lget_n lget_c lset_n lset_c lkeep_n lkeep_c lsets_n lsets_c lconds_n
attribute [simp] lconds_c lfill qf_d okx lresults lresultsL lres_tmp o_move o_assign o_bin o_pick o_nilCheck
attribute [simp] o_fieldAddr o_load o_len o_store o_conv o_un o_extract o_append o_call2 o_callv o_buildSlice o_box
attribute [simp] o_alloc o_build o_indexAddr o_slice o_index o_field o_makeFunc o_makeSlice o_min o_max loOf_none loOf_some
attribute [simp] hiOf_none hiOf_some natOf_int sliceS_some strOp sz_str cat_str list_str s_binOp fastBin s_unOp fastUn
attribute [simp] boolEq int_beq int_bne txt_beq one_int one_slice one_ptr one_bool one_str cells_int cells_slice cells_ptr
attribute [simp] cells_bool cells_str cells_agg flatEq_n flatEq_c ba_beq closedA_l closedL_n closedL_c closedV_int closedV_str closedV_bool
attribute [simp] loadRow_new window over Instr.fill repl lst_nil lst_cons lks_some lkc_some lloud_some lreads_n lreads_c
attribute [simp] lsame_d eqV_int eqV_slice eqV_ptr eqV_agg eqL_n eqL_c eqV_str eqV_bool eqV_undef
attribute [simp] body8 w8_0 L8_0 w8_1 L8_1 w8_2 L8_2 w8_3 L8_3 w8_4 L8_4 w8_5 L8_5 w8_6 L8_6 w8_7 L8_7 w8_8 L8_8 w8_9 L8_9 w8_10 L8_10 w8_11 L8_11 w8_12 L8_12 w8_13 L8_13 w8_14 L8_14 w8_15 L8_15 w8_16 L8_16 w8_17 L8_17 w8_18 L8_18 w8_19 L8_19 w8_20 L8_20 w8_21 L8_21 w8_22 L8_22 w8_23 L8_23 w8_24 L8_24 w8_25 L8_25 w8_26 L8_26 w8_27 L8_27 w8_28 L8_28 w8_29 L8_29 w8_30 L8_30 w8_31 L8_31 w8_32 L8_32 w8_33 L8_33 w8_34 L8_34 w8_35 L8_35 w8_36 L8_36 w8_37 L8_37 w8_38 L8_38 w8_39 L8_39
attribute [simp] body9 w9_0 L9_0 w9_1 L9_1 w9_2 L9_2 w9_3 L9_3 w9_4 L9_4
attribute [simp] body10 w10_0 L10_0 w10_1 L10_1 w10_2 L10_2 w10_3 L10_3
attribute [simp] body12 w12_0 L12_0 w12_1 L12_1 w12_2 L12_2 w12_3 L12_3 w12_4 L12_4 w12_5 L12_5 w12_6 L12_6
attribute [simp] body13 w13_0 L13_0 w13_1 L13_1
attribute [simp] body14 w14_0 L14_0 w14_1 L14_1
attribute [simp] body15 w15_0 L15_0 w15_1 L15_1
attribute [simp] body17 w17_0 L17_0 w17_1 L17_1 w17_2 L17_2 w17_3 L17_3 w17_4 L17_4
attribute [simp] body18 w18_0 L18_0 w18_1 L18_1
attribute [simp] body19 w19_0 L19_0 w19_1 L19_1
attribute [simp] body20 w20_0 L20_0 w20_1 L20_1
attribute [simp] body21 w21_0 L21_0 w21_1 L21_1
attribute [simp] body22 w22_0 L22_0 w22_1 L22_1 w22_2 L22_2 w22_3 L22_3
attribute [simp] body23 w23_0 L23_0 w23_1 L23_1 w23_2 L23_2 w23_3 L23_3 w23_4 L23_4 w23_5 L23_5 w23_6 L23_6 w23_7 L23_7 w23_8 L23_8
attribute [simp] body24 w24_0 L24_0 w24_1 L24_1 w24_2 L24_2 w24_3 L24_3 w24_4 L24_4 w24_5 L24_5 w24_6 L24_6 w24_7 L24_7
attribute [simp] body25 w25_0 L25_0 w25_1 L25_1
attribute [simp] body26 w26_0 L26_0 w26_1 L26_1 w26_2 L26_2 w26_3 L26_3
attribute [simp] body27 w27_0 L27_0 w27_1 L27_1 w27_2 L27_2 w27_3 L27_3 w27_4 L27_4
attribute [simp] body28 w28_0 L28_0 w28_1 L28_1 w28_2 L28_2 w28_3 L28_3 w28_4 L28_4 w28_5 L28_5 w28_6 L28_6 w28_7 L28_7 w28_8 L28_8 w28_9 L28_9 w28_10 L28_10
attribute [simp] body29 w29_0 L29_0 w29_1 L29_1 w29_2 L29_2 w29_3 L29_3 w29_4 L29_4 w29_5 L29_5 w29_6 L29_6 w29_7 L29_7 w29_8 L29_8 w29_9 L29_9 w29_10 L29_10
attribute [simp] body30 w30_0 L30_0 w30_1 L30_1 w30_2 L30_2 w30_3 L30_3 w30_4 L30_4 w30_5 L30_5 w30_6 L30_6 w30_7 L30_7 w30_8 L30_8 w30_9 L30_9
attribute [simp] body31 w31_0 L31_0 w31_1 L31_1
attribute [simp] body32 w32_0 L32_0 w32_1 L32_1
attribute [simp] body33 w33_0 L33_0 w33_1 L33_1 w33_2 L33_2 w33_3 L33_3
attribute [simp] body34 w34_0 L34_0 w34_1 L34_1 w34_2 L34_2 w34_3 L34_3
attribute [simp] body35 w35_0 L35_0 w35_1 L35_1 w35_2 L35_2 w35_3 L35_3 w35_4 L35_4 w35_5 L35_5 w35_6 L35_6
attribute [simp] body36 w36_0 L36_0 w36_1 L36_1 w36_2 L36_2 w36_3 L36_3
attribute [simp] body37 w37_0 L37_0 w37_1 L37_1
end Go.Proofs.Ytmehepbejckmlaa.gen

