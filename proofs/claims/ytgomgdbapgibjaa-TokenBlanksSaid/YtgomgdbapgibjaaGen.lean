/-
  This text names the regions of the functions that are walked, with the slots that they read and set, and the facts of the types.
  No condition.
-/
import Derived.Test.YtgomgdbapgibjaaProg
import Derived.Test.YtgomgdbapgibjaaShD
set_option maxRecDepth 100000
set_option linter.unusedSimpArgs false
set_option linter.unusedVariables false
namespace Go.Proofs.Ytgomgdbapgibjaa.gen
open Go.Sh
def fns : List FuncId := [3, 4, 5, 6, 8, 9, 10, 11, 12, 13, 14, 15, 16, 17, 18, 19, 20, 21, 22, 23, 24, 25, 26, 27, 28, 29, 30, 31, 32, 33, 34, 35, 36, 37]
noncomputable def TT : FuncId → Option Func := Sh.tabOf Try.prog fns
variable {S : Sums} {m : Mem} {k : List Fr} {E : LEnv} {Q : Post}
theorem ag34 : aggOk Try.prog 34 [(3, 0), (9, 1), (2, 2), (3, 3), (3, 4)] = true := by kernel_rfl
theorem ap34 : apOk Try.prog 34 5 48 = true := by kernel_rfl
theorem ap5 : apOk Try.prog 5 1 1 = true := by kernel_rfl
theorem b34 : (Try.prog.info? 34).isSome = true := by kernel_rfl
theorem b42 : (Try.prog.info? 42).isSome = true := by kernel_rfl
theorem b47 : (Try.prog.info? 47).isSome = true := by kernel_rfl
theorem bo34 : buildOk Try.prog 34 [.int .i64 0, .string ⟨#[]⟩, .int .i64 0, .int .i64 0, .int .i64 0] [(0, 1), (1, 1), (2, 1), (3, 1), (4, 1)] = true := by kernel_rfl
theorem bo42 : buildOk Try.prog 42 [.string ⟨#[]⟩, .int .i64 0, .int .i64 0, .int .i64 0, .slice none 0 0, .int .i64 0, .int .i64 0, .string ⟨#[]⟩, .int .i64 0, .int .i64 0, .int .i64 0] [(0, 1), (1, 1), (2, 1), (3, 1), (4, 1), (5, 1), (6, 5)] = true := by kernel_rfl
theorem bo47 : buildOk Try.prog 47 [.slice none 0 0, .int .i64 0, .int .i64 0, .bool false] [(0, 1), (1, 1), (2, 1), (3, 1)] = true := by kernel_rfl
theorem bs34 : bsOk Try.prog 34 [.int .i64 0, .string ⟨#[]⟩, .int .i64 0, .int .i64 0, .int .i64 0] = true := by kernel_rfl
theorem bs5 : bsOk Try.prog 5 [.int .u8 0] = true := by kernel_rfl
theorem fa34_0 : faOk Try.prog 34 0 0 = true := by kernel_rfl
theorem fa34_1 : faOk Try.prog 34 1 1 = true := by kernel_rfl
theorem fa34_2 : faOk Try.prog 34 2 2 = true := by kernel_rfl
theorem fa34_3 : faOk Try.prog 34 3 3 = true := by kernel_rfl
theorem fa34_4 : faOk Try.prog 34 4 4 = true := by kernel_rfl
theorem fa42_0 : faOk Try.prog 42 0 0 = true := by kernel_rfl
theorem fa42_1 : faOk Try.prog 42 1 1 = true := by kernel_rfl
theorem fa42_2 : faOk Try.prog 42 2 2 = true := by kernel_rfl
theorem fa42_3 : faOk Try.prog 42 3 3 = true := by kernel_rfl
theorem fa42_4 : faOk Try.prog 42 4 4 = true := by kernel_rfl
theorem fa42_5 : faOk Try.prog 42 5 5 = true := by kernel_rfl
theorem fa42_6 : faOk Try.prog 42 6 6 = true := by kernel_rfl
theorem fa47_0 : faOk Try.prog 47 0 0 = true := by kernel_rfl
theorem fa47_1 : faOk Try.prog 47 1 1 = true := by kernel_rfl
theorem fa47_2 : faOk Try.prog 47 2 2 = true := by kernel_rfl
theorem fa47_3 : faOk Try.prog 47 3 3 = true := by kernel_rfl
theorem ld2 : ldOk Try.prog 2 = true := by kernel_rfl
theorem ld3 : ldOk Try.prog 3 = true := by kernel_rfl
theorem ld32 : ldOk Try.prog 32 = true := by kernel_rfl
theorem ld34 : agOk Try.prog 34 5 = true := by kernel_rfl
theorem ld35 : ldOk Try.prog 35 = true := by kernel_rfl
theorem ld4 : ldOk Try.prog 4 = true := by kernel_rfl
theorem ld9 : ldOk Try.prog 9 = true := by kernel_rfl
theorem sz10 : sizeOfT Try.prog 10 = some 1 := by kernel_rfl
theorem sz11 : sizeOfT Try.prog 11 = some 1 := by kernel_rfl
theorem sz12 : sizeOfT Try.prog 12 = some 1 := by kernel_rfl
theorem sz2 : sizeOfT Try.prog 2 = some 1 := by kernel_rfl
theorem sz21 : sizeOfT Try.prog 21 = some 1 := by kernel_rfl
theorem sz22 : sizeOfT Try.prog 22 = some 1 := by kernel_rfl
theorem sz3 : sizeOfT Try.prog 3 = some 1 := by kernel_rfl
theorem sz30 : sizeOfT Try.prog 30 = some 1 := by kernel_rfl
theorem sz31 : sizeOfT Try.prog 31 = some 12 := by kernel_rfl
theorem sz32 : sizeOfT Try.prog 32 = some 1 := by kernel_rfl
theorem sz34 : sizeOfT Try.prog 34 = some 5 := by kernel_rfl
theorem sz35 : sizeOfT Try.prog 35 = some 1 := by kernel_rfl
theorem sz4 : sizeOfT Try.prog 4 = some 1 := by kernel_rfl
theorem sz5 : sizeOfT Try.prog 5 = some 1 := by kernel_rfl
theorem sz56 : sizeOfT Try.prog 56 = some 27 := by kernel_rfl
theorem sz58 : sizeOfT Try.prog 58 = some 1 := by kernel_rfl
theorem sz6 : sizeOfT Try.prog 6 = some 1 := by kernel_rfl
theorem sz66 : sizeOfT Try.prog 66 = some 1 := by kernel_rfl
theorem sz67 : sizeOfT Try.prog 67 = some 1 := by kernel_rfl
theorem sz68 : sizeOfT Try.prog 68 = some 1 := by kernel_rfl
theorem sz71 : sizeOfT Try.prog 71 = some 1 := by kernel_rfl
theorem sz72 : sizeOfT Try.prog 72 = some 1 := by kernel_rfl
theorem sz9 : sizeOfT Try.prog 9 = some 1 := by kernel_rfl
theorem u10 : Try.prog.underlying 10 = some .string := by kernel_rfl
theorem u11 : Try.prog.underlying 11 = some .string := by kernel_rfl
theorem u12 : Try.prog.underlying 12 = some (.int .u64) := by kernel_rfl
theorem u2 : Try.prog.underlying 2 = some (.int .i64) := by kernel_rfl
theorem u21 : Try.prog.underlying 21 = some (.int .i32) := by kernel_rfl
theorem u22 : Try.prog.underlying 22 = some (.slice 5) := by kernel_rfl
theorem u28 : Try.prog.underlying 28 = some (.array 3 9) := by kernel_rfl
theorem u3 : Try.prog.underlying 3 = some (.int .i64) := by kernel_rfl
theorem u30 : Try.prog.underlying 30 = some (.slice 3) := by kernel_rfl
theorem u31 : Try.prog.underlying 31 = some (.array 12 9) := by kernel_rfl
theorem u32 : Try.prog.underlying 32 = some (.slice 34) := by kernel_rfl
theorem u35 : Try.prog.underlying 35 = some (.int .i64) := by kernel_rfl
theorem u4 : Try.prog.underlying 4 = some .bool := by kernel_rfl
theorem u5 : Try.prog.underlying 5 = some (.int .u8) := by kernel_rfl
theorem u56 : Try.prog.underlying 56 = some (.array 27 9) := by kernel_rfl
theorem u58 : Try.prog.underlying 58 = some (.int .u64) := by kernel_rfl
theorem u6 : Try.prog.underlying 6 = some (.int .u8) := by kernel_rfl
theorem u66 : Try.prog.underlying 66 = some (.int .u32) := by kernel_rfl
theorem u67 : Try.prog.underlying 67 = some (.int .u8) := by kernel_rfl
theorem u68 : Try.prog.underlying 68 = some (.int .u8) := by kernel_rfl
theorem u71 : Try.prog.underlying 71 = some (.int .i32) := by kernel_rfl
theorem u72 : Try.prog.underlying 72 = some (.int .i32) := by kernel_rfl
theorem u9 : Try.prog.underlying 9 = some .string := by kernel_rfl
theorem zo28 : zeroOk Try.prog 28 (repl [.string ⟨#[]⟩] 3) = true := by kernel_rfl
theorem zo31 : zeroOk Try.prog 31 [.string ⟨#[]⟩, .string ⟨#[]⟩, .string ⟨#[]⟩, .string ⟨#[]⟩, .string ⟨#[]⟩, .string ⟨#[]⟩, .string ⟨#[]⟩, .string ⟨#[]⟩, .string ⟨#[]⟩, .string ⟨#[]⟩, .string ⟨#[]⟩, .string ⟨#[]⟩] = true := by kernel_rfl
theorem zo34 : zeroOk Try.prog 34 [.int .i64 0, .string ⟨#[]⟩, .int .i64 0, .int .i64 0, .int .i64 0] = true := by kernel_rfl
theorem zo56 : zeroOk Try.prog 56 [.string ⟨#[]⟩, .string ⟨#[]⟩, .string ⟨#[]⟩, .string ⟨#[]⟩, .string ⟨#[]⟩, .string ⟨#[]⟩, .string ⟨#[]⟩, .string ⟨#[]⟩, .string ⟨#[]⟩, .string ⟨#[]⟩, .string ⟨#[]⟩, .string ⟨#[]⟩, .string ⟨#[]⟩, .string ⟨#[]⟩, .string ⟨#[]⟩, .string ⟨#[]⟩, .string ⟨#[]⟩, .string ⟨#[]⟩, .string ⟨#[]⟩, .string ⟨#[]⟩, .string ⟨#[]⟩, .string ⟨#[]⟩, .string ⟨#[]⟩, .string ⟨#[]⟩, .string ⟨#[]⟩, .string ⟨#[]⟩, .string ⟨#[]⟩] = true := by kernel_rfl

/- turnstonelaw3.TokenBlanks -/
noncomputable def c6 : Code := bodyOf Try.f6
noncomputable def r6_0 : Code := Code.sub [0] c6
noncomputable def r6_1 : Code := Code.sub [1, 0] c6
noncomputable def r6_2 : Code := Code.sub [1, 1, 0] c6
noncomputable def r6_3 : Code := Code.sub [1, 1, 1, 0] c6
noncomputable def r6_4 : Code := Code.sub [1, 1, 1, 1, 0, 0] c6
noncomputable def r6_5 : Code := Code.sub [1, 1, 1, 1, 0, 1, 0, 0, 0, 0] c6
noncomputable def r6_6 : Code := Code.sub [1, 1, 1, 1, 0, 1, 0, 0, 1, 0, 0, 0] c6
noncomputable def r6_7 : Code := Code.sub [1, 1, 1, 1, 0, 1, 0, 0, 1, 0, 0, 1, 0] c6
noncomputable def r6_8 : Code := Code.sub [1, 1, 1, 1, 0, 1, 0, 0, 1, 0, 0, 1, 1, 0] c6
noncomputable def r6_9 : Code := Code.sub [1, 1, 1, 1, 0, 1, 0, 0, 1, 0, 0, 1, 1, 1, 0, 0] c6
noncomputable def r6_10 : Code := Code.sub [1, 1, 1, 1, 0, 1, 0, 0, 1, 0, 0, 1, 1, 1, 0, 1, 0] c6
noncomputable def r6_11 : Code := Code.sub [1, 1, 1, 1, 0, 1, 0, 0, 1, 0, 0, 1, 1, 1, 1, 0, 0, 0, 0, 0] c6
noncomputable def r6_12 : Code := Code.sub [1, 1, 1, 1, 0, 1, 0, 0, 1, 0, 0, 1, 1, 1, 1, 0, 0, 0, 1, 0, 0] c6
noncomputable def r6_13 : Code := Code.sub [1, 1, 1, 1, 0, 1, 0, 0, 1, 0, 0, 1, 1, 1, 1, 0, 0, 0, 1, 1] c6
noncomputable def r6_14 : Code := Code.sub [1, 1, 1, 1, 0, 1, 0, 0, 1, 0, 0, 1, 1, 1, 1, 1, 0] c6
noncomputable def r6_15 : Code := Code.sub [1, 1, 1, 1, 0, 1, 0, 0, 1, 0, 0, 1, 1, 1, 1, 1, 1, 0] c6
noncomputable def r6_16 : Code := Code.sub [1, 1, 1, 1, 0, 1, 0, 0, 1, 0, 0, 1, 1, 1, 1, 1, 1, 1, 0] c6
noncomputable def r6_17 : Code := Code.sub [1, 1, 1, 1, 0, 1, 0, 0, 1, 0, 0, 1, 1, 1, 1, 1, 1, 1, 1] c6
noncomputable def r6_18 : Code := Code.sub [1, 1, 1, 1, 0, 1, 0, 0, 1, 1] c6
noncomputable def r6_19 : Code := Code.sub [1, 1, 1, 1, 1, 0] c6
noncomputable def r6_20 : Code := Code.sub [1, 1, 1, 1, 1, 1, 0] c6
noncomputable def r6_21 : Code := Code.sub [1, 1, 1, 1, 1, 1, 1, 0, 0] c6
noncomputable def r6_22 : Code := Code.sub [1, 1, 1, 1, 1, 1, 1, 0, 1, 0, 0] c6
noncomputable def r6_23 : Code := Code.sub [1, 1, 1, 1, 1, 1, 1, 1, 0, 0] c6
noncomputable def r6_24 : Code := Code.sub [1, 1, 1, 1, 1, 1, 1, 1, 0, 1, 0, 0, 0, 0] c6
noncomputable def r6_25 : Code := Code.sub [1, 1, 1, 1, 1, 1, 1, 1, 0, 1, 0, 0, 1, 0, 0, 0] c6
noncomputable def r6_26 : Code := Code.sub [1, 1, 1, 1, 1, 1, 1, 1, 0, 1, 0, 0, 1, 0, 0, 1, 0, 0] c6
noncomputable def r6_27 : Code := Code.sub [1, 1, 1, 1, 1, 1, 1, 1, 0, 1, 0, 0, 1, 1] c6
noncomputable def r6_28 : Code := Code.sub [1, 1, 1, 1, 1, 1, 1, 1, 1, 0] c6
theorem body6 : c6 = (.seq r6_0 (.seq r6_1 (.seq r6_2 (.seq r6_3 (.seq (.seq r6_4 (.block 0 (.loop (.seq (.seq r6_5 (.cond (.tmp 27) .skip (.exit 0))) (.seq (.block 1 (.seq r6_6 (.seq r6_7 (.seq r6_8 (.seq (.seq r6_9 (.cond (.tmp 38) r6_10 .skip)) (.seq (.block 2 (.loop (.seq (.seq r6_11 (.cond (.tmp 45) .skip (.exit 2))) (.seq (.block 3 r6_12) r6_13)))) (.seq r6_14 (.seq r6_15 (.cond (.tmp 66) r6_16 r6_17))))))))) r6_18))))) (.seq r6_19 (.seq r6_20 (.seq (.seq r6_21 (.cond (.tmp 104) (.seq r6_22 .ret) .skip)) (.seq (.seq r6_23 (.block 4 (.loop (.seq (.seq r6_24 (.cond (.tmp 108) .skip (.exit 4))) (.seq (.block 5 (.seq r6_25 (.cond (.tmp 160) (.seq r6_26 .ret) .skip))) r6_27))))) (.seq r6_28 .ret)))))))))) := by kernel_rfl
noncomputable def L6_0 : {l : List Oper // (opsOf r6_0).map strip = l} := by refine ⟨?l, ?h⟩; case h => simp only [r6_0, c6, bodyOf, Try.f6, Code.sub, opsOf, List.map_cons, List.map_nil, strip]; rfl
theorem w6_0 : W Try.prog TT S 19 [27, 38, 45, 66, 104, 108, 160] r6_0 k E m Q ↔ Rg Try.prog TT S 19 [27, 38, 45, 66, 104, 108, 160] [4] [] (lgo E [] (lops Try.prog (callw Try.prog TT S) [(some 4)] (L6_0).1 E m)) k E Q := w_plain (by kernel_rfl) (L6_0).2
noncomputable def L6_1 : {l : List Oper // (opsOf r6_1).map strip = l} := by refine ⟨?l, ?h⟩; case h => simp only [r6_1, c6, bodyOf, Try.f6, Code.sub, opsOf, List.map_cons, List.map_nil, strip]; rfl
theorem w6_1 : W Try.prog TT S 19 [27, 38, 45, 66, 104, 108, 160] r6_1 k E m Q ↔ Rg Try.prog TT S 19 [27, 38, 45, 66, 104, 108, 160] [5] [] (lgo E [] (lops Try.prog (callw Try.prog TT S) [(some 5)] (L6_1).1 E m)) k E Q := w_plain (by kernel_rfl) (L6_1).2
noncomputable def L6_2 : {l : List Oper // (opsOf r6_2).map strip = l} := by refine ⟨?l, ?h⟩; case h => simp only [r6_2, c6, bodyOf, Try.f6, Code.sub, opsOf, List.map_cons, List.map_nil, strip]; rfl
theorem w6_2 : W Try.prog TT S 19 [27, 38, 45, 66, 104, 108, 160] r6_2 k E m Q ↔ Rg Try.prog TT S 19 [27, 38, 45, 66, 104, 108, 160] [6] [] (lgo E [] (lops Try.prog (callw Try.prog TT S) [(some 6)] (L6_2).1 E m)) k E Q := w_plain (by kernel_rfl) (L6_2).2
noncomputable def L6_3 : {l : List Oper // (opsOf r6_3).map strip = l} := by refine ⟨?l, ?h⟩; case h => simp only [r6_3, c6, bodyOf, Try.f6, Code.sub, opsOf, List.map_cons, List.map_nil, strip]; rfl
theorem w6_3 : W Try.prog TT S 19 [27, 38, 45, 66, 104, 108, 160] r6_3 k E m Q ↔ Rg Try.prog TT S 19 [27, 38, 45, 66, 104, 108, 160] [7] [] (lgo E [] (lops Try.prog (callw Try.prog TT S) [(some 19), (some 7), none] (L6_3).1 E m)) k E Q := w_plain (by kernel_rfl) (L6_3).2
noncomputable def L6_4 : {l : List Oper // (opsOf r6_4).map strip = l} := by refine ⟨?l, ?h⟩; case h => simp only [r6_4, c6, bodyOf, Try.f6, Code.sub, opsOf, List.map_cons, List.map_nil, strip]; rfl
theorem w6_4 : W Try.prog TT S 19 [27, 38, 45, 66, 104, 108, 160] r6_4 k E m Q ↔ Rg Try.prog TT S 19 [27, 38, 45, 66, 104, 108, 160] [8] [] (lgo E [] (lops Try.prog (callw Try.prog TT S) [(some 8)] (L6_4).1 E m)) k E Q := w_plain (by kernel_rfl) (L6_4).2
noncomputable def L6_5 : {l : List Oper // (opsOf r6_5).map strip = l} := by refine ⟨?l, ?h⟩; case h => simp only [r6_5, c6, bodyOf, Try.f6, Code.sub, opsOf, List.map_cons, List.map_nil, strip]; rfl
theorem w6_5 : W Try.prog TT S 19 [27, 38, 45, 66, 104, 108, 160] r6_5 k E m Q ↔ Rg Try.prog TT S 19 [27, 38, 45, 66, 104, 108, 160] [] [27] (lgo E [0, 8] (lops Try.prog (callw Try.prog TT S) [(some 20), (some 21), (some 22), (some 23), (some 24), (some 25), (some 26), (some 27)] (L6_5).1 E m)) k E Q := w_plain (by kernel_rfl) (L6_5).2
noncomputable def L6_6 : {l : List Oper // (opsOf r6_6).map strip = l} := by refine ⟨?l, ?h⟩; case h => simp only [r6_6, c6, bodyOf, Try.f6, Code.sub, opsOf, List.map_cons, List.map_nil, strip]; rfl
theorem w6_6 : W Try.prog TT S 19 [27, 38, 45, 66, 104, 108, 160] r6_6 k E m Q ↔ Rg Try.prog TT S 19 [27, 38, 45, 66, 104, 108, 160] [9] [] (lgo E [0, 8] (lops Try.prog (callw Try.prog TT S) [(some 30), (some 31), (some 32), (some 33), (some 34), (some 9)] (L6_6).1 E m)) k E Q := w_plain (by kernel_rfl) (L6_6).2
noncomputable def L6_7 : {l : List Oper // (opsOf r6_7).map strip = l} := by refine ⟨?l, ?h⟩; case h => simp only [r6_7, c6, bodyOf, Try.f6, Code.sub, opsOf, List.map_cons, List.map_nil, strip]; rfl
theorem w6_7 : W Try.prog TT S 19 [27, 38, 45, 66, 104, 108, 160] r6_7 k E m Q ↔ Rg Try.prog TT S 19 [27, 38, 45, 66, 104, 108, 160] [10] [] (lgo E [] (lops Try.prog (callw Try.prog TT S) [(some 10)] (L6_7).1 E m)) k E Q := w_plain (by kernel_rfl) (L6_7).2
noncomputable def L6_8 : {l : List Oper // (opsOf r6_8).map strip = l} := by refine ⟨?l, ?h⟩; case h => simp only [r6_8, c6, bodyOf, Try.f6, Code.sub, opsOf, List.map_cons, List.map_nil, strip]; rfl
theorem w6_8 : W Try.prog TT S 19 [27, 38, 45, 66, 104, 108, 160] r6_8 k E m Q ↔ Rg Try.prog TT S 19 [27, 38, 45, 66, 104, 108, 160] [11] [] (lgo E [] (lops Try.prog (callw Try.prog TT S) [(some 11)] (L6_8).1 E m)) k E Q := w_plain (by kernel_rfl) (L6_8).2
noncomputable def L6_9 : {l : List Oper // (opsOf r6_9).map strip = l} := by refine ⟨?l, ?h⟩; case h => simp only [r6_9, c6, bodyOf, Try.f6, Code.sub, opsOf, List.map_cons, List.map_nil, strip]; rfl
theorem w6_9 : W Try.prog TT S 19 [27, 38, 45, 66, 104, 108, 160] r6_9 k E m Q ↔ Rg Try.prog TT S 19 [27, 38, 45, 66, 104, 108, 160] [] [38] (lgo E [8, 1] (lops Try.prog (callw Try.prog TT S) [(some 35), (some 36), (some 37), (some 38)] (L6_9).1 E m)) k E Q := w_plain (by kernel_rfl) (L6_9).2
noncomputable def L6_10 : {l : List Oper // (opsOf r6_10).map strip = l} := by refine ⟨?l, ?h⟩; case h => simp only [r6_10, c6, bodyOf, Try.f6, Code.sub, opsOf, List.map_cons, List.map_nil, strip]; rfl
theorem w6_10 : W Try.prog TT S 19 [27, 38, 45, 66, 104, 108, 160] r6_10 k E m Q ↔ Rg Try.prog TT S 19 [27, 38, 45, 66, 104, 108, 160] [11] [] (lgo E [1, 8] (lops Try.prog (callw Try.prog TT S) [(some 39), (some 40), (some 41), (some 42), (some 43), (some 11)] (L6_10).1 E m)) k E Q := w_plain (by kernel_rfl) (L6_10).2
noncomputable def L6_11 : {l : List Oper // (opsOf r6_11).map strip = l} := by refine ⟨?l, ?h⟩; case h => simp only [r6_11, c6, bodyOf, Try.f6, Code.sub, opsOf, List.map_cons, List.map_nil, strip]; rfl
theorem w6_11 : W Try.prog TT S 19 [27, 38, 45, 66, 104, 108, 160] r6_11 k E m Q ↔ Rg Try.prog TT S 19 [27, 38, 45, 66, 104, 108, 160] [] [45] (lgo E [11] (lops Try.prog (callw Try.prog TT S) [(some 44), (some 45)] (L6_11).1 E m)) k E Q := w_plain (by kernel_rfl) (L6_11).2
noncomputable def L6_12 : {l : List Oper // (opsOf r6_12).map strip = l} := by refine ⟨?l, ?h⟩; case h => simp only [r6_12, c6, bodyOf, Try.f6, Code.sub, opsOf, List.map_cons, List.map_nil, strip]; rfl
theorem w6_12 : W Try.prog TT S 19 [27, 38, 45, 66, 104, 108, 160] r6_12 k E m Q ↔ Rg Try.prog TT S 19 [27, 38, 45, 66, 104, 108, 160] [10] [] (lgo E [10, 11] (lops Try.prog (callw Try.prog TT S) [(some 48), (some 49), (some 50), (some 51), (some 52), (some 53), (some 10)] (L6_12).1 E m)) k E Q := w_plain (by kernel_rfl) (L6_12).2
noncomputable def L6_13 : {l : List Oper // (opsOf r6_13).map strip = l} := by refine ⟨?l, ?h⟩; case h => simp only [r6_13, c6, bodyOf, Try.f6, Code.sub, opsOf, List.map_cons, List.map_nil, strip]; rfl
theorem w6_13 : W Try.prog TT S 19 [27, 38, 45, 66, 104, 108, 160] r6_13 k E m Q ↔ Rg Try.prog TT S 19 [27, 38, 45, 66, 104, 108, 160] [11] [] (lgo E [11] (lops Try.prog (callw Try.prog TT S) [(some 46), (some 47), (some 11)] (L6_13).1 E m)) k E Q := w_plain (by kernel_rfl) (L6_13).2
noncomputable def L6_14 : {l : List Oper // (opsOf r6_14).map strip = l} := by refine ⟨?l, ?h⟩; case h => simp only [r6_14, c6, bodyOf, Try.f6, Code.sub, opsOf, List.map_cons, List.map_nil, strip]; rfl
theorem w6_14 : W Try.prog TT S 19 [27, 38, 45, 66, 104, 108, 160] r6_14 k E m Q ↔ Rg Try.prog TT S 19 [27, 38, 45, 66, 104, 108, 160] [5] [] (lgo E [5, 9, 7] (lops Try.prog (callw Try.prog TT S) [(some 54), (some 55), (some 56), (some 57), (some 58), (some 59), (some 5)] (L6_14).1 E m)) k E Q := w_plain (by kernel_rfl) (L6_14).2
noncomputable def L6_15 : {l : List Oper // (opsOf r6_15).map strip = l} := by refine ⟨?l, ?h⟩; case h => simp only [r6_15, c6, bodyOf, Try.f6, Code.sub, opsOf, List.map_cons, List.map_nil, strip]; rfl
theorem w6_15 : W Try.prog TT S 19 [27, 38, 45, 66, 104, 108, 160] r6_15 k E m Q ↔ Rg Try.prog TT S 19 [27, 38, 45, 66, 104, 108, 160] [] [66] (lgo E [9, 10] (lops Try.prog (callw Try.prog TT S) [(some 60), (some 61), (some 62), (some 63), (some 64), (some 65), (some 66)] (L6_15).1 E m)) k E Q := w_plain (by kernel_rfl) (L6_15).2
noncomputable def L6_16 : {l : List Oper // (opsOf r6_16).map strip = l} := by refine ⟨?l, ?h⟩; case h => simp only [r6_16, c6, bodyOf, Try.f6, Code.sub, opsOf, List.map_cons, List.map_nil, strip]; rfl
theorem w6_16 : W Try.prog TT S 19 [27, 38, 45, 66, 104, 108, 160] r6_16 k E m Q ↔ Rg Try.prog TT S 19 [27, 38, 45, 66, 104, 108, 160] [6] [] (lgo E [6] (lops Try.prog (callw Try.prog TT S) [(some 67), (some 68), (some 6)] (L6_16).1 E m)) k E Q := w_plain (by kernel_rfl) (L6_16).2
noncomputable def L6_17 : {l : List Oper // (opsOf r6_17).map strip = l} := by refine ⟨?l, ?h⟩; case h => simp only [r6_17, c6, bodyOf, Try.f6, Code.sub, opsOf, List.map_cons, List.map_nil, strip]; rfl
theorem w6_17 : W Try.prog TT S 19 [27, 38, 45, 66, 104, 108, 160] r6_17 k E m Q ↔ Rg Try.prog TT S 19 [27, 38, 45, 66, 104, 108, 160] [6] [] (lgo E [6, 9, 7, 10] (lops Try.prog (callw Try.prog TT S) [(some 69), (some 70), (some 71), (some 72), (some 73), (some 74), (some 75), (some 6)] (L6_17).1 E m)) k E Q := w_plain (by kernel_rfl) (L6_17).2
noncomputable def L6_18 : {l : List Oper // (opsOf r6_18).map strip = l} := by refine ⟨?l, ?h⟩; case h => simp only [r6_18, c6, bodyOf, Try.f6, Code.sub, opsOf, List.map_cons, List.map_nil, strip]; rfl
theorem w6_18 : W Try.prog TT S 19 [27, 38, 45, 66, 104, 108, 160] r6_18 k E m Q ↔ Rg Try.prog TT S 19 [27, 38, 45, 66, 104, 108, 160] [8] [] (lgo E [8] (lops Try.prog (callw Try.prog TT S) [(some 28), (some 29), (some 8)] (L6_18).1 E m)) k E Q := w_plain (by kernel_rfl) (L6_18).2
noncomputable def L6_19 : {l : List Oper // (opsOf r6_19).map strip = l} := by refine ⟨?l, ?h⟩; case h => simp only [r6_19, c6, bodyOf, Try.f6, Code.sub, opsOf, List.map_cons, List.map_nil, strip]; rfl
theorem w6_19 : W Try.prog TT S 19 [27, 38, 45, 66, 104, 108, 160] r6_19 k E m Q ↔ Rg Try.prog TT S 19 [27, 38, 45, 66, 104, 108, 160] [13, 12, 14] [] (lgo E [5] (lops Try.prog (callw Try.prog TT S) [(some 77), (some 78), (some 76), (some 79), (some 80), (some 81), (some 13), (some 12), none, (some 14)] (L6_19).1 E m)) k E Q := w_plain (by kernel_rfl) (L6_19).2
noncomputable def L6_20 : {l : List Oper // (opsOf r6_20).map strip = l} := by refine ⟨?l, ?h⟩; case h => simp only [r6_20, c6, bodyOf, Try.f6, Code.sub, opsOf, List.map_cons, List.map_nil, strip]; rfl
theorem w6_20 : W Try.prog TT S 19 [27, 38, 45, 66, 104, 108, 160] r6_20 k E m Q ↔ Rg Try.prog TT S 19 [27, 38, 45, 66, 104, 108, 160] [16, 15, 17] [] (lgo E [6] (lops Try.prog (callw Try.prog TT S) [(some 83), (some 84), (some 82), (some 85), (some 86), (some 87), (some 16), (some 15), none, (some 17)] (L6_20).1 E m)) k E Q := w_plain (by kernel_rfl) (L6_20).2
noncomputable def L6_21 : {l : List Oper // (opsOf r6_21).map strip = l} := by refine ⟨?l, ?h⟩; case h => simp only [r6_21, c6, bodyOf, Try.f6, Code.sub, opsOf, List.map_cons, List.map_nil, strip]; rfl
theorem w6_21 : W Try.prog TT S 19 [27, 38, 45, 66, 104, 108, 160] r6_21 k E m Q ↔ Rg Try.prog TT S 19 [27, 38, 45, 66, 104, 108, 160] [] [104] (lgo E [14, 17, 12, 15] (lops Try.prog (callw Try.prog TT S) [(some 88), (some 89), (some 90), (some 91), (some 92), (some 93), (some 94), (some 95), (some 96), (some 97), (some 98), (some 99), (some 100), (some 101), (some 102), (some 103), (some 104)] (L6_21).1 E m)) k E Q := w_plain (by kernel_rfl) (L6_21).2
noncomputable def L6_22 : {l : List Oper // (opsOf r6_22).map strip = l} := by refine ⟨?l, ?h⟩; case h => simp only [r6_22, c6, bodyOf, Try.f6, Code.sub, opsOf, List.map_cons, List.map_nil, strip]; rfl
theorem w6_22 : W Try.prog TT S 19 [27, 38, 45, 66, 104, 108, 160] r6_22 k E m Q ↔ Rg Try.prog TT S 19 [27, 38, 45, 66, 104, 108, 160] [4] [] (lgo E [] (lops Try.prog (callw Try.prog TT S) [(some 4)] (L6_22).1 E m)) k E Q := w_plain (by kernel_rfl) (L6_22).2
noncomputable def L6_23 : {l : List Oper // (opsOf r6_23).map strip = l} := by refine ⟨?l, ?h⟩; case h => simp only [r6_23, c6, bodyOf, Try.f6, Code.sub, opsOf, List.map_cons, List.map_nil, strip]; rfl
theorem w6_23 : W Try.prog TT S 19 [27, 38, 45, 66, 104, 108, 160] r6_23 k E m Q ↔ Rg Try.prog TT S 19 [27, 38, 45, 66, 104, 108, 160] [18] [] (lgo E [] (lops Try.prog (callw Try.prog TT S) [(some 18)] (L6_23).1 E m)) k E Q := w_plain (by kernel_rfl) (L6_23).2
noncomputable def L6_24 : {l : List Oper // (opsOf r6_24).map strip = l} := by refine ⟨?l, ?h⟩; case h => simp only [r6_24, c6, bodyOf, Try.f6, Code.sub, opsOf, List.map_cons, List.map_nil, strip]; rfl
theorem w6_24 : W Try.prog TT S 19 [27, 38, 45, 66, 104, 108, 160] r6_24 k E m Q ↔ Rg Try.prog TT S 19 [27, 38, 45, 66, 104, 108, 160] [] [108] (lgo E [18, 12] (lops Try.prog (callw Try.prog TT S) [(some 105), (some 106), (some 107), (some 108)] (L6_24).1 E m)) k E Q := w_plain (by kernel_rfl) (L6_24).2
noncomputable def L6_25 : {l : List Oper // (opsOf r6_25).map strip = l} := by refine ⟨?l, ?h⟩; case h => simp only [r6_25, c6, bodyOf, Try.f6, Code.sub, opsOf, List.map_cons, List.map_nil, strip]; rfl
theorem w6_25 : W Try.prog TT S 19 [27, 38, 45, 66, 104, 108, 160] r6_25 k E m Q ↔ Rg Try.prog TT S 19 [27, 38, 45, 66, 104, 108, 160] [] [160] (lgo E [12, 15, 18] (lops Try.prog (callw Try.prog TT S) [(some 111), (some 112), (some 113), (some 114), (some 115), (some 116), (some 117), (some 118), (some 119), (some 120), (some 121), (some 122), (some 123), (some 124), (some 125), (some 126), (some 127), (some 128), (some 129), (some 130), (some 131), (some 132), (some 133), (some 134), (some 135), (some 136), (some 137), (some 138), (some 139), (some 140), (some 141), (some 142), (some 143), (some 144), (some 145), (some 146), (some 147), (some 148), (some 149), (some 150), (some 151), (some 152), (some 153), (some 154), (some 155), (some 156), (some 157), (some 158), (some 159), (some 160)] (L6_25).1 E m)) k E Q := w_plain (by kernel_rfl) (L6_25).2
noncomputable def L6_26 : {l : List Oper // (opsOf r6_26).map strip = l} := by refine ⟨?l, ?h⟩; case h => simp only [r6_26, c6, bodyOf, Try.f6, Code.sub, opsOf, List.map_cons, List.map_nil, strip]; rfl
theorem w6_26 : W Try.prog TT S 19 [27, 38, 45, 66, 104, 108, 160] r6_26 k E m Q ↔ Rg Try.prog TT S 19 [27, 38, 45, 66, 104, 108, 160] [4] [] (lgo E [] (lops Try.prog (callw Try.prog TT S) [(some 4)] (L6_26).1 E m)) k E Q := w_plain (by kernel_rfl) (L6_26).2
noncomputable def L6_27 : {l : List Oper // (opsOf r6_27).map strip = l} := by refine ⟨?l, ?h⟩; case h => simp only [r6_27, c6, bodyOf, Try.f6, Code.sub, opsOf, List.map_cons, List.map_nil, strip]; rfl
theorem w6_27 : W Try.prog TT S 19 [27, 38, 45, 66, 104, 108, 160] r6_27 k E m Q ↔ Rg Try.prog TT S 19 [27, 38, 45, 66, 104, 108, 160] [18] [] (lgo E [18] (lops Try.prog (callw Try.prog TT S) [(some 109), (some 110), (some 18)] (L6_27).1 E m)) k E Q := w_plain (by kernel_rfl) (L6_27).2
noncomputable def L6_28 : {l : List Oper // (opsOf r6_28).map strip = l} := by refine ⟨?l, ?h⟩; case h => simp only [r6_28, c6, bodyOf, Try.f6, Code.sub, opsOf, List.map_cons, List.map_nil, strip]; rfl
theorem w6_28 : W Try.prog TT S 19 [27, 38, 45, 66, 104, 108, 160] r6_28 k E m Q ↔ Rg Try.prog TT S 19 [27, 38, 45, 66, 104, 108, 160] [4] [] (lgo E [] (lops Try.prog (callw Try.prog TT S) [(some 4)] (L6_28).1 E m)) k E Q := w_plain (by kernel_rfl) (L6_28).2
theorem k6 : FnIs TT 6 c6 [.tmp 4] 2 := ⟨Try.f6, by kernel_rfl, by simp only [Try.f6, c6, bodyOf], by kernel_rfl, of_decide_eq_true (by kernel_rfl)⟩

/- turnstonelaw3.all -/
noncomputable def c9 : Code := bodyOf Try.f9
noncomputable def r9_0 : Code := Code.sub [0] c9
noncomputable def r9_1 : Code := Code.sub [1, 0] c9
noncomputable def r9_2 : Code := Code.sub [1, 1, 0] c9
noncomputable def r9_3 : Code := Code.sub [1, 1, 1, 0] c9
theorem body9 : c9 = (.seq r9_0 (.seq r9_1 (.seq r9_2 (.seq r9_3 .ret)))) := by kernel_rfl
noncomputable def L9_0 : {l : List Oper // (opsOf r9_0).map strip = l} := by refine ⟨?l, ?h⟩; case h => simp only [r9_0, c9, bodyOf, Try.f9, Code.sub, opsOf, List.map_cons, List.map_nil, strip]; rfl
theorem w9_0 : W Try.prog TT S 9 [] r9_0 k E m Q ↔ Rg Try.prog TT S 9 [] [2] [] (lgo E [] (lops Try.prog (callw Try.prog TT S) [(some 2)] (L9_0).1 E m)) k E Q := w_plain (by kernel_rfl) (L9_0).2
noncomputable def L9_1 : {l : List Oper // (opsOf r9_1).map strip = l} := by refine ⟨?l, ?h⟩; case h => simp only [r9_1, c9, bodyOf, Try.f9, Code.sub, opsOf, List.map_cons, List.map_nil, strip]; rfl
theorem w9_1 : W Try.prog TT S 9 [] r9_1 k E m Q ↔ Rg Try.prog TT S 9 [] [4, 3, 5] [] (lgo E [0] (lops Try.prog (callw Try.prog TT S) [(some 10), (some 11), (some 9), (some 12), (some 13), (some 14), (some 4), (some 3), none, (some 5)] (L9_1).1 E m)) k E Q := w_plain (by kernel_rfl) (L9_1).2
noncomputable def L9_2 : {l : List Oper // (opsOf r9_2).map strip = l} := by refine ⟨?l, ?h⟩; case h => simp only [r9_2, c9, bodyOf, Try.f9, Code.sub, opsOf, List.map_cons, List.map_nil, strip]; rfl
theorem w9_2 : W Try.prog TT S 9 [] r9_2 k E m Q ↔ Rg Try.prog TT S 9 [] [7, 6, 8] [] (lgo E [0] (lops Try.prog (callw Try.prog TT S) [(some 16), (some 17), (some 15), (some 18), (some 19), (some 20), (some 7), (some 6), none, (some 8)] (L9_2).1 E m)) k E Q := w_plain (by kernel_rfl) (L9_2).2
noncomputable def L9_3 : {l : List Oper // (opsOf r9_3).map strip = l} := by refine ⟨?l, ?h⟩; case h => simp only [r9_3, c9, bodyOf, Try.f9, Code.sub, opsOf, List.map_cons, List.map_nil, strip]; rfl
theorem w9_3 : W Try.prog TT S 9 [] r9_3 k E m Q ↔ Rg Try.prog TT S 9 [] [2] [] (lgo E [3, 6, 4, 7, 5, 8] (lops Try.prog (callw Try.prog TT S) [(some 21), (some 22), (some 23), (some 24), (some 25), (some 26), (some 27), (some 28), (some 29), (some 30), (some 31), (some 32), (some 33), (some 2)] (L9_3).1 E m)) k E Q := w_plain (by kernel_rfl) (L9_3).2
theorem k9 : FnIs TT 9 c9 [.tmp 2] 1 := ⟨Try.f9, by kernel_rfl, by simp only [Try.f9, c9, bodyOf], by kernel_rfl, of_decide_eq_true (by kernel_rfl)⟩

/- turnstonehand.Pick -/
noncomputable def c10 : Code := bodyOf Try.f10
noncomputable def r10_0 : Code := Code.sub [0] c10
noncomputable def r10_1 : Code := Code.sub [1, 0] c10
noncomputable def r10_2 : Code := Code.sub [1, 1, 0, 0] c10
noncomputable def r10_3 : Code := Code.sub [1, 1, 0, 1, 0] c10
noncomputable def r10_4 : Code := Code.sub [1, 1, 1, 0] c10
theorem body10 : c10 = (.seq r10_0 (.seq r10_1 (.seq (.seq r10_2 (.cond (.tmp 9) r10_3 .skip)) (.seq r10_4 .ret)))) := by kernel_rfl
noncomputable def L10_0 : {l : List Oper // (opsOf r10_0).map strip = l} := by refine ⟨?l, ?h⟩; case h => simp only [r10_0, c10, bodyOf, Try.f10, Code.sub, opsOf, List.map_cons, List.map_nil, strip]; rfl
theorem w10_0 : W Try.prog TT S 5 [9] r10_0 k E m Q ↔ Rg Try.prog TT S 5 [9] [4] [] (lgo E [] (lops Try.prog (callw Try.prog TT S) [(some 4)] (L10_0).1 E m)) k E Q := w_plain (by kernel_rfl) (L10_0).2
noncomputable def L10_1 : {l : List Oper // (opsOf r10_1).map strip = l} := by refine ⟨?l, ?h⟩; case h => simp only [r10_1, c10, bodyOf, Try.f10, Code.sub, opsOf, List.map_cons, List.map_nil, strip]; rfl
theorem w10_1 : W Try.prog TT S 5 [9] r10_1 k E m Q ↔ Rg Try.prog TT S 5 [9] [0] [] (lgo E [0, 1] (lops Try.prog (callw Try.prog TT S) [(some 5), (some 6), (some 7), (some 0)] (L10_1).1 E m)) k E Q := w_plain (by kernel_rfl) (L10_1).2
noncomputable def L10_2 : {l : List Oper // (opsOf r10_2).map strip = l} := by refine ⟨?l, ?h⟩; case h => simp only [r10_2, c10, bodyOf, Try.f10, Code.sub, opsOf, List.map_cons, List.map_nil, strip]; rfl
theorem w10_2 : W Try.prog TT S 5 [9] r10_2 k E m Q ↔ Rg Try.prog TT S 5 [9] [] [9] (lgo E [0] (lops Try.prog (callw Try.prog TT S) [(some 8), (some 9)] (L10_2).1 E m)) k E Q := w_plain (by kernel_rfl) (L10_2).2
noncomputable def L10_3 : {l : List Oper // (opsOf r10_3).map strip = l} := by refine ⟨?l, ?h⟩; case h => simp only [r10_3, c10, bodyOf, Try.f10, Code.sub, opsOf, List.map_cons, List.map_nil, strip]; rfl
theorem w10_3 : W Try.prog TT S 5 [9] r10_3 k E m Q ↔ Rg Try.prog TT S 5 [9] [0] [] (lgo E [0, 1] (lops Try.prog (callw Try.prog TT S) [(some 10), (some 11), (some 12), (some 0)] (L10_3).1 E m)) k E Q := w_plain (by kernel_rfl) (L10_3).2
noncomputable def L10_4 : {l : List Oper // (opsOf r10_4).map strip = l} := by refine ⟨?l, ?h⟩; case h => simp only [r10_4, c10, bodyOf, Try.f10, Code.sub, opsOf, List.map_cons, List.map_nil, strip]; rfl
theorem w10_4 : W Try.prog TT S 5 [9] r10_4 k E m Q ↔ Rg Try.prog TT S 5 [9] [4] [] (lgo E [0] (lops Try.prog (callw Try.prog TT S) [(some 13), (some 4)] (L10_4).1 E m)) k E Q := w_plain (by kernel_rfl) (L10_4).2
theorem k10 : FnIs TT 10 c10 [.tmp 4] 2 := ⟨Try.f10, by kernel_rfl, by simp only [Try.f10, c10, bodyOf], by kernel_rfl, of_decide_eq_true (by kernel_rfl)⟩

/- token.All -/
noncomputable def c11 : Code := bodyOf Try.f11
noncomputable def r11_0 : Code := Code.sub [0] c11
noncomputable def r11_1 : Code := Code.sub [1, 0, 0] c11
noncomputable def r11_2 : Code := Code.sub [1, 0, 1, 0, 0] c11
noncomputable def r11_3 : Code := Code.sub [1, 1, 0] c11
noncomputable def r11_4 : Code := Code.sub [1, 1, 1, 0, 0, 0, 0, 0] c11
noncomputable def r11_5 : Code := Code.sub [1, 1, 1, 0, 0, 0, 1, 0] c11
noncomputable def r11_6 : Code := Code.sub [1, 1, 1, 1, 0, 0] c11
noncomputable def r11_7 : Code := Code.sub [1, 1, 1, 1, 0, 1, 0] c11
noncomputable def r11_8 : Code := Code.sub [1, 1, 1, 1, 1, 0, 0] c11
noncomputable def r11_9 : Code := Code.sub [1, 1, 1, 1, 1, 0, 1, 0] c11
noncomputable def r11_10 : Code := Code.sub [1, 1, 1, 1, 1, 1, 0, 0] c11
noncomputable def r11_11 : Code := Code.sub [1, 1, 1, 1, 1, 1, 0, 1, 0, 0] c11
noncomputable def r11_12 : Code := Code.sub [1, 1, 1, 1, 1, 1, 1, 0] c11
theorem body11 : c11 = (.seq r11_0 (.seq (.seq r11_1 (.cond (.tmp 8) (.seq r11_2 .ret) .skip)) (.seq r11_3 (.seq (.block 0 (.loop (.seq (.seq r11_4 (.cond (.tmp 26) .skip (.exit 0))) (.block 1 r11_5)))) (.seq (.seq r11_6 (.cond (.tmp 37) r11_7 .skip)) (.seq (.seq r11_8 (.cond (.tmp 44) r11_9 .skip)) (.seq (.seq r11_10 (.cond (.tmp 51) (.seq r11_11 .ret) .skip)) (.seq r11_12 .ret)))))))) := by kernel_rfl
noncomputable def L11_0 : {l : List Oper // (opsOf r11_0).map strip = l} := by refine ⟨?l, ?h⟩; case h => simp only [r11_0, c11, bodyOf, Try.f11, Code.sub, opsOf, List.map_cons, List.map_nil, strip]; rfl
theorem w11_0 : W Try.prog TT S 6 [8, 26, 37, 44, 51] r11_0 k E m Q ↔ Rg Try.prog TT S 6 [8, 26, 37, 44, 51] [2, 3, 4] [] (lgo E [] (lops Try.prog (callw Try.prog TT S) [(some 2), (some 3), (some 4)] (L11_0).1 E m)) k E Q := w_plain (by kernel_rfl) (L11_0).2
noncomputable def L11_1 : {l : List Oper // (opsOf r11_1).map strip = l} := by refine ⟨?l, ?h⟩; case h => simp only [r11_1, c11, bodyOf, Try.f11, Code.sub, opsOf, List.map_cons, List.map_nil, strip]; rfl
theorem w11_1 : W Try.prog TT S 6 [8, 26, 37, 44, 51] r11_1 k E m Q ↔ Rg Try.prog TT S 6 [8, 26, 37, 44, 51] [] [8] (lgo E [0] (lops Try.prog (callw Try.prog TT S) [(some 6), (some 7), (some 8)] (L11_1).1 E m)) k E Q := w_plain (by kernel_rfl) (L11_1).2
noncomputable def L11_2 : {l : List Oper // (opsOf r11_2).map strip = l} := by refine ⟨?l, ?h⟩; case h => simp only [r11_2, c11, bodyOf, Try.f11, Code.sub, opsOf, List.map_cons, List.map_nil, strip]; rfl
theorem w11_2 : W Try.prog TT S 6 [8, 26, 37, 44, 51] r11_2 k E m Q ↔ Rg Try.prog TT S 6 [8, 26, 37, 44, 51] [2, 4] [] (lgo E [3] (lops Try.prog (callw Try.prog TT S) [(some 9), (some 2), none, (some 4)] (L11_2).1 E m)) k E Q := w_plain (by kernel_rfl) (L11_2).2
noncomputable def L11_3 : {l : List Oper // (opsOf r11_3).map strip = l} := by refine ⟨?l, ?h⟩; case h => simp only [r11_3, c11, bodyOf, Try.f11, Code.sub, opsOf, List.map_cons, List.map_nil, strip]; rfl
theorem w11_3 : W Try.prog TT S 6 [8, 26, 37, 44, 51] r11_3 k E m Q ↔ Rg Try.prog TT S 6 [8, 26, 37, 44, 51] [5] [] (lgo E [0] (lops Try.prog (callw Try.prog TT S) [(some 10), (some 11), (some 12), (some 5)] (L11_3).1 E m)) k E Q := w_plain (by kernel_rfl) (L11_3).2
noncomputable def L11_4 : {l : List Oper // (opsOf r11_4).map strip = l} := by refine ⟨?l, ?h⟩; case h => simp only [r11_4, c11, bodyOf, Try.f11, Code.sub, opsOf, List.map_cons, List.map_nil, strip]; rfl
theorem w11_4 : W Try.prog TT S 6 [8, 26, 37, 44, 51] r11_4 k E m Q ↔ Rg Try.prog TT S 6 [8, 26, 37, 44, 51] [] [26] (lgo E [0, 5] (lops Try.prog (callw Try.prog TT S) [(some 13), (some 14), (some 15), (some 16), (some 17), (some 18), (some 19), (some 20), (some 21), (some 22), (some 23), (some 24), (some 25), (some 26)] (L11_4).1 E m)) k E Q := w_plain (by kernel_rfl) (L11_4).2
noncomputable def L11_5 : {l : List Oper // (opsOf r11_5).map strip = l} := by refine ⟨?l, ?h⟩; case h => simp only [r11_5, c11, bodyOf, Try.f11, Code.sub, opsOf, List.map_cons, List.map_nil, strip]; rfl
theorem w11_5 : W Try.prog TT S 6 [8, 26, 37, 44, 51] r11_5 k E m Q ↔ Rg Try.prog TT S 6 [8, 26, 37, 44, 51] [] [] (lgo E [5] (lops Try.prog (callw Try.prog TT S) [(some 27), (some 28)] (L11_5).1 E m)) k E Q := w_plain (by kernel_rfl) (L11_5).2
noncomputable def L11_6 : {l : List Oper // (opsOf r11_6).map strip = l} := by refine ⟨?l, ?h⟩; case h => simp only [r11_6, c11, bodyOf, Try.f11, Code.sub, opsOf, List.map_cons, List.map_nil, strip]; rfl
theorem w11_6 : W Try.prog TT S 6 [8, 26, 37, 44, 51] r11_6 k E m Q ↔ Rg Try.prog TT S 6 [8, 26, 37, 44, 51] [] [37] (lgo E [5] (lops Try.prog (callw Try.prog TT S) [(some 29), (some 30), (some 31), (some 32), (some 33), (some 34), (some 35), (some 36), (some 37)] (L11_6).1 E m)) k E Q := w_plain (by kernel_rfl) (L11_6).2
noncomputable def L11_7 : {l : List Oper // (opsOf r11_7).map strip = l} := by refine ⟨?l, ?h⟩; case h => simp only [r11_7, c11, bodyOf, Try.f11, Code.sub, opsOf, List.map_cons, List.map_nil, strip]; rfl
theorem w11_7 : W Try.prog TT S 6 [8, 26, 37, 44, 51] r11_7 k E m Q ↔ Rg Try.prog TT S 6 [8, 26, 37, 44, 51] [] [] (lgo E [5] (lops Try.prog (callw Try.prog TT S) [(some 38), (some 39)] (L11_7).1 E m)) k E Q := w_plain (by kernel_rfl) (L11_7).2
noncomputable def L11_8 : {l : List Oper // (opsOf r11_8).map strip = l} := by refine ⟨?l, ?h⟩; case h => simp only [r11_8, c11, bodyOf, Try.f11, Code.sub, opsOf, List.map_cons, List.map_nil, strip]; rfl
theorem w11_8 : W Try.prog TT S 6 [8, 26, 37, 44, 51] r11_8 k E m Q ↔ Rg Try.prog TT S 6 [8, 26, 37, 44, 51] [] [44] (lgo E [5] (lops Try.prog (callw Try.prog TT S) [(some 40), (some 41), (some 42), (some 43), (some 44)] (L11_8).1 E m)) k E Q := w_plain (by kernel_rfl) (L11_8).2
noncomputable def L11_9 : {l : List Oper // (opsOf r11_9).map strip = l} := by refine ⟨?l, ?h⟩; case h => simp only [r11_9, c11, bodyOf, Try.f11, Code.sub, opsOf, List.map_cons, List.map_nil, strip]; rfl
theorem w11_9 : W Try.prog TT S 6 [8, 26, 37, 44, 51] r11_9 k E m Q ↔ Rg Try.prog TT S 6 [8, 26, 37, 44, 51] [] [] (lgo E [5] (lops Try.prog (callw Try.prog TT S) [(some 45), (some 46)] (L11_9).1 E m)) k E Q := w_plain (by kernel_rfl) (L11_9).2
noncomputable def L11_10 : {l : List Oper // (opsOf r11_10).map strip = l} := by refine ⟨?l, ?h⟩; case h => simp only [r11_10, c11, bodyOf, Try.f11, Code.sub, opsOf, List.map_cons, List.map_nil, strip]; rfl
theorem w11_10 : W Try.prog TT S 6 [8, 26, 37, 44, 51] r11_10 k E m Q ↔ Rg Try.prog TT S 6 [8, 26, 37, 44, 51] [] [51] (lgo E [5] (lops Try.prog (callw Try.prog TT S) [(some 47), (some 48), (some 49), (some 50), (some 51)] (L11_10).1 E m)) k E Q := w_plain (by kernel_rfl) (L11_10).2
theorem can11_11 : canonOps (opsOf r11_11) = opsOf r11_11 := by kernel_rfl
noncomputable def L11_11 : {l : List Oper // (canonOps (opsOf r11_11)).map strip = l} := by refine ⟨?l, (congrArg (List.map strip) can11_11).trans ?h⟩; case h => simp only [r11_11, c11, bodyOf, Try.f11, Code.sub, opsOf, List.map_cons, List.map_nil, strip]; rfl
theorem w11_11 : W Try.prog TT S 6 [8, 26, 37, 44, 51] r11_11 k E m Q ↔ Rg Try.prog TT S 6 [8, 26, 37, 44, 51] [2, 4] [] (lgo E [5, 3] (lloud Try.prog (callw Try.prog TT S) [(some 52), (some 53), (some 54), (some 55), (some 56), (some 57), (some 58), (some 59), (some 2), none, (some 4)] (L11_11).1 [(3, [9]), (7, [9, 11])] (lstates Try.prog (callw Try.prog TT S) [(some 52), (some 53), (some 54), (some 55), (some 56), (some 57), (some 58), (some 59), (some 2), none, (some 4)] (L11_11).1 E m))) k E Q := w_loud (by kernel_rfl) (L11_11).2
noncomputable def L11_12 : {l : List Oper // (opsOf r11_12).map strip = l} := by refine ⟨?l, ?h⟩; case h => simp only [r11_12, c11, bodyOf, Try.f11, Code.sub, opsOf, List.map_cons, List.map_nil, strip]; rfl
theorem w11_12 : W Try.prog TT S 6 [8, 26, 37, 44, 51] r11_12 k E m Q ↔ Rg Try.prog TT S 6 [8, 26, 37, 44, 51] [2, 4] [] (lgo E [5, 3] (lops Try.prog (callw Try.prog TT S) [(some 60), (some 61), (some 62), (some 63), (some 64), (some 2), none, (some 4)] (L11_12).1 E m)) k E Q := w_plain (by kernel_rfl) (L11_12).2
theorem k11 : FnIs TT 11 c11 [.tmp 2, .cell 3 34, .tmp 4] 1 := ⟨Try.f11, by kernel_rfl, by simp only [Try.f11, c11, bodyOf], by kernel_rfl, of_decide_eq_true (by kernel_rfl)⟩

/- token.IsWord -/
noncomputable def c12 : Code := bodyOf Try.f12
noncomputable def r12_0 : Code := Code.sub [0] c12
noncomputable def r12_1 : Code := Code.sub [1, 0, 0] c12
noncomputable def r12_2 : Code := Code.sub [1, 0, 1, 0, 0, 0] c12
noncomputable def r12_3 : Code := Code.sub [1, 0, 1, 0, 0, 1, 1, 0] c12
noncomputable def r12_4 : Code := Code.sub [1, 0, 1, 0, 0, 1, 1, 1, 1, 0] c12
noncomputable def r12_5 : Code := Code.sub [1, 0, 1, 0, 0, 1, 1, 1, 1, 1, 1, 0] c12
noncomputable def r12_6 : Code := Code.sub [1, 0, 1, 0, 0, 1, 1, 1, 1, 1, 1, 1, 1, 0] c12
noncomputable def r12_7 : Code := Code.sub [1, 0, 1, 0, 0, 1, 1, 1, 1, 1, 1, 1, 1, 1, 1, 0] c12
noncomputable def r12_8 : Code := Code.sub [1, 0, 1, 0, 0, 1, 1, 1, 1, 1, 1, 1, 1, 1, 1, 1, 1, 0] c12
noncomputable def r12_9 : Code := Code.sub [1, 0, 1, 0, 0, 1, 1, 1, 1, 1, 1, 1, 1, 1, 1, 1, 1, 1, 1, 0] c12
noncomputable def r12_10 : Code := Code.sub [1, 0, 1, 0, 0, 1, 1, 1, 1, 1, 1, 1, 1, 1, 1, 1, 1, 1, 1, 1, 1, 0] c12
noncomputable def r12_11 : Code := Code.sub [1, 0, 1, 0, 0, 1, 1, 1, 1, 1, 1, 1, 1, 1, 1, 1, 1, 1, 1, 1, 1, 1, 1, 0] c12
noncomputable def r12_12 : Code := Code.sub [1, 0, 1, 0, 0, 1, 1, 1, 1, 1, 1, 1, 1, 1, 1, 1, 1, 1, 1, 1, 1, 1, 1, 1, 1, 0] c12
noncomputable def r12_13 : Code := Code.sub [1, 0, 1, 0, 0, 1, 1, 1, 1, 1, 1, 1, 1, 1, 1, 1, 1, 1, 1, 1, 1, 1, 1, 1, 1, 1, 1, 0] c12
noncomputable def r12_14 : Code := Code.sub [1, 0, 1, 0, 0, 1, 1, 1, 1, 1, 1, 1, 1, 1, 1, 1, 1, 1, 1, 1, 1, 1, 1, 1, 1, 1, 1, 1, 1, 0] c12
noncomputable def r12_15 : Code := Code.sub [1, 0, 1, 0, 0, 1, 1, 1, 1, 1, 1, 1, 1, 1, 1, 1, 1, 1, 1, 1, 1, 1, 1, 1, 1, 1, 1, 1, 1, 1, 1, 0] c12
noncomputable def r12_16 : Code := Code.sub [1, 0, 1, 0, 0, 1, 1, 1, 1, 1, 1, 1, 1, 1, 1, 1, 1, 1, 1, 1, 1, 1, 1, 1, 1, 1, 1, 1, 1, 1, 1, 1, 1, 0] c12
noncomputable def r12_17 : Code := Code.sub [1, 0, 1, 0, 0, 1, 1, 1, 1, 1, 1, 1, 1, 1, 1, 1, 1, 1, 1, 1, 1, 1, 1, 1, 1, 1, 1, 1, 1, 1, 1, 1, 1, 1, 1, 0] c12
noncomputable def r12_18 : Code := Code.sub [1, 0, 1, 0, 0, 1, 1, 1, 1, 1, 1, 1, 1, 1, 1, 1, 1, 1, 1, 1, 1, 1, 1, 1, 1, 1, 1, 1, 1, 1, 1, 1, 1, 1, 1, 1, 1, 0] c12
noncomputable def r12_19 : Code := Code.sub [1, 0, 1, 0, 0, 1, 1, 1, 1, 1, 1, 1, 1, 1, 1, 1, 1, 1, 1, 1, 1, 1, 1, 1, 1, 1, 1, 1, 1, 1, 1, 1, 1, 1, 1, 1, 1, 1, 1, 0] c12
noncomputable def r12_20 : Code := Code.sub [1, 0, 1, 0, 0, 1, 1, 1, 1, 1, 1, 1, 1, 1, 1, 1, 1, 1, 1, 1, 1, 1, 1, 1, 1, 1, 1, 1, 1, 1, 1, 1, 1, 1, 1, 1, 1, 1, 1, 1, 1, 0] c12
noncomputable def r12_21 : Code := Code.sub [1, 0, 1, 0, 0, 1, 1, 1, 1, 1, 1, 1, 1, 1, 1, 1, 1, 1, 1, 1, 1, 1, 1, 1, 1, 1, 1, 1, 1, 1, 1, 1, 1, 1, 1, 1, 1, 1, 1, 1, 1, 1, 1, 0] c12
noncomputable def r12_22 : Code := Code.sub [1, 0, 1, 0, 0, 1, 1, 1, 1, 1, 1, 1, 1, 1, 1, 1, 1, 1, 1, 1, 1, 1, 1, 1, 1, 1, 1, 1, 1, 1, 1, 1, 1, 1, 1, 1, 1, 1, 1, 1, 1, 1, 1, 1, 1, 0] c12
noncomputable def r12_23 : Code := Code.sub [1, 0, 1, 0, 0, 1, 1, 1, 1, 1, 1, 1, 1, 1, 1, 1, 1, 1, 1, 1, 1, 1, 1, 1, 1, 1, 1, 1, 1, 1, 1, 1, 1, 1, 1, 1, 1, 1, 1, 1, 1, 1, 1, 1, 1, 1, 1] c12
noncomputable def r12_24 : Code := Code.sub [1, 0, 1, 0, 1, 0, 0] c12
noncomputable def r12_25 : Code := Code.sub [1, 1, 0] c12
theorem body12 : c12 = (.seq r12_0 (.seq (.seq r12_1 (.block 0 (.seq (.seq r12_2 (.cond (.tmp 4) .skip (.seq r12_3 (.cond (.tmp 4) .skip (.seq r12_4 (.cond (.tmp 4) .skip (.seq r12_5 (.cond (.tmp 4) .skip (.seq r12_6 (.cond (.tmp 4) .skip (.seq r12_7 (.cond (.tmp 4) .skip (.seq r12_8 (.cond (.tmp 4) .skip (.seq r12_9 (.cond (.tmp 4) .skip (.seq r12_10 (.cond (.tmp 4) .skip (.seq r12_11 (.cond (.tmp 4) .skip (.seq r12_12 (.cond (.tmp 4) .skip (.seq r12_13 (.cond (.tmp 4) .skip (.seq r12_14 (.cond (.tmp 4) .skip (.seq r12_15 (.cond (.tmp 4) .skip (.seq r12_16 (.cond (.tmp 4) .skip (.seq r12_17 (.cond (.tmp 4) .skip (.seq r12_18 (.cond (.tmp 4) .skip (.seq r12_19 (.cond (.tmp 4) .skip (.seq r12_20 (.cond (.tmp 4) .skip (.seq r12_21 (.cond (.tmp 4) .skip (.seq r12_22 (.cond (.tmp 4) .skip r12_23)))))))))))))))))))))))))))))))))))))))))) (.cond (.tmp 4) (.seq r12_24 .ret) .skip)))) (.seq r12_25 .ret))) := by kernel_rfl
noncomputable def L12_0 : {l : List Oper // (opsOf r12_0).map strip = l} := by refine ⟨?l, ?h⟩; case h => simp only [r12_0, c12, bodyOf, Try.f12, Code.sub, opsOf, List.map_cons, List.map_nil, strip]; rfl
theorem w12_0 : W Try.prog TT S 4 [4, 4, 4, 4, 4, 4, 4, 4, 4, 4, 4, 4, 4, 4, 4, 4, 4, 4, 4, 4, 4, 4] r12_0 k E m Q ↔ Rg Try.prog TT S 4 [4, 4, 4, 4, 4, 4, 4, 4, 4, 4, 4, 4, 4, 4, 4, 4, 4, 4, 4, 4, 4, 4] [2] [] (lgo E [] (lops Try.prog (callw Try.prog TT S) [(some 2)] (L12_0).1 E m)) k E Q := w_plain (by kernel_rfl) (L12_0).2
noncomputable def L12_1 : {l : List Oper // (opsOf r12_1).map strip = l} := by refine ⟨?l, ?h⟩; case h => simp only [r12_1, c12, bodyOf, Try.f12, Code.sub, opsOf, List.map_cons, List.map_nil, strip]; rfl
theorem w12_1 : W Try.prog TT S 4 [4, 4, 4, 4, 4, 4, 4, 4, 4, 4, 4, 4, 4, 4, 4, 4, 4, 4, 4, 4, 4, 4] r12_1 k E m Q ↔ Rg Try.prog TT S 4 [4, 4, 4, 4, 4, 4, 4, 4, 4, 4, 4, 4, 4, 4, 4, 4, 4, 4, 4, 4, 4, 4] [3] [] (lgo E [0] (lops Try.prog (callw Try.prog TT S) [(some 3)] (L12_1).1 E m)) k E Q := w_plain (by kernel_rfl) (L12_1).2
noncomputable def L12_2 : {l : List Oper // (opsOf r12_2).map strip = l} := by refine ⟨?l, ?h⟩; case h => simp only [r12_2, c12, bodyOf, Try.f12, Code.sub, opsOf, List.map_cons, List.map_nil, strip]; rfl
theorem w12_2 : W Try.prog TT S 4 [4, 4, 4, 4, 4, 4, 4, 4, 4, 4, 4, 4, 4, 4, 4, 4, 4, 4, 4, 4, 4, 4] r12_2 k E m Q ↔ Rg Try.prog TT S 4 [4, 4, 4, 4, 4, 4, 4, 4, 4, 4, 4, 4, 4, 4, 4, 4, 4, 4, 4, 4, 4, 4] [] [4] (lgo E [3] (lops Try.prog (callw Try.prog TT S) [(some 5), (some 4)] (L12_2).1 E m)) k E Q := w_plain (by kernel_rfl) (L12_2).2
noncomputable def L12_3 : {l : List Oper // (opsOf r12_3).map strip = l} := by refine ⟨?l, ?h⟩; case h => simp only [r12_3, c12, bodyOf, Try.f12, Code.sub, opsOf, List.map_cons, List.map_nil, strip]; rfl
theorem w12_3 : W Try.prog TT S 4 [4, 4, 4, 4, 4, 4, 4, 4, 4, 4, 4, 4, 4, 4, 4, 4, 4, 4, 4, 4, 4, 4] r12_3 k E m Q ↔ Rg Try.prog TT S 4 [4, 4, 4, 4, 4, 4, 4, 4, 4, 4, 4, 4, 4, 4, 4, 4, 4, 4, 4, 4, 4, 4] [] [4] (lgo E [3] (lops Try.prog (callw Try.prog TT S) [(some 6), (some 4)] (L12_3).1 E m)) k E Q := w_plain (by kernel_rfl) (L12_3).2
noncomputable def L12_4 : {l : List Oper // (opsOf r12_4).map strip = l} := by refine ⟨?l, ?h⟩; case h => simp only [r12_4, c12, bodyOf, Try.f12, Code.sub, opsOf, List.map_cons, List.map_nil, strip]; rfl
theorem w12_4 : W Try.prog TT S 4 [4, 4, 4, 4, 4, 4, 4, 4, 4, 4, 4, 4, 4, 4, 4, 4, 4, 4, 4, 4, 4, 4] r12_4 k E m Q ↔ Rg Try.prog TT S 4 [4, 4, 4, 4, 4, 4, 4, 4, 4, 4, 4, 4, 4, 4, 4, 4, 4, 4, 4, 4, 4, 4] [] [4] (lgo E [3] (lops Try.prog (callw Try.prog TT S) [(some 7), (some 4)] (L12_4).1 E m)) k E Q := w_plain (by kernel_rfl) (L12_4).2
noncomputable def L12_5 : {l : List Oper // (opsOf r12_5).map strip = l} := by refine ⟨?l, ?h⟩; case h => simp only [r12_5, c12, bodyOf, Try.f12, Code.sub, opsOf, List.map_cons, List.map_nil, strip]; rfl
theorem w12_5 : W Try.prog TT S 4 [4, 4, 4, 4, 4, 4, 4, 4, 4, 4, 4, 4, 4, 4, 4, 4, 4, 4, 4, 4, 4, 4] r12_5 k E m Q ↔ Rg Try.prog TT S 4 [4, 4, 4, 4, 4, 4, 4, 4, 4, 4, 4, 4, 4, 4, 4, 4, 4, 4, 4, 4, 4, 4] [] [4] (lgo E [3] (lops Try.prog (callw Try.prog TT S) [(some 8), (some 4)] (L12_5).1 E m)) k E Q := w_plain (by kernel_rfl) (L12_5).2
noncomputable def L12_6 : {l : List Oper // (opsOf r12_6).map strip = l} := by refine ⟨?l, ?h⟩; case h => simp only [r12_6, c12, bodyOf, Try.f12, Code.sub, opsOf, List.map_cons, List.map_nil, strip]; rfl
theorem w12_6 : W Try.prog TT S 4 [4, 4, 4, 4, 4, 4, 4, 4, 4, 4, 4, 4, 4, 4, 4, 4, 4, 4, 4, 4, 4, 4] r12_6 k E m Q ↔ Rg Try.prog TT S 4 [4, 4, 4, 4, 4, 4, 4, 4, 4, 4, 4, 4, 4, 4, 4, 4, 4, 4, 4, 4, 4, 4] [] [4] (lgo E [3] (lops Try.prog (callw Try.prog TT S) [(some 9), (some 4)] (L12_6).1 E m)) k E Q := w_plain (by kernel_rfl) (L12_6).2
noncomputable def L12_7 : {l : List Oper // (opsOf r12_7).map strip = l} := by refine ⟨?l, ?h⟩; case h => simp only [r12_7, c12, bodyOf, Try.f12, Code.sub, opsOf, List.map_cons, List.map_nil, strip]; rfl
theorem w12_7 : W Try.prog TT S 4 [4, 4, 4, 4, 4, 4, 4, 4, 4, 4, 4, 4, 4, 4, 4, 4, 4, 4, 4, 4, 4, 4] r12_7 k E m Q ↔ Rg Try.prog TT S 4 [4, 4, 4, 4, 4, 4, 4, 4, 4, 4, 4, 4, 4, 4, 4, 4, 4, 4, 4, 4, 4, 4] [] [4] (lgo E [3] (lops Try.prog (callw Try.prog TT S) [(some 10), (some 4)] (L12_7).1 E m)) k E Q := w_plain (by kernel_rfl) (L12_7).2
noncomputable def L12_8 : {l : List Oper // (opsOf r12_8).map strip = l} := by refine ⟨?l, ?h⟩; case h => simp only [r12_8, c12, bodyOf, Try.f12, Code.sub, opsOf, List.map_cons, List.map_nil, strip]; rfl
theorem w12_8 : W Try.prog TT S 4 [4, 4, 4, 4, 4, 4, 4, 4, 4, 4, 4, 4, 4, 4, 4, 4, 4, 4, 4, 4, 4, 4] r12_8 k E m Q ↔ Rg Try.prog TT S 4 [4, 4, 4, 4, 4, 4, 4, 4, 4, 4, 4, 4, 4, 4, 4, 4, 4, 4, 4, 4, 4, 4] [] [4] (lgo E [3] (lops Try.prog (callw Try.prog TT S) [(some 11), (some 4)] (L12_8).1 E m)) k E Q := w_plain (by kernel_rfl) (L12_8).2
noncomputable def L12_9 : {l : List Oper // (opsOf r12_9).map strip = l} := by refine ⟨?l, ?h⟩; case h => simp only [r12_9, c12, bodyOf, Try.f12, Code.sub, opsOf, List.map_cons, List.map_nil, strip]; rfl
theorem w12_9 : W Try.prog TT S 4 [4, 4, 4, 4, 4, 4, 4, 4, 4, 4, 4, 4, 4, 4, 4, 4, 4, 4, 4, 4, 4, 4] r12_9 k E m Q ↔ Rg Try.prog TT S 4 [4, 4, 4, 4, 4, 4, 4, 4, 4, 4, 4, 4, 4, 4, 4, 4, 4, 4, 4, 4, 4, 4] [] [4] (lgo E [3] (lops Try.prog (callw Try.prog TT S) [(some 12), (some 4)] (L12_9).1 E m)) k E Q := w_plain (by kernel_rfl) (L12_9).2
noncomputable def L12_10 : {l : List Oper // (opsOf r12_10).map strip = l} := by refine ⟨?l, ?h⟩; case h => simp only [r12_10, c12, bodyOf, Try.f12, Code.sub, opsOf, List.map_cons, List.map_nil, strip]; rfl
theorem w12_10 : W Try.prog TT S 4 [4, 4, 4, 4, 4, 4, 4, 4, 4, 4, 4, 4, 4, 4, 4, 4, 4, 4, 4, 4, 4, 4] r12_10 k E m Q ↔ Rg Try.prog TT S 4 [4, 4, 4, 4, 4, 4, 4, 4, 4, 4, 4, 4, 4, 4, 4, 4, 4, 4, 4, 4, 4, 4] [] [4] (lgo E [3] (lops Try.prog (callw Try.prog TT S) [(some 13), (some 4)] (L12_10).1 E m)) k E Q := w_plain (by kernel_rfl) (L12_10).2
noncomputable def L12_11 : {l : List Oper // (opsOf r12_11).map strip = l} := by refine ⟨?l, ?h⟩; case h => simp only [r12_11, c12, bodyOf, Try.f12, Code.sub, opsOf, List.map_cons, List.map_nil, strip]; rfl
theorem w12_11 : W Try.prog TT S 4 [4, 4, 4, 4, 4, 4, 4, 4, 4, 4, 4, 4, 4, 4, 4, 4, 4, 4, 4, 4, 4, 4] r12_11 k E m Q ↔ Rg Try.prog TT S 4 [4, 4, 4, 4, 4, 4, 4, 4, 4, 4, 4, 4, 4, 4, 4, 4, 4, 4, 4, 4, 4, 4] [] [4] (lgo E [3] (lops Try.prog (callw Try.prog TT S) [(some 14), (some 4)] (L12_11).1 E m)) k E Q := w_plain (by kernel_rfl) (L12_11).2
noncomputable def L12_12 : {l : List Oper // (opsOf r12_12).map strip = l} := by refine ⟨?l, ?h⟩; case h => simp only [r12_12, c12, bodyOf, Try.f12, Code.sub, opsOf, List.map_cons, List.map_nil, strip]; rfl
theorem w12_12 : W Try.prog TT S 4 [4, 4, 4, 4, 4, 4, 4, 4, 4, 4, 4, 4, 4, 4, 4, 4, 4, 4, 4, 4, 4, 4] r12_12 k E m Q ↔ Rg Try.prog TT S 4 [4, 4, 4, 4, 4, 4, 4, 4, 4, 4, 4, 4, 4, 4, 4, 4, 4, 4, 4, 4, 4, 4] [] [4] (lgo E [3] (lops Try.prog (callw Try.prog TT S) [(some 15), (some 4)] (L12_12).1 E m)) k E Q := w_plain (by kernel_rfl) (L12_12).2
noncomputable def L12_13 : {l : List Oper // (opsOf r12_13).map strip = l} := by refine ⟨?l, ?h⟩; case h => simp only [r12_13, c12, bodyOf, Try.f12, Code.sub, opsOf, List.map_cons, List.map_nil, strip]; rfl
theorem w12_13 : W Try.prog TT S 4 [4, 4, 4, 4, 4, 4, 4, 4, 4, 4, 4, 4, 4, 4, 4, 4, 4, 4, 4, 4, 4, 4] r12_13 k E m Q ↔ Rg Try.prog TT S 4 [4, 4, 4, 4, 4, 4, 4, 4, 4, 4, 4, 4, 4, 4, 4, 4, 4, 4, 4, 4, 4, 4] [] [4] (lgo E [3] (lops Try.prog (callw Try.prog TT S) [(some 16), (some 4)] (L12_13).1 E m)) k E Q := w_plain (by kernel_rfl) (L12_13).2
noncomputable def L12_14 : {l : List Oper // (opsOf r12_14).map strip = l} := by refine ⟨?l, ?h⟩; case h => simp only [r12_14, c12, bodyOf, Try.f12, Code.sub, opsOf, List.map_cons, List.map_nil, strip]; rfl
theorem w12_14 : W Try.prog TT S 4 [4, 4, 4, 4, 4, 4, 4, 4, 4, 4, 4, 4, 4, 4, 4, 4, 4, 4, 4, 4, 4, 4] r12_14 k E m Q ↔ Rg Try.prog TT S 4 [4, 4, 4, 4, 4, 4, 4, 4, 4, 4, 4, 4, 4, 4, 4, 4, 4, 4, 4, 4, 4, 4] [] [4] (lgo E [3] (lops Try.prog (callw Try.prog TT S) [(some 17), (some 4)] (L12_14).1 E m)) k E Q := w_plain (by kernel_rfl) (L12_14).2
noncomputable def L12_15 : {l : List Oper // (opsOf r12_15).map strip = l} := by refine ⟨?l, ?h⟩; case h => simp only [r12_15, c12, bodyOf, Try.f12, Code.sub, opsOf, List.map_cons, List.map_nil, strip]; rfl
theorem w12_15 : W Try.prog TT S 4 [4, 4, 4, 4, 4, 4, 4, 4, 4, 4, 4, 4, 4, 4, 4, 4, 4, 4, 4, 4, 4, 4] r12_15 k E m Q ↔ Rg Try.prog TT S 4 [4, 4, 4, 4, 4, 4, 4, 4, 4, 4, 4, 4, 4, 4, 4, 4, 4, 4, 4, 4, 4, 4] [] [4] (lgo E [3] (lops Try.prog (callw Try.prog TT S) [(some 18), (some 4)] (L12_15).1 E m)) k E Q := w_plain (by kernel_rfl) (L12_15).2
noncomputable def L12_16 : {l : List Oper // (opsOf r12_16).map strip = l} := by refine ⟨?l, ?h⟩; case h => simp only [r12_16, c12, bodyOf, Try.f12, Code.sub, opsOf, List.map_cons, List.map_nil, strip]; rfl
theorem w12_16 : W Try.prog TT S 4 [4, 4, 4, 4, 4, 4, 4, 4, 4, 4, 4, 4, 4, 4, 4, 4, 4, 4, 4, 4, 4, 4] r12_16 k E m Q ↔ Rg Try.prog TT S 4 [4, 4, 4, 4, 4, 4, 4, 4, 4, 4, 4, 4, 4, 4, 4, 4, 4, 4, 4, 4, 4, 4] [] [4] (lgo E [3] (lops Try.prog (callw Try.prog TT S) [(some 19), (some 4)] (L12_16).1 E m)) k E Q := w_plain (by kernel_rfl) (L12_16).2
noncomputable def L12_17 : {l : List Oper // (opsOf r12_17).map strip = l} := by refine ⟨?l, ?h⟩; case h => simp only [r12_17, c12, bodyOf, Try.f12, Code.sub, opsOf, List.map_cons, List.map_nil, strip]; rfl
theorem w12_17 : W Try.prog TT S 4 [4, 4, 4, 4, 4, 4, 4, 4, 4, 4, 4, 4, 4, 4, 4, 4, 4, 4, 4, 4, 4, 4] r12_17 k E m Q ↔ Rg Try.prog TT S 4 [4, 4, 4, 4, 4, 4, 4, 4, 4, 4, 4, 4, 4, 4, 4, 4, 4, 4, 4, 4, 4, 4] [] [4] (lgo E [3] (lops Try.prog (callw Try.prog TT S) [(some 20), (some 4)] (L12_17).1 E m)) k E Q := w_plain (by kernel_rfl) (L12_17).2
noncomputable def L12_18 : {l : List Oper // (opsOf r12_18).map strip = l} := by refine ⟨?l, ?h⟩; case h => simp only [r12_18, c12, bodyOf, Try.f12, Code.sub, opsOf, List.map_cons, List.map_nil, strip]; rfl
theorem w12_18 : W Try.prog TT S 4 [4, 4, 4, 4, 4, 4, 4, 4, 4, 4, 4, 4, 4, 4, 4, 4, 4, 4, 4, 4, 4, 4] r12_18 k E m Q ↔ Rg Try.prog TT S 4 [4, 4, 4, 4, 4, 4, 4, 4, 4, 4, 4, 4, 4, 4, 4, 4, 4, 4, 4, 4, 4, 4] [] [4] (lgo E [3] (lops Try.prog (callw Try.prog TT S) [(some 21), (some 4)] (L12_18).1 E m)) k E Q := w_plain (by kernel_rfl) (L12_18).2
noncomputable def L12_19 : {l : List Oper // (opsOf r12_19).map strip = l} := by refine ⟨?l, ?h⟩; case h => simp only [r12_19, c12, bodyOf, Try.f12, Code.sub, opsOf, List.map_cons, List.map_nil, strip]; rfl
theorem w12_19 : W Try.prog TT S 4 [4, 4, 4, 4, 4, 4, 4, 4, 4, 4, 4, 4, 4, 4, 4, 4, 4, 4, 4, 4, 4, 4] r12_19 k E m Q ↔ Rg Try.prog TT S 4 [4, 4, 4, 4, 4, 4, 4, 4, 4, 4, 4, 4, 4, 4, 4, 4, 4, 4, 4, 4, 4, 4] [] [4] (lgo E [3] (lops Try.prog (callw Try.prog TT S) [(some 22), (some 4)] (L12_19).1 E m)) k E Q := w_plain (by kernel_rfl) (L12_19).2
noncomputable def L12_20 : {l : List Oper // (opsOf r12_20).map strip = l} := by refine ⟨?l, ?h⟩; case h => simp only [r12_20, c12, bodyOf, Try.f12, Code.sub, opsOf, List.map_cons, List.map_nil, strip]; rfl
theorem w12_20 : W Try.prog TT S 4 [4, 4, 4, 4, 4, 4, 4, 4, 4, 4, 4, 4, 4, 4, 4, 4, 4, 4, 4, 4, 4, 4] r12_20 k E m Q ↔ Rg Try.prog TT S 4 [4, 4, 4, 4, 4, 4, 4, 4, 4, 4, 4, 4, 4, 4, 4, 4, 4, 4, 4, 4, 4, 4] [] [4] (lgo E [3] (lops Try.prog (callw Try.prog TT S) [(some 23), (some 4)] (L12_20).1 E m)) k E Q := w_plain (by kernel_rfl) (L12_20).2
noncomputable def L12_21 : {l : List Oper // (opsOf r12_21).map strip = l} := by refine ⟨?l, ?h⟩; case h => simp only [r12_21, c12, bodyOf, Try.f12, Code.sub, opsOf, List.map_cons, List.map_nil, strip]; rfl
theorem w12_21 : W Try.prog TT S 4 [4, 4, 4, 4, 4, 4, 4, 4, 4, 4, 4, 4, 4, 4, 4, 4, 4, 4, 4, 4, 4, 4] r12_21 k E m Q ↔ Rg Try.prog TT S 4 [4, 4, 4, 4, 4, 4, 4, 4, 4, 4, 4, 4, 4, 4, 4, 4, 4, 4, 4, 4, 4, 4] [] [4] (lgo E [3] (lops Try.prog (callw Try.prog TT S) [(some 24), (some 4)] (L12_21).1 E m)) k E Q := w_plain (by kernel_rfl) (L12_21).2
noncomputable def L12_22 : {l : List Oper // (opsOf r12_22).map strip = l} := by refine ⟨?l, ?h⟩; case h => simp only [r12_22, c12, bodyOf, Try.f12, Code.sub, opsOf, List.map_cons, List.map_nil, strip]; rfl
theorem w12_22 : W Try.prog TT S 4 [4, 4, 4, 4, 4, 4, 4, 4, 4, 4, 4, 4, 4, 4, 4, 4, 4, 4, 4, 4, 4, 4] r12_22 k E m Q ↔ Rg Try.prog TT S 4 [4, 4, 4, 4, 4, 4, 4, 4, 4, 4, 4, 4, 4, 4, 4, 4, 4, 4, 4, 4, 4, 4] [] [4] (lgo E [3] (lops Try.prog (callw Try.prog TT S) [(some 25), (some 4)] (L12_22).1 E m)) k E Q := w_plain (by kernel_rfl) (L12_22).2
noncomputable def L12_23 : {l : List Oper // (opsOf r12_23).map strip = l} := by refine ⟨?l, ?h⟩; case h => simp only [r12_23, c12, bodyOf, Try.f12, Code.sub, opsOf, List.map_cons, List.map_nil, strip]; rfl
theorem w12_23 : W Try.prog TT S 4 [4, 4, 4, 4, 4, 4, 4, 4, 4, 4, 4, 4, 4, 4, 4, 4, 4, 4, 4, 4, 4, 4] r12_23 k E m Q ↔ Rg Try.prog TT S 4 [4, 4, 4, 4, 4, 4, 4, 4, 4, 4, 4, 4, 4, 4, 4, 4, 4, 4, 4, 4, 4, 4] [] [4] (lgo E [3] (lops Try.prog (callw Try.prog TT S) [(some 26), (some 4)] (L12_23).1 E m)) k E Q := w_plain (by kernel_rfl) (L12_23).2
noncomputable def L12_24 : {l : List Oper // (opsOf r12_24).map strip = l} := by refine ⟨?l, ?h⟩; case h => simp only [r12_24, c12, bodyOf, Try.f12, Code.sub, opsOf, List.map_cons, List.map_nil, strip]; rfl
theorem w12_24 : W Try.prog TT S 4 [4, 4, 4, 4, 4, 4, 4, 4, 4, 4, 4, 4, 4, 4, 4, 4, 4, 4, 4, 4, 4, 4] r12_24 k E m Q ↔ Rg Try.prog TT S 4 [4, 4, 4, 4, 4, 4, 4, 4, 4, 4, 4, 4, 4, 4, 4, 4, 4, 4, 4, 4, 4, 4] [2] [] (lgo E [] (lops Try.prog (callw Try.prog TT S) [(some 2)] (L12_24).1 E m)) k E Q := w_plain (by kernel_rfl) (L12_24).2
noncomputable def L12_25 : {l : List Oper // (opsOf r12_25).map strip = l} := by refine ⟨?l, ?h⟩; case h => simp only [r12_25, c12, bodyOf, Try.f12, Code.sub, opsOf, List.map_cons, List.map_nil, strip]; rfl
theorem w12_25 : W Try.prog TT S 4 [4, 4, 4, 4, 4, 4, 4, 4, 4, 4, 4, 4, 4, 4, 4, 4, 4, 4, 4, 4, 4, 4] r12_25 k E m Q ↔ Rg Try.prog TT S 4 [4, 4, 4, 4, 4, 4, 4, 4, 4, 4, 4, 4, 4, 4, 4, 4, 4, 4, 4, 4, 4, 4] [2] [] (lgo E [] (lops Try.prog (callw Try.prog TT S) [(some 2)] (L12_25).1 E m)) k E Q := w_plain (by kernel_rfl) (L12_25).2
theorem k12 : FnIs TT 12 c12 [.tmp 2] 1 := ⟨Try.f12, by kernel_rfl, by simp only [Try.f12, c12, bodyOf], by kernel_rfl, of_decide_eq_true (by kernel_rfl)⟩

/- turnstoneref3.All -/
noncomputable def c14 : Code := bodyOf Try.f14
noncomputable def r14_0 : Code := Code.sub [0] c14
noncomputable def r14_1 : Code := Code.sub [1, 0, 0] c14
noncomputable def r14_2 : Code := Code.sub [1, 0, 1, 0, 0] c14
noncomputable def r14_3 : Code := Code.sub [1, 1, 0] c14
noncomputable def r14_4 : Code := Code.sub [1, 1, 1, 0, 0] c14
noncomputable def r14_5 : Code := Code.sub [1, 1, 1, 0, 1, 0, 0, 0, 0] c14
noncomputable def r14_6 : Code := Code.sub [1, 1, 1, 0, 1, 0, 0, 1, 0, 0, 0] c14
noncomputable def r14_7 : Code := Code.sub [1, 1, 1, 0, 1, 0, 0, 1, 0, 1, 0] c14
noncomputable def r14_8 : Code := Code.sub [1, 1, 1, 0, 1, 0, 0, 1, 0, 1, 1, 0, 0] c14
noncomputable def r14_9 : Code := Code.sub [1, 1, 1, 0, 1, 0, 0, 1, 0, 1, 1, 0, 1, 0, 0, 0] c14
noncomputable def r14_10 : Code := Code.sub [1, 1, 1, 0, 1, 0, 0, 1, 0, 1, 1, 0, 1, 0, 0, 1, 0] c14
noncomputable def r14_11 : Code := Code.sub [1, 1, 1, 0, 1, 0, 0, 1, 0, 1, 1, 0, 1, 0, 1, 0, 0] c14
noncomputable def r14_12 : Code := Code.sub [1, 1, 1, 0, 1, 0, 0, 1, 0, 1, 1, 0, 1, 0, 1, 1, 0] c14
noncomputable def r14_13 : Code := Code.sub [1, 1, 1, 0, 1, 0, 0, 1, 0, 1, 1, 0, 1, 0, 1, 1, 1, 0] c14
noncomputable def r14_14 : Code := Code.sub [1, 1, 1, 0, 1, 0, 0, 1, 0, 1, 1, 0, 1, 0, 1, 1, 1, 1, 0] c14
noncomputable def r14_15 : Code := Code.sub [1, 1, 1, 0, 1, 0, 0, 1, 0, 1, 1, 1, 0, 0] c14
noncomputable def r14_16 : Code := Code.sub [1, 1, 1, 0, 1, 0, 0, 1, 0, 1, 1, 1, 0, 1, 0, 0] c14
noncomputable def r14_17 : Code := Code.sub [1, 1, 1, 0, 1, 0, 0, 1, 0, 1, 1, 1, 0, 1, 0, 1, 0] c14
noncomputable def r14_18 : Code := Code.sub [1, 1, 1, 0, 1, 0, 0, 1, 0, 1, 1, 1, 1, 0, 0] c14
noncomputable def r14_19 : Code := Code.sub [1, 1, 1, 0, 1, 0, 0, 1, 0, 1, 1, 1, 1, 0, 1, 0, 0, 0, 0, 0, 0] c14
noncomputable def r14_20 : Code := Code.sub [1, 1, 1, 0, 1, 0, 0, 1, 0, 1, 1, 1, 1, 0, 1, 0, 0, 0, 0, 1, 0, 0] c14
noncomputable def r14_21 : Code := Code.sub [1, 1, 1, 0, 1, 0, 0, 1, 0, 1, 1, 1, 1, 0, 1, 0, 0, 0, 0, 1, 0, 1] c14
noncomputable def r14_22 : Code := Code.sub [1, 1, 1, 0, 1, 0, 0, 1, 0, 1, 1, 1, 1, 1, 0] c14
noncomputable def r14_23 : Code := Code.sub [1, 1, 1, 0, 1, 0, 0, 1, 0, 1, 1, 1, 1, 1, 1, 0, 0] c14
noncomputable def r14_24 : Code := Code.sub [1, 1, 1, 0, 1, 0, 0, 1, 0, 1, 1, 1, 1, 1, 1, 0, 1, 0, 0] c14
noncomputable def r14_25 : Code := Code.sub [1, 1, 1, 0, 1, 0, 0, 1, 0, 1, 1, 1, 1, 1, 1, 1, 0] c14
noncomputable def r14_26 : Code := Code.sub [1, 1, 1, 0, 1, 0, 0, 1, 0, 1, 1, 1, 1, 1, 1, 1, 1, 0, 0] c14
noncomputable def r14_27 : Code := Code.sub [1, 1, 1, 0, 1, 0, 0, 1, 0, 1, 1, 1, 1, 1, 1, 1, 1, 1, 0] c14
noncomputable def r14_28 : Code := Code.sub [1, 1, 1, 0, 1, 0, 0, 1, 0, 1, 1, 1, 1, 1, 1, 1, 1, 1, 1] c14
noncomputable def r14_29 : Code := Code.sub [1, 1, 1, 1, 0, 0] c14
noncomputable def r14_30 : Code := Code.sub [1, 1, 1, 1, 0, 1, 0] c14
noncomputable def r14_31 : Code := Code.sub [1, 1, 1, 1, 1, 0, 0] c14
noncomputable def r14_32 : Code := Code.sub [1, 1, 1, 1, 1, 0, 1, 0] c14
noncomputable def r14_33 : Code := Code.sub [1, 1, 1, 1, 1, 1, 0, 0] c14
noncomputable def r14_34 : Code := Code.sub [1, 1, 1, 1, 1, 1, 0, 1, 0, 0] c14
noncomputable def r14_35 : Code := Code.sub [1, 1, 1, 1, 1, 1, 1, 0] c14
theorem body14 : c14 = (.seq r14_0 (.seq (.seq r14_1 (.cond (.tmp 13) (.seq r14_2 .ret) .skip)) (.seq r14_3 (.seq (.seq r14_4 (.block 0 (.loop (.seq (.seq r14_5 (.cond (.tmp 20) .skip (.exit 0))) (.block 1 (.seq (.seq r14_6 (.cond (.tmp 24) (.exit 0) .skip)) (.seq r14_7 (.seq (.seq r14_8 (.cond (.tmp 29) (.seq (.seq r14_9 (.cond (.tmp 50) r14_10 .skip)) (.seq (.seq r14_11 (.cond (.tmp 57) (.exit 0) .skip)) (.seq r14_12 (.seq r14_13 (.seq r14_14 (.exit 1)))))) .skip)) (.seq (.seq r14_15 (.cond (.tmp 79) (.seq r14_16 (.seq r14_17 (.exit 1))) .skip)) (.seq (.seq r14_18 (.cond (.tmp 104) (.seq (.block 2 (.loop (.seq (.seq r14_19 (.cond (.tmp 114) .skip (.exit 2))) (.block 3 (.seq r14_20 r14_21))))) (.exit 1)) .skip)) (.seq r14_22 (.seq (.seq r14_23 (.cond (.tmp 133) (.seq r14_24 .ret) .skip)) (.seq r14_25 (.seq (.seq r14_26 (.cond (.tmp 150) (.exit 0) .skip)) (.seq r14_27 r14_28))))))))))))))) (.seq (.seq r14_29 (.cond (.tmp 190) r14_30 .skip)) (.seq (.seq r14_31 (.cond (.tmp 198) r14_32 .skip)) (.seq (.seq r14_33 (.cond (.tmp 205) (.seq r14_34 .ret) .skip)) (.seq r14_35 .ret)))))))) := by kernel_rfl
noncomputable def L14_0 : {l : List Oper // (opsOf r14_0).map strip = l} := by refine ⟨?l, ?h⟩; case h => simp only [r14_0, c14, bodyOf, Try.f14, Code.sub, opsOf, List.map_cons, List.map_nil, strip]; rfl
theorem w14_0 : W Try.prog TT S 11 [13, 20, 24, 29, 50, 57, 79, 104, 114, 133, 150, 190, 198, 205] r14_0 k E m Q ↔ Rg Try.prog TT S 11 [13, 20, 24, 29, 50, 57, 79, 104, 114, 133, 150, 190, 198, 205] [2, 3, 4] [] (lgo E [] (lops Try.prog (callw Try.prog TT S) [(some 2), (some 3), (some 4)] (L14_0).1 E m)) k E Q := w_plain (by kernel_rfl) (L14_0).2
noncomputable def L14_1 : {l : List Oper // (opsOf r14_1).map strip = l} := by refine ⟨?l, ?h⟩; case h => simp only [r14_1, c14, bodyOf, Try.f14, Code.sub, opsOf, List.map_cons, List.map_nil, strip]; rfl
theorem w14_1 : W Try.prog TT S 11 [13, 20, 24, 29, 50, 57, 79, 104, 114, 133, 150, 190, 198, 205] r14_1 k E m Q ↔ Rg Try.prog TT S 11 [13, 20, 24, 29, 50, 57, 79, 104, 114, 133, 150, 190, 198, 205] [] [13] (lgo E [0] (lops Try.prog (callw Try.prog TT S) [(some 11), (some 12), (some 13)] (L14_1).1 E m)) k E Q := w_plain (by kernel_rfl) (L14_1).2
noncomputable def L14_2 : {l : List Oper // (opsOf r14_2).map strip = l} := by refine ⟨?l, ?h⟩; case h => simp only [r14_2, c14, bodyOf, Try.f14, Code.sub, opsOf, List.map_cons, List.map_nil, strip]; rfl
theorem w14_2 : W Try.prog TT S 11 [13, 20, 24, 29, 50, 57, 79, 104, 114, 133, 150, 190, 198, 205] r14_2 k E m Q ↔ Rg Try.prog TT S 11 [13, 20, 24, 29, 50, 57, 79, 104, 114, 133, 150, 190, 198, 205] [2, 4] [] (lgo E [3] (lops Try.prog (callw Try.prog TT S) [(some 14), (some 2), none, (some 4)] (L14_2).1 E m)) k E Q := w_plain (by kernel_rfl) (L14_2).2
noncomputable def L14_3 : {l : List Oper // (opsOf r14_3).map strip = l} := by refine ⟨?l, ?h⟩; case h => simp only [r14_3, c14, bodyOf, Try.f14, Code.sub, opsOf, List.map_cons, List.map_nil, strip]; rfl
theorem w14_3 : W Try.prog TT S 11 [13, 20, 24, 29, 50, 57, 79, 104, 114, 133, 150, 190, 198, 205] r14_3 k E m Q ↔ Rg Try.prog TT S 11 [13, 20, 24, 29, 50, 57, 79, 104, 114, 133, 150, 190, 198, 205] [5] [] (lgo E [] (lops Try.prog (callw Try.prog TT S) [(some 15), (some 16), (some 5)] (L14_3).1 E m)) k E Q := w_plain (by kernel_rfl) (L14_3).2
noncomputable def L14_4 : {l : List Oper // (opsOf r14_4).map strip = l} := by refine ⟨?l, ?h⟩; case h => simp only [r14_4, c14, bodyOf, Try.f14, Code.sub, opsOf, List.map_cons, List.map_nil, strip]; rfl
theorem w14_4 : W Try.prog TT S 11 [13, 20, 24, 29, 50, 57, 79, 104, 114, 133, 150, 190, 198, 205] r14_4 k E m Q ↔ Rg Try.prog TT S 11 [13, 20, 24, 29, 50, 57, 79, 104, 114, 133, 150, 190, 198, 205] [6] [] (lgo E [] (lops Try.prog (callw Try.prog TT S) [(some 6)] (L14_4).1 E m)) k E Q := w_plain (by kernel_rfl) (L14_4).2
noncomputable def L14_5 : {l : List Oper // (opsOf r14_5).map strip = l} := by refine ⟨?l, ?h⟩; case h => simp only [r14_5, c14, bodyOf, Try.f14, Code.sub, opsOf, List.map_cons, List.map_nil, strip]; rfl
theorem w14_5 : W Try.prog TT S 11 [13, 20, 24, 29, 50, 57, 79, 104, 114, 133, 150, 190, 198, 205] r14_5 k E m Q ↔ Rg Try.prog TT S 11 [13, 20, 24, 29, 50, 57, 79, 104, 114, 133, 150, 190, 198, 205] [] [20] (lgo E [6, 0] (lops Try.prog (callw Try.prog TT S) [(some 17), (some 18), (some 19), (some 20)] (L14_5).1 E m)) k E Q := w_plain (by kernel_rfl) (L14_5).2
noncomputable def L14_6 : {l : List Oper // (opsOf r14_6).map strip = l} := by refine ⟨?l, ?h⟩; case h => simp only [r14_6, c14, bodyOf, Try.f14, Code.sub, opsOf, List.map_cons, List.map_nil, strip]; rfl
theorem w14_6 : W Try.prog TT S 11 [13, 20, 24, 29, 50, 57, 79, 104, 114, 133, 150, 190, 198, 205] r14_6 k E m Q ↔ Rg Try.prog TT S 11 [13, 20, 24, 29, 50, 57, 79, 104, 114, 133, 150, 190, 198, 205] [] [24] (lgo E [5] (lops Try.prog (callw Try.prog TT S) [(some 21), (some 22), (some 23), (some 24)] (L14_6).1 E m)) k E Q := w_plain (by kernel_rfl) (L14_6).2
noncomputable def L14_7 : {l : List Oper // (opsOf r14_7).map strip = l} := by refine ⟨?l, ?h⟩; case h => simp only [r14_7, c14, bodyOf, Try.f14, Code.sub, opsOf, List.map_cons, List.map_nil, strip]; rfl
theorem w14_7 : W Try.prog TT S 11 [13, 20, 24, 29, 50, 57, 79, 104, 114, 133, 150, 190, 198, 205] r14_7 k E m Q ↔ Rg Try.prog TT S 11 [13, 20, 24, 29, 50, 57, 79, 104, 114, 133, 150, 190, 198, 205] [7] [] (lgo E [0, 6] (lops Try.prog (callw Try.prog TT S) [(some 25), (some 26), (some 27), (some 7)] (L14_7).1 E m)) k E Q := w_plain (by kernel_rfl) (L14_7).2
noncomputable def L14_8 : {l : List Oper // (opsOf r14_8).map strip = l} := by refine ⟨?l, ?h⟩; case h => simp only [r14_8, c14, bodyOf, Try.f14, Code.sub, opsOf, List.map_cons, List.map_nil, strip]; rfl
theorem w14_8 : W Try.prog TT S 11 [13, 20, 24, 29, 50, 57, 79, 104, 114, 133, 150, 190, 198, 205] r14_8 k E m Q ↔ Rg Try.prog TT S 11 [13, 20, 24, 29, 50, 57, 79, 104, 114, 133, 150, 190, 198, 205] [] [29] (lgo E [7] (lops Try.prog (callw Try.prog TT S) [(some 28), (some 29)] (L14_8).1 E m)) k E Q := w_plain (by kernel_rfl) (L14_8).2
theorem can14_9 : canonOps (opsOf r14_9) = opsOf r14_9 := by kernel_rfl
noncomputable def L14_9 : {l : List Oper // (canonOps (opsOf r14_9)).map strip = l} := by refine ⟨?l, (congrArg (List.map strip) can14_9).trans ?h⟩; case h => simp only [r14_9, c14, bodyOf, Try.f14, Code.sub, opsOf, List.map_cons, List.map_nil, strip]; rfl
theorem w14_9 : W Try.prog TT S 11 [13, 20, 24, 29, 50, 57, 79, 104, 114, 133, 150, 190, 198, 205] r14_9 k E m Q ↔ Rg Try.prog TT S 11 [13, 20, 24, 29, 50, 57, 79, 104, 114, 133, 150, 190, 198, 205] [] [50] (lgo E [5] (lloud Try.prog (callw Try.prog TT S) [(some 30), (some 31), (some 32), (some 33), (some 34), (some 35), (some 36), (some 37), (some 38), (some 39), (some 40), (some 41), (some 42), (some 43), (some 44), (some 45), (some 46), (some 47), (some 48), (some 49), (some 50)] (L14_9).1 [(3, [19]), (4, [19]), (10, [19]), (14, [19]), (15, [19]), (18, [19])] (lstates Try.prog (callw Try.prog TT S) [(some 30), (some 31), (some 32), (some 33), (some 34), (some 35), (some 36), (some 37), (some 38), (some 39), (some 40), (some 41), (some 42), (some 43), (some 44), (some 45), (some 46), (some 47), (some 48), (some 49), (some 50)] (L14_9).1 E m))) k E Q := w_loud (by kernel_rfl) (L14_9).2
noncomputable def L14_10 : {l : List Oper // (opsOf r14_10).map strip = l} := by refine ⟨?l, ?h⟩; case h => simp only [r14_10, c14, bodyOf, Try.f14, Code.sub, opsOf, List.map_cons, List.map_nil, strip]; rfl
theorem w14_10 : W Try.prog TT S 11 [13, 20, 24, 29, 50, 57, 79, 104, 114, 133, 150, 190, 198, 205] r14_10 k E m Q ↔ Rg Try.prog TT S 11 [13, 20, 24, 29, 50, 57, 79, 104, 114, 133, 150, 190, 198, 205] [] [] (lgo E [5] (lops Try.prog (callw Try.prog TT S) [(some 51), (some 52), (some 53)] (L14_10).1 E m)) k E Q := w_plain (by kernel_rfl) (L14_10).2
noncomputable def L14_11 : {l : List Oper // (opsOf r14_11).map strip = l} := by refine ⟨?l, ?h⟩; case h => simp only [r14_11, c14, bodyOf, Try.f14, Code.sub, opsOf, List.map_cons, List.map_nil, strip]; rfl
theorem w14_11 : W Try.prog TT S 11 [13, 20, 24, 29, 50, 57, 79, 104, 114, 133, 150, 190, 198, 205] r14_11 k E m Q ↔ Rg Try.prog TT S 11 [13, 20, 24, 29, 50, 57, 79, 104, 114, 133, 150, 190, 198, 205] [] [57] (lgo E [5] (lops Try.prog (callw Try.prog TT S) [(some 54), (some 55), (some 56), (some 57)] (L14_11).1 E m)) k E Q := w_plain (by kernel_rfl) (L14_11).2
noncomputable def L14_12 : {l : List Oper // (opsOf r14_12).map strip = l} := by refine ⟨?l, ?h⟩; case h => simp only [r14_12, c14, bodyOf, Try.f14, Code.sub, opsOf, List.map_cons, List.map_nil, strip]; rfl
theorem w14_12 : W Try.prog TT S 11 [13, 20, 24, 29, 50, 57, 79, 104, 114, 133, 150, 190, 198, 205] r14_12 k E m Q ↔ Rg Try.prog TT S 11 [13, 20, 24, 29, 50, 57, 79, 104, 114, 133, 150, 190, 198, 205] [] [] (lgo E [5] (lops Try.prog (callw Try.prog TT S) [(some 58), (some 59), (some 60), (some 61), (some 62), (some 63), (some 64), none] (L14_12).1 E m)) k E Q := w_plain (by kernel_rfl) (L14_12).2
noncomputable def L14_13 : {l : List Oper // (opsOf r14_13).map strip = l} := by refine ⟨?l, ?h⟩; case h => simp only [r14_13, c14, bodyOf, Try.f14, Code.sub, opsOf, List.map_cons, List.map_nil, strip]; rfl
theorem w14_13 : W Try.prog TT S 11 [13, 20, 24, 29, 50, 57, 79, 104, 114, 133, 150, 190, 198, 205] r14_13 k E m Q ↔ Rg Try.prog TT S 11 [13, 20, 24, 29, 50, 57, 79, 104, 114, 133, 150, 190, 198, 205] [] [] (lgo E [5] (lops Try.prog (callw Try.prog TT S) [(some 65), (some 66), (some 67), none] (L14_13).1 E m)) k E Q := w_plain (by kernel_rfl) (L14_13).2
noncomputable def L14_14 : {l : List Oper // (opsOf r14_14).map strip = l} := by refine ⟨?l, ?h⟩; case h => simp only [r14_14, c14, bodyOf, Try.f14, Code.sub, opsOf, List.map_cons, List.map_nil, strip]; rfl
theorem w14_14 : W Try.prog TT S 11 [13, 20, 24, 29, 50, 57, 79, 104, 114, 133, 150, 190, 198, 205] r14_14 k E m Q ↔ Rg Try.prog TT S 11 [13, 20, 24, 29, 50, 57, 79, 104, 114, 133, 150, 190, 198, 205] [6] [] (lgo E [6] (lops Try.prog (callw Try.prog TT S) [(some 68), (some 69), (some 6)] (L14_14).1 E m)) k E Q := w_plain (by kernel_rfl) (L14_14).2
noncomputable def L14_15 : {l : List Oper // (opsOf r14_15).map strip = l} := by refine ⟨?l, ?h⟩; case h => simp only [r14_15, c14, bodyOf, Try.f14, Code.sub, opsOf, List.map_cons, List.map_nil, strip]; rfl
theorem w14_15 : W Try.prog TT S 11 [13, 20, 24, 29, 50, 57, 79, 104, 114, 133, 150, 190, 198, 205] r14_15 k E m Q ↔ Rg Try.prog TT S 11 [13, 20, 24, 29, 50, 57, 79, 104, 114, 133, 150, 190, 198, 205] [] [79] (lgo E [7] (lops Try.prog (callw Try.prog TT S) [(some 70), (some 71), (some 72), (some 73), (some 74), (some 75), (some 76), (some 77), (some 78), (some 79)] (L14_15).1 E m)) k E Q := w_plain (by kernel_rfl) (L14_15).2
noncomputable def L14_16 : {l : List Oper // (opsOf r14_16).map strip = l} := by refine ⟨?l, ?h⟩; case h => simp only [r14_16, c14, bodyOf, Try.f14, Code.sub, opsOf, List.map_cons, List.map_nil, strip]; rfl
theorem w14_16 : W Try.prog TT S 11 [13, 20, 24, 29, 50, 57, 79, 104, 114, 133, 150, 190, 198, 205] r14_16 k E m Q ↔ Rg Try.prog TT S 11 [13, 20, 24, 29, 50, 57, 79, 104, 114, 133, 150, 190, 198, 205] [6] [] (lgo E [6] (lops Try.prog (callw Try.prog TT S) [(some 80), (some 81), (some 6)] (L14_16).1 E m)) k E Q := w_plain (by kernel_rfl) (L14_16).2
noncomputable def L14_17 : {l : List Oper // (opsOf r14_17).map strip = l} := by refine ⟨?l, ?h⟩; case h => simp only [r14_17, c14, bodyOf, Try.f14, Code.sub, opsOf, List.map_cons, List.map_nil, strip]; rfl
theorem w14_17 : W Try.prog TT S 11 [13, 20, 24, 29, 50, 57, 79, 104, 114, 133, 150, 190, 198, 205] r14_17 k E m Q ↔ Rg Try.prog TT S 11 [13, 20, 24, 29, 50, 57, 79, 104, 114, 133, 150, 190, 198, 205] [] [] (lgo E [5] (lops Try.prog (callw Try.prog TT S) [(some 82), (some 83), (some 84), (some 85), (some 86), (some 87), (some 88), none] (L14_17).1 E m)) k E Q := w_plain (by kernel_rfl) (L14_17).2
noncomputable def L14_18 : {l : List Oper // (opsOf r14_18).map strip = l} := by refine ⟨?l, ?h⟩; case h => simp only [r14_18, c14, bodyOf, Try.f14, Code.sub, opsOf, List.map_cons, List.map_nil, strip]; rfl
theorem w14_18 : W Try.prog TT S 11 [13, 20, 24, 29, 50, 57, 79, 104, 114, 133, 150, 190, 198, 205] r14_18 k E m Q ↔ Rg Try.prog TT S 11 [13, 20, 24, 29, 50, 57, 79, 104, 114, 133, 150, 190, 198, 205] [] [104] (lgo E [7, 0, 6] (lops Try.prog (callw Try.prog TT S) [(some 89), (some 90), (some 91), (some 92), (some 93), (some 94), (some 95), (some 96), (some 97), (some 98), (some 99), (some 100), (some 101), (some 102), (some 103), (some 104)] (L14_18).1 E m)) k E Q := w_plain (by kernel_rfl) (L14_18).2
noncomputable def L14_19 : {l : List Oper // (opsOf r14_19).map strip = l} := by refine ⟨?l, ?h⟩; case h => simp only [r14_19, c14, bodyOf, Try.f14, Code.sub, opsOf, List.map_cons, List.map_nil, strip]; rfl
theorem w14_19 : W Try.prog TT S 11 [13, 20, 24, 29, 50, 57, 79, 104, 114, 133, 150, 190, 198, 205] r14_19 k E m Q ↔ Rg Try.prog TT S 11 [13, 20, 24, 29, 50, 57, 79, 104, 114, 133, 150, 190, 198, 205] [] [114] (lgo E [0, 6] (lops Try.prog (callw Try.prog TT S) [(some 105), (some 106), (some 107), (some 108), (some 109), (some 110), (some 111), (some 112), (some 113), (some 114)] (L14_19).1 E m)) k E Q := w_plain (by kernel_rfl) (L14_19).2
noncomputable def L14_20 : {l : List Oper // (opsOf r14_20).map strip = l} := by refine ⟨?l, ?h⟩; case h => simp only [r14_20, c14, bodyOf, Try.f14, Code.sub, opsOf, List.map_cons, List.map_nil, strip]; rfl
theorem w14_20 : W Try.prog TT S 11 [13, 20, 24, 29, 50, 57, 79, 104, 114, 133, 150, 190, 198, 205] r14_20 k E m Q ↔ Rg Try.prog TT S 11 [13, 20, 24, 29, 50, 57, 79, 104, 114, 133, 150, 190, 198, 205] [6] [] (lgo E [6] (lops Try.prog (callw Try.prog TT S) [(some 115), (some 116), (some 6)] (L14_20).1 E m)) k E Q := w_plain (by kernel_rfl) (L14_20).2
noncomputable def L14_21 : {l : List Oper // (opsOf r14_21).map strip = l} := by refine ⟨?l, ?h⟩; case h => simp only [r14_21, c14, bodyOf, Try.f14, Code.sub, opsOf, List.map_cons, List.map_nil, strip]; rfl
theorem w14_21 : W Try.prog TT S 11 [13, 20, 24, 29, 50, 57, 79, 104, 114, 133, 150, 190, 198, 205] r14_21 k E m Q ↔ Rg Try.prog TT S 11 [13, 20, 24, 29, 50, 57, 79, 104, 114, 133, 150, 190, 198, 205] [] [] (lgo E [5] (lops Try.prog (callw Try.prog TT S) [(some 117), (some 118), (some 119), (some 120), (some 121), (some 122), (some 123), none] (L14_21).1 E m)) k E Q := w_plain (by kernel_rfl) (L14_21).2
noncomputable def L14_22 : {l : List Oper // (opsOf r14_22).map strip = l} := by refine ⟨?l, ?h⟩; case h => simp only [r14_22, c14, bodyOf, Try.f14, Code.sub, opsOf, List.map_cons, List.map_nil, strip]; rfl
theorem w14_22 : W Try.prog TT S 11 [13, 20, 24, 29, 50, 57, 79, 104, 114, 133, 150, 190, 198, 205] r14_22 k E m Q ↔ Rg Try.prog TT S 11 [13, 20, 24, 29, 50, 57, 79, 104, 114, 133, 150, 190, 198, 205] [8, 9, 10] [] (lgo E [0, 6] (lops Try.prog (callw Try.prog TT S) [(some 125), (some 126), (some 127), (some 128), (some 124), (some 129), (some 130), (some 131), (some 8), none, (some 9), (some 10)] (L14_22).1 E m)) k E Q := w_plain (by kernel_rfl) (L14_22).2
noncomputable def L14_23 : {l : List Oper // (opsOf r14_23).map strip = l} := by refine ⟨?l, ?h⟩; case h => simp only [r14_23, c14, bodyOf, Try.f14, Code.sub, opsOf, List.map_cons, List.map_nil, strip]; rfl
theorem w14_23 : W Try.prog TT S 11 [13, 20, 24, 29, 50, 57, 79, 104, 114, 133, 150, 190, 198, 205] r14_23 k E m Q ↔ Rg Try.prog TT S 11 [13, 20, 24, 29, 50, 57, 79, 104, 114, 133, 150, 190, 198, 205] [] [133] (lgo E [10] (lops Try.prog (callw Try.prog TT S) [(some 132), (some 133)] (L14_23).1 E m)) k E Q := w_plain (by kernel_rfl) (L14_23).2
theorem can14_24 : canonOps (opsOf r14_24) = opsOf r14_24 := by kernel_rfl
noncomputable def L14_24 : {l : List Oper // (canonOps (opsOf r14_24)).map strip = l} := by refine ⟨?l, (congrArg (List.map strip) can14_24).trans ?h⟩; case h => simp only [r14_24, c14, bodyOf, Try.f14, Code.sub, opsOf, List.map_cons, List.map_nil, strip]; rfl
theorem w14_24 : W Try.prog TT S 11 [13, 20, 24, 29, 50, 57, 79, 104, 114, 133, 150, 190, 198, 205] r14_24 k E m Q ↔ Rg Try.prog TT S 11 [13, 20, 24, 29, 50, 57, 79, 104, 114, 133, 150, 190, 198, 205] [2, 4] [] (lgo E [5, 10, 3] (lloud Try.prog (callw Try.prog TT S) [(some 134), (some 135), (some 136), (some 137), (some 138), (some 139), (some 140), (some 141), (some 142), (some 143), (some 2), none, (some 4)] (L14_24).1 [(3, [11]), (7, [11])] (lstates Try.prog (callw Try.prog TT S) [(some 134), (some 135), (some 136), (some 137), (some 138), (some 139), (some 140), (some 141), (some 142), (some 143), (some 2), none, (some 4)] (L14_24).1 E m))) k E Q := w_loud (by kernel_rfl) (L14_24).2
noncomputable def L14_25 : {l : List Oper // (opsOf r14_25).map strip = l} := by refine ⟨?l, ?h⟩; case h => simp only [r14_25, c14, bodyOf, Try.f14, Code.sub, opsOf, List.map_cons, List.map_nil, strip]; rfl
theorem w14_25 : W Try.prog TT S 11 [13, 20, 24, 29, 50, 57, 79, 104, 114, 133, 150, 190, 198, 205] r14_25 k E m Q ↔ Rg Try.prog TT S 11 [13, 20, 24, 29, 50, 57, 79, 104, 114, 133, 150, 190, 198, 205] [] [] (lgo E [5, 8] (lops Try.prog (callw Try.prog TT S) [(some 144), (some 145), (some 146)] (L14_25).1 E m)) k E Q := w_plain (by kernel_rfl) (L14_25).2
noncomputable def L14_26 : {l : List Oper // (opsOf r14_26).map strip = l} := by refine ⟨?l, ?h⟩; case h => simp only [r14_26, c14, bodyOf, Try.f14, Code.sub, opsOf, List.map_cons, List.map_nil, strip]; rfl
theorem w14_26 : W Try.prog TT S 11 [13, 20, 24, 29, 50, 57, 79, 104, 114, 133, 150, 190, 198, 205] r14_26 k E m Q ↔ Rg Try.prog TT S 11 [13, 20, 24, 29, 50, 57, 79, 104, 114, 133, 150, 190, 198, 205] [] [150] (lgo E [5] (lops Try.prog (callw Try.prog TT S) [(some 147), (some 148), (some 149), (some 150)] (L14_26).1 E m)) k E Q := w_plain (by kernel_rfl) (L14_26).2
noncomputable def L14_27 : {l : List Oper // (opsOf r14_27).map strip = l} := by refine ⟨?l, ?h⟩; case h => simp only [r14_27, c14, bodyOf, Try.f14, Code.sub, opsOf, List.map_cons, List.map_nil, strip]; rfl
theorem w14_27 : W Try.prog TT S 11 [13, 20, 24, 29, 50, 57, 79, 104, 114, 133, 150, 190, 198, 205] r14_27 k E m Q ↔ Rg Try.prog TT S 11 [13, 20, 24, 29, 50, 57, 79, 104, 114, 133, 150, 190, 198, 205] [6] [] (lgo E [6, 9] (lops Try.prog (callw Try.prog TT S) [(some 151), (some 152), (some 153), (some 6)] (L14_27).1 E m)) k E Q := w_plain (by kernel_rfl) (L14_27).2
noncomputable def L14_28 : {l : List Oper // (opsOf r14_28).map strip = l} := by refine ⟨?l, ?h⟩; case h => simp only [r14_28, c14, bodyOf, Try.f14, Code.sub, opsOf, List.map_cons, List.map_nil, strip]; rfl
theorem w14_28 : W Try.prog TT S 11 [13, 20, 24, 29, 50, 57, 79, 104, 114, 133, 150, 190, 198, 205] r14_28 k E m Q ↔ Rg Try.prog TT S 11 [13, 20, 24, 29, 50, 57, 79, 104, 114, 133, 150, 190, 198, 205] [] [] (lgo E [5, 9] (lops Try.prog (callw Try.prog TT S) [(some 154), (some 155), (some 156), (some 157), (some 158), (some 159), (some 160), (some 161), (some 162), none] (L14_28).1 E m)) k E Q := w_plain (by kernel_rfl) (L14_28).2
theorem can14_29 : canonOps (opsOf r14_29) = opsOf r14_29 := by kernel_rfl
noncomputable def L14_29 : {l : List Oper // (canonOps (opsOf r14_29)).map strip = l} := by refine ⟨?l, (congrArg (List.map strip) can14_29).trans ?h⟩; case h => simp only [r14_29, c14, bodyOf, Try.f14, Code.sub, opsOf, List.map_cons, List.map_nil, strip]; rfl
theorem w14_29 : W Try.prog TT S 11 [13, 20, 24, 29, 50, 57, 79, 104, 114, 133, 150, 190, 198, 205] r14_29 k E m Q ↔ Rg Try.prog TT S 11 [13, 20, 24, 29, 50, 57, 79, 104, 114, 133, 150, 190, 198, 205] [] [190] (lgo E [5] (lloud Try.prog (callw Try.prog TT S) [(some 163), (some 164), (some 165), (some 166), (some 167), (some 168), (some 169), (some 170), (some 171), (some 172), (some 173), (some 174), (some 175), (some 176), (some 177), (some 178), (some 179), (some 180), (some 181), (some 182), (some 183), (some 184), (some 185), (some 186), (some 187), (some 188), (some 189), (some 190)] (L14_29).1 [(3, [26]), (9, [26]), (10, [26]), (17, [26]), (21, [26]), (22, [26]), (25, [26])] (lstates Try.prog (callw Try.prog TT S) [(some 163), (some 164), (some 165), (some 166), (some 167), (some 168), (some 169), (some 170), (some 171), (some 172), (some 173), (some 174), (some 175), (some 176), (some 177), (some 178), (some 179), (some 180), (some 181), (some 182), (some 183), (some 184), (some 185), (some 186), (some 187), (some 188), (some 189), (some 190)] (L14_29).1 E m))) k E Q := w_loud (by kernel_rfl) (L14_29).2
noncomputable def L14_30 : {l : List Oper // (opsOf r14_30).map strip = l} := by refine ⟨?l, ?h⟩; case h => simp only [r14_30, c14, bodyOf, Try.f14, Code.sub, opsOf, List.map_cons, List.map_nil, strip]; rfl
theorem w14_30 : W Try.prog TT S 11 [13, 20, 24, 29, 50, 57, 79, 104, 114, 133, 150, 190, 198, 205] r14_30 k E m Q ↔ Rg Try.prog TT S 11 [13, 20, 24, 29, 50, 57, 79, 104, 114, 133, 150, 190, 198, 205] [] [] (lgo E [5] (lops Try.prog (callw Try.prog TT S) [(some 191), (some 192), (some 193)] (L14_30).1 E m)) k E Q := w_plain (by kernel_rfl) (L14_30).2
noncomputable def L14_31 : {l : List Oper // (opsOf r14_31).map strip = l} := by refine ⟨?l, ?h⟩; case h => simp only [r14_31, c14, bodyOf, Try.f14, Code.sub, opsOf, List.map_cons, List.map_nil, strip]; rfl
theorem w14_31 : W Try.prog TT S 11 [13, 20, 24, 29, 50, 57, 79, 104, 114, 133, 150, 190, 198, 205] r14_31 k E m Q ↔ Rg Try.prog TT S 11 [13, 20, 24, 29, 50, 57, 79, 104, 114, 133, 150, 190, 198, 205] [] [198] (lgo E [5] (lops Try.prog (callw Try.prog TT S) [(some 194), (some 195), (some 196), (some 197), (some 198)] (L14_31).1 E m)) k E Q := w_plain (by kernel_rfl) (L14_31).2
noncomputable def L14_32 : {l : List Oper // (opsOf r14_32).map strip = l} := by refine ⟨?l, ?h⟩; case h => simp only [r14_32, c14, bodyOf, Try.f14, Code.sub, opsOf, List.map_cons, List.map_nil, strip]; rfl
theorem w14_32 : W Try.prog TT S 11 [13, 20, 24, 29, 50, 57, 79, 104, 114, 133, 150, 190, 198, 205] r14_32 k E m Q ↔ Rg Try.prog TT S 11 [13, 20, 24, 29, 50, 57, 79, 104, 114, 133, 150, 190, 198, 205] [] [] (lgo E [5] (lops Try.prog (callw Try.prog TT S) [(some 199), (some 200), (some 201)] (L14_32).1 E m)) k E Q := w_plain (by kernel_rfl) (L14_32).2
noncomputable def L14_33 : {l : List Oper // (opsOf r14_33).map strip = l} := by refine ⟨?l, ?h⟩; case h => simp only [r14_33, c14, bodyOf, Try.f14, Code.sub, opsOf, List.map_cons, List.map_nil, strip]; rfl
theorem w14_33 : W Try.prog TT S 11 [13, 20, 24, 29, 50, 57, 79, 104, 114, 133, 150, 190, 198, 205] r14_33 k E m Q ↔ Rg Try.prog TT S 11 [13, 20, 24, 29, 50, 57, 79, 104, 114, 133, 150, 190, 198, 205] [] [205] (lgo E [5] (lops Try.prog (callw Try.prog TT S) [(some 202), (some 203), (some 204), (some 205)] (L14_33).1 E m)) k E Q := w_plain (by kernel_rfl) (L14_33).2
theorem can14_34 : canonOps (opsOf r14_34) = opsOf r14_34 := by kernel_rfl
noncomputable def L14_34 : {l : List Oper // (canonOps (opsOf r14_34)).map strip = l} := by refine ⟨?l, (congrArg (List.map strip) can14_34).trans ?h⟩; case h => simp only [r14_34, c14, bodyOf, Try.f14, Code.sub, opsOf, List.map_cons, List.map_nil, strip]; rfl
theorem w14_34 : W Try.prog TT S 11 [13, 20, 24, 29, 50, 57, 79, 104, 114, 133, 150, 190, 198, 205] r14_34 k E m Q ↔ Rg Try.prog TT S 11 [13, 20, 24, 29, 50, 57, 79, 104, 114, 133, 150, 190, 198, 205] [2, 4] [] (lgo E [5, 3] (lloud Try.prog (callw Try.prog TT S) [(some 206), (some 207), (some 208), (some 209), (some 210), (some 211), (some 212), (some 213), (some 214), (some 2), none, (some 4)] (L14_34).1 [(3, [10]), (7, [10])] (lstates Try.prog (callw Try.prog TT S) [(some 206), (some 207), (some 208), (some 209), (some 210), (some 211), (some 212), (some 213), (some 214), (some 2), none, (some 4)] (L14_34).1 E m))) k E Q := w_loud (by kernel_rfl) (L14_34).2
noncomputable def L14_35 : {l : List Oper // (opsOf r14_35).map strip = l} := by refine ⟨?l, ?h⟩; case h => simp only [r14_35, c14, bodyOf, Try.f14, Code.sub, opsOf, List.map_cons, List.map_nil, strip]; rfl
theorem w14_35 : W Try.prog TT S 11 [13, 20, 24, 29, 50, 57, 79, 104, 114, 133, 150, 190, 198, 205] r14_35 k E m Q ↔ Rg Try.prog TT S 11 [13, 20, 24, 29, 50, 57, 79, 104, 114, 133, 150, 190, 198, 205] [2, 4] [] (lgo E [5, 3] (lops Try.prog (callw Try.prog TT S) [(some 215), (some 216), (some 217), (some 218), (some 219), (some 2), none, (some 4)] (L14_35).1 E m)) k E Q := w_plain (by kernel_rfl) (L14_35).2
theorem k14 : FnIs TT 14 c14 [.tmp 2, .cell 3 34, .tmp 4] 1 := ⟨Try.f14, by kernel_rfl, by simp only [Try.f14, c14, bodyOf], by kernel_rfl, of_decide_eq_true (by kernel_rfl)⟩

/- turnstonelaw3.same -/
noncomputable def c15 : Code := bodyOf Try.f15
noncomputable def r15_0 : Code := Code.sub [0] c15
noncomputable def r15_1 : Code := Code.sub [1, 0, 0] c15
noncomputable def r15_2 : Code := Code.sub [1, 0, 1, 0, 0] c15
noncomputable def r15_3 : Code := Code.sub [1, 1, 0, 0] c15
noncomputable def r15_4 : Code := Code.sub [1, 1, 0, 1, 0, 0, 0, 0] c15
noncomputable def r15_5 : Code := Code.sub [1, 1, 0, 1, 0, 0, 1, 0, 0, 0] c15
noncomputable def r15_6 : Code := Code.sub [1, 1, 0, 1, 0, 0, 1, 0, 0, 1, 0, 0] c15
noncomputable def r15_7 : Code := Code.sub [1, 1, 0, 1, 0, 0, 1, 1] c15
noncomputable def r15_8 : Code := Code.sub [1, 1, 1, 0] c15
theorem body15 : c15 = (.seq r15_0 (.seq (.seq r15_1 (.cond (.tmp 10) (.seq r15_2 .ret) .skip)) (.seq (.seq r15_3 (.block 0 (.loop (.seq (.seq r15_4 (.cond (.tmp 14) .skip (.exit 0))) (.seq (.block 1 (.seq r15_5 (.cond (.tmp 25) (.seq r15_6 .ret) .skip))) r15_7))))) (.seq r15_8 .ret)))) := by kernel_rfl
noncomputable def L15_0 : {l : List Oper // (opsOf r15_0).map strip = l} := by refine ⟨?l, ?h⟩; case h => simp only [r15_0, c15, bodyOf, Try.f15, Code.sub, opsOf, List.map_cons, List.map_nil, strip]; rfl
theorem w15_0 : W Try.prog TT S 6 [10, 14, 25] r15_0 k E m Q ↔ Rg Try.prog TT S 6 [10, 14, 25] [4] [] (lgo E [] (lops Try.prog (callw Try.prog TT S) [(some 4)] (L15_0).1 E m)) k E Q := w_plain (by kernel_rfl) (L15_0).2
noncomputable def L15_1 : {l : List Oper // (opsOf r15_1).map strip = l} := by refine ⟨?l, ?h⟩; case h => simp only [r15_1, c15, bodyOf, Try.f15, Code.sub, opsOf, List.map_cons, List.map_nil, strip]; rfl
theorem w15_1 : W Try.prog TT S 6 [10, 14, 25] r15_1 k E m Q ↔ Rg Try.prog TT S 6 [10, 14, 25] [] [10] (lgo E [0, 1] (lops Try.prog (callw Try.prog TT S) [(some 6), (some 7), (some 8), (some 9), (some 10)] (L15_1).1 E m)) k E Q := w_plain (by kernel_rfl) (L15_1).2
noncomputable def L15_2 : {l : List Oper // (opsOf r15_2).map strip = l} := by refine ⟨?l, ?h⟩; case h => simp only [r15_2, c15, bodyOf, Try.f15, Code.sub, opsOf, List.map_cons, List.map_nil, strip]; rfl
theorem w15_2 : W Try.prog TT S 6 [10, 14, 25] r15_2 k E m Q ↔ Rg Try.prog TT S 6 [10, 14, 25] [4] [] (lgo E [] (lops Try.prog (callw Try.prog TT S) [(some 4)] (L15_2).1 E m)) k E Q := w_plain (by kernel_rfl) (L15_2).2
noncomputable def L15_3 : {l : List Oper // (opsOf r15_3).map strip = l} := by refine ⟨?l, ?h⟩; case h => simp only [r15_3, c15, bodyOf, Try.f15, Code.sub, opsOf, List.map_cons, List.map_nil, strip]; rfl
theorem w15_3 : W Try.prog TT S 6 [10, 14, 25] r15_3 k E m Q ↔ Rg Try.prog TT S 6 [10, 14, 25] [5] [] (lgo E [] (lops Try.prog (callw Try.prog TT S) [(some 5)] (L15_3).1 E m)) k E Q := w_plain (by kernel_rfl) (L15_3).2
noncomputable def L15_4 : {l : List Oper // (opsOf r15_4).map strip = l} := by refine ⟨?l, ?h⟩; case h => simp only [r15_4, c15, bodyOf, Try.f15, Code.sub, opsOf, List.map_cons, List.map_nil, strip]; rfl
theorem w15_4 : W Try.prog TT S 6 [10, 14, 25] r15_4 k E m Q ↔ Rg Try.prog TT S 6 [10, 14, 25] [] [14] (lgo E [5, 0] (lops Try.prog (callw Try.prog TT S) [(some 11), (some 12), (some 13), (some 14)] (L15_4).1 E m)) k E Q := w_plain (by kernel_rfl) (L15_4).2
noncomputable def L15_5 : {l : List Oper // (opsOf r15_5).map strip = l} := by refine ⟨?l, ?h⟩; case h => simp only [r15_5, c15, bodyOf, Try.f15, Code.sub, opsOf, List.map_cons, List.map_nil, strip]; rfl
theorem w15_5 : W Try.prog TT S 6 [10, 14, 25] r15_5 k E m Q ↔ Rg Try.prog TT S 6 [10, 14, 25] [] [25] (lgo E [0, 1, 5] (lops Try.prog (callw Try.prog TT S) [(some 17), (some 18), (some 19), (some 20), (some 21), (some 22), (some 23), (some 24), (some 25)] (L15_5).1 E m)) k E Q := w_plain (by kernel_rfl) (L15_5).2
noncomputable def L15_6 : {l : List Oper // (opsOf r15_6).map strip = l} := by refine ⟨?l, ?h⟩; case h => simp only [r15_6, c15, bodyOf, Try.f15, Code.sub, opsOf, List.map_cons, List.map_nil, strip]; rfl
theorem w15_6 : W Try.prog TT S 6 [10, 14, 25] r15_6 k E m Q ↔ Rg Try.prog TT S 6 [10, 14, 25] [4] [] (lgo E [] (lops Try.prog (callw Try.prog TT S) [(some 4)] (L15_6).1 E m)) k E Q := w_plain (by kernel_rfl) (L15_6).2
noncomputable def L15_7 : {l : List Oper // (opsOf r15_7).map strip = l} := by refine ⟨?l, ?h⟩; case h => simp only [r15_7, c15, bodyOf, Try.f15, Code.sub, opsOf, List.map_cons, List.map_nil, strip]; rfl
theorem w15_7 : W Try.prog TT S 6 [10, 14, 25] r15_7 k E m Q ↔ Rg Try.prog TT S 6 [10, 14, 25] [5] [] (lgo E [5] (lops Try.prog (callw Try.prog TT S) [(some 15), (some 16), (some 5)] (L15_7).1 E m)) k E Q := w_plain (by kernel_rfl) (L15_7).2
noncomputable def L15_8 : {l : List Oper // (opsOf r15_8).map strip = l} := by refine ⟨?l, ?h⟩; case h => simp only [r15_8, c15, bodyOf, Try.f15, Code.sub, opsOf, List.map_cons, List.map_nil, strip]; rfl
theorem w15_8 : W Try.prog TT S 6 [10, 14, 25] r15_8 k E m Q ↔ Rg Try.prog TT S 6 [10, 14, 25] [4] [] (lgo E [] (lops Try.prog (callw Try.prog TT S) [(some 4)] (L15_8).1 E m)) k E Q := w_plain (by kernel_rfl) (L15_8).2
theorem k15 : FnIs TT 15 c15 [.tmp 4] 2 := ⟨Try.f15, by kernel_rfl, by simp only [Try.f15, c15, bodyOf], by kernel_rfl, of_decide_eq_true (by kernel_rfl)⟩

/- (*token.scanner).one -/
noncomputable def c16 : Code := bodyOf Try.f16
noncomputable def r16_0 : Code := Code.sub [0] c16
noncomputable def r16_1 : Code := Code.sub [1, 0, 0] c16
noncomputable def r16_2 : Code := Code.sub [1, 0, 1, 0, 0] c16
noncomputable def r16_3 : Code := Code.sub [1, 0, 1, 0, 1, 0, 0, 0] c16
noncomputable def r16_4 : Code := Code.sub [1, 0, 1, 0, 1, 0, 0, 1, 0] c16
noncomputable def r16_5 : Code := Code.sub [1, 0, 1, 0, 1, 0, 1, 0] c16
noncomputable def r16_6 : Code := Code.sub [1, 0, 1, 0, 1, 0, 1, 1, 0] c16
noncomputable def r16_7 : Code := Code.sub [1, 0, 1, 0, 1, 1, 0] c16
noncomputable def r16_8 : Code := Code.sub [1, 0, 1, 0, 1, 1, 1, 0, 0] c16
noncomputable def r16_9 : Code := Code.sub [1, 0, 1, 0, 1, 1, 1, 1, 0] c16
noncomputable def r16_10 : Code := Code.sub [1, 0, 1, 0, 1, 1, 1, 1, 1, 0] c16
noncomputable def r16_11 : Code := Code.sub [1, 0, 1, 0, 1, 1, 1, 1, 1, 1, 0] c16
noncomputable def r16_12 : Code := Code.sub [1, 0, 1, 0, 1, 1, 1, 1, 1, 1, 1, 0] c16
noncomputable def r16_13 : Code := Code.sub [1, 0, 1, 0, 1, 1, 1, 1, 1, 1, 1, 1, 0] c16
noncomputable def r16_14 : Code := Code.sub [1, 0, 1, 0, 1, 1, 1, 1, 1, 1, 1, 1, 1, 0] c16
noncomputable def r16_15 : Code := Code.sub [1, 0, 1, 0, 1, 1, 1, 1, 1, 1, 1, 1, 1, 1, 0] c16
noncomputable def r16_16 : Code := Code.sub [1, 0, 1, 0, 1, 1, 1, 1, 1, 1, 1, 1, 1, 1, 1, 0] c16
noncomputable def r16_17 : Code := Code.sub [1, 1] c16
theorem body16 : c16 = (.seq r16_0 (.seq (.seq r16_1 (.block 0 (.seq r16_2 (.cond (.tmp 8) (.seq (.seq r16_3 (.cond (.tmp 12) r16_4 .skip)) (.seq r16_5 (.seq r16_6 .ret))) (.seq r16_7 (.cond (.tmp 33) (.seq r16_8 .ret) (.seq r16_9 (.cond (.tmp 46) r16_10 (.seq r16_11 (.cond (.tmp 63) r16_12 (.seq r16_13 (.cond (.tmp 68) r16_14 (.seq r16_15 (.cond (.tmp 73) r16_16 .skip)))))))))))))) r16_17)) := by kernel_rfl
noncomputable def L16_0 : {l : List Oper // (opsOf r16_0).map strip = l} := by refine ⟨?l, ?h⟩; case h => simp only [r16_0, c16, bodyOf, Try.f16, Code.sub, opsOf, List.map_cons, List.map_nil, strip]; rfl
theorem w16_0 : W Try.prog TT S 4 [8, 12, 33, 46, 63, 68, 73] r16_0 k E m Q ↔ Rg Try.prog TT S 4 [8, 12, 33, 46, 63, 68, 73] [2] [] (lgo E [0] (lops Try.prog (callw Try.prog TT S) [(some 4), (some 5), (some 2)] (L16_0).1 E m)) k E Q := w_plain (by kernel_rfl) (L16_0).2
noncomputable def L16_1 : {l : List Oper // (opsOf r16_1).map strip = l} := by refine ⟨?l, ?h⟩; case h => simp only [r16_1, c16, bodyOf, Try.f16, Code.sub, opsOf, List.map_cons, List.map_nil, strip]; rfl
theorem w16_1 : W Try.prog TT S 4 [8, 12, 33, 46, 63, 68, 73] r16_1 k E m Q ↔ Rg Try.prog TT S 4 [8, 12, 33, 46, 63, 68, 73] [3] [] (lgo E [0] (lops Try.prog (callw Try.prog TT S) [(some 6), (some 7), (some 3)] (L16_1).1 E m)) k E Q := w_plain (by kernel_rfl) (L16_1).2
noncomputable def L16_2 : {l : List Oper // (opsOf r16_2).map strip = l} := by refine ⟨?l, ?h⟩; case h => simp only [r16_2, c16, bodyOf, Try.f16, Code.sub, opsOf, List.map_cons, List.map_nil, strip]; rfl
theorem w16_2 : W Try.prog TT S 4 [8, 12, 33, 46, 63, 68, 73] r16_2 k E m Q ↔ Rg Try.prog TT S 4 [8, 12, 33, 46, 63, 68, 73] [] [8] (lgo E [3] (lops Try.prog (callw Try.prog TT S) [(some 9), (some 10), (some 8)] (L16_2).1 E m)) k E Q := w_plain (by kernel_rfl) (L16_2).2
noncomputable def L16_3 : {l : List Oper // (opsOf r16_3).map strip = l} := by refine ⟨?l, ?h⟩; case h => simp only [r16_3, c16, bodyOf, Try.f16, Code.sub, opsOf, List.map_cons, List.map_nil, strip]; rfl
theorem w16_3 : W Try.prog TT S 4 [8, 12, 33, 46, 63, 68, 73] r16_3 k E m Q ↔ Rg Try.prog TT S 4 [8, 12, 33, 46, 63, 68, 73] [] [12] (lgo E [0] (lops Try.prog (callw Try.prog TT S) [(some 11), (some 12)] (L16_3).1 E m)) k E Q := w_plain (by kernel_rfl) (L16_3).2
noncomputable def L16_4 : {l : List Oper // (opsOf r16_4).map strip = l} := by refine ⟨?l, ?h⟩; case h => simp only [r16_4, c16, bodyOf, Try.f16, Code.sub, opsOf, List.map_cons, List.map_nil, strip]; rfl
theorem w16_4 : W Try.prog TT S 4 [8, 12, 33, 46, 63, 68, 73] r16_4 k E m Q ↔ Rg Try.prog TT S 4 [8, 12, 33, 46, 63, 68, 73] [] [] (lgo E [0] (lops Try.prog (callw Try.prog TT S) [(some 13), (some 14)] (L16_4).1 E m)) k E Q := w_plain (by kernel_rfl) (L16_4).2
noncomputable def L16_5 : {l : List Oper // (opsOf r16_5).map strip = l} := by refine ⟨?l, ?h⟩; case h => simp only [r16_5, c16, bodyOf, Try.f16, Code.sub, opsOf, List.map_cons, List.map_nil, strip]; rfl
theorem w16_5 : W Try.prog TT S 4 [8, 12, 33, 46, 63, 68, 73] r16_5 k E m Q ↔ Rg Try.prog TT S 4 [8, 12, 33, 46, 63, 68, 73] [] [] (lgo E [0] (lops Try.prog (callw Try.prog TT S) [(some 15), (some 16), (some 17), (some 18), (some 19), (some 20), (some 21), none] (L16_5).1 E m)) k E Q := w_plain (by kernel_rfl) (L16_5).2
noncomputable def L16_6 : {l : List Oper // (opsOf r16_6).map strip = l} := by refine ⟨?l, ?h⟩; case h => simp only [r16_6, c16, bodyOf, Try.f16, Code.sub, opsOf, List.map_cons, List.map_nil, strip]; rfl
theorem w16_6 : W Try.prog TT S 4 [8, 12, 33, 46, 63, 68, 73] r16_6 k E m Q ↔ Rg Try.prog TT S 4 [8, 12, 33, 46, 63, 68, 73] [] [] (lgo E [0] (lops Try.prog (callw Try.prog TT S) [(some 22), (some 23), (some 24), (some 25), (some 26), (some 27), (some 28), (some 29), (some 30), none, (some 31), (some 32), none] (L16_6).1 E m)) k E Q := w_plain (by kernel_rfl) (L16_6).2
noncomputable def L16_7 : {l : List Oper // (opsOf r16_7).map strip = l} := by refine ⟨?l, ?h⟩; case h => simp only [r16_7, c16, bodyOf, Try.f16, Code.sub, opsOf, List.map_cons, List.map_nil, strip]; rfl
theorem w16_7 : W Try.prog TT S 4 [8, 12, 33, 46, 63, 68, 73] r16_7 k E m Q ↔ Rg Try.prog TT S 4 [8, 12, 33, 46, 63, 68, 73] [] [33] (lgo E [3] (lops Try.prog (callw Try.prog TT S) [(some 34), (some 35), (some 36), (some 37), (some 38), (some 39), (some 40), (some 41), (some 42), (some 43), (some 33)] (L16_7).1 E m)) k E Q := w_plain (by kernel_rfl) (L16_7).2
noncomputable def L16_8 : {l : List Oper // (opsOf r16_8).map strip = l} := by refine ⟨?l, ?h⟩; case h => simp only [r16_8, c16, bodyOf, Try.f16, Code.sub, opsOf, List.map_cons, List.map_nil, strip]; rfl
theorem w16_8 : W Try.prog TT S 4 [8, 12, 33, 46, 63, 68, 73] r16_8 k E m Q ↔ Rg Try.prog TT S 4 [8, 12, 33, 46, 63, 68, 73] [] [] (lgo E [0] (lops Try.prog (callw Try.prog TT S) [(some 44), (some 45)] (L16_8).1 E m)) k E Q := w_plain (by kernel_rfl) (L16_8).2
noncomputable def L16_9 : {l : List Oper // (opsOf r16_9).map strip = l} := by refine ⟨?l, ?h⟩; case h => simp only [r16_9, c16, bodyOf, Try.f16, Code.sub, opsOf, List.map_cons, List.map_nil, strip]; rfl
theorem w16_9 : W Try.prog TT S 4 [8, 12, 33, 46, 63, 68, 73] r16_9 k E m Q ↔ Rg Try.prog TT S 4 [8, 12, 33, 46, 63, 68, 73] [] [46] (lgo E [3, 0] (lops Try.prog (callw Try.prog TT S) [(some 47), (some 48), (some 49), (some 50), (some 51), (some 52), (some 53), (some 54), (some 55), (some 56), (some 57), (some 58), (some 59), (some 60), (some 46)] (L16_9).1 E m)) k E Q := w_plain (by kernel_rfl) (L16_9).2
noncomputable def L16_10 : {l : List Oper // (opsOf r16_10).map strip = l} := by refine ⟨?l, ?h⟩; case h => simp only [r16_10, c16, bodyOf, Try.f16, Code.sub, opsOf, List.map_cons, List.map_nil, strip]; rfl
theorem w16_10 : W Try.prog TT S 4 [8, 12, 33, 46, 63, 68, 73] r16_10 k E m Q ↔ Rg Try.prog TT S 4 [8, 12, 33, 46, 63, 68, 73] [2] [] (lgo E [0] (lops Try.prog (callw Try.prog TT S) [(some 61), (some 62), (some 2)] (L16_10).1 E m)) k E Q := w_plain (by kernel_rfl) (L16_10).2
noncomputable def L16_11 : {l : List Oper // (opsOf r16_11).map strip = l} := by refine ⟨?l, ?h⟩; case h => simp only [r16_11, c16, bodyOf, Try.f16, Code.sub, opsOf, List.map_cons, List.map_nil, strip]; rfl
theorem w16_11 : W Try.prog TT S 4 [8, 12, 33, 46, 63, 68, 73] r16_11 k E m Q ↔ Rg Try.prog TT S 4 [8, 12, 33, 46, 63, 68, 73] [] [63] (lgo E [3] (lops Try.prog (callw Try.prog TT S) [(some 64), (some 65), (some 63)] (L16_11).1 E m)) k E Q := w_plain (by kernel_rfl) (L16_11).2
noncomputable def L16_12 : {l : List Oper // (opsOf r16_12).map strip = l} := by refine ⟨?l, ?h⟩; case h => simp only [r16_12, c16, bodyOf, Try.f16, Code.sub, opsOf, List.map_cons, List.map_nil, strip]; rfl
theorem w16_12 : W Try.prog TT S 4 [8, 12, 33, 46, 63, 68, 73] r16_12 k E m Q ↔ Rg Try.prog TT S 4 [8, 12, 33, 46, 63, 68, 73] [2] [] (lgo E [0] (lops Try.prog (callw Try.prog TT S) [(some 66), (some 67), (some 2)] (L16_12).1 E m)) k E Q := w_plain (by kernel_rfl) (L16_12).2
noncomputable def L16_13 : {l : List Oper // (opsOf r16_13).map strip = l} := by refine ⟨?l, ?h⟩; case h => simp only [r16_13, c16, bodyOf, Try.f16, Code.sub, opsOf, List.map_cons, List.map_nil, strip]; rfl
theorem w16_13 : W Try.prog TT S 4 [8, 12, 33, 46, 63, 68, 73] r16_13 k E m Q ↔ Rg Try.prog TT S 4 [8, 12, 33, 46, 63, 68, 73] [] [68] (lgo E [3] (lops Try.prog (callw Try.prog TT S) [(some 69), (some 70), (some 68)] (L16_13).1 E m)) k E Q := w_plain (by kernel_rfl) (L16_13).2
noncomputable def L16_14 : {l : List Oper // (opsOf r16_14).map strip = l} := by refine ⟨?l, ?h⟩; case h => simp only [r16_14, c16, bodyOf, Try.f16, Code.sub, opsOf, List.map_cons, List.map_nil, strip]; rfl
theorem w16_14 : W Try.prog TT S 4 [8, 12, 33, 46, 63, 68, 73] r16_14 k E m Q ↔ Rg Try.prog TT S 4 [8, 12, 33, 46, 63, 68, 73] [2] [] (lgo E [0] (lops Try.prog (callw Try.prog TT S) [(some 71), (some 72), (some 2)] (L16_14).1 E m)) k E Q := w_plain (by kernel_rfl) (L16_14).2
noncomputable def L16_15 : {l : List Oper // (opsOf r16_15).map strip = l} := by refine ⟨?l, ?h⟩; case h => simp only [r16_15, c16, bodyOf, Try.f16, Code.sub, opsOf, List.map_cons, List.map_nil, strip]; rfl
theorem w16_15 : W Try.prog TT S 4 [8, 12, 33, 46, 63, 68, 73] r16_15 k E m Q ↔ Rg Try.prog TT S 4 [8, 12, 33, 46, 63, 68, 73] [] [73] (lgo E [3] (lops Try.prog (callw Try.prog TT S) [(some 74), (some 75), (some 73)] (L16_15).1 E m)) k E Q := w_plain (by kernel_rfl) (L16_15).2
noncomputable def L16_16 : {l : List Oper // (opsOf r16_16).map strip = l} := by refine ⟨?l, ?h⟩; case h => simp only [r16_16, c16, bodyOf, Try.f16, Code.sub, opsOf, List.map_cons, List.map_nil, strip]; rfl
theorem w16_16 : W Try.prog TT S 4 [8, 12, 33, 46, 63, 68, 73] r16_16 k E m Q ↔ Rg Try.prog TT S 4 [8, 12, 33, 46, 63, 68, 73] [2] [] (lgo E [0] (lops Try.prog (callw Try.prog TT S) [(some 76), (some 77), (some 2)] (L16_16).1 E m)) k E Q := w_plain (by kernel_rfl) (L16_16).2
noncomputable def L16_17 : {l : List Oper // (opsOf r16_17).map strip = l} := by refine ⟨?l, ?h⟩; case h => simp only [r16_17, c16, bodyOf, Try.f16, Code.sub, opsOf, List.map_cons, List.map_nil, strip]; rfl
theorem w16_17 : W Try.prog TT S 4 [8, 12, 33, 46, 63, 68, 73] r16_17 k E m Q ↔ Rg Try.prog TT S 4 [8, 12, 33, 46, 63, 68, 73] [] [] (lgo E [0, 2] (lops Try.prog (callw Try.prog TT S) [(some 78), (some 79), (some 80), (some 81)] (L16_17).1 E m)) k E Q := w_plain (by kernel_rfl) (L16_17).2
theorem k16 : FnIs TT 16 c16 [] 1 := ⟨Try.f16, by kernel_rfl, by simp only [Try.f16, c16, bodyOf], by kernel_rfl, of_decide_eq_true (by kernel_rfl)⟩

/- (*token.scanner).ends -/
noncomputable def c17 : Code := bodyOf Try.f17
noncomputable def r17_0 : Code := Code.sub [0] c17
noncomputable def r17_1 : Code := Code.sub [1, 0, 0] c17
noncomputable def r17_2 : Code := Code.sub [1, 0, 1, 0, 0] c17
noncomputable def r17_3 : Code := Code.sub [1, 1, 0] c17
noncomputable def r17_4 : Code := Code.sub [1, 1, 1, 0, 0] c17
noncomputable def r17_5 : Code := Code.sub [1, 1, 1, 0, 1, 0, 0, 0] c17
noncomputable def r17_6 : Code := Code.sub [1, 1, 1, 0, 1, 0, 0, 1, 1, 0] c17
noncomputable def r17_7 : Code := Code.sub [1, 1, 1, 0, 1, 0, 0, 1, 1, 1, 1] c17
noncomputable def r17_8 : Code := Code.sub [1, 1, 1, 0, 1, 0, 1, 0, 0] c17
noncomputable def r17_9 : Code := Code.sub [1, 1, 1, 0, 1, 0, 1, 1, 0] c17
noncomputable def r17_10 : Code := Code.sub [1, 1, 1, 0, 1, 0, 1, 1, 1, 0, 0] c17
noncomputable def r17_11 : Code := Code.sub [1, 1, 1, 0, 1, 0, 1, 1, 1, 0, 1, 0, 0, 0] c17
noncomputable def r17_12 : Code := Code.sub [1, 1, 1, 0, 1, 0, 1, 1, 1, 0, 1, 0, 0, 1, 1, 0] c17
noncomputable def r17_13 : Code := Code.sub [1, 1, 1, 0, 1, 0, 1, 1, 1, 0, 1, 0, 0, 1, 1, 1, 1, 0] c17
noncomputable def r17_14 : Code := Code.sub [1, 1, 1, 0, 1, 0, 1, 1, 1, 0, 1, 0, 0, 1, 1, 1, 1, 1, 1, 0] c17
noncomputable def r17_15 : Code := Code.sub [1, 1, 1, 0, 1, 0, 1, 1, 1, 0, 1, 0, 0, 1, 1, 1, 1, 1, 1, 1, 1, 0] c17
noncomputable def r17_16 : Code := Code.sub [1, 1, 1, 0, 1, 0, 1, 1, 1, 0, 1, 0, 0, 1, 1, 1, 1, 1, 1, 1, 1, 1, 1, 0] c17
noncomputable def r17_17 : Code := Code.sub [1, 1, 1, 0, 1, 0, 1, 1, 1, 0, 1, 0, 0, 1, 1, 1, 1, 1, 1, 1, 1, 1, 1, 1, 1, 0] c17
noncomputable def r17_18 : Code := Code.sub [1, 1, 1, 0, 1, 0, 1, 1, 1, 0, 1, 0, 0, 1, 1, 1, 1, 1, 1, 1, 1, 1, 1, 1, 1, 1, 1, 0] c17
noncomputable def r17_19 : Code := Code.sub [1, 1, 1, 0, 1, 0, 1, 1, 1, 0, 1, 0, 0, 1, 1, 1, 1, 1, 1, 1, 1, 1, 1, 1, 1, 1, 1, 1, 1] c17
noncomputable def r17_20 : Code := Code.sub [1, 1, 1, 0, 1, 0, 1, 1, 1, 0, 1, 0, 1, 0, 0] c17
noncomputable def r17_21 : Code := Code.sub [1, 1, 1, 0, 1, 0, 1, 1, 1, 1, 0] c17
noncomputable def r17_22 : Code := Code.sub [1, 1, 1, 0, 1, 0, 1, 1, 1, 1, 1, 0, 0] c17
noncomputable def r17_23 : Code := Code.sub [1, 1, 1, 1, 0] c17
theorem body17 : c17 = (.seq r17_0 (.seq (.seq r17_1 (.cond (.tmp 9) (.seq r17_2 .ret) .skip)) (.seq r17_3 (.seq (.seq r17_4 (.block 0 (.seq (.seq r17_5 (.cond (.tmp 24) .skip (.seq r17_6 (.cond (.tmp 24) .skip r17_7)))) (.cond (.tmp 24) (.seq r17_8 .ret) (.seq r17_9 (.cond (.tmp 28) (.seq r17_10 (.block 1 (.seq (.seq r17_11 (.cond (.tmp 32) .skip (.seq r17_12 (.cond (.tmp 32) .skip (.seq r17_13 (.cond (.tmp 32) .skip (.seq r17_14 (.cond (.tmp 32) .skip (.seq r17_15 (.cond (.tmp 32) .skip (.seq r17_16 (.cond (.tmp 32) .skip (.seq r17_17 (.cond (.tmp 32) .skip (.seq r17_18 (.cond (.tmp 32) .skip r17_19)))))))))))))))) (.cond (.tmp 32) (.seq r17_20 .ret) .skip)))) (.seq r17_21 (.cond (.tmp 42) (.seq r17_22 .ret) .skip)))))))) (.seq r17_23 .ret))))) := by kernel_rfl
noncomputable def L17_0 : {l : List Oper // (opsOf r17_0).map strip = l} := by refine ⟨?l, ?h⟩; case h => simp only [r17_0, c17, bodyOf, Try.f17, Code.sub, opsOf, List.map_cons, List.map_nil, strip]; rfl
theorem w17_0 : W Try.prog TT S 32 [32, 32, 32, 32, 32, 32, 32, 32, 32, 42] r17_0 k E m Q ↔ Rg Try.prog TT S 32 [32, 32, 32, 32, 32, 32, 32, 32, 32, 42] [2] [] (lgo E [] (lops Try.prog (callw Try.prog TT S) [(some 2)] (L17_0).1 E m)) k E Q := w_plain (by kernel_rfl) (L17_0).2
noncomputable def L17_1 : {l : List Oper // (opsOf r17_1).map strip = l} := by refine ⟨?l, ?h⟩; case h => simp only [r17_1, c17, bodyOf, Try.f17, Code.sub, opsOf, List.map_cons, List.map_nil, strip]; rfl
theorem w17_1 : W Try.prog TT S 32 [32, 32, 32, 32, 32, 32, 32, 32, 32, 42] r17_1 k E m Q ↔ Rg Try.prog TT S 32 [32, 32, 32, 32, 32, 32, 32, 32, 32, 42] [4, 5, 6, 7, 8, 9] [] (lgo E [0] (lops Try.prog (callw Try.prog TT S) [(some 4), (some 5), (some 6), (some 7), (some 8), (some 9)] (L17_1).1 E m)) k E Q := w_plain (by kernel_rfl) (L17_1).2
noncomputable def L17_2 : {l : List Oper // (opsOf r17_2).map strip = l} := by refine ⟨?l, ?h⟩; case h => simp only [r17_2, c17, bodyOf, Try.f17, Code.sub, opsOf, List.map_cons, List.map_nil, strip]; rfl
theorem w17_2 : W Try.prog TT S 32 [32, 32, 32, 32, 32, 32, 32, 32, 32, 42] r17_2 k E m Q ↔ Rg Try.prog TT S 32 [32, 32, 32, 32, 32, 32, 32, 32, 32, 42] [2] [] (lgo E [] (lops Try.prog (callw Try.prog TT S) [(some 2)] (L17_2).1 E m)) k E Q := w_plain (by kernel_rfl) (L17_2).2
theorem can17_3 : canonOps (opsOf r17_3) = List.filterMap (fun i => ((opsOf r17_3)[i]?).map (renum [0, 1, 2, 3, 4, 5, 6, 7, 8, 9, 10, 11, 12, 13])) [0, 1, 2, 3, 4, 5, 6, 7, 8, 9, 10, 11, 12, 13] := by kernel_rfl
noncomputable def L17_3 : {l : List Oper // (canonOps (opsOf r17_3)).map strip = l} := by refine ⟨?l, (congrArg (List.map strip) can17_3).trans ?h⟩; case h => simp only [r17_3, c17, bodyOf, Try.f17, Code.sub, opsOf, List.filterMap_cons, List.filterMap_nil, List.getElem?_cons_succ, List.getElem?_cons_zero, Option.map_some, renum, List.map_cons, List.map_nil, strip]; rfl
theorem w17_3 : W Try.prog TT S 32 [32, 32, 32, 32, 32, 32, 32, 32, 32, 42] r17_3 k E m Q ↔ Rg Try.prog TT S 32 [32, 32, 32, 32, 32, 32, 32, 32, 32, 42] [10, 11, 12, 13, 14, 15, 16, 17, 18, 19, 20, 21, 3] [] (lgo E [0] (lloud Try.prog (callw Try.prog TT S) [(some 10), (some 11), (some 12), (some 13), (some 14), (some 15), (some 16), (some 17), (some 18), (some 19), (some 20), (some 21), (some 3), none] (L17_3).1 [(3, [12, 13]), (7, [12, 13]), (8, [12, 13]), (11, [12, 13])] (lstates Try.prog (callw Try.prog TT S) [(some 10), (some 11), (some 12), (some 13), (some 14), (some 15), (some 16), (some 17), (some 18), (some 19), (some 20), (some 21), (some 3), none] (L17_3).1 E m))) k E Q := w_loud (by kernel_rfl) (L17_3).2
noncomputable def L17_4 : {l : List Oper // (opsOf r17_4).map strip = l} := by refine ⟨?l, ?h⟩; case h => simp only [r17_4, c17, bodyOf, Try.f17, Code.sub, opsOf, List.map_cons, List.map_nil, strip]; rfl
theorem w17_4 : W Try.prog TT S 32 [32, 32, 32, 32, 32, 32, 32, 32, 32, 42] r17_4 k E m Q ↔ Rg Try.prog TT S 32 [32, 32, 32, 32, 32, 32, 32, 32, 32, 42] [22, 23] [] (lgo E [3] (lops Try.prog (callw Try.prog TT S) [(some 22), (some 23)] (L17_4).1 E m)) k E Q := w_plain (by kernel_rfl) (L17_4).2
noncomputable def L17_5 : {l : List Oper // (opsOf r17_5).map strip = l} := by refine ⟨?l, ?h⟩; case h => simp only [r17_5, c17, bodyOf, Try.f17, Code.sub, opsOf, List.map_cons, List.map_nil, strip]; rfl
theorem w17_5 : W Try.prog TT S 32 [32, 32, 32, 32, 32, 32, 32, 32, 32, 42] r17_5 k E m Q ↔ Rg Try.prog TT S 32 [32, 32, 32, 32, 32, 32, 32, 32, 32, 42] [25, 24] [] (lgo E [23] (lops Try.prog (callw Try.prog TT S) [(some 25), (some 24)] (L17_5).1 E m)) k E Q := w_plain (by kernel_rfl) (L17_5).2
noncomputable def L17_6 : {l : List Oper // (opsOf r17_6).map strip = l} := by refine ⟨?l, ?h⟩; case h => simp only [r17_6, c17, bodyOf, Try.f17, Code.sub, opsOf, List.map_cons, List.map_nil, strip]; rfl
theorem w17_6 : W Try.prog TT S 32 [32, 32, 32, 32, 32, 32, 32, 32, 32, 42] r17_6 k E m Q ↔ Rg Try.prog TT S 32 [32, 32, 32, 32, 32, 32, 32, 32, 32, 42] [26, 24] [] (lgo E [23] (lops Try.prog (callw Try.prog TT S) [(some 26), (some 24)] (L17_6).1 E m)) k E Q := w_plain (by kernel_rfl) (L17_6).2
noncomputable def L17_7 : {l : List Oper // (opsOf r17_7).map strip = l} := by refine ⟨?l, ?h⟩; case h => simp only [r17_7, c17, bodyOf, Try.f17, Code.sub, opsOf, List.map_cons, List.map_nil, strip]; rfl
theorem w17_7 : W Try.prog TT S 32 [32, 32, 32, 32, 32, 32, 32, 32, 32, 42] r17_7 k E m Q ↔ Rg Try.prog TT S 32 [32, 32, 32, 32, 32, 32, 32, 32, 32, 42] [27, 24] [] (lgo E [23] (lops Try.prog (callw Try.prog TT S) [(some 27), (some 24)] (L17_7).1 E m)) k E Q := w_plain (by kernel_rfl) (L17_7).2
noncomputable def L17_8 : {l : List Oper // (opsOf r17_8).map strip = l} := by refine ⟨?l, ?h⟩; case h => simp only [r17_8, c17, bodyOf, Try.f17, Code.sub, opsOf, List.map_cons, List.map_nil, strip]; rfl
theorem w17_8 : W Try.prog TT S 32 [32, 32, 32, 32, 32, 32, 32, 32, 32, 42] r17_8 k E m Q ↔ Rg Try.prog TT S 32 [32, 32, 32, 32, 32, 32, 32, 32, 32, 42] [2] [] (lgo E [] (lops Try.prog (callw Try.prog TT S) [(some 2)] (L17_8).1 E m)) k E Q := w_plain (by kernel_rfl) (L17_8).2
noncomputable def L17_9 : {l : List Oper // (opsOf r17_9).map strip = l} := by refine ⟨?l, ?h⟩; case h => simp only [r17_9, c17, bodyOf, Try.f17, Code.sub, opsOf, List.map_cons, List.map_nil, strip]; rfl
theorem w17_9 : W Try.prog TT S 32 [32, 32, 32, 32, 32, 32, 32, 32, 32, 42] r17_9 k E m Q ↔ Rg Try.prog TT S 32 [32, 32, 32, 32, 32, 32, 32, 32, 32, 42] [29, 28] [] (lgo E [23] (lops Try.prog (callw Try.prog TT S) [(some 29), (some 28)] (L17_9).1 E m)) k E Q := w_plain (by kernel_rfl) (L17_9).2
noncomputable def L17_10 : {l : List Oper // (opsOf r17_10).map strip = l} := by refine ⟨?l, ?h⟩; case h => simp only [r17_10, c17, bodyOf, Try.f17, Code.sub, opsOf, List.map_cons, List.map_nil, strip]; rfl
theorem w17_10 : W Try.prog TT S 32 [32, 32, 32, 32, 32, 32, 32, 32, 32, 42] r17_10 k E m Q ↔ Rg Try.prog TT S 32 [32, 32, 32, 32, 32, 32, 32, 32, 32, 42] [30, 31] [] (lgo E [3] (lops Try.prog (callw Try.prog TT S) [(some 30), (some 31)] (L17_10).1 E m)) k E Q := w_plain (by kernel_rfl) (L17_10).2
noncomputable def L17_11 : {l : List Oper // (opsOf r17_11).map strip = l} := by refine ⟨?l, ?h⟩; case h => simp only [r17_11, c17, bodyOf, Try.f17, Code.sub, opsOf, List.map_cons, List.map_nil, strip]; rfl
theorem w17_11 : W Try.prog TT S 32 [32, 32, 32, 32, 32, 32, 32, 32, 32, 42] r17_11 k E m Q ↔ Rg Try.prog TT S 32 [32, 32, 32, 32, 32, 32, 32, 32, 32, 42] [] [32] (lgo E [31] (lops Try.prog (callw Try.prog TT S) [(some 33), (some 32)] (L17_11).1 E m)) k E Q := w_plain (by kernel_rfl) (L17_11).2
noncomputable def L17_12 : {l : List Oper // (opsOf r17_12).map strip = l} := by refine ⟨?l, ?h⟩; case h => simp only [r17_12, c17, bodyOf, Try.f17, Code.sub, opsOf, List.map_cons, List.map_nil, strip]; rfl
theorem w17_12 : W Try.prog TT S 32 [32, 32, 32, 32, 32, 32, 32, 32, 32, 42] r17_12 k E m Q ↔ Rg Try.prog TT S 32 [32, 32, 32, 32, 32, 32, 32, 32, 32, 42] [] [32] (lgo E [31] (lops Try.prog (callw Try.prog TT S) [(some 34), (some 32)] (L17_12).1 E m)) k E Q := w_plain (by kernel_rfl) (L17_12).2
noncomputable def L17_13 : {l : List Oper // (opsOf r17_13).map strip = l} := by refine ⟨?l, ?h⟩; case h => simp only [r17_13, c17, bodyOf, Try.f17, Code.sub, opsOf, List.map_cons, List.map_nil, strip]; rfl
theorem w17_13 : W Try.prog TT S 32 [32, 32, 32, 32, 32, 32, 32, 32, 32, 42] r17_13 k E m Q ↔ Rg Try.prog TT S 32 [32, 32, 32, 32, 32, 32, 32, 32, 32, 42] [] [32] (lgo E [31] (lops Try.prog (callw Try.prog TT S) [(some 35), (some 32)] (L17_13).1 E m)) k E Q := w_plain (by kernel_rfl) (L17_13).2
noncomputable def L17_14 : {l : List Oper // (opsOf r17_14).map strip = l} := by refine ⟨?l, ?h⟩; case h => simp only [r17_14, c17, bodyOf, Try.f17, Code.sub, opsOf, List.map_cons, List.map_nil, strip]; rfl
theorem w17_14 : W Try.prog TT S 32 [32, 32, 32, 32, 32, 32, 32, 32, 32, 42] r17_14 k E m Q ↔ Rg Try.prog TT S 32 [32, 32, 32, 32, 32, 32, 32, 32, 32, 42] [] [32] (lgo E [31] (lops Try.prog (callw Try.prog TT S) [(some 36), (some 32)] (L17_14).1 E m)) k E Q := w_plain (by kernel_rfl) (L17_14).2
noncomputable def L17_15 : {l : List Oper // (opsOf r17_15).map strip = l} := by refine ⟨?l, ?h⟩; case h => simp only [r17_15, c17, bodyOf, Try.f17, Code.sub, opsOf, List.map_cons, List.map_nil, strip]; rfl
theorem w17_15 : W Try.prog TT S 32 [32, 32, 32, 32, 32, 32, 32, 32, 32, 42] r17_15 k E m Q ↔ Rg Try.prog TT S 32 [32, 32, 32, 32, 32, 32, 32, 32, 32, 42] [] [32] (lgo E [31] (lops Try.prog (callw Try.prog TT S) [(some 37), (some 32)] (L17_15).1 E m)) k E Q := w_plain (by kernel_rfl) (L17_15).2
noncomputable def L17_16 : {l : List Oper // (opsOf r17_16).map strip = l} := by refine ⟨?l, ?h⟩; case h => simp only [r17_16, c17, bodyOf, Try.f17, Code.sub, opsOf, List.map_cons, List.map_nil, strip]; rfl
theorem w17_16 : W Try.prog TT S 32 [32, 32, 32, 32, 32, 32, 32, 32, 32, 42] r17_16 k E m Q ↔ Rg Try.prog TT S 32 [32, 32, 32, 32, 32, 32, 32, 32, 32, 42] [] [32] (lgo E [31] (lops Try.prog (callw Try.prog TT S) [(some 38), (some 32)] (L17_16).1 E m)) k E Q := w_plain (by kernel_rfl) (L17_16).2
noncomputable def L17_17 : {l : List Oper // (opsOf r17_17).map strip = l} := by refine ⟨?l, ?h⟩; case h => simp only [r17_17, c17, bodyOf, Try.f17, Code.sub, opsOf, List.map_cons, List.map_nil, strip]; rfl
theorem w17_17 : W Try.prog TT S 32 [32, 32, 32, 32, 32, 32, 32, 32, 32, 42] r17_17 k E m Q ↔ Rg Try.prog TT S 32 [32, 32, 32, 32, 32, 32, 32, 32, 32, 42] [] [32] (lgo E [31] (lops Try.prog (callw Try.prog TT S) [(some 39), (some 32)] (L17_17).1 E m)) k E Q := w_plain (by kernel_rfl) (L17_17).2
noncomputable def L17_18 : {l : List Oper // (opsOf r17_18).map strip = l} := by refine ⟨?l, ?h⟩; case h => simp only [r17_18, c17, bodyOf, Try.f17, Code.sub, opsOf, List.map_cons, List.map_nil, strip]; rfl
theorem w17_18 : W Try.prog TT S 32 [32, 32, 32, 32, 32, 32, 32, 32, 32, 42] r17_18 k E m Q ↔ Rg Try.prog TT S 32 [32, 32, 32, 32, 32, 32, 32, 32, 32, 42] [] [32] (lgo E [31] (lops Try.prog (callw Try.prog TT S) [(some 40), (some 32)] (L17_18).1 E m)) k E Q := w_plain (by kernel_rfl) (L17_18).2
noncomputable def L17_19 : {l : List Oper // (opsOf r17_19).map strip = l} := by refine ⟨?l, ?h⟩; case h => simp only [r17_19, c17, bodyOf, Try.f17, Code.sub, opsOf, List.map_cons, List.map_nil, strip]; rfl
theorem w17_19 : W Try.prog TT S 32 [32, 32, 32, 32, 32, 32, 32, 32, 32, 42] r17_19 k E m Q ↔ Rg Try.prog TT S 32 [32, 32, 32, 32, 32, 32, 32, 32, 32, 42] [] [32] (lgo E [31] (lops Try.prog (callw Try.prog TT S) [(some 41), (some 32)] (L17_19).1 E m)) k E Q := w_plain (by kernel_rfl) (L17_19).2
noncomputable def L17_20 : {l : List Oper // (opsOf r17_20).map strip = l} := by refine ⟨?l, ?h⟩; case h => simp only [r17_20, c17, bodyOf, Try.f17, Code.sub, opsOf, List.map_cons, List.map_nil, strip]; rfl
theorem w17_20 : W Try.prog TT S 32 [32, 32, 32, 32, 32, 32, 32, 32, 32, 42] r17_20 k E m Q ↔ Rg Try.prog TT S 32 [32, 32, 32, 32, 32, 32, 32, 32, 32, 42] [2] [] (lgo E [] (lops Try.prog (callw Try.prog TT S) [(some 2)] (L17_20).1 E m)) k E Q := w_plain (by kernel_rfl) (L17_20).2
noncomputable def L17_21 : {l : List Oper // (opsOf r17_21).map strip = l} := by refine ⟨?l, ?h⟩; case h => simp only [r17_21, c17, bodyOf, Try.f17, Code.sub, opsOf, List.map_cons, List.map_nil, strip]; rfl
theorem w17_21 : W Try.prog TT S 32 [32, 32, 32, 32, 32, 32, 32, 32, 32, 42] r17_21 k E m Q ↔ Rg Try.prog TT S 32 [32, 32, 32, 32, 32, 32, 32, 32, 32, 42] [] [42] (lgo E [23] (lops Try.prog (callw Try.prog TT S) [(some 43), (some 42)] (L17_21).1 E m)) k E Q := w_plain (by kernel_rfl) (L17_21).2
noncomputable def L17_22 : {l : List Oper // (opsOf r17_22).map strip = l} := by refine ⟨?l, ?h⟩; case h => simp only [r17_22, c17, bodyOf, Try.f17, Code.sub, opsOf, List.map_cons, List.map_nil, strip]; rfl
theorem w17_22 : W Try.prog TT S 32 [32, 32, 32, 32, 32, 32, 32, 32, 32, 42] r17_22 k E m Q ↔ Rg Try.prog TT S 32 [32, 32, 32, 32, 32, 32, 32, 32, 32, 42] [2] [] (lgo E [3] (lops Try.prog (callw Try.prog TT S) [(some 44), (some 45), (some 46), (some 47), (some 48), (some 49), (some 50), (some 51), (some 52), (some 53), (some 54), (some 55), (some 56), (some 2)] (L17_22).1 E m)) k E Q := w_plain (by kernel_rfl) (L17_22).2
noncomputable def L17_23 : {l : List Oper // (opsOf r17_23).map strip = l} := by refine ⟨?l, ?h⟩; case h => simp only [r17_23, c17, bodyOf, Try.f17, Code.sub, opsOf, List.map_cons, List.map_nil, strip]; rfl
theorem w17_23 : W Try.prog TT S 32 [32, 32, 32, 32, 32, 32, 32, 32, 32, 42] r17_23 k E m Q ↔ Rg Try.prog TT S 32 [32, 32, 32, 32, 32, 32, 32, 32, 32, 42] [2] [] (lgo E [] (lops Try.prog (callw Try.prog TT S) [(some 2)] (L17_23).1 E m)) k E Q := w_plain (by kernel_rfl) (L17_23).2
theorem k17 : FnIs TT 17 c17 [.tmp 2] 1 := ⟨Try.f17, by kernel_rfl, by simp only [Try.f17, c17, bodyOf], by kernel_rfl, of_decide_eq_true (by kernel_rfl)⟩

/- (*token.scanner).put -/
noncomputable def c18 : Code := bodyOf Try.f18
noncomputable def r18_0 : Code := Code.sub [0, 0] c18
noncomputable def r18_1 : Code := Code.sub [0, 1, 0, 0] c18
noncomputable def r18_2 : Code := Code.sub [1] c18
theorem body18 : c18 = (.seq (.seq r18_0 (.cond (.tmp 13) (.seq r18_1 .ret) .skip)) r18_2) := by kernel_rfl
noncomputable def L18_0 : {l : List Oper // (opsOf r18_0).map strip = l} := by refine ⟨?l, ?h⟩; case h => simp only [r18_0, c18, bodyOf, Try.f18, Code.sub, opsOf, List.map_cons, List.map_nil, strip]; rfl
theorem w18_0 : W Try.prog TT S 4 [13] r18_0 k E m Q ↔ Rg Try.prog TT S 4 [13] [] [13] (lgo E [0] (lops Try.prog (callw Try.prog TT S) [(some 8), (some 9), (some 10), (some 11), (some 12), (some 13)] (L18_0).1 E m)) k E Q := w_plain (by kernel_rfl) (L18_0).2
theorem can18_1 : canonOps (opsOf r18_1) = opsOf r18_1 := by kernel_rfl
noncomputable def L18_1 : {l : List Oper // (canonOps (opsOf r18_1)).map strip = l} := by refine ⟨?l, (congrArg (List.map strip) can18_1).trans ?h⟩; case h => simp only [r18_1, c18, bodyOf, Try.f18, Code.sub, opsOf, List.map_cons, List.map_nil, strip]; rfl
theorem w18_1 : W Try.prog TT S 4 [13] r18_1 k E m Q ↔ Rg Try.prog TT S 4 [13] [] [] (lgo E [0] (lloud Try.prog (callw Try.prog TT S) [(some 14), (some 15), (some 16), (some 17), (some 18), (some 19), (some 20), (some 21), (some 22), (some 23), (some 24), (some 25), (some 26), none, (some 27), (some 28), none] (L18_1).1 [(5, [13]), (9, [13])] (lstates Try.prog (callw Try.prog TT S) [(some 14), (some 15), (some 16), (some 17), (some 18), (some 19), (some 20), (some 21), (some 22), (some 23), (some 24), (some 25), (some 26), none, (some 27), (some 28), none] (L18_1).1 E m))) k E Q := w_loud (by kernel_rfl) (L18_1).2
theorem can18_2 : canonOps (opsOf r18_2) = List.filterMap (fun i => ((opsOf r18_2)[i]?).map (renum [0, 1, 2, 3, 4, 5, 6, 7, 8, 9, 10, 11, 12, 13, 14, 15, 16, 17, 18, 19, 20, 21])) [0, 1, 2, 3, 4, 5, 6, 7, 8, 9, 10, 11, 12, 13, 14, 15, 16, 17, 18, 19, 20, 21] := by kernel_rfl
noncomputable def L18_2 : {l : List Oper // (canonOps (opsOf r18_2)).map strip = l} := by refine ⟨?l, (congrArg (List.map strip) can18_2).trans ?h⟩; case h => simp only [r18_2, c18, bodyOf, Try.f18, Code.sub, opsOf, List.filterMap_cons, List.filterMap_nil, List.getElem?_cons_succ, List.getElem?_cons_zero, Option.map_some, renum, List.map_cons, List.map_nil, strip]; rfl
theorem w18_2 : W Try.prog TT S 4 [13] r18_2 k E m Q ↔ Rg Try.prog TT S 4 [13] [] [] (lgo E [1, 2, 3, 0] (lloud Try.prog (callw Try.prog TT S) [(some 29), (some 30), (some 31), (some 32), (some 33), (some 34), (some 35), (some 36), (some 37), (some 38), (some 39), (some 40), (some 41), (some 42), (some 43), (some 44), (some 45), (some 46), (some 47), (some 48), (some 49), none] (L18_2).1 [(4, [17, 18]), (11, [17]), (15, [17])] (lstates Try.prog (callw Try.prog TT S) [(some 29), (some 30), (some 31), (some 32), (some 33), (some 34), (some 35), (some 36), (some 37), (some 38), (some 39), (some 40), (some 41), (some 42), (some 43), (some 44), (some 45), (some 46), (some 47), (some 48), (some 49), none] (L18_2).1 E m))) k E Q := w_loud (by kernel_rfl) (L18_2).2
theorem k18 : FnIs TT 18 c18 [] 4 := ⟨Try.f18, by kernel_rfl, by simp only [Try.f18, c18, bodyOf], by kernel_rfl, of_decide_eq_true (by kernel_rfl)⟩

/- token.letter -/
noncomputable def c19 : Code := bodyOf Try.f19
noncomputable def r19_0 : Code := Code.sub [0] c19
noncomputable def r19_1 : Code := Code.sub [1, 0] c19
theorem body19 : c19 = (.seq r19_0 (.seq r19_1 .ret)) := by kernel_rfl
noncomputable def L19_0 : {l : List Oper // (opsOf r19_0).map strip = l} := by refine ⟨?l, ?h⟩; case h => simp only [r19_0, c19, bodyOf, Try.f19, Code.sub, opsOf, List.map_cons, List.map_nil, strip]; rfl
theorem w19_0 : W Try.prog TT S 3 [] r19_0 k E m Q ↔ Rg Try.prog TT S 3 [] [2] [] (lgo E [] (lops Try.prog (callw Try.prog TT S) [(some 2)] (L19_0).1 E m)) k E Q := w_plain (by kernel_rfl) (L19_0).2
noncomputable def L19_1 : {l : List Oper // (opsOf r19_1).map strip = l} := by refine ⟨?l, ?h⟩; case h => simp only [r19_1, c19, bodyOf, Try.f19, Code.sub, opsOf, List.map_cons, List.map_nil, strip]; rfl
theorem w19_1 : W Try.prog TT S 3 [] r19_1 k E m Q ↔ Rg Try.prog TT S 3 [] [2] [] (lgo E [0] (lops Try.prog (callw Try.prog TT S) [(some 3), (some 4), (some 5), (some 6), (some 7), (some 8), (some 9), (some 10), (some 11), (some 12), (some 13), (some 14), (some 15), (some 16), (some 17), (some 18), (some 19), (some 20), (some 2)] (L19_1).1 E m)) k E Q := w_plain (by kernel_rfl) (L19_1).2
theorem k19 : FnIs TT 19 c19 [.tmp 2] 1 := ⟨Try.f19, by kernel_rfl, by simp only [Try.f19, c19, bodyOf], by kernel_rfl, of_decide_eq_true (by kernel_rfl)⟩

/- token.digit -/
noncomputable def c20 : Code := bodyOf Try.f20
noncomputable def r20_0 : Code := Code.sub [0] c20
noncomputable def r20_1 : Code := Code.sub [1, 0] c20
theorem body20 : c20 = (.seq r20_0 (.seq r20_1 .ret)) := by kernel_rfl
noncomputable def L20_0 : {l : List Oper // (opsOf r20_0).map strip = l} := by refine ⟨?l, ?h⟩; case h => simp only [r20_0, c20, bodyOf, Try.f20, Code.sub, opsOf, List.map_cons, List.map_nil, strip]; rfl
theorem w20_0 : W Try.prog TT S 3 [] r20_0 k E m Q ↔ Rg Try.prog TT S 3 [] [2] [] (lgo E [] (lops Try.prog (callw Try.prog TT S) [(some 2)] (L20_0).1 E m)) k E Q := w_plain (by kernel_rfl) (L20_0).2
noncomputable def L20_1 : {l : List Oper // (opsOf r20_1).map strip = l} := by refine ⟨?l, ?h⟩; case h => simp only [r20_1, c20, bodyOf, Try.f20, Code.sub, opsOf, List.map_cons, List.map_nil, strip]; rfl
theorem w20_1 : W Try.prog TT S 3 [] r20_1 k E m Q ↔ Rg Try.prog TT S 3 [] [2] [] (lgo E [0] (lops Try.prog (callw Try.prog TT S) [(some 3), (some 4), (some 5), (some 6), (some 7), (some 8), (some 2)] (L20_1).1 E m)) k E Q := w_plain (by kernel_rfl) (L20_1).2
theorem k20 : FnIs TT 20 c20 [.tmp 2] 1 := ⟨Try.f20, by kernel_rfl, by simp only [Try.f20, c20, bodyOf], by kernel_rfl, of_decide_eq_true (by kernel_rfl)⟩

/- turnstoneref3.ends -/
noncomputable def c21 : Code := bodyOf Try.f21
noncomputable def r21_0 : Code := Code.sub [0] c21
noncomputable def r21_1 : Code := Code.sub [1, 0, 0] c21
noncomputable def r21_2 : Code := Code.sub [1, 0, 1, 0, 0, 0] c21
noncomputable def r21_3 : Code := Code.sub [1, 0, 1, 0, 0, 1, 1, 0] c21
noncomputable def r21_4 : Code := Code.sub [1, 0, 1, 0, 0, 1, 1, 1, 1] c21
noncomputable def r21_5 : Code := Code.sub [1, 0, 1, 0, 1, 0, 0] c21
noncomputable def r21_6 : Code := Code.sub [1, 0, 1, 0, 1, 1, 0] c21
noncomputable def r21_7 : Code := Code.sub [1, 0, 1, 0, 1, 1, 1, 0, 0] c21
noncomputable def r21_8 : Code := Code.sub [1, 0, 1, 0, 1, 1, 1, 0, 1, 0, 0, 0] c21
noncomputable def r21_9 : Code := Code.sub [1, 0, 1, 0, 1, 1, 1, 0, 1, 0, 0, 1, 1, 0] c21
noncomputable def r21_10 : Code := Code.sub [1, 0, 1, 0, 1, 1, 1, 0, 1, 0, 0, 1, 1, 1, 1, 0] c21
noncomputable def r21_11 : Code := Code.sub [1, 0, 1, 0, 1, 1, 1, 0, 1, 0, 0, 1, 1, 1, 1, 1, 1, 0] c21
noncomputable def r21_12 : Code := Code.sub [1, 0, 1, 0, 1, 1, 1, 0, 1, 0, 0, 1, 1, 1, 1, 1, 1, 1, 1, 0] c21
noncomputable def r21_13 : Code := Code.sub [1, 0, 1, 0, 1, 1, 1, 0, 1, 0, 0, 1, 1, 1, 1, 1, 1, 1, 1, 1, 1, 0] c21
noncomputable def r21_14 : Code := Code.sub [1, 0, 1, 0, 1, 1, 1, 0, 1, 0, 0, 1, 1, 1, 1, 1, 1, 1, 1, 1, 1, 1, 1, 0] c21
noncomputable def r21_15 : Code := Code.sub [1, 0, 1, 0, 1, 1, 1, 0, 1, 0, 0, 1, 1, 1, 1, 1, 1, 1, 1, 1, 1, 1, 1, 1, 1, 0] c21
noncomputable def r21_16 : Code := Code.sub [1, 0, 1, 0, 1, 1, 1, 0, 1, 0, 0, 1, 1, 1, 1, 1, 1, 1, 1, 1, 1, 1, 1, 1, 1, 1, 1] c21
noncomputable def r21_17 : Code := Code.sub [1, 0, 1, 0, 1, 1, 1, 0, 1, 0, 1, 0, 0] c21
noncomputable def r21_18 : Code := Code.sub [1, 0, 1, 0, 1, 1, 1, 1, 0] c21
noncomputable def r21_19 : Code := Code.sub [1, 0, 1, 0, 1, 1, 1, 1, 1, 0, 0] c21
noncomputable def r21_20 : Code := Code.sub [1, 1, 0] c21
theorem body21 : c21 = (.seq r21_0 (.seq (.seq r21_1 (.block 0 (.seq (.seq r21_2 (.cond (.tmp 5) .skip (.seq r21_3 (.cond (.tmp 5) .skip r21_4)))) (.cond (.tmp 5) (.seq r21_5 .ret) (.seq r21_6 (.cond (.tmp 9) (.seq r21_7 (.block 1 (.seq (.seq r21_8 (.cond (.tmp 13) .skip (.seq r21_9 (.cond (.tmp 13) .skip (.seq r21_10 (.cond (.tmp 13) .skip (.seq r21_11 (.cond (.tmp 13) .skip (.seq r21_12 (.cond (.tmp 13) .skip (.seq r21_13 (.cond (.tmp 13) .skip (.seq r21_14 (.cond (.tmp 13) .skip (.seq r21_15 (.cond (.tmp 13) .skip r21_16)))))))))))))))) (.cond (.tmp 13) (.seq r21_17 .ret) .skip)))) (.seq r21_18 (.cond (.tmp 23) (.seq r21_19 .ret) .skip)))))))) (.seq r21_20 .ret))) := by kernel_rfl
noncomputable def L21_0 : {l : List Oper // (opsOf r21_0).map strip = l} := by refine ⟨?l, ?h⟩; case h => simp only [r21_0, c21, bodyOf, Try.f21, Code.sub, opsOf, List.map_cons, List.map_nil, strip]; rfl
theorem w21_0 : W Try.prog TT S 13 [13, 13, 13, 13, 13, 13, 13, 13, 13, 23] r21_0 k E m Q ↔ Rg Try.prog TT S 13 [13, 13, 13, 13, 13, 13, 13, 13, 13, 23] [1, 2] [] (lgo E [0] (lops Try.prog (callw Try.prog TT S) [(some 1), (some 2)] (L21_0).1 E m)) k E Q := w_plain (by kernel_rfl) (L21_0).2
noncomputable def L21_1 : {l : List Oper // (opsOf r21_1).map strip = l} := by refine ⟨?l, ?h⟩; case h => simp only [r21_1, c21, bodyOf, Try.f21, Code.sub, opsOf, List.map_cons, List.map_nil, strip]; rfl
theorem w21_1 : W Try.prog TT S 13 [13, 13, 13, 13, 13, 13, 13, 13, 13, 23] r21_1 k E m Q ↔ Rg Try.prog TT S 13 [13, 13, 13, 13, 13, 13, 13, 13, 13, 23] [3, 4] [] (lgo E [1] (lops Try.prog (callw Try.prog TT S) [(some 3), (some 4)] (L21_1).1 E m)) k E Q := w_plain (by kernel_rfl) (L21_1).2
noncomputable def L21_2 : {l : List Oper // (opsOf r21_2).map strip = l} := by refine ⟨?l, ?h⟩; case h => simp only [r21_2, c21, bodyOf, Try.f21, Code.sub, opsOf, List.map_cons, List.map_nil, strip]; rfl
theorem w21_2 : W Try.prog TT S 13 [13, 13, 13, 13, 13, 13, 13, 13, 13, 23] r21_2 k E m Q ↔ Rg Try.prog TT S 13 [13, 13, 13, 13, 13, 13, 13, 13, 13, 23] [6, 5] [] (lgo E [4] (lops Try.prog (callw Try.prog TT S) [(some 6), (some 5)] (L21_2).1 E m)) k E Q := w_plain (by kernel_rfl) (L21_2).2
noncomputable def L21_3 : {l : List Oper // (opsOf r21_3).map strip = l} := by refine ⟨?l, ?h⟩; case h => simp only [r21_3, c21, bodyOf, Try.f21, Code.sub, opsOf, List.map_cons, List.map_nil, strip]; rfl
theorem w21_3 : W Try.prog TT S 13 [13, 13, 13, 13, 13, 13, 13, 13, 13, 23] r21_3 k E m Q ↔ Rg Try.prog TT S 13 [13, 13, 13, 13, 13, 13, 13, 13, 13, 23] [7, 5] [] (lgo E [4] (lops Try.prog (callw Try.prog TT S) [(some 7), (some 5)] (L21_3).1 E m)) k E Q := w_plain (by kernel_rfl) (L21_3).2
noncomputable def L21_4 : {l : List Oper // (opsOf r21_4).map strip = l} := by refine ⟨?l, ?h⟩; case h => simp only [r21_4, c21, bodyOf, Try.f21, Code.sub, opsOf, List.map_cons, List.map_nil, strip]; rfl
theorem w21_4 : W Try.prog TT S 13 [13, 13, 13, 13, 13, 13, 13, 13, 13, 23] r21_4 k E m Q ↔ Rg Try.prog TT S 13 [13, 13, 13, 13, 13, 13, 13, 13, 13, 23] [8, 5] [] (lgo E [4] (lops Try.prog (callw Try.prog TT S) [(some 8), (some 5)] (L21_4).1 E m)) k E Q := w_plain (by kernel_rfl) (L21_4).2
noncomputable def L21_5 : {l : List Oper // (opsOf r21_5).map strip = l} := by refine ⟨?l, ?h⟩; case h => simp only [r21_5, c21, bodyOf, Try.f21, Code.sub, opsOf, List.map_cons, List.map_nil, strip]; rfl
theorem w21_5 : W Try.prog TT S 13 [13, 13, 13, 13, 13, 13, 13, 13, 13, 23] r21_5 k E m Q ↔ Rg Try.prog TT S 13 [13, 13, 13, 13, 13, 13, 13, 13, 13, 23] [2] [] (lgo E [] (lops Try.prog (callw Try.prog TT S) [(some 2)] (L21_5).1 E m)) k E Q := w_plain (by kernel_rfl) (L21_5).2
noncomputable def L21_6 : {l : List Oper // (opsOf r21_6).map strip = l} := by refine ⟨?l, ?h⟩; case h => simp only [r21_6, c21, bodyOf, Try.f21, Code.sub, opsOf, List.map_cons, List.map_nil, strip]; rfl
theorem w21_6 : W Try.prog TT S 13 [13, 13, 13, 13, 13, 13, 13, 13, 13, 23] r21_6 k E m Q ↔ Rg Try.prog TT S 13 [13, 13, 13, 13, 13, 13, 13, 13, 13, 23] [10, 9] [] (lgo E [4] (lops Try.prog (callw Try.prog TT S) [(some 10), (some 9)] (L21_6).1 E m)) k E Q := w_plain (by kernel_rfl) (L21_6).2
noncomputable def L21_7 : {l : List Oper // (opsOf r21_7).map strip = l} := by refine ⟨?l, ?h⟩; case h => simp only [r21_7, c21, bodyOf, Try.f21, Code.sub, opsOf, List.map_cons, List.map_nil, strip]; rfl
theorem w21_7 : W Try.prog TT S 13 [13, 13, 13, 13, 13, 13, 13, 13, 13, 23] r21_7 k E m Q ↔ Rg Try.prog TT S 13 [13, 13, 13, 13, 13, 13, 13, 13, 13, 23] [11, 12] [] (lgo E [1] (lops Try.prog (callw Try.prog TT S) [(some 11), (some 12)] (L21_7).1 E m)) k E Q := w_plain (by kernel_rfl) (L21_7).2
noncomputable def L21_8 : {l : List Oper // (opsOf r21_8).map strip = l} := by refine ⟨?l, ?h⟩; case h => simp only [r21_8, c21, bodyOf, Try.f21, Code.sub, opsOf, List.map_cons, List.map_nil, strip]; rfl
theorem w21_8 : W Try.prog TT S 13 [13, 13, 13, 13, 13, 13, 13, 13, 13, 23] r21_8 k E m Q ↔ Rg Try.prog TT S 13 [13, 13, 13, 13, 13, 13, 13, 13, 13, 23] [] [13] (lgo E [12] (lops Try.prog (callw Try.prog TT S) [(some 14), (some 13)] (L21_8).1 E m)) k E Q := w_plain (by kernel_rfl) (L21_8).2
noncomputable def L21_9 : {l : List Oper // (opsOf r21_9).map strip = l} := by refine ⟨?l, ?h⟩; case h => simp only [r21_9, c21, bodyOf, Try.f21, Code.sub, opsOf, List.map_cons, List.map_nil, strip]; rfl
theorem w21_9 : W Try.prog TT S 13 [13, 13, 13, 13, 13, 13, 13, 13, 13, 23] r21_9 k E m Q ↔ Rg Try.prog TT S 13 [13, 13, 13, 13, 13, 13, 13, 13, 13, 23] [] [13] (lgo E [12] (lops Try.prog (callw Try.prog TT S) [(some 15), (some 13)] (L21_9).1 E m)) k E Q := w_plain (by kernel_rfl) (L21_9).2
noncomputable def L21_10 : {l : List Oper // (opsOf r21_10).map strip = l} := by refine ⟨?l, ?h⟩; case h => simp only [r21_10, c21, bodyOf, Try.f21, Code.sub, opsOf, List.map_cons, List.map_nil, strip]; rfl
theorem w21_10 : W Try.prog TT S 13 [13, 13, 13, 13, 13, 13, 13, 13, 13, 23] r21_10 k E m Q ↔ Rg Try.prog TT S 13 [13, 13, 13, 13, 13, 13, 13, 13, 13, 23] [] [13] (lgo E [12] (lops Try.prog (callw Try.prog TT S) [(some 16), (some 13)] (L21_10).1 E m)) k E Q := w_plain (by kernel_rfl) (L21_10).2
noncomputable def L21_11 : {l : List Oper // (opsOf r21_11).map strip = l} := by refine ⟨?l, ?h⟩; case h => simp only [r21_11, c21, bodyOf, Try.f21, Code.sub, opsOf, List.map_cons, List.map_nil, strip]; rfl
theorem w21_11 : W Try.prog TT S 13 [13, 13, 13, 13, 13, 13, 13, 13, 13, 23] r21_11 k E m Q ↔ Rg Try.prog TT S 13 [13, 13, 13, 13, 13, 13, 13, 13, 13, 23] [] [13] (lgo E [12] (lops Try.prog (callw Try.prog TT S) [(some 17), (some 13)] (L21_11).1 E m)) k E Q := w_plain (by kernel_rfl) (L21_11).2
noncomputable def L21_12 : {l : List Oper // (opsOf r21_12).map strip = l} := by refine ⟨?l, ?h⟩; case h => simp only [r21_12, c21, bodyOf, Try.f21, Code.sub, opsOf, List.map_cons, List.map_nil, strip]; rfl
theorem w21_12 : W Try.prog TT S 13 [13, 13, 13, 13, 13, 13, 13, 13, 13, 23] r21_12 k E m Q ↔ Rg Try.prog TT S 13 [13, 13, 13, 13, 13, 13, 13, 13, 13, 23] [] [13] (lgo E [12] (lops Try.prog (callw Try.prog TT S) [(some 18), (some 13)] (L21_12).1 E m)) k E Q := w_plain (by kernel_rfl) (L21_12).2
noncomputable def L21_13 : {l : List Oper // (opsOf r21_13).map strip = l} := by refine ⟨?l, ?h⟩; case h => simp only [r21_13, c21, bodyOf, Try.f21, Code.sub, opsOf, List.map_cons, List.map_nil, strip]; rfl
theorem w21_13 : W Try.prog TT S 13 [13, 13, 13, 13, 13, 13, 13, 13, 13, 23] r21_13 k E m Q ↔ Rg Try.prog TT S 13 [13, 13, 13, 13, 13, 13, 13, 13, 13, 23] [] [13] (lgo E [12] (lops Try.prog (callw Try.prog TT S) [(some 19), (some 13)] (L21_13).1 E m)) k E Q := w_plain (by kernel_rfl) (L21_13).2
noncomputable def L21_14 : {l : List Oper // (opsOf r21_14).map strip = l} := by refine ⟨?l, ?h⟩; case h => simp only [r21_14, c21, bodyOf, Try.f21, Code.sub, opsOf, List.map_cons, List.map_nil, strip]; rfl
theorem w21_14 : W Try.prog TT S 13 [13, 13, 13, 13, 13, 13, 13, 13, 13, 23] r21_14 k E m Q ↔ Rg Try.prog TT S 13 [13, 13, 13, 13, 13, 13, 13, 13, 13, 23] [] [13] (lgo E [12] (lops Try.prog (callw Try.prog TT S) [(some 20), (some 13)] (L21_14).1 E m)) k E Q := w_plain (by kernel_rfl) (L21_14).2
noncomputable def L21_15 : {l : List Oper // (opsOf r21_15).map strip = l} := by refine ⟨?l, ?h⟩; case h => simp only [r21_15, c21, bodyOf, Try.f21, Code.sub, opsOf, List.map_cons, List.map_nil, strip]; rfl
theorem w21_15 : W Try.prog TT S 13 [13, 13, 13, 13, 13, 13, 13, 13, 13, 23] r21_15 k E m Q ↔ Rg Try.prog TT S 13 [13, 13, 13, 13, 13, 13, 13, 13, 13, 23] [] [13] (lgo E [12] (lops Try.prog (callw Try.prog TT S) [(some 21), (some 13)] (L21_15).1 E m)) k E Q := w_plain (by kernel_rfl) (L21_15).2
noncomputable def L21_16 : {l : List Oper // (opsOf r21_16).map strip = l} := by refine ⟨?l, ?h⟩; case h => simp only [r21_16, c21, bodyOf, Try.f21, Code.sub, opsOf, List.map_cons, List.map_nil, strip]; rfl
theorem w21_16 : W Try.prog TT S 13 [13, 13, 13, 13, 13, 13, 13, 13, 13, 23] r21_16 k E m Q ↔ Rg Try.prog TT S 13 [13, 13, 13, 13, 13, 13, 13, 13, 13, 23] [] [13] (lgo E [12] (lops Try.prog (callw Try.prog TT S) [(some 22), (some 13)] (L21_16).1 E m)) k E Q := w_plain (by kernel_rfl) (L21_16).2
noncomputable def L21_17 : {l : List Oper // (opsOf r21_17).map strip = l} := by refine ⟨?l, ?h⟩; case h => simp only [r21_17, c21, bodyOf, Try.f21, Code.sub, opsOf, List.map_cons, List.map_nil, strip]; rfl
theorem w21_17 : W Try.prog TT S 13 [13, 13, 13, 13, 13, 13, 13, 13, 13, 23] r21_17 k E m Q ↔ Rg Try.prog TT S 13 [13, 13, 13, 13, 13, 13, 13, 13, 13, 23] [2] [] (lgo E [] (lops Try.prog (callw Try.prog TT S) [(some 2)] (L21_17).1 E m)) k E Q := w_plain (by kernel_rfl) (L21_17).2
noncomputable def L21_18 : {l : List Oper // (opsOf r21_18).map strip = l} := by refine ⟨?l, ?h⟩; case h => simp only [r21_18, c21, bodyOf, Try.f21, Code.sub, opsOf, List.map_cons, List.map_nil, strip]; rfl
theorem w21_18 : W Try.prog TT S 13 [13, 13, 13, 13, 13, 13, 13, 13, 13, 23] r21_18 k E m Q ↔ Rg Try.prog TT S 13 [13, 13, 13, 13, 13, 13, 13, 13, 13, 23] [] [23] (lgo E [4] (lops Try.prog (callw Try.prog TT S) [(some 24), (some 23)] (L21_18).1 E m)) k E Q := w_plain (by kernel_rfl) (L21_18).2
noncomputable def L21_19 : {l : List Oper // (opsOf r21_19).map strip = l} := by refine ⟨?l, ?h⟩; case h => simp only [r21_19, c21, bodyOf, Try.f21, Code.sub, opsOf, List.map_cons, List.map_nil, strip]; rfl
theorem w21_19 : W Try.prog TT S 13 [13, 13, 13, 13, 13, 13, 13, 13, 13, 23] r21_19 k E m Q ↔ Rg Try.prog TT S 13 [13, 13, 13, 13, 13, 13, 13, 13, 13, 23] [2] [] (lgo E [1] (lops Try.prog (callw Try.prog TT S) [(some 25), (some 26), (some 27), (some 28), (some 29), (some 30), (some 31), (some 32), (some 33), (some 34), (some 35), (some 36), (some 37), (some 2)] (L21_19).1 E m)) k E Q := w_plain (by kernel_rfl) (L21_19).2
noncomputable def L21_20 : {l : List Oper // (opsOf r21_20).map strip = l} := by refine ⟨?l, ?h⟩; case h => simp only [r21_20, c21, bodyOf, Try.f21, Code.sub, opsOf, List.map_cons, List.map_nil, strip]; rfl
theorem w21_20 : W Try.prog TT S 13 [13, 13, 13, 13, 13, 13, 13, 13, 13, 23] r21_20 k E m Q ↔ Rg Try.prog TT S 13 [13, 13, 13, 13, 13, 13, 13, 13, 13, 23] [2] [] (lgo E [] (lops Try.prog (callw Try.prog TT S) [(some 2)] (L21_20).1 E m)) k E Q := w_plain (by kernel_rfl) (L21_20).2
theorem k21 : FnIs TT 21 c21 [.tmp 2] 1 := ⟨Try.f21, by kernel_rfl, by simp only [Try.f21, c21, bodyOf], by kernel_rfl, of_decide_eq_true (by kernel_rfl)⟩

/- (*turnstoneref3.found).add -/
noncomputable def c22 : Code := bodyOf Try.f22
noncomputable def r22_0 : Code := Code.sub [0] c22
noncomputable def r22_1 : Code := Code.sub [1, 0] c22
noncomputable def r22_2 : Code := Code.sub [1, 1, 0] c22
noncomputable def r22_3 : Code := Code.sub [1, 1, 1, 0] c22
noncomputable def r22_4 : Code := Code.sub [1, 1, 1, 1, 0] c22
noncomputable def r22_5 : Code := Code.sub [1, 1, 1, 1, 1, 0] c22
theorem body22 : c22 = (.seq r22_0 (.seq r22_1 (.seq r22_2 (.seq r22_3 (.seq r22_4 (.cond (.tmp 27) r22_5 .skip)))))) := by kernel_rfl
noncomputable def L22_0 : {l : List Oper // (opsOf r22_0).map strip = l} := by refine ⟨?l, ?h⟩; case h => simp only [r22_0, c22, bodyOf, Try.f22, Code.sub, opsOf, List.map_cons, List.map_nil, strip]; rfl
theorem w22_0 : W Try.prog TT S 4 [27] r22_0 k E m Q ↔ Rg Try.prog TT S 4 [27] [3] [] (lgo E [1] (lops Try.prog (callw Try.prog TT S) [(some 3)] (L22_0).1 E m)) k E Q := w_plain (by kernel_rfl) (L22_0).2
noncomputable def L22_1 : {l : List Oper // (opsOf r22_1).map strip = l} := by refine ⟨?l, ?h⟩; case h => simp only [r22_1, c22, bodyOf, Try.f22, Code.sub, opsOf, List.map_cons, List.map_nil, strip]; rfl
theorem w22_1 : W Try.prog TT S 4 [27] r22_1 k E m Q ↔ Rg Try.prog TT S 4 [27] [] [] (lgo E [0] (lops Try.prog (callw Try.prog TT S) [(some 4), (some 5), (some 6), (some 7), (some 8), (some 9), (some 10), (some 11), (some 12), none] (L22_1).1 E m)) k E Q := w_plain (by kernel_rfl) (L22_1).2
noncomputable def L22_2 : {l : List Oper // (opsOf r22_2).map strip = l} := by refine ⟨?l, ?h⟩; case h => simp only [r22_2, c22, bodyOf, Try.f22, Code.sub, opsOf, List.map_cons, List.map_nil, strip]; rfl
theorem w22_2 : W Try.prog TT S 4 [27] r22_2 k E m Q ↔ Rg Try.prog TT S 4 [27] [] [] (lgo E [0, 3] (lops Try.prog (callw Try.prog TT S) [(some 13), (some 14), (some 15), (some 16), (some 17), none] (L22_2).1 E m)) k E Q := w_plain (by kernel_rfl) (L22_2).2
noncomputable def L22_3 : {l : List Oper // (opsOf r22_3).map strip = l} := by refine ⟨?l, ?h⟩; case h => simp only [r22_3, c22, bodyOf, Try.f22, Code.sub, opsOf, List.map_cons, List.map_nil, strip]; rfl
theorem w22_3 : W Try.prog TT S 4 [27] r22_3 k E m Q ↔ Rg Try.prog TT S 4 [27] [] [] (lgo E [0, 3] (lops Try.prog (callw Try.prog TT S) [(some 18), (some 19), (some 20), (some 21), (some 22), none] (L22_3).1 E m)) k E Q := w_plain (by kernel_rfl) (L22_3).2
noncomputable def L22_4 : {l : List Oper // (opsOf r22_4).map strip = l} := by refine ⟨?l, ?h⟩; case h => simp only [r22_4, c22, bodyOf, Try.f22, Code.sub, opsOf, List.map_cons, List.map_nil, strip]; rfl
theorem w22_4 : W Try.prog TT S 4 [27] r22_4 k E m Q ↔ Rg Try.prog TT S 4 [27] [] [27] (lgo E [0] (lops Try.prog (callw Try.prog TT S) [(some 23), (some 24), (some 25), (some 26), (some 27)] (L22_4).1 E m)) k E Q := w_plain (by kernel_rfl) (L22_4).2
theorem can22_5 : canonOps (opsOf r22_5) = List.filterMap (fun i => ((opsOf r22_5)[i]?).map (renum [0, 1, 2, 3, 4, 5, 6, 7, 8, 9, 10])) [0, 1, 2, 3, 4, 5, 6, 7, 8, 9, 10] := by kernel_rfl
noncomputable def L22_5 : {l : List Oper // (canonOps (opsOf r22_5)).map strip = l} := by refine ⟨?l, (congrArg (List.map strip) can22_5).trans ?h⟩; case h => simp only [r22_5, c22, bodyOf, Try.f22, Code.sub, opsOf, List.filterMap_cons, List.filterMap_nil, List.getElem?_cons_succ, List.getElem?_cons_zero, Option.map_some, renum, List.map_cons, List.map_nil, strip]; rfl
theorem w22_5 : W Try.prog TT S 4 [27] r22_5 k E m Q ↔ Rg Try.prog TT S 4 [27] [] [] (lgo E [0, 3] (lloud Try.prog (callw Try.prog TT S) [(some 28), (some 29), (some 30), (some 31), (some 32), (some 33), (some 34), (some 35), (some 36), (some 37), none] (L22_5).1 [(4, [6, 7]), (5, [6])] (lstates Try.prog (callw Try.prog TT S) [(some 28), (some 29), (some 30), (some 31), (some 32), (some 33), (some 34), (some 35), (some 36), (some 37), none] (L22_5).1 E m))) k E Q := w_loud (by kernel_rfl) (L22_5).2
theorem k22 : FnIs TT 22 c22 [] 2 := ⟨Try.f22, by kernel_rfl, by simp only [Try.f22, c22, bodyOf], by kernel_rfl, of_decide_eq_true (by kernel_rfl)⟩

/- turnstoneref3.one -/
noncomputable def c23 : Code := bodyOf Try.f23
noncomputable def r23_0 : Code := Code.sub [0] c23
noncomputable def r23_1 : Code := Code.sub [1, 0] c23
noncomputable def r23_2 : Code := Code.sub [1, 1, 0, 0, 0] c23
noncomputable def r23_3 : Code := Code.sub [1, 1, 0, 0, 1, 0, 0] c23
noncomputable def r23_4 : Code := Code.sub [1, 1, 0, 0, 1, 0, 1, 0, 0, 0, 0, 0] c23
noncomputable def r23_5 : Code := Code.sub [1, 1, 0, 0, 1, 0, 1, 0, 0, 0, 1, 0] c23
noncomputable def r23_6 : Code := Code.sub [1, 1, 0, 0, 1, 0, 1, 1, 0, 0] c23
noncomputable def r23_7 : Code := Code.sub [1, 1, 0, 0, 1, 0, 1, 1, 0, 1, 0, 0] c23
noncomputable def r23_8 : Code := Code.sub [1, 1, 0, 0, 1, 0, 1, 1, 1, 0] c23
noncomputable def r23_9 : Code := Code.sub [1, 1, 0, 0, 1, 1, 0] c23
noncomputable def r23_10 : Code := Code.sub [1, 1, 0, 0, 1, 1, 1, 0, 0] c23
noncomputable def r23_11 : Code := Code.sub [1, 1, 0, 0, 1, 1, 1, 0, 1, 0] c23
noncomputable def r23_12 : Code := Code.sub [1, 1, 0, 0, 1, 1, 1, 0, 1, 1, 0, 0, 0, 0, 0] c23
noncomputable def r23_13 : Code := Code.sub [1, 1, 0, 0, 1, 1, 1, 0, 1, 1, 0, 0, 0, 1, 0, 0] c23
noncomputable def r23_14 : Code := Code.sub [1, 1, 0, 0, 1, 1, 1, 0, 1, 1, 0, 0, 0, 1, 0, 1, 0, 0] c23
noncomputable def r23_15 : Code := Code.sub [1, 1, 0, 0, 1, 1, 1, 0, 1, 1, 0, 0, 0, 1, 0, 1, 0, 1, 0, 0] c23
noncomputable def r23_16 : Code := Code.sub [1, 1, 0, 0, 1, 1, 1, 0, 1, 1, 0, 0, 0, 1, 0, 1, 1, 0] c23
noncomputable def r23_17 : Code := Code.sub [1, 1, 0, 0, 1, 1, 1, 0, 1, 1, 0, 0, 0, 1, 0, 1, 1, 1] c23
noncomputable def r23_18 : Code := Code.sub [1, 1, 0, 0, 1, 1, 1, 0, 1, 1, 1, 0] c23
noncomputable def r23_19 : Code := Code.sub [1, 1, 0, 0, 1, 1, 1, 1, 0] c23
noncomputable def r23_20 : Code := Code.sub [1, 1, 0, 0, 1, 1, 1, 1, 1, 0, 0] c23
noncomputable def r23_21 : Code := Code.sub [1, 1, 1, 0] c23
noncomputable def r23_22 : Code := Code.sub [1, 1, 1, 1, 0, 0] c23
noncomputable def r23_23 : Code := Code.sub [1, 1, 1, 1, 0, 1, 0, 0, 0, 0] c23
noncomputable def r23_24 : Code := Code.sub [1, 1, 1, 1, 0, 1, 0, 0, 1, 0, 0, 0] c23
noncomputable def r23_25 : Code := Code.sub [1, 1, 1, 1, 0, 1, 0, 0, 1, 0, 0, 1, 0, 0] c23
noncomputable def r23_26 : Code := Code.sub [1, 1, 1, 1, 0, 1, 0, 0, 1, 0, 0, 1, 0, 1, 0, 0] c23
noncomputable def r23_27 : Code := Code.sub [1, 1, 1, 1, 0, 1, 0, 0, 1, 0, 0, 1, 0, 1, 0, 1, 0] c23
noncomputable def r23_28 : Code := Code.sub [1, 1, 1, 1, 0, 1, 0, 0, 1, 0, 0, 1, 0, 1, 1, 0] c23
noncomputable def r23_29 : Code := Code.sub [1, 1, 1, 1, 0, 1, 0, 0, 1, 1] c23
noncomputable def r23_30 : Code := Code.sub [1, 1, 1, 1, 1, 0] c23
theorem body23 : c23 = (.seq r23_0 (.seq r23_1 (.seq (.block 0 (.seq r23_2 (.cond (.tmp 15) (.seq r23_3 (.seq (.block 1 (.loop (.seq (.seq r23_4 (.cond (.tmp 33) .skip (.exit 1))) (.block 2 r23_5)))) (.seq (.seq r23_6 (.cond (.tmp 39) (.seq r23_7 .ret) .skip)) (.seq r23_8 .ret)))) (.seq r23_9 (.cond (.tmp 50) (.seq r23_10 (.seq r23_11 (.seq (.block 3 (.loop (.seq (.seq r23_12 (.cond (.tmp 62) .skip (.exit 3))) (.block 4 (.seq r23_13 (.seq (.seq r23_14 (.cond (.tmp 72) (.seq r23_15 .ret) .skip)) (.seq r23_16 r23_17))))))) (.seq r23_18 .ret)))) (.seq r23_19 (.cond (.tmp 86) (.seq r23_20 .ret) .skip))))))) (.seq r23_21 (.seq (.seq r23_22 (.block 5 (.loop (.seq (.seq r23_23 (.cond (.tmp 96) .skip (.exit 5))) (.seq (.block 6 (.seq r23_24 (.cond (.tmp 117) (.seq r23_25 (.seq (.seq r23_26 (.cond (.tmp 121) r23_27 .skip)) (.seq r23_28 .ret))) .skip))) r23_29))))) (.seq r23_30 .ret)))))) := by kernel_rfl
noncomputable def L23_0 : {l : List Oper // (opsOf r23_0).map strip = l} := by refine ⟨?l, ?h⟩; case h => simp only [r23_0, c23, bodyOf, Try.f23, Code.sub, opsOf, List.map_cons, List.map_nil, strip]; rfl
theorem w23_0 : W Try.prog TT S 13 [15, 33, 39, 50, 62, 72, 86, 96, 117, 121] r23_0 k E m Q ↔ Rg Try.prog TT S 13 [15, 33, 39, 50, 62, 72, 86, 96, 117, 121] [2, 3, 4] [] (lgo E [] (lops Try.prog (callw Try.prog TT S) [(some 2), (some 3), (some 4)] (L23_0).1 E m)) k E Q := w_plain (by kernel_rfl) (L23_0).2
noncomputable def L23_1 : {l : List Oper // (opsOf r23_1).map strip = l} := by refine ⟨?l, ?h⟩; case h => simp only [r23_1, c23, bodyOf, Try.f23, Code.sub, opsOf, List.map_cons, List.map_nil, strip]; rfl
theorem w23_1 : W Try.prog TT S 13 [15, 33, 39, 50, 62, 72, 86, 96, 117, 121] r23_1 k E m Q ↔ Rg Try.prog TT S 13 [15, 33, 39, 50, 62, 72, 86, 96, 117, 121] [5] [] (lgo E [0] (lops Try.prog (callw Try.prog TT S) [(some 13), (some 14), (some 5)] (L23_1).1 E m)) k E Q := w_plain (by kernel_rfl) (L23_1).2
noncomputable def L23_2 : {l : List Oper // (opsOf r23_2).map strip = l} := by refine ⟨?l, ?h⟩; case h => simp only [r23_2, c23, bodyOf, Try.f23, Code.sub, opsOf, List.map_cons, List.map_nil, strip]; rfl
theorem w23_2 : W Try.prog TT S 13 [15, 33, 39, 50, 62, 72, 86, 96, 117, 121] r23_2 k E m Q ↔ Rg Try.prog TT S 13 [15, 33, 39, 50, 62, 72, 86, 96, 117, 121] [] [15] (lgo E [5] (lops Try.prog (callw Try.prog TT S) [(some 16), (some 17), (some 15)] (L23_2).1 E m)) k E Q := w_plain (by kernel_rfl) (L23_2).2
noncomputable def L23_3 : {l : List Oper // (opsOf r23_3).map strip = l} := by refine ⟨?l, ?h⟩; case h => simp only [r23_3, c23, bodyOf, Try.f23, Code.sub, opsOf, List.map_cons, List.map_nil, strip]; rfl
theorem w23_3 : W Try.prog TT S 13 [15, 33, 39, 50, 62, 72, 86, 96, 117, 121] r23_3 k E m Q ↔ Rg Try.prog TT S 13 [15, 33, 39, 50, 62, 72, 86, 96, 117, 121] [6] [] (lgo E [] (lops Try.prog (callw Try.prog TT S) [(some 6)] (L23_3).1 E m)) k E Q := w_plain (by kernel_rfl) (L23_3).2
noncomputable def L23_4 : {l : List Oper // (opsOf r23_4).map strip = l} := by refine ⟨?l, ?h⟩; case h => simp only [r23_4, c23, bodyOf, Try.f23, Code.sub, opsOf, List.map_cons, List.map_nil, strip]; rfl
theorem w23_4 : W Try.prog TT S 13 [15, 33, 39, 50, 62, 72, 86, 96, 117, 121] r23_4 k E m Q ↔ Rg Try.prog TT S 13 [15, 33, 39, 50, 62, 72, 86, 96, 117, 121] [] [33] (lgo E [0, 6] (lops Try.prog (callw Try.prog TT S) [(some 18), (some 19), (some 20), (some 21), (some 22), (some 23), (some 24), (some 25), (some 26), (some 27), (some 28), (some 29), (some 30), (some 31), (some 32), (some 33)] (L23_4).1 E m)) k E Q := w_plain (by kernel_rfl) (L23_4).2
noncomputable def L23_5 : {l : List Oper // (opsOf r23_5).map strip = l} := by refine ⟨?l, ?h⟩; case h => simp only [r23_5, c23, bodyOf, Try.f23, Code.sub, opsOf, List.map_cons, List.map_nil, strip]; rfl
theorem w23_5 : W Try.prog TT S 13 [15, 33, 39, 50, 62, 72, 86, 96, 117, 121] r23_5 k E m Q ↔ Rg Try.prog TT S 13 [15, 33, 39, 50, 62, 72, 86, 96, 117, 121] [6] [] (lgo E [6] (lops Try.prog (callw Try.prog TT S) [(some 34), (some 35), (some 6)] (L23_5).1 E m)) k E Q := w_plain (by kernel_rfl) (L23_5).2
noncomputable def L23_6 : {l : List Oper // (opsOf r23_6).map strip = l} := by refine ⟨?l, ?h⟩; case h => simp only [r23_6, c23, bodyOf, Try.f23, Code.sub, opsOf, List.map_cons, List.map_nil, strip]; rfl
theorem w23_6 : W Try.prog TT S 13 [15, 33, 39, 50, 62, 72, 86, 96, 117, 121] r23_6 k E m Q ↔ Rg Try.prog TT S 13 [15, 33, 39, 50, 62, 72, 86, 96, 117, 121] [] [39] (lgo E [0, 6] (lops Try.prog (callw Try.prog TT S) [(some 36), (some 37), (some 38), (some 39)] (L23_6).1 E m)) k E Q := w_plain (by kernel_rfl) (L23_6).2
noncomputable def L23_7 : {l : List Oper // (opsOf r23_7).map strip = l} := by refine ⟨?l, ?h⟩; case h => simp only [r23_7, c23, bodyOf, Try.f23, Code.sub, opsOf, List.map_cons, List.map_nil, strip]; rfl
theorem w23_7 : W Try.prog TT S 13 [15, 33, 39, 50, 62, 72, 86, 96, 117, 121] r23_7 k E m Q ↔ Rg Try.prog TT S 13 [15, 33, 39, 50, 62, 72, 86, 96, 117, 121] [3, 4] [] (lgo E [0, 6, 2] (lops Try.prog (callw Try.prog TT S) [(some 40), (some 41), (some 42), (some 43), (some 44), none, (some 3), (some 4)] (L23_7).1 E m)) k E Q := w_plain (by kernel_rfl) (L23_7).2
noncomputable def L23_8 : {l : List Oper // (opsOf r23_8).map strip = l} := by refine ⟨?l, ?h⟩; case h => simp only [r23_8, c23, bodyOf, Try.f23, Code.sub, opsOf, List.map_cons, List.map_nil, strip]; rfl
theorem w23_8 : W Try.prog TT S 13 [15, 33, 39, 50, 62, 72, 86, 96, 117, 121] r23_8 k E m Q ↔ Rg Try.prog TT S 13 [15, 33, 39, 50, 62, 72, 86, 96, 117, 121] [3, 4] [] (lgo E [0, 6, 2] (lops Try.prog (callw Try.prog TT S) [(some 45), (some 46), (some 47), (some 48), (some 49), none, (some 3), (some 4)] (L23_8).1 E m)) k E Q := w_plain (by kernel_rfl) (L23_8).2
noncomputable def L23_9 : {l : List Oper // (opsOf r23_9).map strip = l} := by refine ⟨?l, ?h⟩; case h => simp only [r23_9, c23, bodyOf, Try.f23, Code.sub, opsOf, List.map_cons, List.map_nil, strip]; rfl
theorem w23_9 : W Try.prog TT S 13 [15, 33, 39, 50, 62, 72, 86, 96, 117, 121] r23_9 k E m Q ↔ Rg Try.prog TT S 13 [15, 33, 39, 50, 62, 72, 86, 96, 117, 121] [] [50] (lgo E [5] (lops Try.prog (callw Try.prog TT S) [(some 51), (some 52), (some 50)] (L23_9).1 E m)) k E Q := w_plain (by kernel_rfl) (L23_9).2
noncomputable def L23_10 : {l : List Oper // (opsOf r23_10).map strip = l} := by refine ⟨?l, ?h⟩; case h => simp only [r23_10, c23, bodyOf, Try.f23, Code.sub, opsOf, List.map_cons, List.map_nil, strip]; rfl
theorem w23_10 : W Try.prog TT S 13 [15, 33, 39, 50, 62, 72, 86, 96, 117, 121] r23_10 k E m Q ↔ Rg Try.prog TT S 13 [15, 33, 39, 50, 62, 72, 86, 96, 117, 121] [7] [] (lgo E [] (lops Try.prog (callw Try.prog TT S) [(some 7)] (L23_10).1 E m)) k E Q := w_plain (by kernel_rfl) (L23_10).2
noncomputable def L23_11 : {l : List Oper // (opsOf r23_11).map strip = l} := by refine ⟨?l, ?h⟩; case h => simp only [r23_11, c23, bodyOf, Try.f23, Code.sub, opsOf, List.map_cons, List.map_nil, strip]; rfl
theorem w23_11 : W Try.prog TT S 13 [15, 33, 39, 50, 62, 72, 86, 96, 117, 121] r23_11 k E m Q ↔ Rg Try.prog TT S 13 [15, 33, 39, 50, 62, 72, 86, 96, 117, 121] [8] [] (lgo E [] (lops Try.prog (callw Try.prog TT S) [(some 8)] (L23_11).1 E m)) k E Q := w_plain (by kernel_rfl) (L23_11).2
noncomputable def L23_12 : {l : List Oper // (opsOf r23_12).map strip = l} := by refine ⟨?l, ?h⟩; case h => simp only [r23_12, c23, bodyOf, Try.f23, Code.sub, opsOf, List.map_cons, List.map_nil, strip]; rfl
theorem w23_12 : W Try.prog TT S 13 [15, 33, 39, 50, 62, 72, 86, 96, 117, 121] r23_12 k E m Q ↔ Rg Try.prog TT S 13 [15, 33, 39, 50, 62, 72, 86, 96, 117, 121] [] [62] (lgo E [0, 7] (lops Try.prog (callw Try.prog TT S) [(some 53), (some 54), (some 55), (some 56), (some 57), (some 58), (some 59), (some 60), (some 61), (some 62)] (L23_12).1 E m)) k E Q := w_plain (by kernel_rfl) (L23_12).2
noncomputable def L23_13 : {l : List Oper // (opsOf r23_13).map strip = l} := by refine ⟨?l, ?h⟩; case h => simp only [r23_13, c23, bodyOf, Try.f23, Code.sub, opsOf, List.map_cons, List.map_nil, strip]; rfl
theorem w23_13 : W Try.prog TT S 13 [15, 33, 39, 50, 62, 72, 86, 96, 117, 121] r23_13 k E m Q ↔ Rg Try.prog TT S 13 [15, 33, 39, 50, 62, 72, 86, 96, 117, 121] [9] [] (lgo E [0, 7] (lops Try.prog (callw Try.prog TT S) [(some 63), (some 64), (some 65), (some 66), (some 67), (some 9)] (L23_13).1 E m)) k E Q := w_plain (by kernel_rfl) (L23_13).2
noncomputable def L23_14 : {l : List Oper // (opsOf r23_14).map strip = l} := by refine ⟨?l, ?h⟩; case h => simp only [r23_14, c23, bodyOf, Try.f23, Code.sub, opsOf, List.map_cons, List.map_nil, strip]; rfl
theorem w23_14 : W Try.prog TT S 13 [15, 33, 39, 50, 62, 72, 86, 96, 117, 121] r23_14 k E m Q ↔ Rg Try.prog TT S 13 [15, 33, 39, 50, 62, 72, 86, 96, 117, 121] [] [72] (lgo E [8, 9] (lops Try.prog (callw Try.prog TT S) [(some 68), (some 69), (some 70), (some 71), (some 72)] (L23_14).1 E m)) k E Q := w_plain (by kernel_rfl) (L23_14).2
noncomputable def L23_15 : {l : List Oper // (opsOf r23_15).map strip = l} := by refine ⟨?l, ?h⟩; case h => simp only [r23_15, c23, bodyOf, Try.f23, Code.sub, opsOf, List.map_cons, List.map_nil, strip]; rfl
theorem w23_15 : W Try.prog TT S 13 [15, 33, 39, 50, 62, 72, 86, 96, 117, 121] r23_15 k E m Q ↔ Rg Try.prog TT S 13 [15, 33, 39, 50, 62, 72, 86, 96, 117, 121] [3, 4] [] (lgo E [2] (lops Try.prog (callw Try.prog TT S) [(some 73), none, (some 3), (some 4)] (L23_15).1 E m)) k E Q := w_plain (by kernel_rfl) (L23_15).2
noncomputable def L23_16 : {l : List Oper // (opsOf r23_16).map strip = l} := by refine ⟨?l, ?h⟩; case h => simp only [r23_16, c23, bodyOf, Try.f23, Code.sub, opsOf, List.map_cons, List.map_nil, strip]; rfl
theorem w23_16 : W Try.prog TT S 13 [15, 33, 39, 50, 62, 72, 86, 96, 117, 121] r23_16 k E m Q ↔ Rg Try.prog TT S 13 [15, 33, 39, 50, 62, 72, 86, 96, 117, 121] [8] [] (lgo E [8, 9] (lops Try.prog (callw Try.prog TT S) [(some 74), (some 75), (some 76), (some 77), (some 8)] (L23_16).1 E m)) k E Q := w_plain (by kernel_rfl) (L23_16).2
noncomputable def L23_17 : {l : List Oper // (opsOf r23_17).map strip = l} := by refine ⟨?l, ?h⟩; case h => simp only [r23_17, c23, bodyOf, Try.f23, Code.sub, opsOf, List.map_cons, List.map_nil, strip]; rfl
theorem w23_17 : W Try.prog TT S 13 [15, 33, 39, 50, 62, 72, 86, 96, 117, 121] r23_17 k E m Q ↔ Rg Try.prog TT S 13 [15, 33, 39, 50, 62, 72, 86, 96, 117, 121] [7] [] (lgo E [7] (lops Try.prog (callw Try.prog TT S) [(some 78), (some 79), (some 7)] (L23_17).1 E m)) k E Q := w_plain (by kernel_rfl) (L23_17).2
noncomputable def L23_18 : {l : List Oper // (opsOf r23_18).map strip = l} := by refine ⟨?l, ?h⟩; case h => simp only [r23_18, c23, bodyOf, Try.f23, Code.sub, opsOf, List.map_cons, List.map_nil, strip]; rfl
theorem w23_18 : W Try.prog TT S 13 [15, 33, 39, 50, 62, 72, 86, 96, 117, 121] r23_18 k E m Q ↔ Rg Try.prog TT S 13 [15, 33, 39, 50, 62, 72, 86, 96, 117, 121] [3, 4] [] (lgo E [0, 8, 7, 2] (lops Try.prog (callw Try.prog TT S) [(some 80), (some 81), (some 82), (some 83), (some 84), (some 85), none, (some 3), (some 4)] (L23_18).1 E m)) k E Q := w_plain (by kernel_rfl) (L23_18).2
noncomputable def L23_19 : {l : List Oper // (opsOf r23_19).map strip = l} := by refine ⟨?l, ?h⟩; case h => simp only [r23_19, c23, bodyOf, Try.f23, Code.sub, opsOf, List.map_cons, List.map_nil, strip]; rfl
theorem w23_19 : W Try.prog TT S 13 [15, 33, 39, 50, 62, 72, 86, 96, 117, 121] r23_19 k E m Q ↔ Rg Try.prog TT S 13 [15, 33, 39, 50, 62, 72, 86, 96, 117, 121] [] [86] (lgo E [5] (lops Try.prog (callw Try.prog TT S) [(some 87), (some 88), (some 86)] (L23_19).1 E m)) k E Q := w_plain (by kernel_rfl) (L23_19).2
noncomputable def L23_20 : {l : List Oper // (opsOf r23_20).map strip = l} := by refine ⟨?l, ?h⟩; case h => simp only [r23_20, c23, bodyOf, Try.f23, Code.sub, opsOf, List.map_cons, List.map_nil, strip]; rfl
theorem w23_20 : W Try.prog TT S 13 [15, 33, 39, 50, 62, 72, 86, 96, 117, 121] r23_20 k E m Q ↔ Rg Try.prog TT S 13 [15, 33, 39, 50, 62, 72, 86, 96, 117, 121] [3, 4] [] (lgo E [0, 2] (lops Try.prog (callw Try.prog TT S) [(some 89), (some 90), (some 91), (some 92), (some 93), none, (some 3), (some 4)] (L23_20).1 E m)) k E Q := w_plain (by kernel_rfl) (L23_20).2
noncomputable def L23_21 : {l : List Oper // (opsOf r23_21).map strip = l} := by refine ⟨?l, ?h⟩; case h => simp only [r23_21, c23, bodyOf, Try.f23, Code.sub, opsOf, List.map_cons, List.map_nil, strip]; rfl
theorem w23_21 : W Try.prog TT S 13 [15, 33, 39, 50, 62, 72, 86, 96, 117, 121] r23_21 k E m Q ↔ Rg Try.prog TT S 13 [15, 33, 39, 50, 62, 72, 86, 96, 117, 121] [10] [] (lgo E [] (lops Try.prog (callw Try.prog TT S) [(some 94), (some 10), none] (L23_21).1 E m)) k E Q := w_plain (by kernel_rfl) (L23_21).2
noncomputable def L23_22 : {l : List Oper // (opsOf r23_22).map strip = l} := by refine ⟨?l, ?h⟩; case h => simp only [r23_22, c23, bodyOf, Try.f23, Code.sub, opsOf, List.map_cons, List.map_nil, strip]; rfl
theorem w23_22 : W Try.prog TT S 13 [15, 33, 39, 50, 62, 72, 86, 96, 117, 121] r23_22 k E m Q ↔ Rg Try.prog TT S 13 [15, 33, 39, 50, 62, 72, 86, 96, 117, 121] [11] [] (lgo E [] (lops Try.prog (callw Try.prog TT S) [(some 11)] (L23_22).1 E m)) k E Q := w_plain (by kernel_rfl) (L23_22).2
noncomputable def L23_23 : {l : List Oper // (opsOf r23_23).map strip = l} := by refine ⟨?l, ?h⟩; case h => simp only [r23_23, c23, bodyOf, Try.f23, Code.sub, opsOf, List.map_cons, List.map_nil, strip]; rfl
theorem w23_23 : W Try.prog TT S 13 [15, 33, 39, 50, 62, 72, 86, 96, 117, 121] r23_23 k E m Q ↔ Rg Try.prog TT S 13 [15, 33, 39, 50, 62, 72, 86, 96, 117, 121] [] [96] (lgo E [11] (lops Try.prog (callw Try.prog TT S) [(some 95), (some 96)] (L23_23).1 E m)) k E Q := w_plain (by kernel_rfl) (L23_23).2
noncomputable def L23_24 : {l : List Oper // (opsOf r23_24).map strip = l} := by refine ⟨?l, ?h⟩; case h => simp only [r23_24, c23, bodyOf, Try.f23, Code.sub, opsOf, List.map_cons, List.map_nil, strip]; rfl
theorem w23_24 : W Try.prog TT S 13 [15, 33, 39, 50, 62, 72, 86, 96, 117, 121] r23_24 k E m Q ↔ Rg Try.prog TT S 13 [15, 33, 39, 50, 62, 72, 86, 96, 117, 121] [] [117] (lgo E [0, 11, 10] (lops Try.prog (callw Try.prog TT S) [(some 99), (some 100), (some 101), (some 102), (some 103), (some 104), (some 105), (some 106), (some 107), (some 108), (some 109), (some 110), (some 111), (some 112), (some 113), (some 114), (some 115), (some 116), (some 117)] (L23_24).1 E m)) k E Q := w_plain (by kernel_rfl) (L23_24).2
noncomputable def L23_25 : {l : List Oper // (opsOf r23_25).map strip = l} := by refine ⟨?l, ?h⟩; case h => simp only [r23_25, c23, bodyOf, Try.f23, Code.sub, opsOf, List.map_cons, List.map_nil, strip]; rfl
theorem w23_25 : W Try.prog TT S 13 [15, 33, 39, 50, 62, 72, 86, 96, 117, 121] r23_25 k E m Q ↔ Rg Try.prog TT S 13 [15, 33, 39, 50, 62, 72, 86, 96, 117, 121] [12] [] (lgo E [] (lops Try.prog (callw Try.prog TT S) [(some 12)] (L23_25).1 E m)) k E Q := w_plain (by kernel_rfl) (L23_25).2
noncomputable def L23_26 : {l : List Oper // (opsOf r23_26).map strip = l} := by refine ⟨?l, ?h⟩; case h => simp only [r23_26, c23, bodyOf, Try.f23, Code.sub, opsOf, List.map_cons, List.map_nil, strip]; rfl
theorem w23_26 : W Try.prog TT S 13 [15, 33, 39, 50, 62, 72, 86, 96, 117, 121] r23_26 k E m Q ↔ Rg Try.prog TT S 13 [15, 33, 39, 50, 62, 72, 86, 96, 117, 121] [] [121] (lgo E [11, 10] (lops Try.prog (callw Try.prog TT S) [(some 118), (some 119), (some 120), (some 121)] (L23_26).1 E m)) k E Q := w_plain (by kernel_rfl) (L23_26).2
noncomputable def L23_27 : {l : List Oper // (opsOf r23_27).map strip = l} := by refine ⟨?l, ?h⟩; case h => simp only [r23_27, c23, bodyOf, Try.f23, Code.sub, opsOf, List.map_cons, List.map_nil, strip]; rfl
theorem w23_27 : W Try.prog TT S 13 [15, 33, 39, 50, 62, 72, 86, 96, 117, 121] r23_27 k E m Q ↔ Rg Try.prog TT S 13 [15, 33, 39, 50, 62, 72, 86, 96, 117, 121] [12] [] (lgo E [] (lops Try.prog (callw Try.prog TT S) [(some 12)] (L23_27).1 E m)) k E Q := w_plain (by kernel_rfl) (L23_27).2
theorem can23_28 : canonOps (opsOf r23_28) = opsOf r23_28 := by kernel_rfl
noncomputable def L23_28 : {l : List Oper // (canonOps (opsOf r23_28)).map strip = l} := by refine ⟨?l, (congrArg (List.map strip) can23_28).trans ?h⟩; case h => simp only [r23_28, c23, bodyOf, Try.f23, Code.sub, opsOf, List.map_cons, List.map_nil, strip]; rfl
theorem w23_28 : W Try.prog TT S 13 [15, 33, 39, 50, 62, 72, 86, 96, 117, 121] r23_28 k E m Q ↔ Rg Try.prog TT S 13 [15, 33, 39, 50, 62, 72, 86, 96, 117, 121] [3, 4] [] (lgo E [12, 11, 10, 2] (lloud Try.prog (callw Try.prog TT S) [(some 122), (some 123), (some 124), (some 125), (some 126), (some 127), (some 128), (some 129), (some 130), none, (some 3), (some 4)] (L23_28).1 [(3, [9]), (7, [9, 12]), (8, [9, 12])] (lstates Try.prog (callw Try.prog TT S) [(some 122), (some 123), (some 124), (some 125), (some 126), (some 127), (some 128), (some 129), (some 130), none, (some 3), (some 4)] (L23_28).1 E m))) k E Q := w_loud (by kernel_rfl) (L23_28).2
noncomputable def L23_29 : {l : List Oper // (opsOf r23_29).map strip = l} := by refine ⟨?l, ?h⟩; case h => simp only [r23_29, c23, bodyOf, Try.f23, Code.sub, opsOf, List.map_cons, List.map_nil, strip]; rfl
theorem w23_29 : W Try.prog TT S 13 [15, 33, 39, 50, 62, 72, 86, 96, 117, 121] r23_29 k E m Q ↔ Rg Try.prog TT S 13 [15, 33, 39, 50, 62, 72, 86, 96, 117, 121] [11] [] (lgo E [11] (lops Try.prog (callw Try.prog TT S) [(some 97), (some 98), (some 11)] (L23_29).1 E m)) k E Q := w_plain (by kernel_rfl) (L23_29).2
noncomputable def L23_30 : {l : List Oper // (opsOf r23_30).map strip = l} := by refine ⟨?l, ?h⟩; case h => simp only [r23_30, c23, bodyOf, Try.f23, Code.sub, opsOf, List.map_cons, List.map_nil, strip]; rfl
theorem w23_30 : W Try.prog TT S 13 [15, 33, 39, 50, 62, 72, 86, 96, 117, 121] r23_30 k E m Q ↔ Rg Try.prog TT S 13 [15, 33, 39, 50, 62, 72, 86, 96, 117, 121] [3, 4] [] (lgo E [2] (lops Try.prog (callw Try.prog TT S) [(some 131), none, (some 3), (some 4)] (L23_30).1 E m)) k E Q := w_plain (by kernel_rfl) (L23_30).2
theorem k23 : FnIs TT 23 c23 [.cell 2 34, .tmp 3, .tmp 4] 1 := ⟨Try.f23, by kernel_rfl, by simp only [Try.f23, c23, bodyOf], by kernel_rfl, of_decide_eq_true (by kernel_rfl)⟩

/- (*token.scanner).sign -/
noncomputable def c24 : Code := bodyOf Try.f24
noncomputable def r24_0 : Code := Code.sub [0] c24
noncomputable def r24_1 : Code := Code.sub [1, 0] c24
noncomputable def r24_2 : Code := Code.sub [1, 1, 0, 0] c24
noncomputable def r24_3 : Code := Code.sub [1, 1, 0, 1, 0, 0] c24
noncomputable def r24_4 : Code := Code.sub [1, 1, 0, 1, 0, 1, 0, 0, 0] c24
noncomputable def r24_5 : Code := Code.sub [1, 1, 0, 1, 0, 1, 0, 0, 1, 1, 0] c24
noncomputable def r24_6 : Code := Code.sub [1, 1, 0, 1, 0, 1, 0, 0, 1, 1, 1, 1, 0] c24
noncomputable def r24_7 : Code := Code.sub [1, 1, 0, 1, 0, 1, 0, 0, 1, 1, 1, 1, 1, 1, 0] c24
noncomputable def r24_8 : Code := Code.sub [1, 1, 0, 1, 0, 1, 0, 0, 1, 1, 1, 1, 1, 1, 1, 1, 0] c24
noncomputable def r24_9 : Code := Code.sub [1, 1, 0, 1, 0, 1, 0, 0, 1, 1, 1, 1, 1, 1, 1, 1, 1, 1, 0] c24
noncomputable def r24_10 : Code := Code.sub [1, 1, 0, 1, 0, 1, 0, 0, 1, 1, 1, 1, 1, 1, 1, 1, 1, 1, 1, 1] c24
noncomputable def r24_11 : Code := Code.sub [1, 1, 0, 1, 0, 1, 0, 1, 0, 0] c24
noncomputable def r24_12 : Code := Code.sub [1, 1, 0, 1, 0, 1, 0, 1, 0, 1, 0] c24
noncomputable def r24_13 : Code := Code.sub [1, 1, 1, 0, 0] c24
noncomputable def r24_14 : Code := Code.sub [1, 1, 1, 0, 1, 0, 0] c24
noncomputable def r24_15 : Code := Code.sub [1, 1, 1, 0, 1, 0, 1, 0, 0] c24
noncomputable def r24_16 : Code := Code.sub [1, 1, 1, 0, 1, 0, 1, 0, 1, 0] c24
noncomputable def r24_17 : Code := Code.sub [1, 1, 1, 0, 1, 0, 1, 1, 0, 0] c24
noncomputable def r24_18 : Code := Code.sub [1, 1, 1, 0, 1, 0, 1, 1, 0, 1, 1, 0] c24
noncomputable def r24_19 : Code := Code.sub [1, 1, 1, 0, 1, 0, 1, 1, 0, 1, 1, 1, 1, 0] c24
noncomputable def r24_20 : Code := Code.sub [1, 1, 1, 0, 1, 0, 1, 1, 0, 1, 1, 1, 1, 1, 1, 0] c24
noncomputable def r24_21 : Code := Code.sub [1, 1, 1, 0, 1, 0, 1, 1, 0, 1, 1, 1, 1, 1, 1, 1, 1, 0] c24
noncomputable def r24_22 : Code := Code.sub [1, 1, 1, 0, 1, 0, 1, 1, 0, 1, 1, 1, 1, 1, 1, 1, 1, 1, 1, 0] c24
noncomputable def r24_23 : Code := Code.sub [1, 1, 1, 0, 1, 0, 1, 1, 0, 1, 1, 1, 1, 1, 1, 1, 1, 1, 1, 1, 1, 0] c24
noncomputable def r24_24 : Code := Code.sub [1, 1, 1, 0, 1, 0, 1, 1, 0, 1, 1, 1, 1, 1, 1, 1, 1, 1, 1, 1, 1, 1, 1, 0] c24
noncomputable def r24_25 : Code := Code.sub [1, 1, 1, 0, 1, 0, 1, 1, 0, 1, 1, 1, 1, 1, 1, 1, 1, 1, 1, 1, 1, 1, 1, 1, 1, 0] c24
noncomputable def r24_26 : Code := Code.sub [1, 1, 1, 0, 1, 0, 1, 1, 0, 1, 1, 1, 1, 1, 1, 1, 1, 1, 1, 1, 1, 1, 1, 1, 1, 1, 1, 0] c24
noncomputable def r24_27 : Code := Code.sub [1, 1, 1, 0, 1, 0, 1, 1, 0, 1, 1, 1, 1, 1, 1, 1, 1, 1, 1, 1, 1, 1, 1, 1, 1, 1, 1, 1, 1, 0] c24
noncomputable def r24_28 : Code := Code.sub [1, 1, 1, 0, 1, 0, 1, 1, 0, 1, 1, 1, 1, 1, 1, 1, 1, 1, 1, 1, 1, 1, 1, 1, 1, 1, 1, 1, 1, 1, 1, 0] c24
noncomputable def r24_29 : Code := Code.sub [1, 1, 1, 0, 1, 0, 1, 1, 0, 1, 1, 1, 1, 1, 1, 1, 1, 1, 1, 1, 1, 1, 1, 1, 1, 1, 1, 1, 1, 1, 1, 1, 1, 0] c24
noncomputable def r24_30 : Code := Code.sub [1, 1, 1, 0, 1, 0, 1, 1, 0, 1, 1, 1, 1, 1, 1, 1, 1, 1, 1, 1, 1, 1, 1, 1, 1, 1, 1, 1, 1, 1, 1, 1, 1, 1, 1, 0] c24
noncomputable def r24_31 : Code := Code.sub [1, 1, 1, 0, 1, 0, 1, 1, 0, 1, 1, 1, 1, 1, 1, 1, 1, 1, 1, 1, 1, 1, 1, 1, 1, 1, 1, 1, 1, 1, 1, 1, 1, 1, 1, 1, 1, 0] c24
noncomputable def r24_32 : Code := Code.sub [1, 1, 1, 0, 1, 0, 1, 1, 0, 1, 1, 1, 1, 1, 1, 1, 1, 1, 1, 1, 1, 1, 1, 1, 1, 1, 1, 1, 1, 1, 1, 1, 1, 1, 1, 1, 1, 1, 1, 0] c24
noncomputable def r24_33 : Code := Code.sub [1, 1, 1, 0, 1, 0, 1, 1, 0, 1, 1, 1, 1, 1, 1, 1, 1, 1, 1, 1, 1, 1, 1, 1, 1, 1, 1, 1, 1, 1, 1, 1, 1, 1, 1, 1, 1, 1, 1, 1, 1] c24
noncomputable def r24_34 : Code := Code.sub [1, 1, 1, 0, 1, 0, 1, 1, 1, 0, 0] c24
noncomputable def r24_35 : Code := Code.sub [1, 1, 1, 0, 1, 0, 1, 1, 1, 0, 1, 0] c24
noncomputable def r24_36 : Code := Code.sub [1, 1, 1, 1, 0] c24
noncomputable def r24_37 : Code := Code.sub [1, 1, 1, 1, 1, 0] c24
theorem body24 : c24 = (.seq r24_0 (.seq r24_1 (.seq (.seq r24_2 (.cond (.tmp 8) (.seq r24_3 (.block 0 (.seq (.seq r24_4 (.cond (.tmp 11) .skip (.seq r24_5 (.cond (.tmp 11) .skip (.seq r24_6 (.cond (.tmp 11) .skip (.seq r24_7 (.cond (.tmp 11) .skip (.seq r24_8 (.cond (.tmp 11) .skip (.seq r24_9 (.cond (.tmp 11) .skip r24_10)))))))))))) (.cond (.tmp 11) (.seq r24_11 (.seq r24_12 .ret)) .skip)))) .skip)) (.seq (.seq r24_13 (.block 1 (.seq r24_14 (.cond (.tmp 25) (.seq r24_15 (.seq r24_16 .ret)) (.seq (.seq r24_17 (.cond (.tmp 29) .skip (.seq r24_18 (.cond (.tmp 29) .skip (.seq r24_19 (.cond (.tmp 29) .skip (.seq r24_20 (.cond (.tmp 29) .skip (.seq r24_21 (.cond (.tmp 29) .skip (.seq r24_22 (.cond (.tmp 29) .skip (.seq r24_23 (.cond (.tmp 29) .skip (.seq r24_24 (.cond (.tmp 29) .skip (.seq r24_25 (.cond (.tmp 29) .skip (.seq r24_26 (.cond (.tmp 29) .skip (.seq r24_27 (.cond (.tmp 29) .skip (.seq r24_28 (.cond (.tmp 29) .skip (.seq r24_29 (.cond (.tmp 29) .skip (.seq r24_30 (.cond (.tmp 29) .skip (.seq r24_31 (.cond (.tmp 29) .skip (.seq r24_32 (.cond (.tmp 29) .skip r24_33)))))))))))))))))))))))))))))))) (.cond (.tmp 29) (.seq r24_34 (.seq r24_35 .ret)) .skip)))))) (.seq r24_36 (.seq r24_37 .ret)))))) := by kernel_rfl
noncomputable def L24_0 : {l : List Oper // (opsOf r24_0).map strip = l} := by refine ⟨?l, ?h⟩; case h => simp only [r24_0, c24, bodyOf, Try.f24, Code.sub, opsOf, List.map_cons, List.map_nil, strip]; rfl
theorem w24_0 : W Try.prog TT S 25 [25, 29, 29, 29, 29, 29, 29, 29, 29, 29, 29, 29, 29, 29, 29, 29, 29, 29] r24_0 k E m Q ↔ Rg Try.prog TT S 25 [25, 29, 29, 29, 29, 29, 29, 29, 29, 29, 29, 29, 29, 29, 29, 29, 29, 29] [2] [] (lgo E [] (lops Try.prog (callw Try.prog TT S) [(some 2)] (L24_0).1 E m)) k E Q := w_plain (by kernel_rfl) (L24_0).2
noncomputable def L24_1 : {l : List Oper // (opsOf r24_1).map strip = l} := by refine ⟨?l, ?h⟩; case h => simp only [r24_1, c24, bodyOf, Try.f24, Code.sub, opsOf, List.map_cons, List.map_nil, strip]; rfl
theorem w24_1 : W Try.prog TT S 25 [25, 29, 29, 29, 29, 29, 29, 29, 29, 29, 29, 29, 29, 29, 29, 29, 29, 29] r24_1 k E m Q ↔ Rg Try.prog TT S 25 [25, 29, 29, 29, 29, 29, 29, 29, 29, 29, 29, 29, 29, 29, 29, 29, 29, 29] [4, 5, 3] [] (lgo E [0] (lops Try.prog (callw Try.prog TT S) [(some 4), (some 5), (some 3)] (L24_1).1 E m)) k E Q := w_plain (by kernel_rfl) (L24_1).2
noncomputable def L24_2 : {l : List Oper // (opsOf r24_2).map strip = l} := by refine ⟨?l, ?h⟩; case h => simp only [r24_2, c24, bodyOf, Try.f24, Code.sub, opsOf, List.map_cons, List.map_nil, strip]; rfl
theorem w24_2 : W Try.prog TT S 25 [25, 29, 29, 29, 29, 29, 29, 29, 29, 29, 29, 29, 29, 29, 29, 29, 29, 29] r24_2 k E m Q ↔ Rg Try.prog TT S 25 [25, 29, 29, 29, 29, 29, 29, 29, 29, 29, 29, 29, 29, 29, 29, 29, 29, 29] [6, 7, 8] [] (lgo E [3] (lops Try.prog (callw Try.prog TT S) [(some 6), (some 7), (some 8)] (L24_2).1 E m)) k E Q := w_plain (by kernel_rfl) (L24_2).2
noncomputable def L24_3 : {l : List Oper // (opsOf r24_3).map strip = l} := by refine ⟨?l, ?h⟩; case h => simp only [r24_3, c24, bodyOf, Try.f24, Code.sub, opsOf, List.map_cons, List.map_nil, strip]; rfl
theorem w24_3 : W Try.prog TT S 25 [25, 29, 29, 29, 29, 29, 29, 29, 29, 29, 29, 29, 29, 29, 29, 29, 29, 29] r24_3 k E m Q ↔ Rg Try.prog TT S 25 [25, 29, 29, 29, 29, 29, 29, 29, 29, 29, 29, 29, 29, 29, 29, 29, 29, 29] [9, 10] [] (lgo E [3] (lops Try.prog (callw Try.prog TT S) [(some 9), (some 10)] (L24_3).1 E m)) k E Q := w_plain (by kernel_rfl) (L24_3).2
noncomputable def L24_4 : {l : List Oper // (opsOf r24_4).map strip = l} := by refine ⟨?l, ?h⟩; case h => simp only [r24_4, c24, bodyOf, Try.f24, Code.sub, opsOf, List.map_cons, List.map_nil, strip]; rfl
theorem w24_4 : W Try.prog TT S 25 [25, 29, 29, 29, 29, 29, 29, 29, 29, 29, 29, 29, 29, 29, 29, 29, 29, 29] r24_4 k E m Q ↔ Rg Try.prog TT S 25 [25, 29, 29, 29, 29, 29, 29, 29, 29, 29, 29, 29, 29, 29, 29, 29, 29, 29] [12, 11] [] (lgo E [10] (lops Try.prog (callw Try.prog TT S) [(some 12), (some 11)] (L24_4).1 E m)) k E Q := w_plain (by kernel_rfl) (L24_4).2
noncomputable def L24_5 : {l : List Oper // (opsOf r24_5).map strip = l} := by refine ⟨?l, ?h⟩; case h => simp only [r24_5, c24, bodyOf, Try.f24, Code.sub, opsOf, List.map_cons, List.map_nil, strip]; rfl
theorem w24_5 : W Try.prog TT S 25 [25, 29, 29, 29, 29, 29, 29, 29, 29, 29, 29, 29, 29, 29, 29, 29, 29, 29] r24_5 k E m Q ↔ Rg Try.prog TT S 25 [25, 29, 29, 29, 29, 29, 29, 29, 29, 29, 29, 29, 29, 29, 29, 29, 29, 29] [13, 11] [] (lgo E [10] (lops Try.prog (callw Try.prog TT S) [(some 13), (some 11)] (L24_5).1 E m)) k E Q := w_plain (by kernel_rfl) (L24_5).2
noncomputable def L24_6 : {l : List Oper // (opsOf r24_6).map strip = l} := by refine ⟨?l, ?h⟩; case h => simp only [r24_6, c24, bodyOf, Try.f24, Code.sub, opsOf, List.map_cons, List.map_nil, strip]; rfl
theorem w24_6 : W Try.prog TT S 25 [25, 29, 29, 29, 29, 29, 29, 29, 29, 29, 29, 29, 29, 29, 29, 29, 29, 29] r24_6 k E m Q ↔ Rg Try.prog TT S 25 [25, 29, 29, 29, 29, 29, 29, 29, 29, 29, 29, 29, 29, 29, 29, 29, 29, 29] [14, 11] [] (lgo E [10] (lops Try.prog (callw Try.prog TT S) [(some 14), (some 11)] (L24_6).1 E m)) k E Q := w_plain (by kernel_rfl) (L24_6).2
noncomputable def L24_7 : {l : List Oper // (opsOf r24_7).map strip = l} := by refine ⟨?l, ?h⟩; case h => simp only [r24_7, c24, bodyOf, Try.f24, Code.sub, opsOf, List.map_cons, List.map_nil, strip]; rfl
theorem w24_7 : W Try.prog TT S 25 [25, 29, 29, 29, 29, 29, 29, 29, 29, 29, 29, 29, 29, 29, 29, 29, 29, 29] r24_7 k E m Q ↔ Rg Try.prog TT S 25 [25, 29, 29, 29, 29, 29, 29, 29, 29, 29, 29, 29, 29, 29, 29, 29, 29, 29] [15, 11] [] (lgo E [10] (lops Try.prog (callw Try.prog TT S) [(some 15), (some 11)] (L24_7).1 E m)) k E Q := w_plain (by kernel_rfl) (L24_7).2
noncomputable def L24_8 : {l : List Oper // (opsOf r24_8).map strip = l} := by refine ⟨?l, ?h⟩; case h => simp only [r24_8, c24, bodyOf, Try.f24, Code.sub, opsOf, List.map_cons, List.map_nil, strip]; rfl
theorem w24_8 : W Try.prog TT S 25 [25, 29, 29, 29, 29, 29, 29, 29, 29, 29, 29, 29, 29, 29, 29, 29, 29, 29] r24_8 k E m Q ↔ Rg Try.prog TT S 25 [25, 29, 29, 29, 29, 29, 29, 29, 29, 29, 29, 29, 29, 29, 29, 29, 29, 29] [16, 11] [] (lgo E [10] (lops Try.prog (callw Try.prog TT S) [(some 16), (some 11)] (L24_8).1 E m)) k E Q := w_plain (by kernel_rfl) (L24_8).2
noncomputable def L24_9 : {l : List Oper // (opsOf r24_9).map strip = l} := by refine ⟨?l, ?h⟩; case h => simp only [r24_9, c24, bodyOf, Try.f24, Code.sub, opsOf, List.map_cons, List.map_nil, strip]; rfl
theorem w24_9 : W Try.prog TT S 25 [25, 29, 29, 29, 29, 29, 29, 29, 29, 29, 29, 29, 29, 29, 29, 29, 29, 29] r24_9 k E m Q ↔ Rg Try.prog TT S 25 [25, 29, 29, 29, 29, 29, 29, 29, 29, 29, 29, 29, 29, 29, 29, 29, 29, 29] [17, 11] [] (lgo E [10] (lops Try.prog (callw Try.prog TT S) [(some 17), (some 11)] (L24_9).1 E m)) k E Q := w_plain (by kernel_rfl) (L24_9).2
noncomputable def L24_10 : {l : List Oper // (opsOf r24_10).map strip = l} := by refine ⟨?l, ?h⟩; case h => simp only [r24_10, c24, bodyOf, Try.f24, Code.sub, opsOf, List.map_cons, List.map_nil, strip]; rfl
theorem w24_10 : W Try.prog TT S 25 [25, 29, 29, 29, 29, 29, 29, 29, 29, 29, 29, 29, 29, 29, 29, 29, 29, 29] r24_10 k E m Q ↔ Rg Try.prog TT S 25 [25, 29, 29, 29, 29, 29, 29, 29, 29, 29, 29, 29, 29, 29, 29, 29, 29, 29] [18, 11] [] (lgo E [10] (lops Try.prog (callw Try.prog TT S) [(some 18), (some 11)] (L24_10).1 E m)) k E Q := w_plain (by kernel_rfl) (L24_10).2
noncomputable def L24_11 : {l : List Oper // (opsOf r24_11).map strip = l} := by refine ⟨?l, ?h⟩; case h => simp only [r24_11, c24, bodyOf, Try.f24, Code.sub, opsOf, List.map_cons, List.map_nil, strip]; rfl
theorem w24_11 : W Try.prog TT S 25 [25, 29, 29, 29, 29, 29, 29, 29, 29, 29, 29, 29, 29, 29, 29, 29, 29, 29] r24_11 k E m Q ↔ Rg Try.prog TT S 25 [25, 29, 29, 29, 29, 29, 29, 29, 29, 29, 29, 29, 29, 29, 29, 29, 29, 29] [19, 20, 21, 22] [] (lgo E [0, 3] (lops Try.prog (callw Try.prog TT S) [(some 19), (some 20), (some 21), (some 22)] (L24_11).1 E m)) k E Q := w_plain (by kernel_rfl) (L24_11).2
noncomputable def L24_12 : {l : List Oper // (opsOf r24_12).map strip = l} := by refine ⟨?l, ?h⟩; case h => simp only [r24_12, c24, bodyOf, Try.f24, Code.sub, opsOf, List.map_cons, List.map_nil, strip]; rfl
theorem w24_12 : W Try.prog TT S 25 [25, 29, 29, 29, 29, 29, 29, 29, 29, 29, 29, 29, 29, 29, 29, 29, 29, 29] r24_12 k E m Q ↔ Rg Try.prog TT S 25 [25, 29, 29, 29, 29, 29, 29, 29, 29, 29, 29, 29, 29, 29, 29, 29, 29, 29] [2] [] (lgo E [] (lops Try.prog (callw Try.prog TT S) [(some 2)] (L24_12).1 E m)) k E Q := w_plain (by kernel_rfl) (L24_12).2
noncomputable def L24_13 : {l : List Oper // (opsOf r24_13).map strip = l} := by refine ⟨?l, ?h⟩; case h => simp only [r24_13, c24, bodyOf, Try.f24, Code.sub, opsOf, List.map_cons, List.map_nil, strip]; rfl
theorem w24_13 : W Try.prog TT S 25 [25, 29, 29, 29, 29, 29, 29, 29, 29, 29, 29, 29, 29, 29, 29, 29, 29, 29] r24_13 k E m Q ↔ Rg Try.prog TT S 25 [25, 29, 29, 29, 29, 29, 29, 29, 29, 29, 29, 29, 29, 29, 29, 29, 29, 29] [23, 24] [] (lgo E [3] (lops Try.prog (callw Try.prog TT S) [(some 23), (some 24)] (L24_13).1 E m)) k E Q := w_plain (by kernel_rfl) (L24_13).2
noncomputable def L24_14 : {l : List Oper // (opsOf r24_14).map strip = l} := by refine ⟨?l, ?h⟩; case h => simp only [r24_14, c24, bodyOf, Try.f24, Code.sub, opsOf, List.map_cons, List.map_nil, strip]; rfl
theorem w24_14 : W Try.prog TT S 25 [25, 29, 29, 29, 29, 29, 29, 29, 29, 29, 29, 29, 29, 29, 29, 29, 29, 29] r24_14 k E m Q ↔ Rg Try.prog TT S 25 [25, 29, 29, 29, 29, 29, 29, 29, 29, 29, 29, 29, 29, 29, 29, 29, 29, 29] [] [25] (lgo E [24] (lops Try.prog (callw Try.prog TT S) [(some 26), (some 25)] (L24_14).1 E m)) k E Q := w_plain (by kernel_rfl) (L24_14).2
noncomputable def L24_15 : {l : List Oper // (opsOf r24_15).map strip = l} := by refine ⟨?l, ?h⟩; case h => simp only [r24_15, c24, bodyOf, Try.f24, Code.sub, opsOf, List.map_cons, List.map_nil, strip]; rfl
theorem w24_15 : W Try.prog TT S 25 [25, 29, 29, 29, 29, 29, 29, 29, 29, 29, 29, 29, 29, 29, 29, 29, 29, 29] r24_15 k E m Q ↔ Rg Try.prog TT S 25 [25, 29, 29, 29, 29, 29, 29, 29, 29, 29, 29, 29, 29, 29, 29, 29, 29, 29] [] [] (lgo E [0] (lops Try.prog (callw Try.prog TT S) [(some 27), (some 28)] (L24_15).1 E m)) k E Q := w_plain (by kernel_rfl) (L24_15).2
noncomputable def L24_16 : {l : List Oper // (opsOf r24_16).map strip = l} := by refine ⟨?l, ?h⟩; case h => simp only [r24_16, c24, bodyOf, Try.f24, Code.sub, opsOf, List.map_cons, List.map_nil, strip]; rfl
theorem w24_16 : W Try.prog TT S 25 [25, 29, 29, 29, 29, 29, 29, 29, 29, 29, 29, 29, 29, 29, 29, 29, 29, 29] r24_16 k E m Q ↔ Rg Try.prog TT S 25 [25, 29, 29, 29, 29, 29, 29, 29, 29, 29, 29, 29, 29, 29, 29, 29, 29, 29] [2] [] (lgo E [] (lops Try.prog (callw Try.prog TT S) [(some 2)] (L24_16).1 E m)) k E Q := w_plain (by kernel_rfl) (L24_16).2
noncomputable def L24_17 : {l : List Oper // (opsOf r24_17).map strip = l} := by refine ⟨?l, ?h⟩; case h => simp only [r24_17, c24, bodyOf, Try.f24, Code.sub, opsOf, List.map_cons, List.map_nil, strip]; rfl
theorem w24_17 : W Try.prog TT S 25 [25, 29, 29, 29, 29, 29, 29, 29, 29, 29, 29, 29, 29, 29, 29, 29, 29, 29] r24_17 k E m Q ↔ Rg Try.prog TT S 25 [25, 29, 29, 29, 29, 29, 29, 29, 29, 29, 29, 29, 29, 29, 29, 29, 29, 29] [] [29] (lgo E [24] (lops Try.prog (callw Try.prog TT S) [(some 30), (some 29)] (L24_17).1 E m)) k E Q := w_plain (by kernel_rfl) (L24_17).2
noncomputable def L24_18 : {l : List Oper // (opsOf r24_18).map strip = l} := by refine ⟨?l, ?h⟩; case h => simp only [r24_18, c24, bodyOf, Try.f24, Code.sub, opsOf, List.map_cons, List.map_nil, strip]; rfl
theorem w24_18 : W Try.prog TT S 25 [25, 29, 29, 29, 29, 29, 29, 29, 29, 29, 29, 29, 29, 29, 29, 29, 29, 29] r24_18 k E m Q ↔ Rg Try.prog TT S 25 [25, 29, 29, 29, 29, 29, 29, 29, 29, 29, 29, 29, 29, 29, 29, 29, 29, 29] [] [29] (lgo E [24] (lops Try.prog (callw Try.prog TT S) [(some 31), (some 29)] (L24_18).1 E m)) k E Q := w_plain (by kernel_rfl) (L24_18).2
noncomputable def L24_19 : {l : List Oper // (opsOf r24_19).map strip = l} := by refine ⟨?l, ?h⟩; case h => simp only [r24_19, c24, bodyOf, Try.f24, Code.sub, opsOf, List.map_cons, List.map_nil, strip]; rfl
theorem w24_19 : W Try.prog TT S 25 [25, 29, 29, 29, 29, 29, 29, 29, 29, 29, 29, 29, 29, 29, 29, 29, 29, 29] r24_19 k E m Q ↔ Rg Try.prog TT S 25 [25, 29, 29, 29, 29, 29, 29, 29, 29, 29, 29, 29, 29, 29, 29, 29, 29, 29] [] [29] (lgo E [24] (lops Try.prog (callw Try.prog TT S) [(some 32), (some 29)] (L24_19).1 E m)) k E Q := w_plain (by kernel_rfl) (L24_19).2
noncomputable def L24_20 : {l : List Oper // (opsOf r24_20).map strip = l} := by refine ⟨?l, ?h⟩; case h => simp only [r24_20, c24, bodyOf, Try.f24, Code.sub, opsOf, List.map_cons, List.map_nil, strip]; rfl
theorem w24_20 : W Try.prog TT S 25 [25, 29, 29, 29, 29, 29, 29, 29, 29, 29, 29, 29, 29, 29, 29, 29, 29, 29] r24_20 k E m Q ↔ Rg Try.prog TT S 25 [25, 29, 29, 29, 29, 29, 29, 29, 29, 29, 29, 29, 29, 29, 29, 29, 29, 29] [] [29] (lgo E [24] (lops Try.prog (callw Try.prog TT S) [(some 33), (some 29)] (L24_20).1 E m)) k E Q := w_plain (by kernel_rfl) (L24_20).2
noncomputable def L24_21 : {l : List Oper // (opsOf r24_21).map strip = l} := by refine ⟨?l, ?h⟩; case h => simp only [r24_21, c24, bodyOf, Try.f24, Code.sub, opsOf, List.map_cons, List.map_nil, strip]; rfl
theorem w24_21 : W Try.prog TT S 25 [25, 29, 29, 29, 29, 29, 29, 29, 29, 29, 29, 29, 29, 29, 29, 29, 29, 29] r24_21 k E m Q ↔ Rg Try.prog TT S 25 [25, 29, 29, 29, 29, 29, 29, 29, 29, 29, 29, 29, 29, 29, 29, 29, 29, 29] [] [29] (lgo E [24] (lops Try.prog (callw Try.prog TT S) [(some 34), (some 29)] (L24_21).1 E m)) k E Q := w_plain (by kernel_rfl) (L24_21).2
noncomputable def L24_22 : {l : List Oper // (opsOf r24_22).map strip = l} := by refine ⟨?l, ?h⟩; case h => simp only [r24_22, c24, bodyOf, Try.f24, Code.sub, opsOf, List.map_cons, List.map_nil, strip]; rfl
theorem w24_22 : W Try.prog TT S 25 [25, 29, 29, 29, 29, 29, 29, 29, 29, 29, 29, 29, 29, 29, 29, 29, 29, 29] r24_22 k E m Q ↔ Rg Try.prog TT S 25 [25, 29, 29, 29, 29, 29, 29, 29, 29, 29, 29, 29, 29, 29, 29, 29, 29, 29] [] [29] (lgo E [24] (lops Try.prog (callw Try.prog TT S) [(some 35), (some 29)] (L24_22).1 E m)) k E Q := w_plain (by kernel_rfl) (L24_22).2
noncomputable def L24_23 : {l : List Oper // (opsOf r24_23).map strip = l} := by refine ⟨?l, ?h⟩; case h => simp only [r24_23, c24, bodyOf, Try.f24, Code.sub, opsOf, List.map_cons, List.map_nil, strip]; rfl
theorem w24_23 : W Try.prog TT S 25 [25, 29, 29, 29, 29, 29, 29, 29, 29, 29, 29, 29, 29, 29, 29, 29, 29, 29] r24_23 k E m Q ↔ Rg Try.prog TT S 25 [25, 29, 29, 29, 29, 29, 29, 29, 29, 29, 29, 29, 29, 29, 29, 29, 29, 29] [] [29] (lgo E [24] (lops Try.prog (callw Try.prog TT S) [(some 36), (some 29)] (L24_23).1 E m)) k E Q := w_plain (by kernel_rfl) (L24_23).2
noncomputable def L24_24 : {l : List Oper // (opsOf r24_24).map strip = l} := by refine ⟨?l, ?h⟩; case h => simp only [r24_24, c24, bodyOf, Try.f24, Code.sub, opsOf, List.map_cons, List.map_nil, strip]; rfl
theorem w24_24 : W Try.prog TT S 25 [25, 29, 29, 29, 29, 29, 29, 29, 29, 29, 29, 29, 29, 29, 29, 29, 29, 29] r24_24 k E m Q ↔ Rg Try.prog TT S 25 [25, 29, 29, 29, 29, 29, 29, 29, 29, 29, 29, 29, 29, 29, 29, 29, 29, 29] [] [29] (lgo E [24] (lops Try.prog (callw Try.prog TT S) [(some 37), (some 29)] (L24_24).1 E m)) k E Q := w_plain (by kernel_rfl) (L24_24).2
noncomputable def L24_25 : {l : List Oper // (opsOf r24_25).map strip = l} := by refine ⟨?l, ?h⟩; case h => simp only [r24_25, c24, bodyOf, Try.f24, Code.sub, opsOf, List.map_cons, List.map_nil, strip]; rfl
theorem w24_25 : W Try.prog TT S 25 [25, 29, 29, 29, 29, 29, 29, 29, 29, 29, 29, 29, 29, 29, 29, 29, 29, 29] r24_25 k E m Q ↔ Rg Try.prog TT S 25 [25, 29, 29, 29, 29, 29, 29, 29, 29, 29, 29, 29, 29, 29, 29, 29, 29, 29] [] [29] (lgo E [24] (lops Try.prog (callw Try.prog TT S) [(some 38), (some 29)] (L24_25).1 E m)) k E Q := w_plain (by kernel_rfl) (L24_25).2
noncomputable def L24_26 : {l : List Oper // (opsOf r24_26).map strip = l} := by refine ⟨?l, ?h⟩; case h => simp only [r24_26, c24, bodyOf, Try.f24, Code.sub, opsOf, List.map_cons, List.map_nil, strip]; rfl
theorem w24_26 : W Try.prog TT S 25 [25, 29, 29, 29, 29, 29, 29, 29, 29, 29, 29, 29, 29, 29, 29, 29, 29, 29] r24_26 k E m Q ↔ Rg Try.prog TT S 25 [25, 29, 29, 29, 29, 29, 29, 29, 29, 29, 29, 29, 29, 29, 29, 29, 29, 29] [] [29] (lgo E [24] (lops Try.prog (callw Try.prog TT S) [(some 39), (some 29)] (L24_26).1 E m)) k E Q := w_plain (by kernel_rfl) (L24_26).2
noncomputable def L24_27 : {l : List Oper // (opsOf r24_27).map strip = l} := by refine ⟨?l, ?h⟩; case h => simp only [r24_27, c24, bodyOf, Try.f24, Code.sub, opsOf, List.map_cons, List.map_nil, strip]; rfl
theorem w24_27 : W Try.prog TT S 25 [25, 29, 29, 29, 29, 29, 29, 29, 29, 29, 29, 29, 29, 29, 29, 29, 29, 29] r24_27 k E m Q ↔ Rg Try.prog TT S 25 [25, 29, 29, 29, 29, 29, 29, 29, 29, 29, 29, 29, 29, 29, 29, 29, 29, 29] [] [29] (lgo E [24] (lops Try.prog (callw Try.prog TT S) [(some 40), (some 29)] (L24_27).1 E m)) k E Q := w_plain (by kernel_rfl) (L24_27).2
noncomputable def L24_28 : {l : List Oper // (opsOf r24_28).map strip = l} := by refine ⟨?l, ?h⟩; case h => simp only [r24_28, c24, bodyOf, Try.f24, Code.sub, opsOf, List.map_cons, List.map_nil, strip]; rfl
theorem w24_28 : W Try.prog TT S 25 [25, 29, 29, 29, 29, 29, 29, 29, 29, 29, 29, 29, 29, 29, 29, 29, 29, 29] r24_28 k E m Q ↔ Rg Try.prog TT S 25 [25, 29, 29, 29, 29, 29, 29, 29, 29, 29, 29, 29, 29, 29, 29, 29, 29, 29] [] [29] (lgo E [24] (lops Try.prog (callw Try.prog TT S) [(some 41), (some 29)] (L24_28).1 E m)) k E Q := w_plain (by kernel_rfl) (L24_28).2
noncomputable def L24_29 : {l : List Oper // (opsOf r24_29).map strip = l} := by refine ⟨?l, ?h⟩; case h => simp only [r24_29, c24, bodyOf, Try.f24, Code.sub, opsOf, List.map_cons, List.map_nil, strip]; rfl
theorem w24_29 : W Try.prog TT S 25 [25, 29, 29, 29, 29, 29, 29, 29, 29, 29, 29, 29, 29, 29, 29, 29, 29, 29] r24_29 k E m Q ↔ Rg Try.prog TT S 25 [25, 29, 29, 29, 29, 29, 29, 29, 29, 29, 29, 29, 29, 29, 29, 29, 29, 29] [] [29] (lgo E [24] (lops Try.prog (callw Try.prog TT S) [(some 42), (some 29)] (L24_29).1 E m)) k E Q := w_plain (by kernel_rfl) (L24_29).2
noncomputable def L24_30 : {l : List Oper // (opsOf r24_30).map strip = l} := by refine ⟨?l, ?h⟩; case h => simp only [r24_30, c24, bodyOf, Try.f24, Code.sub, opsOf, List.map_cons, List.map_nil, strip]; rfl
theorem w24_30 : W Try.prog TT S 25 [25, 29, 29, 29, 29, 29, 29, 29, 29, 29, 29, 29, 29, 29, 29, 29, 29, 29] r24_30 k E m Q ↔ Rg Try.prog TT S 25 [25, 29, 29, 29, 29, 29, 29, 29, 29, 29, 29, 29, 29, 29, 29, 29, 29, 29] [] [29] (lgo E [24] (lops Try.prog (callw Try.prog TT S) [(some 43), (some 29)] (L24_30).1 E m)) k E Q := w_plain (by kernel_rfl) (L24_30).2
noncomputable def L24_31 : {l : List Oper // (opsOf r24_31).map strip = l} := by refine ⟨?l, ?h⟩; case h => simp only [r24_31, c24, bodyOf, Try.f24, Code.sub, opsOf, List.map_cons, List.map_nil, strip]; rfl
theorem w24_31 : W Try.prog TT S 25 [25, 29, 29, 29, 29, 29, 29, 29, 29, 29, 29, 29, 29, 29, 29, 29, 29, 29] r24_31 k E m Q ↔ Rg Try.prog TT S 25 [25, 29, 29, 29, 29, 29, 29, 29, 29, 29, 29, 29, 29, 29, 29, 29, 29, 29] [] [29] (lgo E [24] (lops Try.prog (callw Try.prog TT S) [(some 44), (some 29)] (L24_31).1 E m)) k E Q := w_plain (by kernel_rfl) (L24_31).2
noncomputable def L24_32 : {l : List Oper // (opsOf r24_32).map strip = l} := by refine ⟨?l, ?h⟩; case h => simp only [r24_32, c24, bodyOf, Try.f24, Code.sub, opsOf, List.map_cons, List.map_nil, strip]; rfl
theorem w24_32 : W Try.prog TT S 25 [25, 29, 29, 29, 29, 29, 29, 29, 29, 29, 29, 29, 29, 29, 29, 29, 29, 29] r24_32 k E m Q ↔ Rg Try.prog TT S 25 [25, 29, 29, 29, 29, 29, 29, 29, 29, 29, 29, 29, 29, 29, 29, 29, 29, 29] [] [29] (lgo E [24] (lops Try.prog (callw Try.prog TT S) [(some 45), (some 29)] (L24_32).1 E m)) k E Q := w_plain (by kernel_rfl) (L24_32).2
noncomputable def L24_33 : {l : List Oper // (opsOf r24_33).map strip = l} := by refine ⟨?l, ?h⟩; case h => simp only [r24_33, c24, bodyOf, Try.f24, Code.sub, opsOf, List.map_cons, List.map_nil, strip]; rfl
theorem w24_33 : W Try.prog TT S 25 [25, 29, 29, 29, 29, 29, 29, 29, 29, 29, 29, 29, 29, 29, 29, 29, 29, 29] r24_33 k E m Q ↔ Rg Try.prog TT S 25 [25, 29, 29, 29, 29, 29, 29, 29, 29, 29, 29, 29, 29, 29, 29, 29, 29, 29] [] [29] (lgo E [24] (lops Try.prog (callw Try.prog TT S) [(some 46), (some 29)] (L24_33).1 E m)) k E Q := w_plain (by kernel_rfl) (L24_33).2
noncomputable def L24_34 : {l : List Oper // (opsOf r24_34).map strip = l} := by refine ⟨?l, ?h⟩; case h => simp only [r24_34, c24, bodyOf, Try.f24, Code.sub, opsOf, List.map_cons, List.map_nil, strip]; rfl
theorem w24_34 : W Try.prog TT S 25 [25, 29, 29, 29, 29, 29, 29, 29, 29, 29, 29, 29, 29, 29, 29, 29, 29, 29] r24_34 k E m Q ↔ Rg Try.prog TT S 25 [25, 29, 29, 29, 29, 29, 29, 29, 29, 29, 29, 29, 29, 29, 29, 29, 29, 29] [] [] (lgo E [0, 3] (lops Try.prog (callw Try.prog TT S) [(some 47), (some 48), (some 49), (some 50)] (L24_34).1 E m)) k E Q := w_plain (by kernel_rfl) (L24_34).2
noncomputable def L24_35 : {l : List Oper // (opsOf r24_35).map strip = l} := by refine ⟨?l, ?h⟩; case h => simp only [r24_35, c24, bodyOf, Try.f24, Code.sub, opsOf, List.map_cons, List.map_nil, strip]; rfl
theorem w24_35 : W Try.prog TT S 25 [25, 29, 29, 29, 29, 29, 29, 29, 29, 29, 29, 29, 29, 29, 29, 29, 29, 29] r24_35 k E m Q ↔ Rg Try.prog TT S 25 [25, 29, 29, 29, 29, 29, 29, 29, 29, 29, 29, 29, 29, 29, 29, 29, 29, 29] [2] [] (lgo E [] (lops Try.prog (callw Try.prog TT S) [(some 2)] (L24_35).1 E m)) k E Q := w_plain (by kernel_rfl) (L24_35).2
noncomputable def L24_36 : {l : List Oper // (opsOf r24_36).map strip = l} := by refine ⟨?l, ?h⟩; case h => simp only [r24_36, c24, bodyOf, Try.f24, Code.sub, opsOf, List.map_cons, List.map_nil, strip]; rfl
theorem w24_36 : W Try.prog TT S 25 [25, 29, 29, 29, 29, 29, 29, 29, 29, 29, 29, 29, 29, 29, 29, 29, 29, 29] r24_36 k E m Q ↔ Rg Try.prog TT S 25 [25, 29, 29, 29, 29, 29, 29, 29, 29, 29, 29, 29, 29, 29, 29, 29, 29, 29] [] [] (lgo E [0] (lops Try.prog (callw Try.prog TT S) [(some 51), (some 52)] (L24_36).1 E m)) k E Q := w_plain (by kernel_rfl) (L24_36).2
noncomputable def L24_37 : {l : List Oper // (opsOf r24_37).map strip = l} := by refine ⟨?l, ?h⟩; case h => simp only [r24_37, c24, bodyOf, Try.f24, Code.sub, opsOf, List.map_cons, List.map_nil, strip]; rfl
theorem w24_37 : W Try.prog TT S 25 [25, 29, 29, 29, 29, 29, 29, 29, 29, 29, 29, 29, 29, 29, 29, 29, 29, 29] r24_37 k E m Q ↔ Rg Try.prog TT S 25 [25, 29, 29, 29, 29, 29, 29, 29, 29, 29, 29, 29, 29, 29, 29, 29, 29, 29] [2] [] (lgo E [] (lops Try.prog (callw Try.prog TT S) [(some 2)] (L24_37).1 E m)) k E Q := w_plain (by kernel_rfl) (L24_37).2
theorem k24 : FnIs TT 24 c24 [.tmp 2] 1 := ⟨Try.f24, by kernel_rfl, by simp only [Try.f24, c24, bodyOf], by kernel_rfl, of_decide_eq_true (by kernel_rfl)⟩

/- (*token.scanner).next -/
noncomputable def c25 : Code := bodyOf Try.f25
noncomputable def r25_0 : Code := Code.sub [0] c25
noncomputable def r25_1 : Code := Code.sub [1, 0, 0] c25
noncomputable def r25_2 : Code := Code.sub [1, 0, 1, 0, 0] c25
noncomputable def r25_3 : Code := Code.sub [1, 1, 0] c25
theorem body25 : c25 = (.seq r25_0 (.seq (.seq r25_1 (.cond (.tmp 12) (.seq r25_2 .ret) .skip)) (.seq r25_3 .ret))) := by kernel_rfl
noncomputable def L25_0 : {l : List Oper // (opsOf r25_0).map strip = l} := by refine ⟨?l, ?h⟩; case h => simp only [r25_0, c25, bodyOf, Try.f25, Code.sub, opsOf, List.map_cons, List.map_nil, strip]; rfl
theorem w25_0 : W Try.prog TT S 3 [12] r25_0 k E m Q ↔ Rg Try.prog TT S 3 [12] [2] [] (lgo E [] (lops Try.prog (callw Try.prog TT S) [(some 2)] (L25_0).1 E m)) k E Q := w_plain (by kernel_rfl) (L25_0).2
noncomputable def L25_1 : {l : List Oper // (opsOf r25_1).map strip = l} := by refine ⟨?l, ?h⟩; case h => simp only [r25_1, c25, bodyOf, Try.f25, Code.sub, opsOf, List.map_cons, List.map_nil, strip]; rfl
theorem w25_1 : W Try.prog TT S 3 [12] r25_1 k E m Q ↔ Rg Try.prog TT S 3 [12] [] [12] (lgo E [0] (lops Try.prog (callw Try.prog TT S) [(some 3), (some 4), (some 5), (some 6), (some 7), (some 8), (some 9), (some 10), (some 11), (some 12)] (L25_1).1 E m)) k E Q := w_plain (by kernel_rfl) (L25_1).2
noncomputable def L25_2 : {l : List Oper // (opsOf r25_2).map strip = l} := by refine ⟨?l, ?h⟩; case h => simp only [r25_2, c25, bodyOf, Try.f25, Code.sub, opsOf, List.map_cons, List.map_nil, strip]; rfl
theorem w25_2 : W Try.prog TT S 3 [12] r25_2 k E m Q ↔ Rg Try.prog TT S 3 [12] [2] [] (lgo E [] (lops Try.prog (callw Try.prog TT S) [(some 2)] (L25_2).1 E m)) k E Q := w_plain (by kernel_rfl) (L25_2).2
noncomputable def L25_3 : {l : List Oper // (opsOf r25_3).map strip = l} := by refine ⟨?l, ?h⟩; case h => simp only [r25_3, c25, bodyOf, Try.f25, Code.sub, opsOf, List.map_cons, List.map_nil, strip]; rfl
theorem w25_3 : W Try.prog TT S 3 [12] r25_3 k E m Q ↔ Rg Try.prog TT S 3 [12] [2] [] (lgo E [0] (lops Try.prog (callw Try.prog TT S) [(some 13), (some 14), (some 15), (some 16), (some 17), (some 18), (some 19), (some 20), (some 21), (some 2)] (L25_3).1 E m)) k E Q := w_plain (by kernel_rfl) (L25_3).2
theorem k25 : FnIs TT 25 c25 [.tmp 2] 1 := ⟨Try.f25, by kernel_rfl, by simp only [Try.f25, c25, bodyOf], by kernel_rfl, of_decide_eq_true (by kernel_rfl)⟩

/- (*token.scanner).skip -/
noncomputable def c26 : Code := bodyOf Try.f26
noncomputable def r26_0 : Code := Code.sub [0] c26
noncomputable def r26_1 : Code := Code.sub [1] c26
theorem body26 : c26 = (.seq r26_0 r26_1) := by kernel_rfl
noncomputable def L26_0 : {l : List Oper // (opsOf r26_0).map strip = l} := by refine ⟨?l, ?h⟩; case h => simp only [r26_0, c26, bodyOf, Try.f26, Code.sub, opsOf, List.map_cons, List.map_nil, strip]; rfl
theorem w26_0 : W Try.prog TT S 2 [] r26_0 k E m Q ↔ Rg Try.prog TT S 2 [] [] [] (lgo E [0, 1] (lops Try.prog (callw Try.prog TT S) [(some 4), (some 5), (some 6), (some 7), (some 8), (some 9), (some 10), (some 11), none] (L26_0).1 E m)) k E Q := w_plain (by kernel_rfl) (L26_0).2
noncomputable def L26_1 : {l : List Oper // (opsOf r26_1).map strip = l} := by refine ⟨?l, ?h⟩; case h => simp only [r26_1, c26, bodyOf, Try.f26, Code.sub, opsOf, List.map_cons, List.map_nil, strip]; rfl
theorem w26_1 : W Try.prog TT S 2 [] r26_1 k E m Q ↔ Rg Try.prog TT S 2 [] [] [] (lgo E [0, 1] (lops Try.prog (callw Try.prog TT S) [(some 12), (some 13), (some 14), (some 15), (some 16), (some 17), (some 18), (some 19), none] (L26_1).1 E m)) k E Q := w_plain (by kernel_rfl) (L26_1).2
theorem k26 : FnIs TT 26 c26 [] 2 := ⟨Try.f26, by kernel_rfl, by simp only [Try.f26, c26, bodyOf], by kernel_rfl, of_decide_eq_true (by kernel_rfl)⟩

/- (*token.scanner).rest -/
noncomputable def c27 : Code := bodyOf Try.f27
noncomputable def r27_0 : Code := Code.sub [0] c27
noncomputable def r27_1 : Code := Code.sub [1, 0] c27
theorem body27 : c27 = (.seq r27_0 (.seq r27_1 .ret)) := by kernel_rfl
noncomputable def L27_0 : {l : List Oper // (opsOf r27_0).map strip = l} := by refine ⟨?l, ?h⟩; case h => simp only [r27_0, c27, bodyOf, Try.f27, Code.sub, opsOf, List.map_cons, List.map_nil, strip]; rfl
theorem w27_0 : W Try.prog TT S 3 [] r27_0 k E m Q ↔ Rg Try.prog TT S 3 [] [2] [] (lgo E [] (lops Try.prog (callw Try.prog TT S) [(some 2)] (L27_0).1 E m)) k E Q := w_plain (by kernel_rfl) (L27_0).2
noncomputable def L27_1 : {l : List Oper // (opsOf r27_1).map strip = l} := by refine ⟨?l, ?h⟩; case h => simp only [r27_1, c27, bodyOf, Try.f27, Code.sub, opsOf, List.map_cons, List.map_nil, strip]; rfl
theorem w27_1 : W Try.prog TT S 3 [] r27_1 k E m Q ↔ Rg Try.prog TT S 3 [] [2] [] (lgo E [0] (lops Try.prog (callw Try.prog TT S) [(some 3), (some 4), (some 5), (some 6), (some 7), (some 8), (some 9), (some 10), (some 11), (some 2)] (L27_1).1 E m)) k E Q := w_plain (by kernel_rfl) (L27_1).2
theorem k27 : FnIs TT 27 c27 [.tmp 2] 1 := ⟨Try.f27, by kernel_rfl, by simp only [Try.f27, c27, bodyOf], by kernel_rfl, of_decide_eq_true (by kernel_rfl)⟩

/- (*token.scanner).comment -/
noncomputable def c28 : Code := bodyOf Try.f28
noncomputable def r28_0 : Code := Code.sub [0] c28
noncomputable def r28_1 : Code := Code.sub [1, 0] c28
noncomputable def r28_2 : Code := Code.sub [1, 1, 0, 0] c28
noncomputable def r28_3 : Code := Code.sub [1, 1, 0, 1, 0, 0, 0, 0] c28
noncomputable def r28_4 : Code := Code.sub [1, 1, 0, 1, 0, 0, 1, 0] c28
noncomputable def r28_5 : Code := Code.sub [1, 1, 1, 0] c28
theorem body28 : c28 = (.seq r28_0 (.seq r28_1 (.seq (.seq r28_2 (.block 0 (.loop (.seq (.seq r28_3 (.cond (.tmp 16) .skip (.exit 0))) (.block 1 r28_4))))) (.seq r28_5 .ret)))) := by kernel_rfl
noncomputable def L28_0 : {l : List Oper // (opsOf r28_0).map strip = l} := by refine ⟨?l, ?h⟩; case h => simp only [r28_0, c28, bodyOf, Try.f28, Code.sub, opsOf, List.map_cons, List.map_nil, strip]; rfl
theorem w28_0 : W Try.prog TT S 5 [16] r28_0 k E m Q ↔ Rg Try.prog TT S 5 [16] [2] [] (lgo E [] (lops Try.prog (callw Try.prog TT S) [(some 2)] (L28_0).1 E m)) k E Q := w_plain (by kernel_rfl) (L28_0).2
noncomputable def L28_1 : {l : List Oper // (opsOf r28_1).map strip = l} := by refine ⟨?l, ?h⟩; case h => simp only [r28_1, c28, bodyOf, Try.f28, Code.sub, opsOf, List.map_cons, List.map_nil, strip]; rfl
theorem w28_1 : W Try.prog TT S 5 [16] r28_1 k E m Q ↔ Rg Try.prog TT S 5 [16] [3] [] (lgo E [] (lops Try.prog (callw Try.prog TT S) [(some 3)] (L28_1).1 E m)) k E Q := w_plain (by kernel_rfl) (L28_1).2
noncomputable def L28_2 : {l : List Oper // (opsOf r28_2).map strip = l} := by refine ⟨?l, ?h⟩; case h => simp only [r28_2, c28, bodyOf, Try.f28, Code.sub, opsOf, List.map_cons, List.map_nil, strip]; rfl
theorem w28_2 : W Try.prog TT S 5 [16] r28_2 k E m Q ↔ Rg Try.prog TT S 5 [16] [4] [] (lgo E [0] (lops Try.prog (callw Try.prog TT S) [(some 5), (some 6), (some 4)] (L28_2).1 E m)) k E Q := w_plain (by kernel_rfl) (L28_2).2
noncomputable def L28_3 : {l : List Oper // (opsOf r28_3).map strip = l} := by refine ⟨?l, ?h⟩; case h => simp only [r28_3, c28, bodyOf, Try.f28, Code.sub, opsOf, List.map_cons, List.map_nil, strip]; rfl
theorem w28_3 : W Try.prog TT S 5 [16] r28_3 k E m Q ↔ Rg Try.prog TT S 5 [16] [] [16] (lgo E [4, 3] (lops Try.prog (callw Try.prog TT S) [(some 7), (some 8), (some 9), (some 10), (some 11), (some 12), (some 13), (some 14), (some 15), (some 16)] (L28_3).1 E m)) k E Q := w_plain (by kernel_rfl) (L28_3).2
noncomputable def L28_4 : {l : List Oper // (opsOf r28_4).map strip = l} := by refine ⟨?l, ?h⟩; case h => simp only [r28_4, c28, bodyOf, Try.f28, Code.sub, opsOf, List.map_cons, List.map_nil, strip]; rfl
theorem w28_4 : W Try.prog TT S 5 [16] r28_4 k E m Q ↔ Rg Try.prog TT S 5 [16] [3] [] (lgo E [3] (lops Try.prog (callw Try.prog TT S) [(some 17), (some 18), (some 3)] (L28_4).1 E m)) k E Q := w_plain (by kernel_rfl) (L28_4).2
noncomputable def L28_5 : {l : List Oper // (opsOf r28_5).map strip = l} := by refine ⟨?l, ?h⟩; case h => simp only [r28_5, c28, bodyOf, Try.f28, Code.sub, opsOf, List.map_cons, List.map_nil, strip]; rfl
theorem w28_5 : W Try.prog TT S 5 [16] r28_5 k E m Q ↔ Rg Try.prog TT S 5 [16] [2] [] (lgo E [3] (lops Try.prog (callw Try.prog TT S) [(some 19), (some 2)] (L28_5).1 E m)) k E Q := w_plain (by kernel_rfl) (L28_5).2
theorem k28 : FnIs TT 28 c28 [.tmp 2] 1 := ⟨Try.f28, by kernel_rfl, by simp only [Try.f28, c28, bodyOf], by kernel_rfl, of_decide_eq_true (by kernel_rfl)⟩

/- (*token.scanner).word -/
noncomputable def c29 : Code := bodyOf Try.f29
noncomputable def r29_0 : Code := Code.sub [0] c29
noncomputable def r29_1 : Code := Code.sub [1, 0] c29
noncomputable def r29_2 : Code := Code.sub [1, 1, 0] c29
noncomputable def r29_3 : Code := Code.sub [1, 1, 1, 0, 0, 0, 0, 0] c29
noncomputable def r29_4 : Code := Code.sub [1, 1, 1, 0, 0, 0, 1, 0] c29
noncomputable def r29_5 : Code := Code.sub [1, 1, 1, 1, 0] c29
noncomputable def r29_6 : Code := Code.sub [1, 1, 1, 1, 1, 0, 0] c29
noncomputable def r29_7 : Code := Code.sub [1, 1, 1, 1, 1, 0, 1, 0] c29
noncomputable def r29_8 : Code := Code.sub [1, 1, 1, 1, 1, 1, 0] c29
noncomputable def r29_9 : Code := Code.sub [1, 1, 1, 1, 1, 1, 1, 0] c29
theorem body29 : c29 = (.seq r29_0 (.seq r29_1 (.seq r29_2 (.seq (.block 0 (.loop (.seq (.seq r29_3 (.cond (.tmp 23) .skip (.exit 0))) (.block 1 r29_4)))) (.seq r29_5 (.seq (.seq r29_6 (.cond (.tmp 29) r29_7 .skip)) (.seq r29_8 (.seq r29_9 .ret)))))))) := by kernel_rfl
noncomputable def L29_0 : {l : List Oper // (opsOf r29_0).map strip = l} := by refine ⟨?l, ?h⟩; case h => simp only [r29_0, c29, bodyOf, Try.f29, Code.sub, opsOf, List.map_cons, List.map_nil, strip]; rfl
theorem w29_0 : W Try.prog TT S 6 [23, 29] r29_0 k E m Q ↔ Rg Try.prog TT S 6 [23, 29] [2] [] (lgo E [] (lops Try.prog (callw Try.prog TT S) [(some 2)] (L29_0).1 E m)) k E Q := w_plain (by kernel_rfl) (L29_0).2
noncomputable def L29_1 : {l : List Oper // (opsOf r29_1).map strip = l} := by refine ⟨?l, ?h⟩; case h => simp only [r29_1, c29, bodyOf, Try.f29, Code.sub, opsOf, List.map_cons, List.map_nil, strip]; rfl
theorem w29_1 : W Try.prog TT S 6 [23, 29] r29_1 k E m Q ↔ Rg Try.prog TT S 6 [23, 29] [3] [] (lgo E [0] (lops Try.prog (callw Try.prog TT S) [(some 6), (some 7), (some 3)] (L29_1).1 E m)) k E Q := w_plain (by kernel_rfl) (L29_1).2
noncomputable def L29_2 : {l : List Oper // (opsOf r29_2).map strip = l} := by refine ⟨?l, ?h⟩; case h => simp only [r29_2, c29, bodyOf, Try.f29, Code.sub, opsOf, List.map_cons, List.map_nil, strip]; rfl
theorem w29_2 : W Try.prog TT S 6 [23, 29] r29_2 k E m Q ↔ Rg Try.prog TT S 6 [23, 29] [4] [] (lgo E [] (lops Try.prog (callw Try.prog TT S) [(some 4)] (L29_2).1 E m)) k E Q := w_plain (by kernel_rfl) (L29_2).2
noncomputable def L29_3 : {l : List Oper // (opsOf r29_3).map strip = l} := by refine ⟨?l, ?h⟩; case h => simp only [r29_3, c29, bodyOf, Try.f29, Code.sub, opsOf, List.map_cons, List.map_nil, strip]; rfl
theorem w29_3 : W Try.prog TT S 6 [23, 29] r29_3 k E m Q ↔ Rg Try.prog TT S 6 [23, 29] [] [23] (lgo E [3, 4] (lops Try.prog (callw Try.prog TT S) [(some 8), (some 9), (some 10), (some 11), (some 12), (some 13), (some 14), (some 15), (some 16), (some 17), (some 18), (some 19), (some 20), (some 21), (some 22), (some 23)] (L29_3).1 E m)) k E Q := w_plain (by kernel_rfl) (L29_3).2
noncomputable def L29_4 : {l : List Oper // (opsOf r29_4).map strip = l} := by refine ⟨?l, ?h⟩; case h => simp only [r29_4, c29, bodyOf, Try.f29, Code.sub, opsOf, List.map_cons, List.map_nil, strip]; rfl
theorem w29_4 : W Try.prog TT S 6 [23, 29] r29_4 k E m Q ↔ Rg Try.prog TT S 6 [23, 29] [4] [] (lgo E [4] (lops Try.prog (callw Try.prog TT S) [(some 24), (some 25), (some 4)] (L29_4).1 E m)) k E Q := w_plain (by kernel_rfl) (L29_4).2
noncomputable def L29_5 : {l : List Oper // (opsOf r29_5).map strip = l} := by refine ⟨?l, ?h⟩; case h => simp only [r29_5, c29, bodyOf, Try.f29, Code.sub, opsOf, List.map_cons, List.map_nil, strip]; rfl
theorem w29_5 : W Try.prog TT S 6 [23, 29] r29_5 k E m Q ↔ Rg Try.prog TT S 6 [23, 29] [5] [] (lgo E [] (lops Try.prog (callw Try.prog TT S) [(some 5)] (L29_5).1 E m)) k E Q := w_plain (by kernel_rfl) (L29_5).2
noncomputable def L29_6 : {l : List Oper // (opsOf r29_6).map strip = l} := by refine ⟨?l, ?h⟩; case h => simp only [r29_6, c29, bodyOf, Try.f29, Code.sub, opsOf, List.map_cons, List.map_nil, strip]; rfl
theorem w29_6 : W Try.prog TT S 6 [23, 29] r29_6 k E m Q ↔ Rg Try.prog TT S 6 [23, 29] [] [29] (lgo E [3, 4] (lops Try.prog (callw Try.prog TT S) [(some 26), (some 27), (some 28), (some 29)] (L29_6).1 E m)) k E Q := w_plain (by kernel_rfl) (L29_6).2
noncomputable def L29_7 : {l : List Oper // (opsOf r29_7).map strip = l} := by refine ⟨?l, ?h⟩; case h => simp only [r29_7, c29, bodyOf, Try.f29, Code.sub, opsOf, List.map_cons, List.map_nil, strip]; rfl
theorem w29_7 : W Try.prog TT S 6 [23, 29] r29_7 k E m Q ↔ Rg Try.prog TT S 6 [23, 29] [5] [] (lgo E [] (lops Try.prog (callw Try.prog TT S) [(some 5)] (L29_7).1 E m)) k E Q := w_plain (by kernel_rfl) (L29_7).2
noncomputable def L29_8 : {l : List Oper // (opsOf r29_8).map strip = l} := by refine ⟨?l, ?h⟩; case h => simp only [r29_8, c29, bodyOf, Try.f29, Code.sub, opsOf, List.map_cons, List.map_nil, strip]; rfl
theorem w29_8 : W Try.prog TT S 6 [23, 29] r29_8 k E m Q ↔ Rg Try.prog TT S 6 [23, 29] [] [] (lgo E [0, 5, 3, 4] (lops Try.prog (callw Try.prog TT S) [(some 30), (some 31), (some 32), (some 33), (some 34), (some 35)] (L29_8).1 E m)) k E Q := w_plain (by kernel_rfl) (L29_8).2
noncomputable def L29_9 : {l : List Oper // (opsOf r29_9).map strip = l} := by refine ⟨?l, ?h⟩; case h => simp only [r29_9, c29, bodyOf, Try.f29, Code.sub, opsOf, List.map_cons, List.map_nil, strip]; rfl
theorem w29_9 : W Try.prog TT S 6 [23, 29] r29_9 k E m Q ↔ Rg Try.prog TT S 6 [23, 29] [2] [] (lgo E [4] (lops Try.prog (callw Try.prog TT S) [(some 36), (some 2)] (L29_9).1 E m)) k E Q := w_plain (by kernel_rfl) (L29_9).2
theorem k29 : FnIs TT 29 c29 [.tmp 2] 1 := ⟨Try.f29, by kernel_rfl, by simp only [Try.f29, c29, bodyOf], by kernel_rfl, of_decide_eq_true (by kernel_rfl)⟩

/- (*token.scanner).number -/
noncomputable def c30 : Code := bodyOf Try.f30
noncomputable def r30_0 : Code := Code.sub [0] c30
noncomputable def r30_1 : Code := Code.sub [1, 0] c30
noncomputable def r30_2 : Code := Code.sub [1, 1, 0] c30
noncomputable def r30_3 : Code := Code.sub [1, 1, 1, 0] c30
noncomputable def r30_4 : Code := Code.sub [1, 1, 1, 1, 0, 0, 0, 0, 0] c30
noncomputable def r30_5 : Code := Code.sub [1, 1, 1, 1, 0, 0, 0, 1, 0, 0] c30
noncomputable def r30_6 : Code := Code.sub [1, 1, 1, 1, 0, 0, 0, 1, 0, 1, 0, 0] c30
noncomputable def r30_7 : Code := Code.sub [1, 1, 1, 1, 0, 0, 0, 1, 0, 1, 0, 1, 0, 0] c30
noncomputable def r30_8 : Code := Code.sub [1, 1, 1, 1, 0, 0, 0, 1, 0, 1, 0, 1, 0, 1, 0] c30
noncomputable def r30_9 : Code := Code.sub [1, 1, 1, 1, 0, 0, 0, 1, 0, 1, 1, 0] c30
noncomputable def r30_10 : Code := Code.sub [1, 1, 1, 1, 0, 0, 0, 1, 0, 1, 1, 1] c30
noncomputable def r30_11 : Code := Code.sub [1, 1, 1, 1, 1, 0] c30
noncomputable def r30_12 : Code := Code.sub [1, 1, 1, 1, 1, 1, 0] c30
theorem body30 : c30 = (.seq r30_0 (.seq r30_1 (.seq r30_2 (.seq r30_3 (.seq (.block 0 (.loop (.seq (.seq r30_4 (.cond (.tmp 18) .skip (.exit 0))) (.block 1 (.seq r30_5 (.seq (.seq r30_6 (.cond (.tmp 28) (.seq r30_7 (.seq r30_8 .ret)) .skip)) (.seq r30_9 r30_10))))))) (.seq r30_11 (.seq r30_12 .ret))))))) := by kernel_rfl
noncomputable def L30_0 : {l : List Oper // (opsOf r30_0).map strip = l} := by refine ⟨?l, ?h⟩; case h => simp only [r30_0, c30, bodyOf, Try.f30, Code.sub, opsOf, List.map_cons, List.map_nil, strip]; rfl
theorem w30_0 : W Try.prog TT S 7 [18, 28] r30_0 k E m Q ↔ Rg Try.prog TT S 7 [18, 28] [2] [] (lgo E [] (lops Try.prog (callw Try.prog TT S) [(some 2)] (L30_0).1 E m)) k E Q := w_plain (by kernel_rfl) (L30_0).2
noncomputable def L30_1 : {l : List Oper // (opsOf r30_1).map strip = l} := by refine ⟨?l, ?h⟩; case h => simp only [r30_1, c30, bodyOf, Try.f30, Code.sub, opsOf, List.map_cons, List.map_nil, strip]; rfl
theorem w30_1 : W Try.prog TT S 7 [18, 28] r30_1 k E m Q ↔ Rg Try.prog TT S 7 [18, 28] [3] [] (lgo E [0] (lops Try.prog (callw Try.prog TT S) [(some 7), (some 8), (some 3)] (L30_1).1 E m)) k E Q := w_plain (by kernel_rfl) (L30_1).2
noncomputable def L30_2 : {l : List Oper // (opsOf r30_2).map strip = l} := by refine ⟨?l, ?h⟩; case h => simp only [r30_2, c30, bodyOf, Try.f30, Code.sub, opsOf, List.map_cons, List.map_nil, strip]; rfl
theorem w30_2 : W Try.prog TT S 7 [18, 28] r30_2 k E m Q ↔ Rg Try.prog TT S 7 [18, 28] [4] [] (lgo E [] (lops Try.prog (callw Try.prog TT S) [(some 4)] (L30_2).1 E m)) k E Q := w_plain (by kernel_rfl) (L30_2).2
noncomputable def L30_3 : {l : List Oper // (opsOf r30_3).map strip = l} := by refine ⟨?l, ?h⟩; case h => simp only [r30_3, c30, bodyOf, Try.f30, Code.sub, opsOf, List.map_cons, List.map_nil, strip]; rfl
theorem w30_3 : W Try.prog TT S 7 [18, 28] r30_3 k E m Q ↔ Rg Try.prog TT S 7 [18, 28] [5] [] (lgo E [] (lops Try.prog (callw Try.prog TT S) [(some 5)] (L30_3).1 E m)) k E Q := w_plain (by kernel_rfl) (L30_3).2
noncomputable def L30_4 : {l : List Oper // (opsOf r30_4).map strip = l} := by refine ⟨?l, ?h⟩; case h => simp only [r30_4, c30, bodyOf, Try.f30, Code.sub, opsOf, List.map_cons, List.map_nil, strip]; rfl
theorem w30_4 : W Try.prog TT S 7 [18, 28] r30_4 k E m Q ↔ Rg Try.prog TT S 7 [18, 28] [] [18] (lgo E [3, 4] (lops Try.prog (callw Try.prog TT S) [(some 9), (some 10), (some 11), (some 12), (some 13), (some 14), (some 15), (some 16), (some 17), (some 18)] (L30_4).1 E m)) k E Q := w_plain (by kernel_rfl) (L30_4).2
noncomputable def L30_5 : {l : List Oper // (opsOf r30_5).map strip = l} := by refine ⟨?l, ?h⟩; case h => simp only [r30_5, c30, bodyOf, Try.f30, Code.sub, opsOf, List.map_cons, List.map_nil, strip]; rfl
theorem w30_5 : W Try.prog TT S 7 [18, 28] r30_5 k E m Q ↔ Rg Try.prog TT S 7 [18, 28] [6] [] (lgo E [3, 4] (lops Try.prog (callw Try.prog TT S) [(some 19), (some 20), (some 21), (some 22), (some 23), (some 6)] (L30_5).1 E m)) k E Q := w_plain (by kernel_rfl) (L30_5).2
noncomputable def L30_6 : {l : List Oper // (opsOf r30_6).map strip = l} := by refine ⟨?l, ?h⟩; case h => simp only [r30_6, c30, bodyOf, Try.f30, Code.sub, opsOf, List.map_cons, List.map_nil, strip]; rfl
theorem w30_6 : W Try.prog TT S 7 [18, 28] r30_6 k E m Q ↔ Rg Try.prog TT S 7 [18, 28] [] [28] (lgo E [5, 6] (lops Try.prog (callw Try.prog TT S) [(some 24), (some 25), (some 26), (some 27), (some 28)] (L30_6).1 E m)) k E Q := w_plain (by kernel_rfl) (L30_6).2
noncomputable def L30_7 : {l : List Oper // (opsOf r30_7).map strip = l} := by refine ⟨?l, ?h⟩; case h => simp only [r30_7, c30, bodyOf, Try.f30, Code.sub, opsOf, List.map_cons, List.map_nil, strip]; rfl
theorem w30_7 : W Try.prog TT S 7 [18, 28] r30_7 k E m Q ↔ Rg Try.prog TT S 7 [18, 28] [] [] (lgo E [0] (lops Try.prog (callw Try.prog TT S) [(some 29), (some 30)] (L30_7).1 E m)) k E Q := w_plain (by kernel_rfl) (L30_7).2
noncomputable def L30_8 : {l : List Oper // (opsOf r30_8).map strip = l} := by refine ⟨?l, ?h⟩; case h => simp only [r30_8, c30, bodyOf, Try.f30, Code.sub, opsOf, List.map_cons, List.map_nil, strip]; rfl
theorem w30_8 : W Try.prog TT S 7 [18, 28] r30_8 k E m Q ↔ Rg Try.prog TT S 7 [18, 28] [2] [] (lgo E [] (lops Try.prog (callw Try.prog TT S) [(some 2)] (L30_8).1 E m)) k E Q := w_plain (by kernel_rfl) (L30_8).2
noncomputable def L30_9 : {l : List Oper // (opsOf r30_9).map strip = l} := by refine ⟨?l, ?h⟩; case h => simp only [r30_9, c30, bodyOf, Try.f30, Code.sub, opsOf, List.map_cons, List.map_nil, strip]; rfl
theorem w30_9 : W Try.prog TT S 7 [18, 28] r30_9 k E m Q ↔ Rg Try.prog TT S 7 [18, 28] [5] [] (lgo E [5, 6] (lops Try.prog (callw Try.prog TT S) [(some 31), (some 32), (some 33), (some 34), (some 5)] (L30_9).1 E m)) k E Q := w_plain (by kernel_rfl) (L30_9).2
noncomputable def L30_10 : {l : List Oper // (opsOf r30_10).map strip = l} := by refine ⟨?l, ?h⟩; case h => simp only [r30_10, c30, bodyOf, Try.f30, Code.sub, opsOf, List.map_cons, List.map_nil, strip]; rfl
theorem w30_10 : W Try.prog TT S 7 [18, 28] r30_10 k E m Q ↔ Rg Try.prog TT S 7 [18, 28] [4] [] (lgo E [4] (lops Try.prog (callw Try.prog TT S) [(some 35), (some 36), (some 4)] (L30_10).1 E m)) k E Q := w_plain (by kernel_rfl) (L30_10).2
noncomputable def L30_11 : {l : List Oper // (opsOf r30_11).map strip = l} := by refine ⟨?l, ?h⟩; case h => simp only [r30_11, c30, bodyOf, Try.f30, Code.sub, opsOf, List.map_cons, List.map_nil, strip]; rfl
theorem w30_11 : W Try.prog TT S 7 [18, 28] r30_11 k E m Q ↔ Rg Try.prog TT S 7 [18, 28] [] [] (lgo E [0, 3, 4, 5] (lops Try.prog (callw Try.prog TT S) [(some 37), (some 38), (some 39), (some 40), (some 41), (some 42), (some 43)] (L30_11).1 E m)) k E Q := w_plain (by kernel_rfl) (L30_11).2
noncomputable def L30_12 : {l : List Oper // (opsOf r30_12).map strip = l} := by refine ⟨?l, ?h⟩; case h => simp only [r30_12, c30, bodyOf, Try.f30, Code.sub, opsOf, List.map_cons, List.map_nil, strip]; rfl
theorem w30_12 : W Try.prog TT S 7 [18, 28] r30_12 k E m Q ↔ Rg Try.prog TT S 7 [18, 28] [2] [] (lgo E [4] (lops Try.prog (callw Try.prog TT S) [(some 44), (some 2)] (L30_12).1 E m)) k E Q := w_plain (by kernel_rfl) (L30_12).2
theorem k30 : FnIs TT 30 c30 [.tmp 2] 1 := ⟨Try.f30, by kernel_rfl, by simp only [Try.f30, c30, bodyOf], by kernel_rfl, of_decide_eq_true (by kernel_rfl)⟩

/- (*token.scanner).text -/
noncomputable def c31 : Code := bodyOf Try.f31
noncomputable def r31_0 : Code := Code.sub [0] c31
noncomputable def r31_1 : Code := Code.sub [1, 0] c31
noncomputable def r31_2 : Code := Code.sub [1, 1, 0] c31
noncomputable def r31_3 : Code := Code.sub [1, 1, 1, 0, 0] c31
noncomputable def r31_4 : Code := Code.sub [1, 1, 1, 0, 1, 0, 0, 0, 0] c31
noncomputable def r31_5 : Code := Code.sub [1, 1, 1, 0, 1, 0, 0, 1, 0, 0, 0] c31
noncomputable def r31_6 : Code := Code.sub [1, 1, 1, 0, 1, 0, 0, 1, 0, 0, 1, 0, 0] c31
noncomputable def r31_7 : Code := Code.sub [1, 1, 1, 0, 1, 0, 0, 1, 0, 0, 1, 0, 1, 0, 0] c31
noncomputable def r31_8 : Code := Code.sub [1, 1, 1, 0, 1, 0, 0, 1, 0, 0, 1, 0, 1, 0, 1, 0] c31
noncomputable def r31_9 : Code := Code.sub [1, 1, 1, 0, 1, 0, 0, 1, 0, 0, 1, 0, 1, 1, 0] c31
noncomputable def r31_10 : Code := Code.sub [1, 1, 1, 0, 1, 0, 0, 1, 0, 0, 1, 0, 1, 1, 1, 0, 0] c31
noncomputable def r31_11 : Code := Code.sub [1, 1, 1, 0, 1, 0, 0, 1, 0, 0, 1, 0, 1, 1, 1, 0, 1, 0] c31
noncomputable def r31_12 : Code := Code.sub [1, 1, 1, 0, 1, 0, 0, 1, 0, 0, 1, 0, 1, 1, 1, 0, 1, 1, 0, 0] c31
noncomputable def r31_13 : Code := Code.sub [1, 1, 1, 0, 1, 0, 0, 1, 0, 0, 1, 0, 1, 1, 1, 0, 1, 1, 0, 1, 0, 0] c31
noncomputable def r31_14 : Code := Code.sub [1, 1, 1, 0, 1, 0, 0, 1, 0, 0, 1, 0, 1, 1, 1, 0, 1, 1, 0, 1, 0, 1, 0] c31
noncomputable def r31_15 : Code := Code.sub [1, 1, 1, 0, 1, 0, 0, 1, 0, 0, 1, 0, 1, 1, 1, 0, 1, 1, 1] c31
noncomputable def r31_16 : Code := Code.sub [1, 1, 1, 0, 1, 0, 0, 1, 0, 0, 1, 0, 1, 1, 1, 1, 0] c31
noncomputable def r31_17 : Code := Code.sub [1, 1, 1, 0, 1, 0, 0, 1, 0, 0, 1, 0, 1, 1, 1, 1, 1, 0, 0] c31
noncomputable def r31_18 : Code := Code.sub [1, 1, 1, 0, 1, 0, 0, 1, 0, 0, 1, 0, 1, 1, 1, 1, 1, 0, 1, 0] c31
noncomputable def r31_19 : Code := Code.sub [1, 1, 1, 0, 1, 0, 0, 1, 0, 0, 1, 0, 1, 1, 1, 1, 1, 1] c31
noncomputable def r31_20 : Code := Code.sub [1, 1, 1, 0, 1, 0, 0, 1, 1] c31
noncomputable def r31_21 : Code := Code.sub [1, 1, 1, 1, 0] c31
noncomputable def r31_22 : Code := Code.sub [1, 1, 1, 1, 1, 0] c31
theorem body31 : c31 = (.seq r31_0 (.seq r31_1 (.seq r31_2 (.seq (.seq r31_3 (.block 0 (.loop (.seq (.seq r31_4 (.cond (.tmp 14) .skip (.exit 0))) (.seq (.block 1 (.seq r31_5 (.block 2 (.seq r31_6 (.cond (.tmp 24) (.seq r31_7 (.seq r31_8 .ret)) (.seq r31_9 (.cond (.tmp 38) (.seq r31_10 (.seq r31_11 (.seq (.seq r31_12 (.cond (.tmp 58) (.seq r31_13 (.seq r31_14 .ret)) .skip)) r31_15))) (.seq r31_16 (.cond (.tmp 65) (.seq r31_17 (.seq r31_18 .ret)) r31_19))))))))) r31_20))))) (.seq r31_21 (.seq r31_22 .ret)))))) := by kernel_rfl
noncomputable def L31_0 : {l : List Oper // (opsOf r31_0).map strip = l} := by refine ⟨?l, ?h⟩; case h => simp only [r31_0, c31, bodyOf, Try.f31, Code.sub, opsOf, List.map_cons, List.map_nil, strip]; rfl
theorem w31_0 : W Try.prog TT S 9 [14, 24, 38, 58, 65] r31_0 k E m Q ↔ Rg Try.prog TT S 9 [14, 24, 38, 58, 65] [2] [] (lgo E [] (lops Try.prog (callw Try.prog TT S) [(some 2)] (L31_0).1 E m)) k E Q := w_plain (by kernel_rfl) (L31_0).2
noncomputable def L31_1 : {l : List Oper // (opsOf r31_1).map strip = l} := by refine ⟨?l, ?h⟩; case h => simp only [r31_1, c31, bodyOf, Try.f31, Code.sub, opsOf, List.map_cons, List.map_nil, strip]; rfl
theorem w31_1 : W Try.prog TT S 9 [14, 24, 38, 58, 65] r31_1 k E m Q ↔ Rg Try.prog TT S 9 [14, 24, 38, 58, 65] [3] [] (lgo E [0] (lops Try.prog (callw Try.prog TT S) [(some 9), (some 10), (some 3)] (L31_1).1 E m)) k E Q := w_plain (by kernel_rfl) (L31_1).2
noncomputable def L31_2 : {l : List Oper // (opsOf r31_2).map strip = l} := by refine ⟨?l, ?h⟩; case h => simp only [r31_2, c31, bodyOf, Try.f31, Code.sub, opsOf, List.map_cons, List.map_nil, strip]; rfl
theorem w31_2 : W Try.prog TT S 9 [14, 24, 38, 58, 65] r31_2 k E m Q ↔ Rg Try.prog TT S 9 [14, 24, 38, 58, 65] [4] [] (lgo E [] (lops Try.prog (callw Try.prog TT S) [(some 4)] (L31_2).1 E m)) k E Q := w_plain (by kernel_rfl) (L31_2).2
noncomputable def L31_3 : {l : List Oper // (opsOf r31_3).map strip = l} := by refine ⟨?l, ?h⟩; case h => simp only [r31_3, c31, bodyOf, Try.f31, Code.sub, opsOf, List.map_cons, List.map_nil, strip]; rfl
theorem w31_3 : W Try.prog TT S 9 [14, 24, 38, 58, 65] r31_3 k E m Q ↔ Rg Try.prog TT S 9 [14, 24, 38, 58, 65] [5] [] (lgo E [] (lops Try.prog (callw Try.prog TT S) [(some 5)] (L31_3).1 E m)) k E Q := w_plain (by kernel_rfl) (L31_3).2
noncomputable def L31_4 : {l : List Oper // (opsOf r31_4).map strip = l} := by refine ⟨?l, ?h⟩; case h => simp only [r31_4, c31, bodyOf, Try.f31, Code.sub, opsOf, List.map_cons, List.map_nil, strip]; rfl
theorem w31_4 : W Try.prog TT S 9 [14, 24, 38, 58, 65] r31_4 k E m Q ↔ Rg Try.prog TT S 9 [14, 24, 38, 58, 65] [] [14] (lgo E [5, 3] (lops Try.prog (callw Try.prog TT S) [(some 11), (some 12), (some 13), (some 14)] (L31_4).1 E m)) k E Q := w_plain (by kernel_rfl) (L31_4).2
noncomputable def L31_5 : {l : List Oper // (opsOf r31_5).map strip = l} := by refine ⟨?l, ?h⟩; case h => simp only [r31_5, c31, bodyOf, Try.f31, Code.sub, opsOf, List.map_cons, List.map_nil, strip]; rfl
theorem w31_5 : W Try.prog TT S 9 [14, 24, 38, 58, 65] r31_5 k E m Q ↔ Rg Try.prog TT S 9 [14, 24, 38, 58, 65] [6] [] (lgo E [3, 5] (lops Try.prog (callw Try.prog TT S) [(some 17), (some 18), (some 19), (some 6)] (L31_5).1 E m)) k E Q := w_plain (by kernel_rfl) (L31_5).2
noncomputable def L31_6 : {l : List Oper // (opsOf r31_6).map strip = l} := by refine ⟨?l, ?h⟩; case h => simp only [r31_6, c31, bodyOf, Try.f31, Code.sub, opsOf, List.map_cons, List.map_nil, strip]; rfl
theorem w31_6 : W Try.prog TT S 9 [14, 24, 38, 58, 65] r31_6 k E m Q ↔ Rg Try.prog TT S 9 [14, 24, 38, 58, 65] [] [24] (lgo E [6, 4] (lops Try.prog (callw Try.prog TT S) [(some 25), (some 26), (some 27), (some 28), (some 29), (some 30), (some 31), (some 24)] (L31_6).1 E m)) k E Q := w_plain (by kernel_rfl) (L31_6).2
noncomputable def L31_7 : {l : List Oper // (opsOf r31_7).map strip = l} := by refine ⟨?l, ?h⟩; case h => simp only [r31_7, c31, bodyOf, Try.f31, Code.sub, opsOf, List.map_cons, List.map_nil, strip]; rfl
theorem w31_7 : W Try.prog TT S 9 [14, 24, 38, 58, 65] r31_7 k E m Q ↔ Rg Try.prog TT S 9 [14, 24, 38, 58, 65] [] [] (lgo E [0, 4] (lops Try.prog (callw Try.prog TT S) [(some 32), (some 33), (some 34), (some 35)] (L31_7).1 E m)) k E Q := w_plain (by kernel_rfl) (L31_7).2
noncomputable def L31_8 : {l : List Oper // (opsOf r31_8).map strip = l} := by refine ⟨?l, ?h⟩; case h => simp only [r31_8, c31, bodyOf, Try.f31, Code.sub, opsOf, List.map_cons, List.map_nil, strip]; rfl
theorem w31_8 : W Try.prog TT S 9 [14, 24, 38, 58, 65] r31_8 k E m Q ↔ Rg Try.prog TT S 9 [14, 24, 38, 58, 65] [2] [] (lgo E [5] (lops Try.prog (callw Try.prog TT S) [(some 36), (some 37), (some 2)] (L31_8).1 E m)) k E Q := w_plain (by kernel_rfl) (L31_8).2
noncomputable def L31_9 : {l : List Oper // (opsOf r31_9).map strip = l} := by refine ⟨?l, ?h⟩; case h => simp only [r31_9, c31, bodyOf, Try.f31, Code.sub, opsOf, List.map_cons, List.map_nil, strip]; rfl
theorem w31_9 : W Try.prog TT S 9 [14, 24, 38, 58, 65] r31_9 k E m Q ↔ Rg Try.prog TT S 9 [14, 24, 38, 58, 65] [] [38] (lgo E [6, 5, 3] (lops Try.prog (callw Try.prog TT S) [(some 39), (some 40), (some 41), (some 42), (some 43), (some 44), (some 45), (some 46), (some 47), (some 38)] (L31_9).1 E m)) k E Q := w_plain (by kernel_rfl) (L31_9).2
noncomputable def L31_10 : {l : List Oper // (opsOf r31_10).map strip = l} := by refine ⟨?l, ?h⟩; case h => simp only [r31_10, c31, bodyOf, Try.f31, Code.sub, opsOf, List.map_cons, List.map_nil, strip]; rfl
theorem w31_10 : W Try.prog TT S 9 [14, 24, 38, 58, 65] r31_10 k E m Q ↔ Rg Try.prog TT S 9 [14, 24, 38, 58, 65] [5] [] (lgo E [5] (lops Try.prog (callw Try.prog TT S) [(some 48), (some 49), (some 5)] (L31_10).1 E m)) k E Q := w_plain (by kernel_rfl) (L31_10).2
noncomputable def L31_11 : {l : List Oper // (opsOf r31_11).map strip = l} := by refine ⟨?l, ?h⟩; case h => simp only [r31_11, c31, bodyOf, Try.f31, Code.sub, opsOf, List.map_cons, List.map_nil, strip]; rfl
theorem w31_11 : W Try.prog TT S 9 [14, 24, 38, 58, 65] r31_11 k E m Q ↔ Rg Try.prog TT S 9 [14, 24, 38, 58, 65] [7, 8] [] (lgo E [3, 5] (lops Try.prog (callw Try.prog TT S) [(some 51), (some 52), (some 53), (some 54), (some 50), (some 55), (some 56), (some 7), (some 8)] (L31_11).1 E m)) k E Q := w_plain (by kernel_rfl) (L31_11).2
noncomputable def L31_12 : {l : List Oper // (opsOf r31_12).map strip = l} := by refine ⟨?l, ?h⟩; case h => simp only [r31_12, c31, bodyOf, Try.f31, Code.sub, opsOf, List.map_cons, List.map_nil, strip]; rfl
theorem w31_12 : W Try.prog TT S 9 [14, 24, 38, 58, 65] r31_12 k E m Q ↔ Rg Try.prog TT S 9 [14, 24, 38, 58, 65] [] [58] (lgo E [8] (lops Try.prog (callw Try.prog TT S) [(some 57), (some 58)] (L31_12).1 E m)) k E Q := w_plain (by kernel_rfl) (L31_12).2
noncomputable def L31_13 : {l : List Oper // (opsOf r31_13).map strip = l} := by refine ⟨?l, ?h⟩; case h => simp only [r31_13, c31, bodyOf, Try.f31, Code.sub, opsOf, List.map_cons, List.map_nil, strip]; rfl
theorem w31_13 : W Try.prog TT S 9 [14, 24, 38, 58, 65] r31_13 k E m Q ↔ Rg Try.prog TT S 9 [14, 24, 38, 58, 65] [] [] (lgo E [0] (lops Try.prog (callw Try.prog TT S) [(some 59), (some 60)] (L31_13).1 E m)) k E Q := w_plain (by kernel_rfl) (L31_13).2
noncomputable def L31_14 : {l : List Oper // (opsOf r31_14).map strip = l} := by refine ⟨?l, ?h⟩; case h => simp only [r31_14, c31, bodyOf, Try.f31, Code.sub, opsOf, List.map_cons, List.map_nil, strip]; rfl
theorem w31_14 : W Try.prog TT S 9 [14, 24, 38, 58, 65] r31_14 k E m Q ↔ Rg Try.prog TT S 9 [14, 24, 38, 58, 65] [2] [] (lgo E [] (lops Try.prog (callw Try.prog TT S) [(some 2)] (L31_14).1 E m)) k E Q := w_plain (by kernel_rfl) (L31_14).2
noncomputable def L31_15 : {l : List Oper // (opsOf r31_15).map strip = l} := by refine ⟨?l, ?h⟩; case h => simp only [r31_15, c31, bodyOf, Try.f31, Code.sub, opsOf, List.map_cons, List.map_nil, strip]; rfl
theorem w31_15 : W Try.prog TT S 9 [14, 24, 38, 58, 65] r31_15 k E m Q ↔ Rg Try.prog TT S 9 [14, 24, 38, 58, 65] [4] [] (lgo E [4, 7] (lops Try.prog (callw Try.prog TT S) [(some 61), (some 62), (some 63), (some 64), (some 4)] (L31_15).1 E m)) k E Q := w_plain (by kernel_rfl) (L31_15).2
noncomputable def L31_16 : {l : List Oper // (opsOf r31_16).map strip = l} := by refine ⟨?l, ?h⟩; case h => simp only [r31_16, c31, bodyOf, Try.f31, Code.sub, opsOf, List.map_cons, List.map_nil, strip]; rfl
theorem w31_16 : W Try.prog TT S 9 [14, 24, 38, 58, 65] r31_16 k E m Q ↔ Rg Try.prog TT S 9 [14, 24, 38, 58, 65] [] [65] (lgo E [6] (lops Try.prog (callw Try.prog TT S) [(some 66), (some 67), (some 68), (some 69), (some 70), (some 71), (some 72), (some 73), (some 74), (some 75), (some 76), (some 77), (some 78), (some 79), (some 65)] (L31_16).1 E m)) k E Q := w_plain (by kernel_rfl) (L31_16).2
noncomputable def L31_17 : {l : List Oper // (opsOf r31_17).map strip = l} := by refine ⟨?l, ?h⟩; case h => simp only [r31_17, c31, bodyOf, Try.f31, Code.sub, opsOf, List.map_cons, List.map_nil, strip]; rfl
theorem w31_17 : W Try.prog TT S 9 [14, 24, 38, 58, 65] r31_17 k E m Q ↔ Rg Try.prog TT S 9 [14, 24, 38, 58, 65] [] [] (lgo E [0] (lops Try.prog (callw Try.prog TT S) [(some 80), (some 81)] (L31_17).1 E m)) k E Q := w_plain (by kernel_rfl) (L31_17).2
noncomputable def L31_18 : {l : List Oper // (opsOf r31_18).map strip = l} := by refine ⟨?l, ?h⟩; case h => simp only [r31_18, c31, bodyOf, Try.f31, Code.sub, opsOf, List.map_cons, List.map_nil, strip]; rfl
theorem w31_18 : W Try.prog TT S 9 [14, 24, 38, 58, 65] r31_18 k E m Q ↔ Rg Try.prog TT S 9 [14, 24, 38, 58, 65] [2] [] (lgo E [] (lops Try.prog (callw Try.prog TT S) [(some 2)] (L31_18).1 E m)) k E Q := w_plain (by kernel_rfl) (L31_18).2
noncomputable def L31_19 : {l : List Oper // (opsOf r31_19).map strip = l} := by refine ⟨?l, ?h⟩; case h => simp only [r31_19, c31, bodyOf, Try.f31, Code.sub, opsOf, List.map_cons, List.map_nil, strip]; rfl
theorem w31_19 : W Try.prog TT S 9 [14, 24, 38, 58, 65] r31_19 k E m Q ↔ Rg Try.prog TT S 9 [14, 24, 38, 58, 65] [4] [] (lgo E [4, 6] (lops Try.prog (callw Try.prog TT S) [(some 20), (some 21), (some 22), (some 23), (some 4)] (L31_19).1 E m)) k E Q := w_plain (by kernel_rfl) (L31_19).2
noncomputable def L31_20 : {l : List Oper // (opsOf r31_20).map strip = l} := by refine ⟨?l, ?h⟩; case h => simp only [r31_20, c31, bodyOf, Try.f31, Code.sub, opsOf, List.map_cons, List.map_nil, strip]; rfl
theorem w31_20 : W Try.prog TT S 9 [14, 24, 38, 58, 65] r31_20 k E m Q ↔ Rg Try.prog TT S 9 [14, 24, 38, 58, 65] [5] [] (lgo E [5] (lops Try.prog (callw Try.prog TT S) [(some 15), (some 16), (some 5)] (L31_20).1 E m)) k E Q := w_plain (by kernel_rfl) (L31_20).2
noncomputable def L31_21 : {l : List Oper // (opsOf r31_21).map strip = l} := by refine ⟨?l, ?h⟩; case h => simp only [r31_21, c31, bodyOf, Try.f31, Code.sub, opsOf, List.map_cons, List.map_nil, strip]; rfl
theorem w31_21 : W Try.prog TT S 9 [14, 24, 38, 58, 65] r31_21 k E m Q ↔ Rg Try.prog TT S 9 [14, 24, 38, 58, 65] [] [] (lgo E [0] (lops Try.prog (callw Try.prog TT S) [(some 82), (some 83)] (L31_21).1 E m)) k E Q := w_plain (by kernel_rfl) (L31_21).2
noncomputable def L31_22 : {l : List Oper // (opsOf r31_22).map strip = l} := by refine ⟨?l, ?h⟩; case h => simp only [r31_22, c31, bodyOf, Try.f31, Code.sub, opsOf, List.map_cons, List.map_nil, strip]; rfl
theorem w31_22 : W Try.prog TT S 9 [14, 24, 38, 58, 65] r31_22 k E m Q ↔ Rg Try.prog TT S 9 [14, 24, 38, 58, 65] [2] [] (lgo E [] (lops Try.prog (callw Try.prog TT S) [(some 2)] (L31_22).1 E m)) k E Q := w_plain (by kernel_rfl) (L31_22).2
theorem k31 : FnIs TT 31 c31 [.tmp 2] 1 := ⟨Try.f31, by kernel_rfl, by simp only [Try.f31, c31, bodyOf], by kernel_rfl, of_decide_eq_true (by kernel_rfl)⟩

/- turnstoneref3.letter -/
noncomputable def c32 : Code := bodyOf Try.f32
noncomputable def r32_0 : Code := Code.sub [0] c32
noncomputable def r32_1 : Code := Code.sub [1, 0] c32
theorem body32 : c32 = (.seq r32_0 (.seq r32_1 .ret)) := by kernel_rfl
noncomputable def L32_0 : {l : List Oper // (opsOf r32_0).map strip = l} := by refine ⟨?l, ?h⟩; case h => simp only [r32_0, c32, bodyOf, Try.f32, Code.sub, opsOf, List.map_cons, List.map_nil, strip]; rfl
theorem w32_0 : W Try.prog TT S 3 [] r32_0 k E m Q ↔ Rg Try.prog TT S 3 [] [2] [] (lgo E [] (lops Try.prog (callw Try.prog TT S) [(some 2)] (L32_0).1 E m)) k E Q := w_plain (by kernel_rfl) (L32_0).2
noncomputable def L32_1 : {l : List Oper // (opsOf r32_1).map strip = l} := by refine ⟨?l, ?h⟩; case h => simp only [r32_1, c32, bodyOf, Try.f32, Code.sub, opsOf, List.map_cons, List.map_nil, strip]; rfl
theorem w32_1 : W Try.prog TT S 3 [] r32_1 k E m Q ↔ Rg Try.prog TT S 3 [] [2] [] (lgo E [0] (lops Try.prog (callw Try.prog TT S) [(some 3), (some 4), (some 5), (some 6), (some 7), (some 8), (some 9), (some 10), (some 11), (some 12), (some 13), (some 14), (some 15), (some 16), (some 17), (some 18), (some 19), (some 20), (some 2)] (L32_1).1 E m)) k E Q := w_plain (by kernel_rfl) (L32_1).2
theorem k32 : FnIs TT 32 c32 [.tmp 2] 1 := ⟨Try.f32, by kernel_rfl, by simp only [Try.f32, c32, bodyOf], by kernel_rfl, of_decide_eq_true (by kernel_rfl)⟩

/- turnstoneref3.digit -/
noncomputable def c33 : Code := bodyOf Try.f33
noncomputable def r33_0 : Code := Code.sub [0] c33
noncomputable def r33_1 : Code := Code.sub [1, 0] c33
theorem body33 : c33 = (.seq r33_0 (.seq r33_1 .ret)) := by kernel_rfl
noncomputable def L33_0 : {l : List Oper // (opsOf r33_0).map strip = l} := by refine ⟨?l, ?h⟩; case h => simp only [r33_0, c33, bodyOf, Try.f33, Code.sub, opsOf, List.map_cons, List.map_nil, strip]; rfl
theorem w33_0 : W Try.prog TT S 3 [] r33_0 k E m Q ↔ Rg Try.prog TT S 3 [] [2] [] (lgo E [] (lops Try.prog (callw Try.prog TT S) [(some 2)] (L33_0).1 E m)) k E Q := w_plain (by kernel_rfl) (L33_0).2
noncomputable def L33_1 : {l : List Oper // (opsOf r33_1).map strip = l} := by refine ⟨?l, ?h⟩; case h => simp only [r33_1, c33, bodyOf, Try.f33, Code.sub, opsOf, List.map_cons, List.map_nil, strip]; rfl
theorem w33_1 : W Try.prog TT S 3 [] r33_1 k E m Q ↔ Rg Try.prog TT S 3 [] [2] [] (lgo E [0] (lops Try.prog (callw Try.prog TT S) [(some 3), (some 4), (some 5), (some 6), (some 7), (some 8), (some 2)] (L33_1).1 E m)) k E Q := w_plain (by kernel_rfl) (L33_1).2
theorem k33 : FnIs TT 33 c33 [.tmp 2] 1 := ⟨Try.f33, by kernel_rfl, by simp only [Try.f33, c33, bodyOf], by kernel_rfl, of_decide_eq_true (by kernel_rfl)⟩

/- turnstoneref3.IsWord -/
noncomputable def c34 : Code := bodyOf Try.f34
noncomputable def r34_0 : Code := Code.sub [0] c34
noncomputable def r34_1 : Code := Code.sub [1, 0, 0] c34
noncomputable def r34_2 : Code := Code.sub [1, 0, 1, 0, 0, 0] c34
noncomputable def r34_3 : Code := Code.sub [1, 0, 1, 0, 0, 1, 1, 0] c34
noncomputable def r34_4 : Code := Code.sub [1, 0, 1, 0, 0, 1, 1, 1, 1, 0] c34
noncomputable def r34_5 : Code := Code.sub [1, 0, 1, 0, 0, 1, 1, 1, 1, 1, 1, 0] c34
noncomputable def r34_6 : Code := Code.sub [1, 0, 1, 0, 0, 1, 1, 1, 1, 1, 1, 1, 1, 0] c34
noncomputable def r34_7 : Code := Code.sub [1, 0, 1, 0, 0, 1, 1, 1, 1, 1, 1, 1, 1, 1, 1, 0] c34
noncomputable def r34_8 : Code := Code.sub [1, 0, 1, 0, 0, 1, 1, 1, 1, 1, 1, 1, 1, 1, 1, 1, 1, 0] c34
noncomputable def r34_9 : Code := Code.sub [1, 0, 1, 0, 0, 1, 1, 1, 1, 1, 1, 1, 1, 1, 1, 1, 1, 1, 1, 0] c34
noncomputable def r34_10 : Code := Code.sub [1, 0, 1, 0, 0, 1, 1, 1, 1, 1, 1, 1, 1, 1, 1, 1, 1, 1, 1, 1, 1, 0] c34
noncomputable def r34_11 : Code := Code.sub [1, 0, 1, 0, 0, 1, 1, 1, 1, 1, 1, 1, 1, 1, 1, 1, 1, 1, 1, 1, 1, 1, 1, 0] c34
noncomputable def r34_12 : Code := Code.sub [1, 0, 1, 0, 0, 1, 1, 1, 1, 1, 1, 1, 1, 1, 1, 1, 1, 1, 1, 1, 1, 1, 1, 1, 1, 0] c34
noncomputable def r34_13 : Code := Code.sub [1, 0, 1, 0, 0, 1, 1, 1, 1, 1, 1, 1, 1, 1, 1, 1, 1, 1, 1, 1, 1, 1, 1, 1, 1, 1, 1, 0] c34
noncomputable def r34_14 : Code := Code.sub [1, 0, 1, 0, 0, 1, 1, 1, 1, 1, 1, 1, 1, 1, 1, 1, 1, 1, 1, 1, 1, 1, 1, 1, 1, 1, 1, 1, 1, 0] c34
noncomputable def r34_15 : Code := Code.sub [1, 0, 1, 0, 0, 1, 1, 1, 1, 1, 1, 1, 1, 1, 1, 1, 1, 1, 1, 1, 1, 1, 1, 1, 1, 1, 1, 1, 1, 1, 1, 0] c34
noncomputable def r34_16 : Code := Code.sub [1, 0, 1, 0, 0, 1, 1, 1, 1, 1, 1, 1, 1, 1, 1, 1, 1, 1, 1, 1, 1, 1, 1, 1, 1, 1, 1, 1, 1, 1, 1, 1, 1, 0] c34
noncomputable def r34_17 : Code := Code.sub [1, 0, 1, 0, 0, 1, 1, 1, 1, 1, 1, 1, 1, 1, 1, 1, 1, 1, 1, 1, 1, 1, 1, 1, 1, 1, 1, 1, 1, 1, 1, 1, 1, 1, 1, 0] c34
noncomputable def r34_18 : Code := Code.sub [1, 0, 1, 0, 0, 1, 1, 1, 1, 1, 1, 1, 1, 1, 1, 1, 1, 1, 1, 1, 1, 1, 1, 1, 1, 1, 1, 1, 1, 1, 1, 1, 1, 1, 1, 1, 1, 0] c34
noncomputable def r34_19 : Code := Code.sub [1, 0, 1, 0, 0, 1, 1, 1, 1, 1, 1, 1, 1, 1, 1, 1, 1, 1, 1, 1, 1, 1, 1, 1, 1, 1, 1, 1, 1, 1, 1, 1, 1, 1, 1, 1, 1, 1, 1, 0] c34
noncomputable def r34_20 : Code := Code.sub [1, 0, 1, 0, 0, 1, 1, 1, 1, 1, 1, 1, 1, 1, 1, 1, 1, 1, 1, 1, 1, 1, 1, 1, 1, 1, 1, 1, 1, 1, 1, 1, 1, 1, 1, 1, 1, 1, 1, 1, 1, 0] c34
noncomputable def r34_21 : Code := Code.sub [1, 0, 1, 0, 0, 1, 1, 1, 1, 1, 1, 1, 1, 1, 1, 1, 1, 1, 1, 1, 1, 1, 1, 1, 1, 1, 1, 1, 1, 1, 1, 1, 1, 1, 1, 1, 1, 1, 1, 1, 1, 1, 1, 0] c34
noncomputable def r34_22 : Code := Code.sub [1, 0, 1, 0, 0, 1, 1, 1, 1, 1, 1, 1, 1, 1, 1, 1, 1, 1, 1, 1, 1, 1, 1, 1, 1, 1, 1, 1, 1, 1, 1, 1, 1, 1, 1, 1, 1, 1, 1, 1, 1, 1, 1, 1, 1, 0] c34
noncomputable def r34_23 : Code := Code.sub [1, 0, 1, 0, 0, 1, 1, 1, 1, 1, 1, 1, 1, 1, 1, 1, 1, 1, 1, 1, 1, 1, 1, 1, 1, 1, 1, 1, 1, 1, 1, 1, 1, 1, 1, 1, 1, 1, 1, 1, 1, 1, 1, 1, 1, 1, 1] c34
noncomputable def r34_24 : Code := Code.sub [1, 0, 1, 0, 1, 0, 0] c34
noncomputable def r34_25 : Code := Code.sub [1, 1, 0] c34
theorem body34 : c34 = (.seq r34_0 (.seq (.seq r34_1 (.block 0 (.seq (.seq r34_2 (.cond (.tmp 4) .skip (.seq r34_3 (.cond (.tmp 4) .skip (.seq r34_4 (.cond (.tmp 4) .skip (.seq r34_5 (.cond (.tmp 4) .skip (.seq r34_6 (.cond (.tmp 4) .skip (.seq r34_7 (.cond (.tmp 4) .skip (.seq r34_8 (.cond (.tmp 4) .skip (.seq r34_9 (.cond (.tmp 4) .skip (.seq r34_10 (.cond (.tmp 4) .skip (.seq r34_11 (.cond (.tmp 4) .skip (.seq r34_12 (.cond (.tmp 4) .skip (.seq r34_13 (.cond (.tmp 4) .skip (.seq r34_14 (.cond (.tmp 4) .skip (.seq r34_15 (.cond (.tmp 4) .skip (.seq r34_16 (.cond (.tmp 4) .skip (.seq r34_17 (.cond (.tmp 4) .skip (.seq r34_18 (.cond (.tmp 4) .skip (.seq r34_19 (.cond (.tmp 4) .skip (.seq r34_20 (.cond (.tmp 4) .skip (.seq r34_21 (.cond (.tmp 4) .skip (.seq r34_22 (.cond (.tmp 4) .skip r34_23)))))))))))))))))))))))))))))))))))))))))) (.cond (.tmp 4) (.seq r34_24 .ret) .skip)))) (.seq r34_25 .ret))) := by kernel_rfl
noncomputable def L34_0 : {l : List Oper // (opsOf r34_0).map strip = l} := by refine ⟨?l, ?h⟩; case h => simp only [r34_0, c34, bodyOf, Try.f34, Code.sub, opsOf, List.map_cons, List.map_nil, strip]; rfl
theorem w34_0 : W Try.prog TT S 4 [4, 4, 4, 4, 4, 4, 4, 4, 4, 4, 4, 4, 4, 4, 4, 4, 4, 4, 4, 4, 4, 4] r34_0 k E m Q ↔ Rg Try.prog TT S 4 [4, 4, 4, 4, 4, 4, 4, 4, 4, 4, 4, 4, 4, 4, 4, 4, 4, 4, 4, 4, 4, 4] [2] [] (lgo E [] (lops Try.prog (callw Try.prog TT S) [(some 2)] (L34_0).1 E m)) k E Q := w_plain (by kernel_rfl) (L34_0).2
noncomputable def L34_1 : {l : List Oper // (opsOf r34_1).map strip = l} := by refine ⟨?l, ?h⟩; case h => simp only [r34_1, c34, bodyOf, Try.f34, Code.sub, opsOf, List.map_cons, List.map_nil, strip]; rfl
theorem w34_1 : W Try.prog TT S 4 [4, 4, 4, 4, 4, 4, 4, 4, 4, 4, 4, 4, 4, 4, 4, 4, 4, 4, 4, 4, 4, 4] r34_1 k E m Q ↔ Rg Try.prog TT S 4 [4, 4, 4, 4, 4, 4, 4, 4, 4, 4, 4, 4, 4, 4, 4, 4, 4, 4, 4, 4, 4, 4] [3] [] (lgo E [0] (lops Try.prog (callw Try.prog TT S) [(some 3)] (L34_1).1 E m)) k E Q := w_plain (by kernel_rfl) (L34_1).2
noncomputable def L34_2 : {l : List Oper // (opsOf r34_2).map strip = l} := by refine ⟨?l, ?h⟩; case h => simp only [r34_2, c34, bodyOf, Try.f34, Code.sub, opsOf, List.map_cons, List.map_nil, strip]; rfl
theorem w34_2 : W Try.prog TT S 4 [4, 4, 4, 4, 4, 4, 4, 4, 4, 4, 4, 4, 4, 4, 4, 4, 4, 4, 4, 4, 4, 4] r34_2 k E m Q ↔ Rg Try.prog TT S 4 [4, 4, 4, 4, 4, 4, 4, 4, 4, 4, 4, 4, 4, 4, 4, 4, 4, 4, 4, 4, 4, 4] [] [4] (lgo E [3] (lops Try.prog (callw Try.prog TT S) [(some 5), (some 4)] (L34_2).1 E m)) k E Q := w_plain (by kernel_rfl) (L34_2).2
noncomputable def L34_3 : {l : List Oper // (opsOf r34_3).map strip = l} := by refine ⟨?l, ?h⟩; case h => simp only [r34_3, c34, bodyOf, Try.f34, Code.sub, opsOf, List.map_cons, List.map_nil, strip]; rfl
theorem w34_3 : W Try.prog TT S 4 [4, 4, 4, 4, 4, 4, 4, 4, 4, 4, 4, 4, 4, 4, 4, 4, 4, 4, 4, 4, 4, 4] r34_3 k E m Q ↔ Rg Try.prog TT S 4 [4, 4, 4, 4, 4, 4, 4, 4, 4, 4, 4, 4, 4, 4, 4, 4, 4, 4, 4, 4, 4, 4] [] [4] (lgo E [3] (lops Try.prog (callw Try.prog TT S) [(some 6), (some 4)] (L34_3).1 E m)) k E Q := w_plain (by kernel_rfl) (L34_3).2
noncomputable def L34_4 : {l : List Oper // (opsOf r34_4).map strip = l} := by refine ⟨?l, ?h⟩; case h => simp only [r34_4, c34, bodyOf, Try.f34, Code.sub, opsOf, List.map_cons, List.map_nil, strip]; rfl
theorem w34_4 : W Try.prog TT S 4 [4, 4, 4, 4, 4, 4, 4, 4, 4, 4, 4, 4, 4, 4, 4, 4, 4, 4, 4, 4, 4, 4] r34_4 k E m Q ↔ Rg Try.prog TT S 4 [4, 4, 4, 4, 4, 4, 4, 4, 4, 4, 4, 4, 4, 4, 4, 4, 4, 4, 4, 4, 4, 4] [] [4] (lgo E [3] (lops Try.prog (callw Try.prog TT S) [(some 7), (some 4)] (L34_4).1 E m)) k E Q := w_plain (by kernel_rfl) (L34_4).2
noncomputable def L34_5 : {l : List Oper // (opsOf r34_5).map strip = l} := by refine ⟨?l, ?h⟩; case h => simp only [r34_5, c34, bodyOf, Try.f34, Code.sub, opsOf, List.map_cons, List.map_nil, strip]; rfl
theorem w34_5 : W Try.prog TT S 4 [4, 4, 4, 4, 4, 4, 4, 4, 4, 4, 4, 4, 4, 4, 4, 4, 4, 4, 4, 4, 4, 4] r34_5 k E m Q ↔ Rg Try.prog TT S 4 [4, 4, 4, 4, 4, 4, 4, 4, 4, 4, 4, 4, 4, 4, 4, 4, 4, 4, 4, 4, 4, 4] [] [4] (lgo E [3] (lops Try.prog (callw Try.prog TT S) [(some 8), (some 4)] (L34_5).1 E m)) k E Q := w_plain (by kernel_rfl) (L34_5).2
noncomputable def L34_6 : {l : List Oper // (opsOf r34_6).map strip = l} := by refine ⟨?l, ?h⟩; case h => simp only [r34_6, c34, bodyOf, Try.f34, Code.sub, opsOf, List.map_cons, List.map_nil, strip]; rfl
theorem w34_6 : W Try.prog TT S 4 [4, 4, 4, 4, 4, 4, 4, 4, 4, 4, 4, 4, 4, 4, 4, 4, 4, 4, 4, 4, 4, 4] r34_6 k E m Q ↔ Rg Try.prog TT S 4 [4, 4, 4, 4, 4, 4, 4, 4, 4, 4, 4, 4, 4, 4, 4, 4, 4, 4, 4, 4, 4, 4] [] [4] (lgo E [3] (lops Try.prog (callw Try.prog TT S) [(some 9), (some 4)] (L34_6).1 E m)) k E Q := w_plain (by kernel_rfl) (L34_6).2
noncomputable def L34_7 : {l : List Oper // (opsOf r34_7).map strip = l} := by refine ⟨?l, ?h⟩; case h => simp only [r34_7, c34, bodyOf, Try.f34, Code.sub, opsOf, List.map_cons, List.map_nil, strip]; rfl
theorem w34_7 : W Try.prog TT S 4 [4, 4, 4, 4, 4, 4, 4, 4, 4, 4, 4, 4, 4, 4, 4, 4, 4, 4, 4, 4, 4, 4] r34_7 k E m Q ↔ Rg Try.prog TT S 4 [4, 4, 4, 4, 4, 4, 4, 4, 4, 4, 4, 4, 4, 4, 4, 4, 4, 4, 4, 4, 4, 4] [] [4] (lgo E [3] (lops Try.prog (callw Try.prog TT S) [(some 10), (some 4)] (L34_7).1 E m)) k E Q := w_plain (by kernel_rfl) (L34_7).2
noncomputable def L34_8 : {l : List Oper // (opsOf r34_8).map strip = l} := by refine ⟨?l, ?h⟩; case h => simp only [r34_8, c34, bodyOf, Try.f34, Code.sub, opsOf, List.map_cons, List.map_nil, strip]; rfl
theorem w34_8 : W Try.prog TT S 4 [4, 4, 4, 4, 4, 4, 4, 4, 4, 4, 4, 4, 4, 4, 4, 4, 4, 4, 4, 4, 4, 4] r34_8 k E m Q ↔ Rg Try.prog TT S 4 [4, 4, 4, 4, 4, 4, 4, 4, 4, 4, 4, 4, 4, 4, 4, 4, 4, 4, 4, 4, 4, 4] [] [4] (lgo E [3] (lops Try.prog (callw Try.prog TT S) [(some 11), (some 4)] (L34_8).1 E m)) k E Q := w_plain (by kernel_rfl) (L34_8).2
noncomputable def L34_9 : {l : List Oper // (opsOf r34_9).map strip = l} := by refine ⟨?l, ?h⟩; case h => simp only [r34_9, c34, bodyOf, Try.f34, Code.sub, opsOf, List.map_cons, List.map_nil, strip]; rfl
theorem w34_9 : W Try.prog TT S 4 [4, 4, 4, 4, 4, 4, 4, 4, 4, 4, 4, 4, 4, 4, 4, 4, 4, 4, 4, 4, 4, 4] r34_9 k E m Q ↔ Rg Try.prog TT S 4 [4, 4, 4, 4, 4, 4, 4, 4, 4, 4, 4, 4, 4, 4, 4, 4, 4, 4, 4, 4, 4, 4] [] [4] (lgo E [3] (lops Try.prog (callw Try.prog TT S) [(some 12), (some 4)] (L34_9).1 E m)) k E Q := w_plain (by kernel_rfl) (L34_9).2
noncomputable def L34_10 : {l : List Oper // (opsOf r34_10).map strip = l} := by refine ⟨?l, ?h⟩; case h => simp only [r34_10, c34, bodyOf, Try.f34, Code.sub, opsOf, List.map_cons, List.map_nil, strip]; rfl
theorem w34_10 : W Try.prog TT S 4 [4, 4, 4, 4, 4, 4, 4, 4, 4, 4, 4, 4, 4, 4, 4, 4, 4, 4, 4, 4, 4, 4] r34_10 k E m Q ↔ Rg Try.prog TT S 4 [4, 4, 4, 4, 4, 4, 4, 4, 4, 4, 4, 4, 4, 4, 4, 4, 4, 4, 4, 4, 4, 4] [] [4] (lgo E [3] (lops Try.prog (callw Try.prog TT S) [(some 13), (some 4)] (L34_10).1 E m)) k E Q := w_plain (by kernel_rfl) (L34_10).2
noncomputable def L34_11 : {l : List Oper // (opsOf r34_11).map strip = l} := by refine ⟨?l, ?h⟩; case h => simp only [r34_11, c34, bodyOf, Try.f34, Code.sub, opsOf, List.map_cons, List.map_nil, strip]; rfl
theorem w34_11 : W Try.prog TT S 4 [4, 4, 4, 4, 4, 4, 4, 4, 4, 4, 4, 4, 4, 4, 4, 4, 4, 4, 4, 4, 4, 4] r34_11 k E m Q ↔ Rg Try.prog TT S 4 [4, 4, 4, 4, 4, 4, 4, 4, 4, 4, 4, 4, 4, 4, 4, 4, 4, 4, 4, 4, 4, 4] [] [4] (lgo E [3] (lops Try.prog (callw Try.prog TT S) [(some 14), (some 4)] (L34_11).1 E m)) k E Q := w_plain (by kernel_rfl) (L34_11).2
noncomputable def L34_12 : {l : List Oper // (opsOf r34_12).map strip = l} := by refine ⟨?l, ?h⟩; case h => simp only [r34_12, c34, bodyOf, Try.f34, Code.sub, opsOf, List.map_cons, List.map_nil, strip]; rfl
theorem w34_12 : W Try.prog TT S 4 [4, 4, 4, 4, 4, 4, 4, 4, 4, 4, 4, 4, 4, 4, 4, 4, 4, 4, 4, 4, 4, 4] r34_12 k E m Q ↔ Rg Try.prog TT S 4 [4, 4, 4, 4, 4, 4, 4, 4, 4, 4, 4, 4, 4, 4, 4, 4, 4, 4, 4, 4, 4, 4] [] [4] (lgo E [3] (lops Try.prog (callw Try.prog TT S) [(some 15), (some 4)] (L34_12).1 E m)) k E Q := w_plain (by kernel_rfl) (L34_12).2
noncomputable def L34_13 : {l : List Oper // (opsOf r34_13).map strip = l} := by refine ⟨?l, ?h⟩; case h => simp only [r34_13, c34, bodyOf, Try.f34, Code.sub, opsOf, List.map_cons, List.map_nil, strip]; rfl
theorem w34_13 : W Try.prog TT S 4 [4, 4, 4, 4, 4, 4, 4, 4, 4, 4, 4, 4, 4, 4, 4, 4, 4, 4, 4, 4, 4, 4] r34_13 k E m Q ↔ Rg Try.prog TT S 4 [4, 4, 4, 4, 4, 4, 4, 4, 4, 4, 4, 4, 4, 4, 4, 4, 4, 4, 4, 4, 4, 4] [] [4] (lgo E [3] (lops Try.prog (callw Try.prog TT S) [(some 16), (some 4)] (L34_13).1 E m)) k E Q := w_plain (by kernel_rfl) (L34_13).2
noncomputable def L34_14 : {l : List Oper // (opsOf r34_14).map strip = l} := by refine ⟨?l, ?h⟩; case h => simp only [r34_14, c34, bodyOf, Try.f34, Code.sub, opsOf, List.map_cons, List.map_nil, strip]; rfl
theorem w34_14 : W Try.prog TT S 4 [4, 4, 4, 4, 4, 4, 4, 4, 4, 4, 4, 4, 4, 4, 4, 4, 4, 4, 4, 4, 4, 4] r34_14 k E m Q ↔ Rg Try.prog TT S 4 [4, 4, 4, 4, 4, 4, 4, 4, 4, 4, 4, 4, 4, 4, 4, 4, 4, 4, 4, 4, 4, 4] [] [4] (lgo E [3] (lops Try.prog (callw Try.prog TT S) [(some 17), (some 4)] (L34_14).1 E m)) k E Q := w_plain (by kernel_rfl) (L34_14).2
noncomputable def L34_15 : {l : List Oper // (opsOf r34_15).map strip = l} := by refine ⟨?l, ?h⟩; case h => simp only [r34_15, c34, bodyOf, Try.f34, Code.sub, opsOf, List.map_cons, List.map_nil, strip]; rfl
theorem w34_15 : W Try.prog TT S 4 [4, 4, 4, 4, 4, 4, 4, 4, 4, 4, 4, 4, 4, 4, 4, 4, 4, 4, 4, 4, 4, 4] r34_15 k E m Q ↔ Rg Try.prog TT S 4 [4, 4, 4, 4, 4, 4, 4, 4, 4, 4, 4, 4, 4, 4, 4, 4, 4, 4, 4, 4, 4, 4] [] [4] (lgo E [3] (lops Try.prog (callw Try.prog TT S) [(some 18), (some 4)] (L34_15).1 E m)) k E Q := w_plain (by kernel_rfl) (L34_15).2
noncomputable def L34_16 : {l : List Oper // (opsOf r34_16).map strip = l} := by refine ⟨?l, ?h⟩; case h => simp only [r34_16, c34, bodyOf, Try.f34, Code.sub, opsOf, List.map_cons, List.map_nil, strip]; rfl
theorem w34_16 : W Try.prog TT S 4 [4, 4, 4, 4, 4, 4, 4, 4, 4, 4, 4, 4, 4, 4, 4, 4, 4, 4, 4, 4, 4, 4] r34_16 k E m Q ↔ Rg Try.prog TT S 4 [4, 4, 4, 4, 4, 4, 4, 4, 4, 4, 4, 4, 4, 4, 4, 4, 4, 4, 4, 4, 4, 4] [] [4] (lgo E [3] (lops Try.prog (callw Try.prog TT S) [(some 19), (some 4)] (L34_16).1 E m)) k E Q := w_plain (by kernel_rfl) (L34_16).2
noncomputable def L34_17 : {l : List Oper // (opsOf r34_17).map strip = l} := by refine ⟨?l, ?h⟩; case h => simp only [r34_17, c34, bodyOf, Try.f34, Code.sub, opsOf, List.map_cons, List.map_nil, strip]; rfl
theorem w34_17 : W Try.prog TT S 4 [4, 4, 4, 4, 4, 4, 4, 4, 4, 4, 4, 4, 4, 4, 4, 4, 4, 4, 4, 4, 4, 4] r34_17 k E m Q ↔ Rg Try.prog TT S 4 [4, 4, 4, 4, 4, 4, 4, 4, 4, 4, 4, 4, 4, 4, 4, 4, 4, 4, 4, 4, 4, 4] [] [4] (lgo E [3] (lops Try.prog (callw Try.prog TT S) [(some 20), (some 4)] (L34_17).1 E m)) k E Q := w_plain (by kernel_rfl) (L34_17).2
noncomputable def L34_18 : {l : List Oper // (opsOf r34_18).map strip = l} := by refine ⟨?l, ?h⟩; case h => simp only [r34_18, c34, bodyOf, Try.f34, Code.sub, opsOf, List.map_cons, List.map_nil, strip]; rfl
theorem w34_18 : W Try.prog TT S 4 [4, 4, 4, 4, 4, 4, 4, 4, 4, 4, 4, 4, 4, 4, 4, 4, 4, 4, 4, 4, 4, 4] r34_18 k E m Q ↔ Rg Try.prog TT S 4 [4, 4, 4, 4, 4, 4, 4, 4, 4, 4, 4, 4, 4, 4, 4, 4, 4, 4, 4, 4, 4, 4] [] [4] (lgo E [3] (lops Try.prog (callw Try.prog TT S) [(some 21), (some 4)] (L34_18).1 E m)) k E Q := w_plain (by kernel_rfl) (L34_18).2
noncomputable def L34_19 : {l : List Oper // (opsOf r34_19).map strip = l} := by refine ⟨?l, ?h⟩; case h => simp only [r34_19, c34, bodyOf, Try.f34, Code.sub, opsOf, List.map_cons, List.map_nil, strip]; rfl
theorem w34_19 : W Try.prog TT S 4 [4, 4, 4, 4, 4, 4, 4, 4, 4, 4, 4, 4, 4, 4, 4, 4, 4, 4, 4, 4, 4, 4] r34_19 k E m Q ↔ Rg Try.prog TT S 4 [4, 4, 4, 4, 4, 4, 4, 4, 4, 4, 4, 4, 4, 4, 4, 4, 4, 4, 4, 4, 4, 4] [] [4] (lgo E [3] (lops Try.prog (callw Try.prog TT S) [(some 22), (some 4)] (L34_19).1 E m)) k E Q := w_plain (by kernel_rfl) (L34_19).2
noncomputable def L34_20 : {l : List Oper // (opsOf r34_20).map strip = l} := by refine ⟨?l, ?h⟩; case h => simp only [r34_20, c34, bodyOf, Try.f34, Code.sub, opsOf, List.map_cons, List.map_nil, strip]; rfl
theorem w34_20 : W Try.prog TT S 4 [4, 4, 4, 4, 4, 4, 4, 4, 4, 4, 4, 4, 4, 4, 4, 4, 4, 4, 4, 4, 4, 4] r34_20 k E m Q ↔ Rg Try.prog TT S 4 [4, 4, 4, 4, 4, 4, 4, 4, 4, 4, 4, 4, 4, 4, 4, 4, 4, 4, 4, 4, 4, 4] [] [4] (lgo E [3] (lops Try.prog (callw Try.prog TT S) [(some 23), (some 4)] (L34_20).1 E m)) k E Q := w_plain (by kernel_rfl) (L34_20).2
noncomputable def L34_21 : {l : List Oper // (opsOf r34_21).map strip = l} := by refine ⟨?l, ?h⟩; case h => simp only [r34_21, c34, bodyOf, Try.f34, Code.sub, opsOf, List.map_cons, List.map_nil, strip]; rfl
theorem w34_21 : W Try.prog TT S 4 [4, 4, 4, 4, 4, 4, 4, 4, 4, 4, 4, 4, 4, 4, 4, 4, 4, 4, 4, 4, 4, 4] r34_21 k E m Q ↔ Rg Try.prog TT S 4 [4, 4, 4, 4, 4, 4, 4, 4, 4, 4, 4, 4, 4, 4, 4, 4, 4, 4, 4, 4, 4, 4] [] [4] (lgo E [3] (lops Try.prog (callw Try.prog TT S) [(some 24), (some 4)] (L34_21).1 E m)) k E Q := w_plain (by kernel_rfl) (L34_21).2
noncomputable def L34_22 : {l : List Oper // (opsOf r34_22).map strip = l} := by refine ⟨?l, ?h⟩; case h => simp only [r34_22, c34, bodyOf, Try.f34, Code.sub, opsOf, List.map_cons, List.map_nil, strip]; rfl
theorem w34_22 : W Try.prog TT S 4 [4, 4, 4, 4, 4, 4, 4, 4, 4, 4, 4, 4, 4, 4, 4, 4, 4, 4, 4, 4, 4, 4] r34_22 k E m Q ↔ Rg Try.prog TT S 4 [4, 4, 4, 4, 4, 4, 4, 4, 4, 4, 4, 4, 4, 4, 4, 4, 4, 4, 4, 4, 4, 4] [] [4] (lgo E [3] (lops Try.prog (callw Try.prog TT S) [(some 25), (some 4)] (L34_22).1 E m)) k E Q := w_plain (by kernel_rfl) (L34_22).2
noncomputable def L34_23 : {l : List Oper // (opsOf r34_23).map strip = l} := by refine ⟨?l, ?h⟩; case h => simp only [r34_23, c34, bodyOf, Try.f34, Code.sub, opsOf, List.map_cons, List.map_nil, strip]; rfl
theorem w34_23 : W Try.prog TT S 4 [4, 4, 4, 4, 4, 4, 4, 4, 4, 4, 4, 4, 4, 4, 4, 4, 4, 4, 4, 4, 4, 4] r34_23 k E m Q ↔ Rg Try.prog TT S 4 [4, 4, 4, 4, 4, 4, 4, 4, 4, 4, 4, 4, 4, 4, 4, 4, 4, 4, 4, 4, 4, 4] [] [4] (lgo E [3] (lops Try.prog (callw Try.prog TT S) [(some 26), (some 4)] (L34_23).1 E m)) k E Q := w_plain (by kernel_rfl) (L34_23).2
noncomputable def L34_24 : {l : List Oper // (opsOf r34_24).map strip = l} := by refine ⟨?l, ?h⟩; case h => simp only [r34_24, c34, bodyOf, Try.f34, Code.sub, opsOf, List.map_cons, List.map_nil, strip]; rfl
theorem w34_24 : W Try.prog TT S 4 [4, 4, 4, 4, 4, 4, 4, 4, 4, 4, 4, 4, 4, 4, 4, 4, 4, 4, 4, 4, 4, 4] r34_24 k E m Q ↔ Rg Try.prog TT S 4 [4, 4, 4, 4, 4, 4, 4, 4, 4, 4, 4, 4, 4, 4, 4, 4, 4, 4, 4, 4, 4, 4] [2] [] (lgo E [] (lops Try.prog (callw Try.prog TT S) [(some 2)] (L34_24).1 E m)) k E Q := w_plain (by kernel_rfl) (L34_24).2
noncomputable def L34_25 : {l : List Oper // (opsOf r34_25).map strip = l} := by refine ⟨?l, ?h⟩; case h => simp only [r34_25, c34, bodyOf, Try.f34, Code.sub, opsOf, List.map_cons, List.map_nil, strip]; rfl
theorem w34_25 : W Try.prog TT S 4 [4, 4, 4, 4, 4, 4, 4, 4, 4, 4, 4, 4, 4, 4, 4, 4, 4, 4, 4, 4, 4, 4] r34_25 k E m Q ↔ Rg Try.prog TT S 4 [4, 4, 4, 4, 4, 4, 4, 4, 4, 4, 4, 4, 4, 4, 4, 4, 4, 4, 4, 4, 4, 4] [2] [] (lgo E [] (lops Try.prog (callw Try.prog TT S) [(some 2)] (L34_25).1 E m)) k E Q := w_plain (by kernel_rfl) (L34_25).2
theorem k34 : FnIs TT 34 c34 [.tmp 2] 1 := ⟨Try.f34, by kernel_rfl, by simp only [Try.f34, c34, bodyOf], by kernel_rfl, of_decide_eq_true (by kernel_rfl)⟩

/- turnstoneref3.text -/
noncomputable def c35 : Code := bodyOf Try.f35
noncomputable def r35_0 : Code := Code.sub [0] c35
noncomputable def r35_1 : Code := Code.sub [1, 0] c35
noncomputable def r35_2 : Code := Code.sub [1, 1, 0, 0] c35
noncomputable def r35_3 : Code := Code.sub [1, 1, 0, 1, 0, 0, 0, 0] c35
noncomputable def r35_4 : Code := Code.sub [1, 1, 0, 1, 0, 0, 1, 0, 0, 0] c35
noncomputable def r35_5 : Code := Code.sub [1, 1, 0, 1, 0, 0, 1, 0, 0, 1, 0, 0] c35
noncomputable def r35_6 : Code := Code.sub [1, 1, 0, 1, 0, 0, 1, 0, 0, 1, 0, 1, 0, 0, 0] c35
noncomputable def r35_7 : Code := Code.sub [1, 1, 0, 1, 0, 0, 1, 0, 0, 1, 0, 1, 0, 0, 1, 0, 0] c35
noncomputable def r35_8 : Code := Code.sub [1, 1, 0, 1, 0, 0, 1, 0, 0, 1, 0, 1, 0, 1, 0] c35
noncomputable def r35_9 : Code := Code.sub [1, 1, 0, 1, 0, 0, 1, 0, 0, 1, 0, 1, 1, 0] c35
noncomputable def r35_10 : Code := Code.sub [1, 1, 0, 1, 0, 0, 1, 0, 0, 1, 0, 1, 1, 1, 0, 0] c35
noncomputable def r35_11 : Code := Code.sub [1, 1, 0, 1, 0, 0, 1, 0, 0, 1, 0, 1, 1, 1, 0, 1, 0] c35
noncomputable def r35_12 : Code := Code.sub [1, 1, 0, 1, 0, 0, 1, 0, 0, 1, 0, 1, 1, 1, 0, 1, 1, 0, 0] c35
noncomputable def r35_13 : Code := Code.sub [1, 1, 0, 1, 0, 0, 1, 0, 0, 1, 0, 1, 1, 1, 0, 1, 1, 0, 1, 0, 0] c35
noncomputable def r35_14 : Code := Code.sub [1, 1, 0, 1, 0, 0, 1, 0, 0, 1, 0, 1, 1, 1, 0, 1, 1, 0, 1, 0, 1, 0, 0] c35
noncomputable def r35_15 : Code := Code.sub [1, 1, 0, 1, 0, 0, 1, 0, 0, 1, 0, 1, 1, 1, 0, 1, 1, 0, 1, 0, 1, 0, 1, 0] c35
noncomputable def r35_16 : Code := Code.sub [1, 1, 0, 1, 0, 0, 1, 0, 0, 1, 0, 1, 1, 1, 0, 1, 1, 0, 1, 0, 1, 0, 1, 1, 0] c35
noncomputable def r35_17 : Code := Code.sub [1, 1, 0, 1, 0, 0, 1, 0, 0, 1, 0, 1, 1, 1, 0, 1, 1, 0, 1, 0, 1, 0, 1, 1, 1, 0] c35
noncomputable def r35_18 : Code := Code.sub [1, 1, 0, 1, 0, 0, 1, 0, 0, 1, 0, 1, 1, 1, 0, 1, 1, 0, 1, 0, 1, 0, 1, 1, 1, 1, 0] c35
noncomputable def r35_19 : Code := Code.sub [1, 1, 0, 1, 0, 0, 1, 0, 0, 1, 0, 1, 1, 1, 0, 1, 1, 0, 1, 0, 1, 0, 1, 1, 1, 1, 1, 0] c35
noncomputable def r35_20 : Code := Code.sub [1, 1, 0, 1, 0, 0, 1, 0, 0, 1, 0, 1, 1, 1, 0, 1, 1, 0, 1, 0, 1, 0, 1, 1, 1, 1, 1, 1, 0] c35
noncomputable def r35_21 : Code := Code.sub [1, 1, 0, 1, 0, 0, 1, 0, 0, 1, 0, 1, 1, 1, 0, 1, 1, 0, 1, 0, 1, 0, 1, 1, 1, 1, 1, 1, 1, 0] c35
noncomputable def r35_22 : Code := Code.sub [1, 1, 0, 1, 0, 0, 1, 0, 0, 1, 0, 1, 1, 1, 0, 1, 1, 1, 0, 0] c35
noncomputable def r35_23 : Code := Code.sub [1, 1, 0, 1, 0, 0, 1, 0, 0, 1, 0, 1, 1, 1, 0, 1, 1, 1, 0, 1, 0, 0] c35
noncomputable def r35_24 : Code := Code.sub [1, 1, 0, 1, 0, 0, 1, 0, 0, 1, 0, 1, 1, 1, 0, 1, 1, 1, 1] c35
noncomputable def r35_25 : Code := Code.sub [1, 1, 0, 1, 0, 0, 1, 0, 0, 1, 0, 1, 1, 1, 1, 0] c35
noncomputable def r35_26 : Code := Code.sub [1, 1, 0, 1, 0, 0, 1, 0, 0, 1, 0, 1, 1, 1, 1, 1, 0, 0] c35
noncomputable def r35_27 : Code := Code.sub [1, 1, 0, 1, 0, 0, 1, 0, 0, 1, 0, 1, 1, 1, 1, 1, 1] c35
noncomputable def r35_28 : Code := Code.sub [1, 1, 0, 1, 0, 0, 1, 1] c35
noncomputable def r35_29 : Code := Code.sub [1, 1, 1, 0] c35
theorem body35 : c35 = (.seq r35_0 (.seq r35_1 (.seq (.seq r35_2 (.block 0 (.loop (.seq (.seq r35_3 (.cond (.tmp 12) .skip (.exit 0))) (.seq (.block 1 (.seq r35_4 (.block 2 (.seq r35_5 (.cond (.tmp 25) (.seq (.seq r35_6 (.cond (.tmp 30) (.seq r35_7 .ret) .skip)) (.seq r35_8 .ret)) (.seq r35_9 (.cond (.tmp 36) (.seq r35_10 (.seq r35_11 (.seq (.seq r35_12 (.cond (.tmp 44) (.seq r35_13 (.block 3 (.seq r35_14 (.cond (.tmp 48) r35_15 (.seq r35_16 (.cond (.tmp 50) r35_17 (.seq r35_18 (.cond (.tmp 52) r35_19 (.seq r35_20 (.cond (.tmp 54) r35_21 .skip)))))))))) .skip)) (.seq (.seq r35_22 (.cond (.tmp 57) (.seq r35_23 .ret) .skip)) r35_24)))) (.seq r35_25 (.cond (.tmp 62) (.seq r35_26 .ret) r35_27))))))))) r35_28))))) (.seq r35_29 .ret)))) := by kernel_rfl
noncomputable def L35_0 : {l : List Oper // (opsOf r35_0).map strip = l} := by refine ⟨?l, ?h⟩; case h => simp only [r35_0, c35, bodyOf, Try.f35, Code.sub, opsOf, List.map_cons, List.map_nil, strip]; rfl
theorem w35_0 : W Try.prog TT S 48 [48, 50, 52, 54, 57, 62] r35_0 k E m Q ↔ Rg Try.prog TT S 48 [48, 50, 52, 54, 57, 62] [2, 3, 4] [] (lgo E [] (lops Try.prog (callw Try.prog TT S) [(some 2), (some 3), (some 4)] (L35_0).1 E m)) k E Q := w_plain (by kernel_rfl) (L35_0).2
noncomputable def L35_1 : {l : List Oper // (opsOf r35_1).map strip = l} := by refine ⟨?l, ?h⟩; case h => simp only [r35_1, c35, bodyOf, Try.f35, Code.sub, opsOf, List.map_cons, List.map_nil, strip]; rfl
theorem w35_1 : W Try.prog TT S 48 [48, 50, 52, 54, 57, 62] r35_1 k E m Q ↔ Rg Try.prog TT S 48 [48, 50, 52, 54, 57, 62] [5] [] (lgo E [] (lops Try.prog (callw Try.prog TT S) [(some 5)] (L35_1).1 E m)) k E Q := w_plain (by kernel_rfl) (L35_1).2
noncomputable def L35_2 : {l : List Oper // (opsOf r35_2).map strip = l} := by refine ⟨?l, ?h⟩; case h => simp only [r35_2, c35, bodyOf, Try.f35, Code.sub, opsOf, List.map_cons, List.map_nil, strip]; rfl
theorem w35_2 : W Try.prog TT S 48 [48, 50, 52, 54, 57, 62] r35_2 k E m Q ↔ Rg Try.prog TT S 48 [48, 50, 52, 54, 57, 62] [6] [] (lgo E [] (lops Try.prog (callw Try.prog TT S) [(some 6)] (L35_2).1 E m)) k E Q := w_plain (by kernel_rfl) (L35_2).2
noncomputable def L35_3 : {l : List Oper // (opsOf r35_3).map strip = l} := by refine ⟨?l, ?h⟩; case h => simp only [r35_3, c35, bodyOf, Try.f35, Code.sub, opsOf, List.map_cons, List.map_nil, strip]; rfl
theorem w35_3 : W Try.prog TT S 48 [48, 50, 52, 54, 57, 62] r35_3 k E m Q ↔ Rg Try.prog TT S 48 [48, 50, 52, 54, 57, 62] [9, 10, 11, 12] [] (lgo E [6, 0] (lops Try.prog (callw Try.prog TT S) [(some 9), (some 10), (some 11), (some 12)] (L35_3).1 E m)) k E Q := w_plain (by kernel_rfl) (L35_3).2
noncomputable def L35_4 : {l : List Oper // (opsOf r35_4).map strip = l} := by refine ⟨?l, ?h⟩; case h => simp only [r35_4, c35, bodyOf, Try.f35, Code.sub, opsOf, List.map_cons, List.map_nil, strip]; rfl
theorem w35_4 : W Try.prog TT S 48 [48, 50, 52, 54, 57, 62] r35_4 k E m Q ↔ Rg Try.prog TT S 48 [48, 50, 52, 54, 57, 62] [15, 16, 17, 7] [] (lgo E [0, 6] (lops Try.prog (callw Try.prog TT S) [(some 15), (some 16), (some 17), (some 7)] (L35_4).1 E m)) k E Q := w_plain (by kernel_rfl) (L35_4).2
noncomputable def L35_5 : {l : List Oper // (opsOf r35_5).map strip = l} := by refine ⟨?l, ?h⟩; case h => simp only [r35_5, c35, bodyOf, Try.f35, Code.sub, opsOf, List.map_cons, List.map_nil, strip]; rfl
theorem w35_5 : W Try.prog TT S 48 [48, 50, 52, 54, 57, 62] r35_5 k E m Q ↔ Rg Try.prog TT S 48 [48, 50, 52, 54, 57, 62] [26, 27, 25] [] (lgo E [7] (lops Try.prog (callw Try.prog TT S) [(some 26), (some 27), (some 25)] (L35_5).1 E m)) k E Q := w_plain (by kernel_rfl) (L35_5).2
noncomputable def L35_6 : {l : List Oper // (opsOf r35_6).map strip = l} := by refine ⟨?l, ?h⟩; case h => simp only [r35_6, c35, bodyOf, Try.f35, Code.sub, opsOf, List.map_cons, List.map_nil, strip]; rfl
theorem w35_6 : W Try.prog TT S 48 [48, 50, 52, 54, 57, 62] r35_6 k E m Q ↔ Rg Try.prog TT S 48 [48, 50, 52, 54, 57, 62] [28, 29, 30] [] (lgo E [5] (lops Try.prog (callw Try.prog TT S) [(some 28), (some 29), (some 30)] (L35_6).1 E m)) k E Q := w_plain (by kernel_rfl) (L35_6).2
noncomputable def L35_7 : {l : List Oper // (opsOf r35_7).map strip = l} := by refine ⟨?l, ?h⟩; case h => simp only [r35_7, c35, bodyOf, Try.f35, Code.sub, opsOf, List.map_cons, List.map_nil, strip]; rfl
theorem w35_7 : W Try.prog TT S 48 [48, 50, 52, 54, 57, 62] r35_7 k E m Q ↔ Rg Try.prog TT S 48 [48, 50, 52, 54, 57, 62] [31, 3, 4] [] (lgo E [2] (lops Try.prog (callw Try.prog TT S) [(some 31), none, (some 3), (some 4)] (L35_7).1 E m)) k E Q := w_plain (by kernel_rfl) (L35_7).2
noncomputable def L35_8 : {l : List Oper // (opsOf r35_8).map strip = l} := by refine ⟨?l, ?h⟩; case h => simp only [r35_8, c35, bodyOf, Try.f35, Code.sub, opsOf, List.map_cons, List.map_nil, strip]; rfl
theorem w35_8 : W Try.prog TT S 48 [48, 50, 52, 54, 57, 62] r35_8 k E m Q ↔ Rg Try.prog TT S 48 [48, 50, 52, 54, 57, 62] [32, 33, 34, 35, 3, 4] [] (lgo E [5, 6, 2] (lops Try.prog (callw Try.prog TT S) [(some 32), (some 33), (some 34), (some 35), none, (some 3), (some 4)] (L35_8).1 E m)) k E Q := w_plain (by kernel_rfl) (L35_8).2
noncomputable def L35_9 : {l : List Oper // (opsOf r35_9).map strip = l} := by refine ⟨?l, ?h⟩; case h => simp only [r35_9, c35, bodyOf, Try.f35, Code.sub, opsOf, List.map_cons, List.map_nil, strip]; rfl
theorem w35_9 : W Try.prog TT S 48 [48, 50, 52, 54, 57, 62] r35_9 k E m Q ↔ Rg Try.prog TT S 48 [48, 50, 52, 54, 57, 62] [37, 38, 36] [] (lgo E [7] (lops Try.prog (callw Try.prog TT S) [(some 37), (some 38), (some 36)] (L35_9).1 E m)) k E Q := w_plain (by kernel_rfl) (L35_9).2
noncomputable def L35_10 : {l : List Oper // (opsOf r35_10).map strip = l} := by refine ⟨?l, ?h⟩; case h => simp only [r35_10, c35, bodyOf, Try.f35, Code.sub, opsOf, List.map_cons, List.map_nil, strip]; rfl
theorem w35_10 : W Try.prog TT S 48 [48, 50, 52, 54, 57, 62] r35_10 k E m Q ↔ Rg Try.prog TT S 48 [48, 50, 52, 54, 57, 62] [39, 40, 6] [] (lgo E [6] (lops Try.prog (callw Try.prog TT S) [(some 39), (some 40), (some 6)] (L35_10).1 E m)) k E Q := w_plain (by kernel_rfl) (L35_10).2
noncomputable def L35_11 : {l : List Oper // (opsOf r35_11).map strip = l} := by refine ⟨?l, ?h⟩; case h => simp only [r35_11, c35, bodyOf, Try.f35, Code.sub, opsOf, List.map_cons, List.map_nil, strip]; rfl
theorem w35_11 : W Try.prog TT S 48 [48, 50, 52, 54, 57, 62] r35_11 k E m Q ↔ Rg Try.prog TT S 48 [48, 50, 52, 54, 57, 62] [8] [] (lgo E [] (lops Try.prog (callw Try.prog TT S) [(some 8)] (L35_11).1 E m)) k E Q := w_plain (by kernel_rfl) (L35_11).2
noncomputable def L35_12 : {l : List Oper // (opsOf r35_12).map strip = l} := by refine ⟨?l, ?h⟩; case h => simp only [r35_12, c35, bodyOf, Try.f35, Code.sub, opsOf, List.map_cons, List.map_nil, strip]; rfl
theorem w35_12 : W Try.prog TT S 48 [48, 50, 52, 54, 57, 62] r35_12 k E m Q ↔ Rg Try.prog TT S 48 [48, 50, 52, 54, 57, 62] [41, 42, 43, 44] [] (lgo E [6, 0] (lops Try.prog (callw Try.prog TT S) [(some 41), (some 42), (some 43), (some 44)] (L35_12).1 E m)) k E Q := w_plain (by kernel_rfl) (L35_12).2
noncomputable def L35_13 : {l : List Oper // (opsOf r35_13).map strip = l} := by refine ⟨?l, ?h⟩; case h => simp only [r35_13, c35, bodyOf, Try.f35, Code.sub, opsOf, List.map_cons, List.map_nil, strip]; rfl
theorem w35_13 : W Try.prog TT S 48 [48, 50, 52, 54, 57, 62] r35_13 k E m Q ↔ Rg Try.prog TT S 48 [48, 50, 52, 54, 57, 62] [45, 46, 47] [] (lgo E [0, 6] (lops Try.prog (callw Try.prog TT S) [(some 45), (some 46), (some 47)] (L35_13).1 E m)) k E Q := w_plain (by kernel_rfl) (L35_13).2
noncomputable def L35_14 : {l : List Oper // (opsOf r35_14).map strip = l} := by refine ⟨?l, ?h⟩; case h => simp only [r35_14, c35, bodyOf, Try.f35, Code.sub, opsOf, List.map_cons, List.map_nil, strip]; rfl
theorem w35_14 : W Try.prog TT S 48 [48, 50, 52, 54, 57, 62] r35_14 k E m Q ↔ Rg Try.prog TT S 48 [48, 50, 52, 54, 57, 62] [] [48] (lgo E [47] (lops Try.prog (callw Try.prog TT S) [(some 49), (some 48)] (L35_14).1 E m)) k E Q := w_plain (by kernel_rfl) (L35_14).2
noncomputable def L35_15 : {l : List Oper // (opsOf r35_15).map strip = l} := by refine ⟨?l, ?h⟩; case h => simp only [r35_15, c35, bodyOf, Try.f35, Code.sub, opsOf, List.map_cons, List.map_nil, strip]; rfl
theorem w35_15 : W Try.prog TT S 48 [48, 50, 52, 54, 57, 62] r35_15 k E m Q ↔ Rg Try.prog TT S 48 [48, 50, 52, 54, 57, 62] [8] [] (lgo E [] (lops Try.prog (callw Try.prog TT S) [(some 8)] (L35_15).1 E m)) k E Q := w_plain (by kernel_rfl) (L35_15).2
noncomputable def L35_16 : {l : List Oper // (opsOf r35_16).map strip = l} := by refine ⟨?l, ?h⟩; case h => simp only [r35_16, c35, bodyOf, Try.f35, Code.sub, opsOf, List.map_cons, List.map_nil, strip]; rfl
theorem w35_16 : W Try.prog TT S 48 [48, 50, 52, 54, 57, 62] r35_16 k E m Q ↔ Rg Try.prog TT S 48 [48, 50, 52, 54, 57, 62] [] [50] (lgo E [47] (lops Try.prog (callw Try.prog TT S) [(some 51), (some 50)] (L35_16).1 E m)) k E Q := w_plain (by kernel_rfl) (L35_16).2
noncomputable def L35_17 : {l : List Oper // (opsOf r35_17).map strip = l} := by refine ⟨?l, ?h⟩; case h => simp only [r35_17, c35, bodyOf, Try.f35, Code.sub, opsOf, List.map_cons, List.map_nil, strip]; rfl
theorem w35_17 : W Try.prog TT S 48 [48, 50, 52, 54, 57, 62] r35_17 k E m Q ↔ Rg Try.prog TT S 48 [48, 50, 52, 54, 57, 62] [8] [] (lgo E [] (lops Try.prog (callw Try.prog TT S) [(some 8)] (L35_17).1 E m)) k E Q := w_plain (by kernel_rfl) (L35_17).2
noncomputable def L35_18 : {l : List Oper // (opsOf r35_18).map strip = l} := by refine ⟨?l, ?h⟩; case h => simp only [r35_18, c35, bodyOf, Try.f35, Code.sub, opsOf, List.map_cons, List.map_nil, strip]; rfl
theorem w35_18 : W Try.prog TT S 48 [48, 50, 52, 54, 57, 62] r35_18 k E m Q ↔ Rg Try.prog TT S 48 [48, 50, 52, 54, 57, 62] [] [52] (lgo E [47] (lops Try.prog (callw Try.prog TT S) [(some 53), (some 52)] (L35_18).1 E m)) k E Q := w_plain (by kernel_rfl) (L35_18).2
noncomputable def L35_19 : {l : List Oper // (opsOf r35_19).map strip = l} := by refine ⟨?l, ?h⟩; case h => simp only [r35_19, c35, bodyOf, Try.f35, Code.sub, opsOf, List.map_cons, List.map_nil, strip]; rfl
theorem w35_19 : W Try.prog TT S 48 [48, 50, 52, 54, 57, 62] r35_19 k E m Q ↔ Rg Try.prog TT S 48 [48, 50, 52, 54, 57, 62] [8] [] (lgo E [] (lops Try.prog (callw Try.prog TT S) [(some 8)] (L35_19).1 E m)) k E Q := w_plain (by kernel_rfl) (L35_19).2
noncomputable def L35_20 : {l : List Oper // (opsOf r35_20).map strip = l} := by refine ⟨?l, ?h⟩; case h => simp only [r35_20, c35, bodyOf, Try.f35, Code.sub, opsOf, List.map_cons, List.map_nil, strip]; rfl
theorem w35_20 : W Try.prog TT S 48 [48, 50, 52, 54, 57, 62] r35_20 k E m Q ↔ Rg Try.prog TT S 48 [48, 50, 52, 54, 57, 62] [] [54] (lgo E [47] (lops Try.prog (callw Try.prog TT S) [(some 55), (some 54)] (L35_20).1 E m)) k E Q := w_plain (by kernel_rfl) (L35_20).2
noncomputable def L35_21 : {l : List Oper // (opsOf r35_21).map strip = l} := by refine ⟨?l, ?h⟩; case h => simp only [r35_21, c35, bodyOf, Try.f35, Code.sub, opsOf, List.map_cons, List.map_nil, strip]; rfl
theorem w35_21 : W Try.prog TT S 48 [48, 50, 52, 54, 57, 62] r35_21 k E m Q ↔ Rg Try.prog TT S 48 [48, 50, 52, 54, 57, 62] [8] [] (lgo E [] (lops Try.prog (callw Try.prog TT S) [(some 8)] (L35_21).1 E m)) k E Q := w_plain (by kernel_rfl) (L35_21).2
noncomputable def L35_22 : {l : List Oper // (opsOf r35_22).map strip = l} := by refine ⟨?l, ?h⟩; case h => simp only [r35_22, c35, bodyOf, Try.f35, Code.sub, opsOf, List.map_cons, List.map_nil, strip]; rfl
theorem w35_22 : W Try.prog TT S 48 [48, 50, 52, 54, 57, 62] r35_22 k E m Q ↔ Rg Try.prog TT S 48 [48, 50, 52, 54, 57, 62] [] [57] (lgo E [8] (lops Try.prog (callw Try.prog TT S) [(some 56), (some 57)] (L35_22).1 E m)) k E Q := w_plain (by kernel_rfl) (L35_22).2
noncomputable def L35_23 : {l : List Oper // (opsOf r35_23).map strip = l} := by refine ⟨?l, ?h⟩; case h => simp only [r35_23, c35, bodyOf, Try.f35, Code.sub, opsOf, List.map_cons, List.map_nil, strip]; rfl
theorem w35_23 : W Try.prog TT S 48 [48, 50, 52, 54, 57, 62] r35_23 k E m Q ↔ Rg Try.prog TT S 48 [48, 50, 52, 54, 57, 62] [3, 4] [] (lgo E [2] (lops Try.prog (callw Try.prog TT S) [(some 58), none, (some 3), (some 4)] (L35_23).1 E m)) k E Q := w_plain (by kernel_rfl) (L35_23).2
noncomputable def L35_24 : {l : List Oper // (opsOf r35_24).map strip = l} := by refine ⟨?l, ?h⟩; case h => simp only [r35_24, c35, bodyOf, Try.f35, Code.sub, opsOf, List.map_cons, List.map_nil, strip]; rfl
theorem w35_24 : W Try.prog TT S 48 [48, 50, 52, 54, 57, 62] r35_24 k E m Q ↔ Rg Try.prog TT S 48 [48, 50, 52, 54, 57, 62] [5] [] (lgo E [5, 8] (lops Try.prog (callw Try.prog TT S) [(some 59), (some 60), (some 61), (some 5)] (L35_24).1 E m)) k E Q := w_plain (by kernel_rfl) (L35_24).2
noncomputable def L35_25 : {l : List Oper // (opsOf r35_25).map strip = l} := by refine ⟨?l, ?h⟩; case h => simp only [r35_25, c35, bodyOf, Try.f35, Code.sub, opsOf, List.map_cons, List.map_nil, strip]; rfl
theorem w35_25 : W Try.prog TT S 48 [48, 50, 52, 54, 57, 62] r35_25 k E m Q ↔ Rg Try.prog TT S 48 [48, 50, 52, 54, 57, 62] [] [62] (lgo E [7] (lops Try.prog (callw Try.prog TT S) [(some 63), (some 64), (some 65), (some 66), (some 67), (some 68), (some 62)] (L35_25).1 E m)) k E Q := w_plain (by kernel_rfl) (L35_25).2
noncomputable def L35_26 : {l : List Oper // (opsOf r35_26).map strip = l} := by refine ⟨?l, ?h⟩; case h => simp only [r35_26, c35, bodyOf, Try.f35, Code.sub, opsOf, List.map_cons, List.map_nil, strip]; rfl
theorem w35_26 : W Try.prog TT S 48 [48, 50, 52, 54, 57, 62] r35_26 k E m Q ↔ Rg Try.prog TT S 48 [48, 50, 52, 54, 57, 62] [3, 4] [] (lgo E [2] (lops Try.prog (callw Try.prog TT S) [(some 69), none, (some 3), (some 4)] (L35_26).1 E m)) k E Q := w_plain (by kernel_rfl) (L35_26).2
noncomputable def L35_27 : {l : List Oper // (opsOf r35_27).map strip = l} := by refine ⟨?l, ?h⟩; case h => simp only [r35_27, c35, bodyOf, Try.f35, Code.sub, opsOf, List.map_cons, List.map_nil, strip]; rfl
theorem w35_27 : W Try.prog TT S 48 [48, 50, 52, 54, 57, 62] r35_27 k E m Q ↔ Rg Try.prog TT S 48 [48, 50, 52, 54, 57, 62] [18, 19, 20, 21, 22, 23, 24, 5] [] (lgo E [5, 0, 6] (lops Try.prog (callw Try.prog TT S) [(some 18), (some 19), (some 20), (some 21), (some 22), (some 23), (some 24), (some 5)] (L35_27).1 E m)) k E Q := w_plain (by kernel_rfl) (L35_27).2
noncomputable def L35_28 : {l : List Oper // (opsOf r35_28).map strip = l} := by refine ⟨?l, ?h⟩; case h => simp only [r35_28, c35, bodyOf, Try.f35, Code.sub, opsOf, List.map_cons, List.map_nil, strip]; rfl
theorem w35_28 : W Try.prog TT S 48 [48, 50, 52, 54, 57, 62] r35_28 k E m Q ↔ Rg Try.prog TT S 48 [48, 50, 52, 54, 57, 62] [13, 14, 6] [] (lgo E [6] (lops Try.prog (callw Try.prog TT S) [(some 13), (some 14), (some 6)] (L35_28).1 E m)) k E Q := w_plain (by kernel_rfl) (L35_28).2
noncomputable def L35_29 : {l : List Oper // (opsOf r35_29).map strip = l} := by refine ⟨?l, ?h⟩; case h => simp only [r35_29, c35, bodyOf, Try.f35, Code.sub, opsOf, List.map_cons, List.map_nil, strip]; rfl
theorem w35_29 : W Try.prog TT S 48 [48, 50, 52, 54, 57, 62] r35_29 k E m Q ↔ Rg Try.prog TT S 48 [48, 50, 52, 54, 57, 62] [3, 4] [] (lgo E [2] (lops Try.prog (callw Try.prog TT S) [(some 70), none, (some 3), (some 4)] (L35_29).1 E m)) k E Q := w_plain (by kernel_rfl) (L35_29).2
theorem k35 : FnIs TT 35 c35 [.cell 2 34, .tmp 3, .tmp 4] 1 := ⟨Try.f35, by kernel_rfl, by simp only [Try.f35, c35, bodyOf], by kernel_rfl, of_decide_eq_true (by kernel_rfl)⟩

/- (*token.scanner).fault -/
noncomputable def c36 : Code := bodyOf Try.f36
noncomputable def r36_0 : Code := Code.sub [0] c36
noncomputable def r36_1 : Code := Code.sub [1, 0] c36
theorem body36 : c36 = (.seq r36_0 (.cond (.tmp 8) r36_1 .skip)) := by kernel_rfl
noncomputable def L36_0 : {l : List Oper // (opsOf r36_0).map strip = l} := by refine ⟨?l, ?h⟩; case h => simp only [r36_0, c36, bodyOf, Try.f36, Code.sub, opsOf, List.map_cons, List.map_nil, strip]; rfl
theorem w36_0 : W Try.prog TT S 2 [8] r36_0 k E m Q ↔ Rg Try.prog TT S 2 [8] [] [8] (lgo E [0] (lops Try.prog (callw Try.prog TT S) [(some 4), (some 5), (some 6), (some 7), (some 8)] (L36_0).1 E m)) k E Q := w_plain (by kernel_rfl) (L36_0).2
theorem can36_1 : canonOps (opsOf r36_1) = opsOf r36_1 := by kernel_rfl
noncomputable def L36_1 : {l : List Oper // (canonOps (opsOf r36_1)).map strip = l} := by refine ⟨?l, (congrArg (List.map strip) can36_1).trans ?h⟩; case h => simp only [r36_1, c36, bodyOf, Try.f36, Code.sub, opsOf, List.map_cons, List.map_nil, strip]; rfl
theorem w36_1 : W Try.prog TT S 2 [8] r36_1 k E m Q ↔ Rg Try.prog TT S 2 [8] [] [] (lgo E [1, 0] (lloud Try.prog (callw Try.prog TT S) [(some 9), (some 10), (some 11), (some 12), (some 13), (some 14), (some 15), (some 16), (some 17), (some 18), (some 19), (some 20), (some 21), (some 22), none, (some 23), (some 24), none] (L36_1).1 [(6, [14]), (10, [14])] (lstates Try.prog (callw Try.prog TT S) [(some 9), (some 10), (some 11), (some 12), (some 13), (some 14), (some 15), (some 16), (some 17), (some 18), (some 19), (some 20), (some 21), (some 22), none, (some 23), (some 24), none] (L36_1).1 E m))) k E Q := w_loud (by kernel_rfl) (L36_1).2
theorem k36 : FnIs TT 36 c36 [] 2 := ⟨Try.f36, by kernel_rfl, by simp only [Try.f36, c36, bodyOf], by kernel_rfl, of_decide_eq_true (by kernel_rfl)⟩

/- token.escape -/
noncomputable def c37 : Code := bodyOf Try.f37
noncomputable def r37_0 : Code := Code.sub [0] c37
noncomputable def r37_1 : Code := Code.sub [1, 0, 0] c37
noncomputable def r37_2 : Code := Code.sub [1, 0, 1, 0, 0] c37
noncomputable def r37_3 : Code := Code.sub [1, 0, 1, 0, 1, 0, 0] c37
noncomputable def r37_4 : Code := Code.sub [1, 0, 1, 0, 1, 1, 0] c37
noncomputable def r37_5 : Code := Code.sub [1, 0, 1, 0, 1, 1, 1, 0, 0] c37
noncomputable def r37_6 : Code := Code.sub [1, 0, 1, 0, 1, 1, 1, 1, 0, 0] c37
noncomputable def r37_7 : Code := Code.sub [1, 0, 1, 0, 1, 1, 1, 1, 0, 1, 1] c37
noncomputable def r37_8 : Code := Code.sub [1, 0, 1, 0, 1, 1, 1, 1, 1, 0, 0] c37
noncomputable def r37_9 : Code := Code.sub [1, 1, 0] c37
theorem body37 : c37 = (.seq r37_0 (.seq (.seq r37_1 (.block 0 (.seq r37_2 (.cond (.tmp 5) (.seq r37_3 .ret) (.seq r37_4 (.cond (.tmp 7) (.seq r37_5 .ret) (.seq (.seq r37_6 (.cond (.tmp 9) .skip r37_7)) (.cond (.tmp 9) (.seq r37_8 .ret) .skip)))))))) (.seq r37_9 .ret))) := by kernel_rfl
noncomputable def L37_0 : {l : List Oper // (opsOf r37_0).map strip = l} := by refine ⟨?l, ?h⟩; case h => simp only [r37_0, c37, bodyOf, Try.f37, Code.sub, opsOf, List.map_cons, List.map_nil, strip]; rfl
theorem w37_0 : W Try.prog TT S 5 [5, 7, 9, 9] r37_0 k E m Q ↔ Rg Try.prog TT S 5 [5, 7, 9, 9] [2, 3] [] (lgo E [] (lops Try.prog (callw Try.prog TT S) [(some 2), (some 3)] (L37_0).1 E m)) k E Q := w_plain (by kernel_rfl) (L37_0).2
noncomputable def L37_1 : {l : List Oper // (opsOf r37_1).map strip = l} := by refine ⟨?l, ?h⟩; case h => simp only [r37_1, c37, bodyOf, Try.f37, Code.sub, opsOf, List.map_cons, List.map_nil, strip]; rfl
theorem w37_1 : W Try.prog TT S 5 [5, 7, 9, 9] r37_1 k E m Q ↔ Rg Try.prog TT S 5 [5, 7, 9, 9] [4] [] (lgo E [0] (lops Try.prog (callw Try.prog TT S) [(some 4)] (L37_1).1 E m)) k E Q := w_plain (by kernel_rfl) (L37_1).2
noncomputable def L37_2 : {l : List Oper // (opsOf r37_2).map strip = l} := by refine ⟨?l, ?h⟩; case h => simp only [r37_2, c37, bodyOf, Try.f37, Code.sub, opsOf, List.map_cons, List.map_nil, strip]; rfl
theorem w37_2 : W Try.prog TT S 5 [5, 7, 9, 9] r37_2 k E m Q ↔ Rg Try.prog TT S 5 [5, 7, 9, 9] [] [5] (lgo E [4] (lops Try.prog (callw Try.prog TT S) [(some 6), (some 5)] (L37_2).1 E m)) k E Q := w_plain (by kernel_rfl) (L37_2).2
noncomputable def L37_3 : {l : List Oper // (opsOf r37_3).map strip = l} := by refine ⟨?l, ?h⟩; case h => simp only [r37_3, c37, bodyOf, Try.f37, Code.sub, opsOf, List.map_cons, List.map_nil, strip]; rfl
theorem w37_3 : W Try.prog TT S 5 [5, 7, 9, 9] r37_3 k E m Q ↔ Rg Try.prog TT S 5 [5, 7, 9, 9] [2, 3] [] (lgo E [] (lops Try.prog (callw Try.prog TT S) [(some 2), (some 3)] (L37_3).1 E m)) k E Q := w_plain (by kernel_rfl) (L37_3).2
noncomputable def L37_4 : {l : List Oper // (opsOf r37_4).map strip = l} := by refine ⟨?l, ?h⟩; case h => simp only [r37_4, c37, bodyOf, Try.f37, Code.sub, opsOf, List.map_cons, List.map_nil, strip]; rfl
theorem w37_4 : W Try.prog TT S 5 [5, 7, 9, 9] r37_4 k E m Q ↔ Rg Try.prog TT S 5 [5, 7, 9, 9] [] [7] (lgo E [4] (lops Try.prog (callw Try.prog TT S) [(some 8), (some 7)] (L37_4).1 E m)) k E Q := w_plain (by kernel_rfl) (L37_4).2
noncomputable def L37_5 : {l : List Oper // (opsOf r37_5).map strip = l} := by refine ⟨?l, ?h⟩; case h => simp only [r37_5, c37, bodyOf, Try.f37, Code.sub, opsOf, List.map_cons, List.map_nil, strip]; rfl
theorem w37_5 : W Try.prog TT S 5 [5, 7, 9, 9] r37_5 k E m Q ↔ Rg Try.prog TT S 5 [5, 7, 9, 9] [2, 3] [] (lgo E [] (lops Try.prog (callw Try.prog TT S) [(some 2), (some 3)] (L37_5).1 E m)) k E Q := w_plain (by kernel_rfl) (L37_5).2
noncomputable def L37_6 : {l : List Oper // (opsOf r37_6).map strip = l} := by refine ⟨?l, ?h⟩; case h => simp only [r37_6, c37, bodyOf, Try.f37, Code.sub, opsOf, List.map_cons, List.map_nil, strip]; rfl
theorem w37_6 : W Try.prog TT S 5 [5, 7, 9, 9] r37_6 k E m Q ↔ Rg Try.prog TT S 5 [5, 7, 9, 9] [] [9] (lgo E [4] (lops Try.prog (callw Try.prog TT S) [(some 10), (some 9)] (L37_6).1 E m)) k E Q := w_plain (by kernel_rfl) (L37_6).2
noncomputable def L37_7 : {l : List Oper // (opsOf r37_7).map strip = l} := by refine ⟨?l, ?h⟩; case h => simp only [r37_7, c37, bodyOf, Try.f37, Code.sub, opsOf, List.map_cons, List.map_nil, strip]; rfl
theorem w37_7 : W Try.prog TT S 5 [5, 7, 9, 9] r37_7 k E m Q ↔ Rg Try.prog TT S 5 [5, 7, 9, 9] [] [9] (lgo E [4] (lops Try.prog (callw Try.prog TT S) [(some 11), (some 9)] (L37_7).1 E m)) k E Q := w_plain (by kernel_rfl) (L37_7).2
noncomputable def L37_8 : {l : List Oper // (opsOf r37_8).map strip = l} := by refine ⟨?l, ?h⟩; case h => simp only [r37_8, c37, bodyOf, Try.f37, Code.sub, opsOf, List.map_cons, List.map_nil, strip]; rfl
theorem w37_8 : W Try.prog TT S 5 [5, 7, 9, 9] r37_8 k E m Q ↔ Rg Try.prog TT S 5 [5, 7, 9, 9] [2, 3] [] (lgo E [0] (lops Try.prog (callw Try.prog TT S) [(some 12), (some 2), (some 3)] (L37_8).1 E m)) k E Q := w_plain (by kernel_rfl) (L37_8).2
noncomputable def L37_9 : {l : List Oper // (opsOf r37_9).map strip = l} := by refine ⟨?l, ?h⟩; case h => simp only [r37_9, c37, bodyOf, Try.f37, Code.sub, opsOf, List.map_cons, List.map_nil, strip]; rfl
theorem w37_9 : W Try.prog TT S 5 [5, 7, 9, 9] r37_9 k E m Q ↔ Rg Try.prog TT S 5 [5, 7, 9, 9] [2, 3] [] (lgo E [] (lops Try.prog (callw Try.prog TT S) [(some 2), (some 3)] (L37_9).1 E m)) k E Q := w_plain (by kernel_rfl) (L37_9).2
theorem k37 : FnIs TT 37 c37 [.tmp 2, .tmp 3] 1 := ⟨Try.f37, by kernel_rfl, by simp only [Try.f37, c37, bodyOf], by kernel_rfl, of_decide_eq_true (by kernel_rfl)⟩

/- what rewriting uses in the walks -/
attribute [simp] w_seq w_cond_tmp w_ret w_skip w_exit w_block w_loop r_nil r_seq r_seq_ret r_seq_exit r_block
attribute [simp] r_block_ret r_block_exit r_loop r_loop_ret r_loop_exit cnd_t cnd_f rg_some lgo_n lgo_c lops_nil lops_cons
attribute [simp] lk_some lop1_plain lop1_guard gdv_b gdv_u gd_tt gd_ff gd_tf gd_ft lput_s lput_n lev_t
attribute [simp] lev_c lev_g lev_f lget_n lget_c lset_n lset_c lkeep_n lkeep_c lsets_n lsets_c lconds_n
attribute [simp] lconds_c lfill qf_d okx lresults lresultsL lres_tmp o_move o_assign o_bin o_pick o_nilCheck
attribute [simp] o_fieldAddr o_load o_len o_store o_conv o_un o_extract o_append o_call2 o_callv o_buildSlice o_box
attribute [simp] o_alloc o_build o_indexAddr o_slice o_index o_field o_makeFunc o_makeSlice o_min o_max loOf_none loOf_some
attribute [simp] hiOf_none hiOf_some natOf_int sliceS_some strOp sz_str cat_str list_str s_binOp fastBin s_unOp fastUn
attribute [simp] boolEq int_beq int_bne txt_beq one_int one_slice one_ptr one_bool one_str cells_int cells_slice cells_ptr
attribute [simp] cells_bool cells_str cells_agg flatEq_n flatEq_c ba_beq closedA_l closedL_n closedL_c closedV_int closedV_str closedV_bool
attribute [simp] loadRow_new window over Instr.fill repl lst_nil lst_cons lks_some lkc_some lloud_some lreads_n lreads_c
attribute [simp] lsame_d eqV_int eqV_slice eqV_ptr eqV_agg eqL_n eqL_c eqV_str eqV_bool eqV_undef
attribute [simp] body6 w6_0 L6_0 w6_1 L6_1 w6_2 L6_2 w6_3 L6_3 w6_4 L6_4 w6_5 L6_5 w6_6 L6_6 w6_7 L6_7 w6_8 L6_8 w6_9 L6_9 w6_10 L6_10 w6_11 L6_11 w6_12 L6_12 w6_13 L6_13 w6_14 L6_14 w6_15 L6_15 w6_16 L6_16 w6_17 L6_17 w6_18 L6_18 w6_19 L6_19 w6_20 L6_20 w6_21 L6_21 w6_22 L6_22 w6_23 L6_23 w6_24 L6_24 w6_25 L6_25 w6_26 L6_26 w6_27 L6_27 w6_28 L6_28
attribute [simp] body9 w9_0 L9_0 w9_1 L9_1 w9_2 L9_2 w9_3 L9_3
attribute [simp] body10 w10_0 L10_0 w10_1 L10_1 w10_2 L10_2 w10_3 L10_3 w10_4 L10_4
attribute [simp] body11 w11_0 L11_0 w11_1 L11_1 w11_2 L11_2 w11_3 L11_3 w11_4 L11_4 w11_5 L11_5 w11_6 L11_6 w11_7 L11_7 w11_8 L11_8 w11_9 L11_9 w11_10 L11_10 w11_11 L11_11 w11_12 L11_12
attribute [simp] body12 w12_0 L12_0 w12_1 L12_1 w12_2 L12_2 w12_3 L12_3 w12_4 L12_4 w12_5 L12_5 w12_6 L12_6 w12_7 L12_7 w12_8 L12_8 w12_9 L12_9 w12_10 L12_10 w12_11 L12_11 w12_12 L12_12 w12_13 L12_13 w12_14 L12_14 w12_15 L12_15 w12_16 L12_16 w12_17 L12_17 w12_18 L12_18 w12_19 L12_19 w12_20 L12_20 w12_21 L12_21 w12_22 L12_22 w12_23 L12_23 w12_24 L12_24 w12_25 L12_25
attribute [simp] body14 w14_0 L14_0 w14_1 L14_1 w14_2 L14_2 w14_3 L14_3 w14_4 L14_4 w14_5 L14_5 w14_6 L14_6 w14_7 L14_7 w14_8 L14_8 w14_9 L14_9 w14_10 L14_10 w14_11 L14_11 w14_12 L14_12 w14_13 L14_13 w14_14 L14_14 w14_15 L14_15 w14_16 L14_16 w14_17 L14_17 w14_18 L14_18 w14_19 L14_19 w14_20 L14_20 w14_21 L14_21 w14_22 L14_22 w14_23 L14_23 w14_24 L14_24 w14_25 L14_25 w14_26 L14_26 w14_27 L14_27 w14_28 L14_28 w14_29 L14_29 w14_30 L14_30 w14_31 L14_31 w14_32 L14_32 w14_33 L14_33 w14_34 L14_34 w14_35 L14_35
attribute [simp] body15 w15_0 L15_0 w15_1 L15_1 w15_2 L15_2 w15_3 L15_3 w15_4 L15_4 w15_5 L15_5 w15_6 L15_6 w15_7 L15_7 w15_8 L15_8
attribute [simp] body16 w16_0 L16_0 w16_1 L16_1 w16_2 L16_2 w16_3 L16_3 w16_4 L16_4 w16_5 L16_5 w16_6 L16_6 w16_7 L16_7 w16_8 L16_8 w16_9 L16_9 w16_10 L16_10 w16_11 L16_11 w16_12 L16_12 w16_13 L16_13 w16_14 L16_14 w16_15 L16_15 w16_16 L16_16 w16_17 L16_17
attribute [simp] body17 w17_0 L17_0 w17_1 L17_1 w17_2 L17_2 w17_3 L17_3 w17_4 L17_4 w17_5 L17_5 w17_6 L17_6 w17_7 L17_7 w17_8 L17_8 w17_9 L17_9 w17_10 L17_10 w17_11 L17_11 w17_12 L17_12 w17_13 L17_13 w17_14 L17_14 w17_15 L17_15 w17_16 L17_16 w17_17 L17_17 w17_18 L17_18 w17_19 L17_19 w17_20 L17_20 w17_21 L17_21 w17_22 L17_22 w17_23 L17_23
attribute [simp] body18 w18_0 L18_0 w18_1 L18_1 w18_2 L18_2
attribute [simp] body19 w19_0 L19_0 w19_1 L19_1
attribute [simp] body20 w20_0 L20_0 w20_1 L20_1
attribute [simp] body21 w21_0 L21_0 w21_1 L21_1 w21_2 L21_2 w21_3 L21_3 w21_4 L21_4 w21_5 L21_5 w21_6 L21_6 w21_7 L21_7 w21_8 L21_8 w21_9 L21_9 w21_10 L21_10 w21_11 L21_11 w21_12 L21_12 w21_13 L21_13 w21_14 L21_14 w21_15 L21_15 w21_16 L21_16 w21_17 L21_17 w21_18 L21_18 w21_19 L21_19 w21_20 L21_20
attribute [simp] body22 w22_0 L22_0 w22_1 L22_1 w22_2 L22_2 w22_3 L22_3 w22_4 L22_4 w22_5 L22_5
attribute [simp] body23 w23_0 L23_0 w23_1 L23_1 w23_2 L23_2 w23_3 L23_3 w23_4 L23_4 w23_5 L23_5 w23_6 L23_6 w23_7 L23_7 w23_8 L23_8 w23_9 L23_9 w23_10 L23_10 w23_11 L23_11 w23_12 L23_12 w23_13 L23_13 w23_14 L23_14 w23_15 L23_15 w23_16 L23_16 w23_17 L23_17 w23_18 L23_18 w23_19 L23_19 w23_20 L23_20 w23_21 L23_21 w23_22 L23_22 w23_23 L23_23 w23_24 L23_24 w23_25 L23_25 w23_26 L23_26 w23_27 L23_27 w23_28 L23_28 w23_29 L23_29 w23_30 L23_30
attribute [simp] body24 w24_0 L24_0 w24_1 L24_1 w24_2 L24_2 w24_3 L24_3 w24_4 L24_4 w24_5 L24_5 w24_6 L24_6 w24_7 L24_7 w24_8 L24_8 w24_9 L24_9 w24_10 L24_10 w24_11 L24_11 w24_12 L24_12 w24_13 L24_13 w24_14 L24_14 w24_15 L24_15 w24_16 L24_16 w24_17 L24_17 w24_18 L24_18 w24_19 L24_19 w24_20 L24_20 w24_21 L24_21 w24_22 L24_22 w24_23 L24_23 w24_24 L24_24 w24_25 L24_25 w24_26 L24_26 w24_27 L24_27 w24_28 L24_28 w24_29 L24_29 w24_30 L24_30 w24_31 L24_31 w24_32 L24_32 w24_33 L24_33 w24_34 L24_34 w24_35 L24_35 w24_36 L24_36 w24_37 L24_37
attribute [simp] body25 w25_0 L25_0 w25_1 L25_1 w25_2 L25_2 w25_3 L25_3
attribute [simp] body26 w26_0 L26_0 w26_1 L26_1
attribute [simp] body27 w27_0 L27_0 w27_1 L27_1
attribute [simp] body28 w28_0 L28_0 w28_1 L28_1 w28_2 L28_2 w28_3 L28_3 w28_4 L28_4 w28_5 L28_5
attribute [simp] body29 w29_0 L29_0 w29_1 L29_1 w29_2 L29_2 w29_3 L29_3 w29_4 L29_4 w29_5 L29_5 w29_6 L29_6 w29_7 L29_7 w29_8 L29_8 w29_9 L29_9
attribute [simp] body30 w30_0 L30_0 w30_1 L30_1 w30_2 L30_2 w30_3 L30_3 w30_4 L30_4 w30_5 L30_5 w30_6 L30_6 w30_7 L30_7 w30_8 L30_8 w30_9 L30_9 w30_10 L30_10 w30_11 L30_11 w30_12 L30_12
attribute [simp] body31 w31_0 L31_0 w31_1 L31_1 w31_2 L31_2 w31_3 L31_3 w31_4 L31_4 w31_5 L31_5 w31_6 L31_6 w31_7 L31_7 w31_8 L31_8 w31_9 L31_9 w31_10 L31_10 w31_11 L31_11 w31_12 L31_12 w31_13 L31_13 w31_14 L31_14 w31_15 L31_15 w31_16 L31_16 w31_17 L31_17 w31_18 L31_18 w31_19 L31_19 w31_20 L31_20 w31_21 L31_21 w31_22 L31_22
attribute [simp] body32 w32_0 L32_0 w32_1 L32_1
attribute [simp] body33 w33_0 L33_0 w33_1 L33_1
attribute [simp] body34 w34_0 L34_0 w34_1 L34_1 w34_2 L34_2 w34_3 L34_3 w34_4 L34_4 w34_5 L34_5 w34_6 L34_6 w34_7 L34_7 w34_8 L34_8 w34_9 L34_9 w34_10 L34_10 w34_11 L34_11 w34_12 L34_12 w34_13 L34_13 w34_14 L34_14 w34_15 L34_15 w34_16 L34_16 w34_17 L34_17 w34_18 L34_18 w34_19 L34_19 w34_20 L34_20 w34_21 L34_21 w34_22 L34_22 w34_23 L34_23 w34_24 L34_24 w34_25 L34_25
attribute [simp] body35 w35_0 L35_0 w35_1 L35_1 w35_2 L35_2 w35_3 L35_3 w35_4 L35_4 w35_5 L35_5 w35_6 L35_6 w35_7 L35_7 w35_8 L35_8 w35_9 L35_9 w35_10 L35_10 w35_11 L35_11 w35_12 L35_12 w35_13 L35_13 w35_14 L35_14 w35_15 L35_15 w35_16 L35_16 w35_17 L35_17 w35_18 L35_18 w35_19 L35_19 w35_20 L35_20 w35_21 L35_21 w35_22 L35_22 w35_23 L35_23 w35_24 L35_24 w35_25 L35_25 w35_26 L35_26 w35_27 L35_27 w35_28 L35_28 w35_29 L35_29
attribute [simp] body36 w36_0 L36_0 w36_1 L36_1
attribute [simp] body37 w37_0 L37_0 w37_1 L37_1 w37_2 L37_2 w37_3 L37_3 w37_4 L37_4 w37_5 L37_5 w37_6 L37_6 w37_7 L37_7 w37_8 L37_8 w37_9 L37_9
end Go.Proofs.Ytgomgdbapgibjaa.gen

