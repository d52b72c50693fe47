/-
  This text names the regions of the functions that are walked, with the slots that they read and set, and the facts of the types.
  No condition.
-/
import Derived.Test.YtgomgdbapgibjaaDoorProg
import Derived.Test.YtgomgdbapgibjaaDoorShD
set_option maxRecDepth 100000
set_option linter.unusedSimpArgs false
set_option linter.unusedVariables false
namespace Go.Proofs.YtgomgdbapgibjaaDoor.gen
open Go.Sh
def fns : List FuncId := [3, 4, 5, 6, 7, 8, 9, 10, 11, 12, 13, 14, 15, 16, 17, 18, 19, 20, 21, 22, 23, 24, 25, 26, 27, 28, 29, 30, 31, 32, 33, 34, 35, 36, 37, 38, 39, 40, 41, 42, 43, 44, 45, 46, 47, 48, 49, 50, 51, 52, 53]
noncomputable def TT : FuncId → Option Func := Sh.tabOf Tryd.prog fns
variable {S : Sums} {m : Mem} {k : List Fr} {E : LEnv} {Q : Post}
theorem ap31 : apOk Tryd.prog 31 5 48 = true := by kernel_rfl
theorem ap48 : apOk Tryd.prog 48 1 24 = true := by kernel_rfl
theorem ap5 : apOk Tryd.prog 5 1 1 = true := by kernel_rfl
theorem ap9 : apOk Tryd.prog 9 1 16 = true := by kernel_rfl
theorem b3 : (Tryd.prog.info? 3).isSome = true := by kernel_rfl
theorem b42 : (Tryd.prog.info? 42).isSome = true := by kernel_rfl
theorem b45 : (Tryd.prog.info? 45).isSome = true := by kernel_rfl
theorem b52 : (Tryd.prog.info? 52).isSome = true := by kernel_rfl
theorem bo31 : buildOk Tryd.prog 31 [.int .i64 0, .string ⟨#[]⟩, .int .i64 0, .int .i64 0, .int .i64 0] [(0, 1), (1, 1), (2, 1), (3, 1), (4, 1)] = true := by kernel_rfl
theorem bo45 : buildOk Tryd.prog 45 [.slice none 0 0, .int .i64 0, .slice none 0 0, .int .i64 0, .int .i64 0, .int .i64 0, .string ⟨#[]⟩, .int .i64 0, .bool false] [(0, 1), (1, 1), (2, 1), (3, 1), (4, 1), (5, 1), (6, 1), (7, 1), (8, 1)] = true := by kernel_rfl
theorem bo52 : buildOk Tryd.prog 52 [.string ⟨#[]⟩, .int .i64 0, .int .i64 0, .int .i64 0, .slice none 0 0, .int .i64 0, .int .i64 0, .string ⟨#[]⟩, .int .i64 0, .int .i64 0, .int .i64 0] [(0, 1), (1, 1), (2, 1), (3, 1), (4, 1), (5, 1), (6, 5)] = true := by kernel_rfl
theorem bs3 : bsOk Tryd.prog 3 [.int .i64 0] = true := by kernel_rfl
theorem bs31 : bsOk Tryd.prog 31 [.int .i64 0, .string ⟨#[]⟩, .int .i64 0, .int .i64 0, .int .i64 0] = true := by kernel_rfl
theorem bs48 : bsOk Tryd.prog 48 [.slice none 0 0] = true := by kernel_rfl
theorem bs5 : bsOk Tryd.prog 5 [.int .u8 0] = true := by kernel_rfl
theorem bs9 : bsOk Tryd.prog 9 [.string ⟨#[]⟩] = true := by kernel_rfl
theorem fa31_0 : faOk Tryd.prog 31 0 0 = true := by kernel_rfl
theorem fa31_1 : faOk Tryd.prog 31 1 1 = true := by kernel_rfl
theorem fa31_3 : faOk Tryd.prog 31 3 3 = true := by kernel_rfl
theorem fa31_4 : faOk Tryd.prog 31 4 4 = true := by kernel_rfl
theorem fa45_0 : faOk Tryd.prog 45 0 0 = true := by kernel_rfl
theorem fa45_1 : faOk Tryd.prog 45 1 1 = true := by kernel_rfl
theorem fa45_2 : faOk Tryd.prog 45 2 2 = true := by kernel_rfl
theorem fa45_3 : faOk Tryd.prog 45 3 3 = true := by kernel_rfl
theorem fa45_4 : faOk Tryd.prog 45 4 4 = true := by kernel_rfl
theorem fa45_5 : faOk Tryd.prog 45 5 5 = true := by kernel_rfl
theorem fa45_6 : faOk Tryd.prog 45 6 6 = true := by kernel_rfl
theorem fa45_7 : faOk Tryd.prog 45 7 7 = true := by kernel_rfl
theorem fa45_8 : faOk Tryd.prog 45 8 8 = true := by kernel_rfl
theorem fa52_0 : faOk Tryd.prog 52 0 0 = true := by kernel_rfl
theorem fa52_1 : faOk Tryd.prog 52 1 1 = true := by kernel_rfl
theorem fa52_2 : faOk Tryd.prog 52 2 2 = true := by kernel_rfl
theorem fa52_3 : faOk Tryd.prog 52 3 3 = true := by kernel_rfl
theorem fa52_4 : faOk Tryd.prog 52 4 4 = true := by kernel_rfl
theorem fa52_5 : faOk Tryd.prog 52 5 5 = true := by kernel_rfl
theorem fa52_6 : faOk Tryd.prog 52 6 6 = true := by kernel_rfl
theorem ld22 : ldOk Tryd.prog 22 = true := by kernel_rfl
theorem ld29 : ldOk Tryd.prog 29 = true := by kernel_rfl
theorem ld3 : ldOk Tryd.prog 3 = true := by kernel_rfl
theorem ld31 : agOk Tryd.prog 31 5 = true := by kernel_rfl
theorem ld32 : ldOk Tryd.prog 32 = true := by kernel_rfl
theorem ld4 : ldOk Tryd.prog 4 = true := by kernel_rfl
theorem ld42 : ldOk Tryd.prog 42 = true := by kernel_rfl
theorem ld43 : ldOk Tryd.prog 43 = true := by kernel_rfl
theorem ld48 : ldOk Tryd.prog 48 = true := by kernel_rfl
theorem ld9 : ldOk Tryd.prog 9 = true := by kernel_rfl
theorem sz10 : sizeOfT Tryd.prog 10 = some 1 := by kernel_rfl
theorem sz11 : sizeOfT Tryd.prog 11 = some 1 := by kernel_rfl
theorem sz12 : sizeOfT Tryd.prog 12 = some 1 := by kernel_rfl
theorem sz2 : sizeOfT Tryd.prog 2 = some 1 := by kernel_rfl
theorem sz21 : sizeOfT Tryd.prog 21 = some 1 := by kernel_rfl
theorem sz22 : sizeOfT Tryd.prog 22 = some 1 := by kernel_rfl
theorem sz29 : sizeOfT Tryd.prog 29 = some 1 := by kernel_rfl
theorem sz3 : sizeOfT Tryd.prog 3 = some 1 := by kernel_rfl
theorem sz31 : sizeOfT Tryd.prog 31 = some 5 := by kernel_rfl
theorem sz32 : sizeOfT Tryd.prog 32 = some 1 := by kernel_rfl
theorem sz39 : sizeOfT Tryd.prog 39 = some 1 := by kernel_rfl
theorem sz4 : sizeOfT Tryd.prog 4 = some 1 := by kernel_rfl
theorem sz43 : sizeOfT Tryd.prog 43 = some 1 := by kernel_rfl
theorem sz48 : sizeOfT Tryd.prog 48 = some 1 := by kernel_rfl
theorem sz5 : sizeOfT Tryd.prog 5 = some 1 := by kernel_rfl
theorem sz6 : sizeOfT Tryd.prog 6 = some 1 := by kernel_rfl
theorem sz75 : sizeOfT Tryd.prog 75 = some 1 := by kernel_rfl
theorem sz85 : sizeOfT Tryd.prog 85 = some 1 := by kernel_rfl
theorem sz86 : sizeOfT Tryd.prog 86 = some 1 := by kernel_rfl
theorem sz87 : sizeOfT Tryd.prog 87 = some 1 := by kernel_rfl
theorem sz9 : sizeOfT Tryd.prog 9 = some 1 := by kernel_rfl
theorem sz90 : sizeOfT Tryd.prog 90 = some 1 := by kernel_rfl
theorem sz91 : sizeOfT Tryd.prog 91 = some 1 := by kernel_rfl
theorem u10 : Tryd.prog.underlying 10 = some .string := by kernel_rfl
theorem u11 : Tryd.prog.underlying 11 = some .string := by kernel_rfl
theorem u12 : Tryd.prog.underlying 12 = some (.int .u64) := by kernel_rfl
theorem u2 : Tryd.prog.underlying 2 = some (.int .i64) := by kernel_rfl
theorem u21 : Tryd.prog.underlying 21 = some (.int .i32) := by kernel_rfl
theorem u22 : Tryd.prog.underlying 22 = some (.slice 3) := by kernel_rfl
theorem u29 : Tryd.prog.underlying 29 = some (.slice 31) := by kernel_rfl
theorem u3 : Tryd.prog.underlying 3 = some (.int .i64) := by kernel_rfl
theorem u32 : Tryd.prog.underlying 32 = some (.int .i64) := by kernel_rfl
theorem u38 : Tryd.prog.underlying 38 = some (.array 44 9) := by kernel_rfl
theorem u39 : Tryd.prog.underlying 39 = some (.slice 5) := by kernel_rfl
theorem u4 : Tryd.prog.underlying 4 = some .bool := by kernel_rfl
theorem u43 : Tryd.prog.underlying 43 = some (.slice 48) := by kernel_rfl
theorem u48 : Tryd.prog.underlying 48 = some (.slice 9) := by kernel_rfl
theorem u5 : Tryd.prog.underlying 5 = some (.int .u8) := by kernel_rfl
theorem u6 : Tryd.prog.underlying 6 = some (.int .u8) := by kernel_rfl
theorem u70 : Tryd.prog.underlying 70 = some (.array 6 9) := by kernel_rfl
theorem u71 : Tryd.prog.underlying 71 = some (.array 2 9) := by kernel_rfl
theorem u72 : Tryd.prog.underlying 72 = some (.array 2 3) := by kernel_rfl
theorem u73 : Tryd.prog.underlying 73 = some (.array 4 9) := by kernel_rfl
theorem u75 : Tryd.prog.underlying 75 = some (.int .u64) := by kernel_rfl
theorem u79 : Tryd.prog.underlying 79 = some (.array 9 9) := by kernel_rfl
theorem u85 : Tryd.prog.underlying 85 = some (.int .u32) := by kernel_rfl
theorem u86 : Tryd.prog.underlying 86 = some (.int .u8) := by kernel_rfl
theorem u87 : Tryd.prog.underlying 87 = some (.int .u8) := by kernel_rfl
theorem u9 : Tryd.prog.underlying 9 = some .string := by kernel_rfl
theorem u90 : Tryd.prog.underlying 90 = some (.int .i32) := by kernel_rfl
theorem u91 : Tryd.prog.underlying 91 = some (.int .i32) := by kernel_rfl
theorem zo31 : zeroOk Tryd.prog 31 [.int .i64 0, .string ⟨#[]⟩, .int .i64 0, .int .i64 0, .int .i64 0] = true := by kernel_rfl
theorem zo70 : zeroOk Tryd.prog 70 (repl [.string ⟨#[]⟩] 6) = true := by kernel_rfl
theorem zo71 : zeroOk Tryd.prog 71 (repl [.string ⟨#[]⟩] 2) = true := by kernel_rfl
theorem zo72 : zeroOk Tryd.prog 72 (repl [.int .i64 0] 2) = true := by kernel_rfl
theorem zo73 : zeroOk Tryd.prog 73 (repl [.string ⟨#[]⟩] 4) = true := by kernel_rfl
theorem zo79 : zeroOk Tryd.prog 79 (repl [.string ⟨#[]⟩] 9) = true := by kernel_rfl

/- turnstonehand.Pick -/
noncomputable def c7 : Code := bodyOf Tryd.f7
noncomputable def r7_0 : Code := Code.sub [0] c7
noncomputable def r7_1 : Code := Code.sub [1, 0] c7
noncomputable def r7_2 : Code := Code.sub [1, 1, 0, 0] c7
noncomputable def r7_3 : Code := Code.sub [1, 1, 0, 1, 0] c7
noncomputable def r7_4 : Code := Code.sub [1, 1, 1, 0] c7
theorem body7 : c7 = (.seq r7_0 (.seq r7_1 (.seq (.seq r7_2 (.cond (.tmp 9) r7_3 .skip)) (.seq r7_4 .ret)))) := by kernel_rfl
noncomputable def L7_0 : {l : List Oper // (opsOf r7_0).map strip = l} := by refine ⟨?l, ?h⟩; case h => simp only [r7_0, c7, bodyOf, Tryd.f7, Code.sub, opsOf, List.map_cons, List.map_nil, strip]; rfl
theorem w7_0 : W Tryd.prog TT S 5 [9] r7_0 k E m Q ↔ Rg Tryd.prog TT S 5 [9] [4] [] (lgo E [] (lops Tryd.prog (callw Tryd.prog TT S) [(some 4)] (L7_0).1 E m)) k E Q := w_plain (by kernel_rfl) (L7_0).2
noncomputable def L7_1 : {l : List Oper // (opsOf r7_1).map strip = l} := by refine ⟨?l, ?h⟩; case h => simp only [r7_1, c7, bodyOf, Tryd.f7, Code.sub, opsOf, List.map_cons, List.map_nil, strip]; rfl
theorem w7_1 : W Tryd.prog TT S 5 [9] r7_1 k E m Q ↔ Rg Tryd.prog TT S 5 [9] [0] [] (lgo E [0, 1] (lops Tryd.prog (callw Tryd.prog TT S) [(some 5), (some 6), (some 7), (some 0)] (L7_1).1 E m)) k E Q := w_plain (by kernel_rfl) (L7_1).2
noncomputable def L7_2 : {l : List Oper // (opsOf r7_2).map strip = l} := by refine ⟨?l, ?h⟩; case h => simp only [r7_2, c7, bodyOf, Tryd.f7, Code.sub, opsOf, List.map_cons, List.map_nil, strip]; rfl
theorem w7_2 : W Tryd.prog TT S 5 [9] r7_2 k E m Q ↔ Rg Tryd.prog TT S 5 [9] [] [9] (lgo E [0] (lops Tryd.prog (callw Tryd.prog TT S) [(some 8), (some 9)] (L7_2).1 E m)) k E Q := w_plain (by kernel_rfl) (L7_2).2
noncomputable def L7_3 : {l : List Oper // (opsOf r7_3).map strip = l} := by refine ⟨?l, ?h⟩; case h => simp only [r7_3, c7, bodyOf, Tryd.f7, Code.sub, opsOf, List.map_cons, List.map_nil, strip]; rfl
theorem w7_3 : W Tryd.prog TT S 5 [9] r7_3 k E m Q ↔ Rg Tryd.prog TT S 5 [9] [0] [] (lgo E [0, 1] (lops Tryd.prog (callw Tryd.prog TT S) [(some 10), (some 11), (some 12), (some 0)] (L7_3).1 E m)) k E Q := w_plain (by kernel_rfl) (L7_3).2
noncomputable def L7_4 : {l : List Oper // (opsOf r7_4).map strip = l} := by refine ⟨?l, ?h⟩; case h => simp only [r7_4, c7, bodyOf, Tryd.f7, Code.sub, opsOf, List.map_cons, List.map_nil, strip]; rfl
theorem w7_4 : W Tryd.prog TT S 5 [9] r7_4 k E m Q ↔ Rg Tryd.prog TT S 5 [9] [4] [] (lgo E [0] (lops Tryd.prog (callw Tryd.prog TT S) [(some 13), (some 4)] (L7_4).1 E m)) k E Q := w_plain (by kernel_rfl) (L7_4).2
theorem k7 : FnIs TT 7 c7 [.tmp 4] 2 := ⟨Tryd.f7, by kernel_rfl, by simp only [Tryd.f7, c7, bodyOf], by kernel_rfl, of_decide_eq_true (by kernel_rfl)⟩

/- turnstonehand.Words -/
noncomputable def c8 : Code := bodyOf Tryd.f8
noncomputable def r8_0 : Code := Code.sub [0] c8
noncomputable def r8_1 : Code := Code.sub [1, 0] c8
noncomputable def r8_2 : Code := Code.sub [1, 1, 0, 0] c8
noncomputable def r8_3 : Code := Code.sub [1, 1, 0, 1, 0, 0, 0, 0] c8
noncomputable def r8_4 : Code := Code.sub [1, 1, 0, 1, 0, 0, 1, 0, 0] c8
noncomputable def r8_5 : Code := Code.sub [1, 1, 0, 1, 0, 0, 1, 1] c8
noncomputable def r8_6 : Code := Code.sub [1, 1, 1, 0] c8
theorem body8 : c8 = (.seq r8_0 (.seq r8_1 (.seq (.seq r8_2 (.block 0 (.loop (.seq (.seq r8_3 (.cond (.tmp 12) .skip (.exit 0))) (.seq (.block 1 r8_4) r8_5))))) (.seq r8_6 .ret)))) := by kernel_rfl
noncomputable def L8_0 : {l : List Oper // (opsOf r8_0).map strip = l} := by refine ⟨?l, ?h⟩; case h => simp only [r8_0, c8, bodyOf, Tryd.f8, Code.sub, opsOf, List.map_cons, List.map_nil, strip]; rfl
theorem w8_0 : W Tryd.prog TT S 5 [12] r8_0 k E m Q ↔ Rg Tryd.prog TT S 5 [12] [2] [] (lgo E [] (lops Tryd.prog (callw Tryd.prog TT S) [(some 2)] (L8_0).1 E m)) k E Q := w_plain (by kernel_rfl) (L8_0).2
noncomputable def L8_1 : {l : List Oper // (opsOf r8_1).map strip = l} := by refine ⟨?l, ?h⟩; case h => simp only [r8_1, c8, bodyOf, Tryd.f8, Code.sub, opsOf, List.map_cons, List.map_nil, strip]; rfl
theorem w8_1 : W Tryd.prog TT S 5 [12] r8_1 k E m Q ↔ Rg Tryd.prog TT S 5 [12] [3] [] (lgo E [] (lops Tryd.prog (callw Tryd.prog TT S) [(some 3)] (L8_1).1 E m)) k E Q := w_plain (by kernel_rfl) (L8_1).2
noncomputable def L8_2 : {l : List Oper // (opsOf r8_2).map strip = l} := by refine ⟨?l, ?h⟩; case h => simp only [r8_2, c8, bodyOf, Tryd.f8, Code.sub, opsOf, List.map_cons, List.map_nil, strip]; rfl
theorem w8_2 : W Tryd.prog TT S 5 [12] r8_2 k E m Q ↔ Rg Tryd.prog TT S 5 [12] [4] [] (lgo E [] (lops Tryd.prog (callw Tryd.prog TT S) [(some 4)] (L8_2).1 E m)) k E Q := w_plain (by kernel_rfl) (L8_2).2
noncomputable def L8_3 : {l : List Oper // (opsOf r8_3).map strip = l} := by refine ⟨?l, ?h⟩; case h => simp only [r8_3, c8, bodyOf, Tryd.f8, Code.sub, opsOf, List.map_cons, List.map_nil, strip]; rfl
theorem w8_3 : W Tryd.prog TT S 5 [12] r8_3 k E m Q ↔ Rg Tryd.prog TT S 5 [12] [] [12] (lgo E [0, 4] (lops Tryd.prog (callw Tryd.prog TT S) [(some 5), (some 6), (some 7), (some 8), (some 9), (some 10), (some 11), (some 12)] (L8_3).1 E m)) k E Q := w_plain (by kernel_rfl) (L8_3).2
noncomputable def L8_4 : {l : List Oper // (opsOf r8_4).map strip = l} := by refine ⟨?l, ?h⟩; case h => simp only [r8_4, c8, bodyOf, Tryd.f8, Code.sub, opsOf, List.map_cons, List.map_nil, strip]; rfl
theorem w8_4 : W Tryd.prog TT S 5 [12] r8_4 k E m Q ↔ Rg Tryd.prog TT S 5 [12] [3] [] (lgo E [3, 0, 4] (lops Tryd.prog (callw Tryd.prog TT S) [(some 15), (some 16), (some 17), (some 18), (some 19), (some 20), (some 21), (some 22), (some 23), (some 24), (some 3)] (L8_4).1 E m)) k E Q := w_plain (by kernel_rfl) (L8_4).2
noncomputable def L8_5 : {l : List Oper // (opsOf r8_5).map strip = l} := by refine ⟨?l, ?h⟩; case h => simp only [r8_5, c8, bodyOf, Tryd.f8, Code.sub, opsOf, List.map_cons, List.map_nil, strip]; rfl
theorem w8_5 : W Tryd.prog TT S 5 [12] r8_5 k E m Q ↔ Rg Tryd.prog TT S 5 [12] [4] [] (lgo E [4] (lops Tryd.prog (callw Tryd.prog TT S) [(some 13), (some 14), (some 4)] (L8_5).1 E m)) k E Q := w_plain (by kernel_rfl) (L8_5).2
noncomputable def L8_6 : {l : List Oper // (opsOf r8_6).map strip = l} := by refine ⟨?l, ?h⟩; case h => simp only [r8_6, c8, bodyOf, Tryd.f8, Code.sub, opsOf, List.map_cons, List.map_nil, strip]; rfl
theorem w8_6 : W Tryd.prog TT S 5 [12] r8_6 k E m Q ↔ Rg Tryd.prog TT S 5 [12] [2] [] (lgo E [3] (lops Tryd.prog (callw Tryd.prog TT S) [(some 25), (some 2)] (L8_6).1 E m)) k E Q := w_plain (by kernel_rfl) (L8_6).2
theorem k8 : FnIs TT 8 c8 [.tmp 2] 1 := ⟨Tryd.f8, by kernel_rfl, by simp only [Tryd.f8, c8, bodyOf], by kernel_rfl, of_decide_eq_true (by kernel_rfl)⟩

/- token.All -/
noncomputable def c13 : Code := bodyOf Tryd.f13
noncomputable def r13_0 : Code := Code.sub [0] c13
noncomputable def r13_1 : Code := Code.sub [1, 0, 0] c13
noncomputable def r13_2 : Code := Code.sub [1, 0, 1, 0, 0] c13
noncomputable def r13_3 : Code := Code.sub [1, 1, 0] c13
noncomputable def r13_4 : Code := Code.sub [1, 1, 1, 0, 0, 0, 0, 0] c13
noncomputable def r13_5 : Code := Code.sub [1, 1, 1, 0, 0, 0, 1, 0] c13
noncomputable def r13_6 : Code := Code.sub [1, 1, 1, 1, 0, 0] c13
noncomputable def r13_7 : Code := Code.sub [1, 1, 1, 1, 0, 1, 0] c13
noncomputable def r13_8 : Code := Code.sub [1, 1, 1, 1, 1, 0, 0] c13
noncomputable def r13_9 : Code := Code.sub [1, 1, 1, 1, 1, 0, 1, 0] c13
noncomputable def r13_10 : Code := Code.sub [1, 1, 1, 1, 1, 1, 0, 0] c13
noncomputable def r13_11 : Code := Code.sub [1, 1, 1, 1, 1, 1, 0, 1, 0, 0] c13
noncomputable def r13_12 : Code := Code.sub [1, 1, 1, 1, 1, 1, 1, 0] c13
theorem body13 : c13 = (.seq r13_0 (.seq (.seq r13_1 (.cond (.tmp 8) (.seq r13_2 .ret) .skip)) (.seq r13_3 (.seq (.block 0 (.loop (.seq (.seq r13_4 (.cond (.tmp 26) .skip (.exit 0))) (.block 1 r13_5)))) (.seq (.seq r13_6 (.cond (.tmp 37) r13_7 .skip)) (.seq (.seq r13_8 (.cond (.tmp 44) r13_9 .skip)) (.seq (.seq r13_10 (.cond (.tmp 51) (.seq r13_11 .ret) .skip)) (.seq r13_12 .ret)))))))) := by kernel_rfl
noncomputable def L13_0 : {l : List Oper // (opsOf r13_0).map strip = l} := by refine ⟨?l, ?h⟩; case h => simp only [r13_0, c13, bodyOf, Tryd.f13, Code.sub, opsOf, List.map_cons, List.map_nil, strip]; rfl
theorem w13_0 : W Tryd.prog TT S 6 [8, 26, 37, 44, 51] r13_0 k E m Q ↔ Rg Tryd.prog TT S 6 [8, 26, 37, 44, 51] [2, 3, 4] [] (lgo E [] (lops Tryd.prog (callw Tryd.prog TT S) [(some 2), (some 3), (some 4)] (L13_0).1 E m)) k E Q := w_plain (by kernel_rfl) (L13_0).2
noncomputable def L13_1 : {l : List Oper // (opsOf r13_1).map strip = l} := by refine ⟨?l, ?h⟩; case h => simp only [r13_1, c13, bodyOf, Tryd.f13, Code.sub, opsOf, List.map_cons, List.map_nil, strip]; rfl
theorem w13_1 : W Tryd.prog TT S 6 [8, 26, 37, 44, 51] r13_1 k E m Q ↔ Rg Tryd.prog TT S 6 [8, 26, 37, 44, 51] [] [8] (lgo E [0] (lops Tryd.prog (callw Tryd.prog TT S) [(some 6), (some 7), (some 8)] (L13_1).1 E m)) k E Q := w_plain (by kernel_rfl) (L13_1).2
noncomputable def L13_2 : {l : List Oper // (opsOf r13_2).map strip = l} := by refine ⟨?l, ?h⟩; case h => simp only [r13_2, c13, bodyOf, Tryd.f13, Code.sub, opsOf, List.map_cons, List.map_nil, strip]; rfl
theorem w13_2 : W Tryd.prog TT S 6 [8, 26, 37, 44, 51] r13_2 k E m Q ↔ Rg Tryd.prog TT S 6 [8, 26, 37, 44, 51] [2, 4] [] (lgo E [3] (lops Tryd.prog (callw Tryd.prog TT S) [(some 9), (some 2), none, (some 4)] (L13_2).1 E m)) k E Q := w_plain (by kernel_rfl) (L13_2).2
noncomputable def L13_3 : {l : List Oper // (opsOf r13_3).map strip = l} := by refine ⟨?l, ?h⟩; case h => simp only [r13_3, c13, bodyOf, Tryd.f13, Code.sub, opsOf, List.map_cons, List.map_nil, strip]; rfl
theorem w13_3 : W Tryd.prog TT S 6 [8, 26, 37, 44, 51] r13_3 k E m Q ↔ Rg Tryd.prog TT S 6 [8, 26, 37, 44, 51] [5] [] (lgo E [0] (lops Tryd.prog (callw Tryd.prog TT S) [(some 10), (some 11), (some 12), (some 5)] (L13_3).1 E m)) k E Q := w_plain (by kernel_rfl) (L13_3).2
noncomputable def L13_4 : {l : List Oper // (opsOf r13_4).map strip = l} := by refine ⟨?l, ?h⟩; case h => simp only [r13_4, c13, bodyOf, Tryd.f13, Code.sub, opsOf, List.map_cons, List.map_nil, strip]; rfl
theorem w13_4 : W Tryd.prog TT S 6 [8, 26, 37, 44, 51] r13_4 k E m Q ↔ Rg Tryd.prog TT S 6 [8, 26, 37, 44, 51] [] [26] (lgo E [0, 5] (lops Tryd.prog (callw Tryd.prog TT S) [(some 13), (some 14), (some 15), (some 16), (some 17), (some 18), (some 19), (some 20), (some 21), (some 22), (some 23), (some 24), (some 25), (some 26)] (L13_4).1 E m)) k E Q := w_plain (by kernel_rfl) (L13_4).2
noncomputable def L13_5 : {l : List Oper // (opsOf r13_5).map strip = l} := by refine ⟨?l, ?h⟩; case h => simp only [r13_5, c13, bodyOf, Tryd.f13, Code.sub, opsOf, List.map_cons, List.map_nil, strip]; rfl
theorem w13_5 : W Tryd.prog TT S 6 [8, 26, 37, 44, 51] r13_5 k E m Q ↔ Rg Tryd.prog TT S 6 [8, 26, 37, 44, 51] [] [] (lgo E [5] (lops Tryd.prog (callw Tryd.prog TT S) [(some 27), (some 28)] (L13_5).1 E m)) k E Q := w_plain (by kernel_rfl) (L13_5).2
noncomputable def L13_6 : {l : List Oper // (opsOf r13_6).map strip = l} := by refine ⟨?l, ?h⟩; case h => simp only [r13_6, c13, bodyOf, Tryd.f13, Code.sub, opsOf, List.map_cons, List.map_nil, strip]; rfl
theorem w13_6 : W Tryd.prog TT S 6 [8, 26, 37, 44, 51] r13_6 k E m Q ↔ Rg Tryd.prog TT S 6 [8, 26, 37, 44, 51] [] [37] (lgo E [5] (lops Tryd.prog (callw Tryd.prog TT S) [(some 29), (some 30), (some 31), (some 32), (some 33), (some 34), (some 35), (some 36), (some 37)] (L13_6).1 E m)) k E Q := w_plain (by kernel_rfl) (L13_6).2
noncomputable def L13_7 : {l : List Oper // (opsOf r13_7).map strip = l} := by refine ⟨?l, ?h⟩; case h => simp only [r13_7, c13, bodyOf, Tryd.f13, Code.sub, opsOf, List.map_cons, List.map_nil, strip]; rfl
theorem w13_7 : W Tryd.prog TT S 6 [8, 26, 37, 44, 51] r13_7 k E m Q ↔ Rg Tryd.prog TT S 6 [8, 26, 37, 44, 51] [] [] (lgo E [5] (lops Tryd.prog (callw Tryd.prog TT S) [(some 38), (some 39)] (L13_7).1 E m)) k E Q := w_plain (by kernel_rfl) (L13_7).2
noncomputable def L13_8 : {l : List Oper // (opsOf r13_8).map strip = l} := by refine ⟨?l, ?h⟩; case h => simp only [r13_8, c13, bodyOf, Tryd.f13, Code.sub, opsOf, List.map_cons, List.map_nil, strip]; rfl
theorem w13_8 : W Tryd.prog TT S 6 [8, 26, 37, 44, 51] r13_8 k E m Q ↔ Rg Tryd.prog TT S 6 [8, 26, 37, 44, 51] [] [44] (lgo E [5] (lops Tryd.prog (callw Tryd.prog TT S) [(some 40), (some 41), (some 42), (some 43), (some 44)] (L13_8).1 E m)) k E Q := w_plain (by kernel_rfl) (L13_8).2
noncomputable def L13_9 : {l : List Oper // (opsOf r13_9).map strip = l} := by refine ⟨?l, ?h⟩; case h => simp only [r13_9, c13, bodyOf, Tryd.f13, Code.sub, opsOf, List.map_cons, List.map_nil, strip]; rfl
theorem w13_9 : W Tryd.prog TT S 6 [8, 26, 37, 44, 51] r13_9 k E m Q ↔ Rg Tryd.prog TT S 6 [8, 26, 37, 44, 51] [] [] (lgo E [5] (lops Tryd.prog (callw Tryd.prog TT S) [(some 45), (some 46)] (L13_9).1 E m)) k E Q := w_plain (by kernel_rfl) (L13_9).2
noncomputable def L13_10 : {l : List Oper // (opsOf r13_10).map strip = l} := by refine ⟨?l, ?h⟩; case h => simp only [r13_10, c13, bodyOf, Tryd.f13, Code.sub, opsOf, List.map_cons, List.map_nil, strip]; rfl
theorem w13_10 : W Tryd.prog TT S 6 [8, 26, 37, 44, 51] r13_10 k E m Q ↔ Rg Tryd.prog TT S 6 [8, 26, 37, 44, 51] [] [51] (lgo E [5] (lops Tryd.prog (callw Tryd.prog TT S) [(some 47), (some 48), (some 49), (some 50), (some 51)] (L13_10).1 E m)) k E Q := w_plain (by kernel_rfl) (L13_10).2
theorem can13_11 : canonOps (opsOf r13_11) = opsOf r13_11 := by kernel_rfl
noncomputable def L13_11 : {l : List Oper // (canonOps (opsOf r13_11)).map strip = l} := by refine ⟨?l, (congrArg (List.map strip) can13_11).trans ?h⟩; case h => simp only [r13_11, c13, bodyOf, Tryd.f13, Code.sub, opsOf, List.map_cons, List.map_nil, strip]; rfl
theorem w13_11 : W Tryd.prog TT S 6 [8, 26, 37, 44, 51] r13_11 k E m Q ↔ Rg Tryd.prog TT S 6 [8, 26, 37, 44, 51] [2, 4] [] (lgo E [5, 3] (lloud Tryd.prog (callw Tryd.prog TT S) [(some 52), (some 53), (some 54), (some 55), (some 56), (some 57), (some 58), (some 59), (some 2), none, (some 4)] (L13_11).1 [(3, [9]), (7, [9, 11])] (lstates Tryd.prog (callw Tryd.prog TT S) [(some 52), (some 53), (some 54), (some 55), (some 56), (some 57), (some 58), (some 59), (some 2), none, (some 4)] (L13_11).1 E m))) k E Q := w_loud (by kernel_rfl) (L13_11).2
noncomputable def L13_12 : {l : List Oper // (opsOf r13_12).map strip = l} := by refine ⟨?l, ?h⟩; case h => simp only [r13_12, c13, bodyOf, Tryd.f13, Code.sub, opsOf, List.map_cons, List.map_nil, strip]; rfl
theorem w13_12 : W Tryd.prog TT S 6 [8, 26, 37, 44, 51] r13_12 k E m Q ↔ Rg Tryd.prog TT S 6 [8, 26, 37, 44, 51] [2, 4] [] (lgo E [5, 3] (lops Tryd.prog (callw Tryd.prog TT S) [(some 60), (some 61), (some 62), (some 63), (some 64), (some 2), none, (some 4)] (L13_12).1 E m)) k E Q := w_plain (by kernel_rfl) (L13_12).2
theorem k13 : FnIs TT 13 c13 [.tmp 2, .cell 3 31, .tmp 4] 1 := ⟨Tryd.f13, by kernel_rfl, by simp only [Tryd.f13, c13, bodyOf], by kernel_rfl, of_decide_eq_true (by kernel_rfl)⟩

/- token.IsWord -/
noncomputable def c14 : Code := bodyOf Tryd.f14
noncomputable def r14_0 : Code := Code.sub [0] c14
noncomputable def r14_1 : Code := Code.sub [1, 0, 0] c14
noncomputable def r14_2 : Code := Code.sub [1, 0, 1, 0, 0, 0] c14
noncomputable def r14_3 : Code := Code.sub [1, 0, 1, 0, 0, 1, 1, 0] c14
noncomputable def r14_4 : Code := Code.sub [1, 0, 1, 0, 0, 1, 1, 1, 1, 0] c14
noncomputable def r14_5 : Code := Code.sub [1, 0, 1, 0, 0, 1, 1, 1, 1, 1, 1, 0] c14
noncomputable def r14_6 : Code := Code.sub [1, 0, 1, 0, 0, 1, 1, 1, 1, 1, 1, 1, 1, 0] c14
noncomputable def r14_7 : Code := Code.sub [1, 0, 1, 0, 0, 1, 1, 1, 1, 1, 1, 1, 1, 1, 1, 0] c14
noncomputable def r14_8 : Code := Code.sub [1, 0, 1, 0, 0, 1, 1, 1, 1, 1, 1, 1, 1, 1, 1, 1, 1, 0] c14
noncomputable def r14_9 : Code := Code.sub [1, 0, 1, 0, 0, 1, 1, 1, 1, 1, 1, 1, 1, 1, 1, 1, 1, 1, 1, 0] c14
noncomputable def r14_10 : Code := Code.sub [1, 0, 1, 0, 0, 1, 1, 1, 1, 1, 1, 1, 1, 1, 1, 1, 1, 1, 1, 1, 1, 0] c14
noncomputable def r14_11 : Code := Code.sub [1, 0, 1, 0, 0, 1, 1, 1, 1, 1, 1, 1, 1, 1, 1, 1, 1, 1, 1, 1, 1, 1, 1, 0] c14
noncomputable def r14_12 : Code := Code.sub [1, 0, 1, 0, 0, 1, 1, 1, 1, 1, 1, 1, 1, 1, 1, 1, 1, 1, 1, 1, 1, 1, 1, 1, 1, 0] c14
noncomputable def r14_13 : Code := Code.sub [1, 0, 1, 0, 0, 1, 1, 1, 1, 1, 1, 1, 1, 1, 1, 1, 1, 1, 1, 1, 1, 1, 1, 1, 1, 1, 1, 0] c14
noncomputable def r14_14 : Code := Code.sub [1, 0, 1, 0, 0, 1, 1, 1, 1, 1, 1, 1, 1, 1, 1, 1, 1, 1, 1, 1, 1, 1, 1, 1, 1, 1, 1, 1, 1, 0] c14
noncomputable def r14_15 : Code := Code.sub [1, 0, 1, 0, 0, 1, 1, 1, 1, 1, 1, 1, 1, 1, 1, 1, 1, 1, 1, 1, 1, 1, 1, 1, 1, 1, 1, 1, 1, 1, 1, 0] c14
noncomputable def r14_16 : Code := Code.sub [1, 0, 1, 0, 0, 1, 1, 1, 1, 1, 1, 1, 1, 1, 1, 1, 1, 1, 1, 1, 1, 1, 1, 1, 1, 1, 1, 1, 1, 1, 1, 1, 1, 0] c14
noncomputable def r14_17 : Code := Code.sub [1, 0, 1, 0, 0, 1, 1, 1, 1, 1, 1, 1, 1, 1, 1, 1, 1, 1, 1, 1, 1, 1, 1, 1, 1, 1, 1, 1, 1, 1, 1, 1, 1, 1, 1, 0] c14
noncomputable def r14_18 : Code := Code.sub [1, 0, 1, 0, 0, 1, 1, 1, 1, 1, 1, 1, 1, 1, 1, 1, 1, 1, 1, 1, 1, 1, 1, 1, 1, 1, 1, 1, 1, 1, 1, 1, 1, 1, 1, 1, 1, 0] c14
noncomputable def r14_19 : Code := Code.sub [1, 0, 1, 0, 0, 1, 1, 1, 1, 1, 1, 1, 1, 1, 1, 1, 1, 1, 1, 1, 1, 1, 1, 1, 1, 1, 1, 1, 1, 1, 1, 1, 1, 1, 1, 1, 1, 1, 1, 0] c14
noncomputable def r14_20 : Code := Code.sub [1, 0, 1, 0, 0, 1, 1, 1, 1, 1, 1, 1, 1, 1, 1, 1, 1, 1, 1, 1, 1, 1, 1, 1, 1, 1, 1, 1, 1, 1, 1, 1, 1, 1, 1, 1, 1, 1, 1, 1, 1, 0] c14
noncomputable def r14_21 : Code := Code.sub [1, 0, 1, 0, 0, 1, 1, 1, 1, 1, 1, 1, 1, 1, 1, 1, 1, 1, 1, 1, 1, 1, 1, 1, 1, 1, 1, 1, 1, 1, 1, 1, 1, 1, 1, 1, 1, 1, 1, 1, 1, 1, 1, 0] c14
noncomputable def r14_22 : Code := Code.sub [1, 0, 1, 0, 0, 1, 1, 1, 1, 1, 1, 1, 1, 1, 1, 1, 1, 1, 1, 1, 1, 1, 1, 1, 1, 1, 1, 1, 1, 1, 1, 1, 1, 1, 1, 1, 1, 1, 1, 1, 1, 1, 1, 1, 1, 0] c14
noncomputable def r14_23 : Code := Code.sub [1, 0, 1, 0, 0, 1, 1, 1, 1, 1, 1, 1, 1, 1, 1, 1, 1, 1, 1, 1, 1, 1, 1, 1, 1, 1, 1, 1, 1, 1, 1, 1, 1, 1, 1, 1, 1, 1, 1, 1, 1, 1, 1, 1, 1, 1, 1] c14
noncomputable def r14_24 : Code := Code.sub [1, 0, 1, 0, 1, 0, 0] c14
noncomputable def r14_25 : Code := Code.sub [1, 1, 0] c14
theorem body14 : c14 = (.seq r14_0 (.seq (.seq r14_1 (.block 0 (.seq (.seq r14_2 (.cond (.tmp 4) .skip (.seq r14_3 (.cond (.tmp 4) .skip (.seq r14_4 (.cond (.tmp 4) .skip (.seq r14_5 (.cond (.tmp 4) .skip (.seq r14_6 (.cond (.tmp 4) .skip (.seq r14_7 (.cond (.tmp 4) .skip (.seq r14_8 (.cond (.tmp 4) .skip (.seq r14_9 (.cond (.tmp 4) .skip (.seq r14_10 (.cond (.tmp 4) .skip (.seq r14_11 (.cond (.tmp 4) .skip (.seq r14_12 (.cond (.tmp 4) .skip (.seq r14_13 (.cond (.tmp 4) .skip (.seq r14_14 (.cond (.tmp 4) .skip (.seq r14_15 (.cond (.tmp 4) .skip (.seq r14_16 (.cond (.tmp 4) .skip (.seq r14_17 (.cond (.tmp 4) .skip (.seq r14_18 (.cond (.tmp 4) .skip (.seq r14_19 (.cond (.tmp 4) .skip (.seq r14_20 (.cond (.tmp 4) .skip (.seq r14_21 (.cond (.tmp 4) .skip (.seq r14_22 (.cond (.tmp 4) .skip r14_23)))))))))))))))))))))))))))))))))))))))))) (.cond (.tmp 4) (.seq r14_24 .ret) .skip)))) (.seq r14_25 .ret))) := by kernel_rfl
noncomputable def L14_0 : {l : List Oper // (opsOf r14_0).map strip = l} := by refine ⟨?l, ?h⟩; case h => simp only [r14_0, c14, bodyOf, Tryd.f14, Code.sub, opsOf, List.map_cons, List.map_nil, strip]; rfl
theorem w14_0 : W Tryd.prog TT S 4 [4, 4, 4, 4, 4, 4, 4, 4, 4, 4, 4, 4, 4, 4, 4, 4, 4, 4, 4, 4, 4, 4] r14_0 k E m Q ↔ Rg Tryd.prog TT S 4 [4, 4, 4, 4, 4, 4, 4, 4, 4, 4, 4, 4, 4, 4, 4, 4, 4, 4, 4, 4, 4, 4] [2] [] (lgo E [] (lops Tryd.prog (callw Tryd.prog TT S) [(some 2)] (L14_0).1 E m)) k E Q := w_plain (by kernel_rfl) (L14_0).2
noncomputable def L14_1 : {l : List Oper // (opsOf r14_1).map strip = l} := by refine ⟨?l, ?h⟩; case h => simp only [r14_1, c14, bodyOf, Tryd.f14, Code.sub, opsOf, List.map_cons, List.map_nil, strip]; rfl
theorem w14_1 : W Tryd.prog TT S 4 [4, 4, 4, 4, 4, 4, 4, 4, 4, 4, 4, 4, 4, 4, 4, 4, 4, 4, 4, 4, 4, 4] r14_1 k E m Q ↔ Rg Tryd.prog TT S 4 [4, 4, 4, 4, 4, 4, 4, 4, 4, 4, 4, 4, 4, 4, 4, 4, 4, 4, 4, 4, 4, 4] [3] [] (lgo E [0] (lops Tryd.prog (callw Tryd.prog TT S) [(some 3)] (L14_1).1 E m)) k E Q := w_plain (by kernel_rfl) (L14_1).2
noncomputable def L14_2 : {l : List Oper // (opsOf r14_2).map strip = l} := by refine ⟨?l, ?h⟩; case h => simp only [r14_2, c14, bodyOf, Tryd.f14, Code.sub, opsOf, List.map_cons, List.map_nil, strip]; rfl
theorem w14_2 : W Tryd.prog TT S 4 [4, 4, 4, 4, 4, 4, 4, 4, 4, 4, 4, 4, 4, 4, 4, 4, 4, 4, 4, 4, 4, 4] r14_2 k E m Q ↔ Rg Tryd.prog TT S 4 [4, 4, 4, 4, 4, 4, 4, 4, 4, 4, 4, 4, 4, 4, 4, 4, 4, 4, 4, 4, 4, 4] [] [4] (lgo E [3] (lops Tryd.prog (callw Tryd.prog TT S) [(some 5), (some 4)] (L14_2).1 E m)) k E Q := w_plain (by kernel_rfl) (L14_2).2
noncomputable def L14_3 : {l : List Oper // (opsOf r14_3).map strip = l} := by refine ⟨?l, ?h⟩; case h => simp only [r14_3, c14, bodyOf, Tryd.f14, Code.sub, opsOf, List.map_cons, List.map_nil, strip]; rfl
theorem w14_3 : W Tryd.prog TT S 4 [4, 4, 4, 4, 4, 4, 4, 4, 4, 4, 4, 4, 4, 4, 4, 4, 4, 4, 4, 4, 4, 4] r14_3 k E m Q ↔ Rg Tryd.prog TT S 4 [4, 4, 4, 4, 4, 4, 4, 4, 4, 4, 4, 4, 4, 4, 4, 4, 4, 4, 4, 4, 4, 4] [] [4] (lgo E [3] (lops Tryd.prog (callw Tryd.prog TT S) [(some 6), (some 4)] (L14_3).1 E m)) k E Q := w_plain (by kernel_rfl) (L14_3).2
noncomputable def L14_4 : {l : List Oper // (opsOf r14_4).map strip = l} := by refine ⟨?l, ?h⟩; case h => simp only [r14_4, c14, bodyOf, Tryd.f14, Code.sub, opsOf, List.map_cons, List.map_nil, strip]; rfl
theorem w14_4 : W Tryd.prog TT S 4 [4, 4, 4, 4, 4, 4, 4, 4, 4, 4, 4, 4, 4, 4, 4, 4, 4, 4, 4, 4, 4, 4] r14_4 k E m Q ↔ Rg Tryd.prog TT S 4 [4, 4, 4, 4, 4, 4, 4, 4, 4, 4, 4, 4, 4, 4, 4, 4, 4, 4, 4, 4, 4, 4] [] [4] (lgo E [3] (lops Tryd.prog (callw Tryd.prog TT S) [(some 7), (some 4)] (L14_4).1 E m)) k E Q := w_plain (by kernel_rfl) (L14_4).2
noncomputable def L14_5 : {l : List Oper // (opsOf r14_5).map strip = l} := by refine ⟨?l, ?h⟩; case h => simp only [r14_5, c14, bodyOf, Tryd.f14, Code.sub, opsOf, List.map_cons, List.map_nil, strip]; rfl
theorem w14_5 : W Tryd.prog TT S 4 [4, 4, 4, 4, 4, 4, 4, 4, 4, 4, 4, 4, 4, 4, 4, 4, 4, 4, 4, 4, 4, 4] r14_5 k E m Q ↔ Rg Tryd.prog TT S 4 [4, 4, 4, 4, 4, 4, 4, 4, 4, 4, 4, 4, 4, 4, 4, 4, 4, 4, 4, 4, 4, 4] [] [4] (lgo E [3] (lops Tryd.prog (callw Tryd.prog TT S) [(some 8), (some 4)] (L14_5).1 E m)) k E Q := w_plain (by kernel_rfl) (L14_5).2
noncomputable def L14_6 : {l : List Oper // (opsOf r14_6).map strip = l} := by refine ⟨?l, ?h⟩; case h => simp only [r14_6, c14, bodyOf, Tryd.f14, Code.sub, opsOf, List.map_cons, List.map_nil, strip]; rfl
theorem w14_6 : W Tryd.prog TT S 4 [4, 4, 4, 4, 4, 4, 4, 4, 4, 4, 4, 4, 4, 4, 4, 4, 4, 4, 4, 4, 4, 4] r14_6 k E m Q ↔ Rg Tryd.prog TT S 4 [4, 4, 4, 4, 4, 4, 4, 4, 4, 4, 4, 4, 4, 4, 4, 4, 4, 4, 4, 4, 4, 4] [] [4] (lgo E [3] (lops Tryd.prog (callw Tryd.prog TT S) [(some 9), (some 4)] (L14_6).1 E m)) k E Q := w_plain (by kernel_rfl) (L14_6).2
noncomputable def L14_7 : {l : List Oper // (opsOf r14_7).map strip = l} := by refine ⟨?l, ?h⟩; case h => simp only [r14_7, c14, bodyOf, Tryd.f14, Code.sub, opsOf, List.map_cons, List.map_nil, strip]; rfl
theorem w14_7 : W Tryd.prog TT S 4 [4, 4, 4, 4, 4, 4, 4, 4, 4, 4, 4, 4, 4, 4, 4, 4, 4, 4, 4, 4, 4, 4] r14_7 k E m Q ↔ Rg Tryd.prog TT S 4 [4, 4, 4, 4, 4, 4, 4, 4, 4, 4, 4, 4, 4, 4, 4, 4, 4, 4, 4, 4, 4, 4] [] [4] (lgo E [3] (lops Tryd.prog (callw Tryd.prog TT S) [(some 10), (some 4)] (L14_7).1 E m)) k E Q := w_plain (by kernel_rfl) (L14_7).2
noncomputable def L14_8 : {l : List Oper // (opsOf r14_8).map strip = l} := by refine ⟨?l, ?h⟩; case h => simp only [r14_8, c14, bodyOf, Tryd.f14, Code.sub, opsOf, List.map_cons, List.map_nil, strip]; rfl
theorem w14_8 : W Tryd.prog TT S 4 [4, 4, 4, 4, 4, 4, 4, 4, 4, 4, 4, 4, 4, 4, 4, 4, 4, 4, 4, 4, 4, 4] r14_8 k E m Q ↔ Rg Tryd.prog TT S 4 [4, 4, 4, 4, 4, 4, 4, 4, 4, 4, 4, 4, 4, 4, 4, 4, 4, 4, 4, 4, 4, 4] [] [4] (lgo E [3] (lops Tryd.prog (callw Tryd.prog TT S) [(some 11), (some 4)] (L14_8).1 E m)) k E Q := w_plain (by kernel_rfl) (L14_8).2
noncomputable def L14_9 : {l : List Oper // (opsOf r14_9).map strip = l} := by refine ⟨?l, ?h⟩; case h => simp only [r14_9, c14, bodyOf, Tryd.f14, Code.sub, opsOf, List.map_cons, List.map_nil, strip]; rfl
theorem w14_9 : W Tryd.prog TT S 4 [4, 4, 4, 4, 4, 4, 4, 4, 4, 4, 4, 4, 4, 4, 4, 4, 4, 4, 4, 4, 4, 4] r14_9 k E m Q ↔ Rg Tryd.prog TT S 4 [4, 4, 4, 4, 4, 4, 4, 4, 4, 4, 4, 4, 4, 4, 4, 4, 4, 4, 4, 4, 4, 4] [] [4] (lgo E [3] (lops Tryd.prog (callw Tryd.prog TT S) [(some 12), (some 4)] (L14_9).1 E m)) k E Q := w_plain (by kernel_rfl) (L14_9).2
noncomputable def L14_10 : {l : List Oper // (opsOf r14_10).map strip = l} := by refine ⟨?l, ?h⟩; case h => simp only [r14_10, c14, bodyOf, Tryd.f14, Code.sub, opsOf, List.map_cons, List.map_nil, strip]; rfl
theorem w14_10 : W Tryd.prog TT S 4 [4, 4, 4, 4, 4, 4, 4, 4, 4, 4, 4, 4, 4, 4, 4, 4, 4, 4, 4, 4, 4, 4] r14_10 k E m Q ↔ Rg Tryd.prog TT S 4 [4, 4, 4, 4, 4, 4, 4, 4, 4, 4, 4, 4, 4, 4, 4, 4, 4, 4, 4, 4, 4, 4] [] [4] (lgo E [3] (lops Tryd.prog (callw Tryd.prog TT S) [(some 13), (some 4)] (L14_10).1 E m)) k E Q := w_plain (by kernel_rfl) (L14_10).2
noncomputable def L14_11 : {l : List Oper // (opsOf r14_11).map strip = l} := by refine ⟨?l, ?h⟩; case h => simp only [r14_11, c14, bodyOf, Tryd.f14, Code.sub, opsOf, List.map_cons, List.map_nil, strip]; rfl
theorem w14_11 : W Tryd.prog TT S 4 [4, 4, 4, 4, 4, 4, 4, 4, 4, 4, 4, 4, 4, 4, 4, 4, 4, 4, 4, 4, 4, 4] r14_11 k E m Q ↔ Rg Tryd.prog TT S 4 [4, 4, 4, 4, 4, 4, 4, 4, 4, 4, 4, 4, 4, 4, 4, 4, 4, 4, 4, 4, 4, 4] [] [4] (lgo E [3] (lops Tryd.prog (callw Tryd.prog TT S) [(some 14), (some 4)] (L14_11).1 E m)) k E Q := w_plain (by kernel_rfl) (L14_11).2
noncomputable def L14_12 : {l : List Oper // (opsOf r14_12).map strip = l} := by refine ⟨?l, ?h⟩; case h => simp only [r14_12, c14, bodyOf, Tryd.f14, Code.sub, opsOf, List.map_cons, List.map_nil, strip]; rfl
theorem w14_12 : W Tryd.prog TT S 4 [4, 4, 4, 4, 4, 4, 4, 4, 4, 4, 4, 4, 4, 4, 4, 4, 4, 4, 4, 4, 4, 4] r14_12 k E m Q ↔ Rg Tryd.prog TT S 4 [4, 4, 4, 4, 4, 4, 4, 4, 4, 4, 4, 4, 4, 4, 4, 4, 4, 4, 4, 4, 4, 4] [] [4] (lgo E [3] (lops Tryd.prog (callw Tryd.prog TT S) [(some 15), (some 4)] (L14_12).1 E m)) k E Q := w_plain (by kernel_rfl) (L14_12).2
noncomputable def L14_13 : {l : List Oper // (opsOf r14_13).map strip = l} := by refine ⟨?l, ?h⟩; case h => simp only [r14_13, c14, bodyOf, Tryd.f14, Code.sub, opsOf, List.map_cons, List.map_nil, strip]; rfl
theorem w14_13 : W Tryd.prog TT S 4 [4, 4, 4, 4, 4, 4, 4, 4, 4, 4, 4, 4, 4, 4, 4, 4, 4, 4, 4, 4, 4, 4] r14_13 k E m Q ↔ Rg Tryd.prog TT S 4 [4, 4, 4, 4, 4, 4, 4, 4, 4, 4, 4, 4, 4, 4, 4, 4, 4, 4, 4, 4, 4, 4] [] [4] (lgo E [3] (lops Tryd.prog (callw Tryd.prog TT S) [(some 16), (some 4)] (L14_13).1 E m)) k E Q := w_plain (by kernel_rfl) (L14_13).2
noncomputable def L14_14 : {l : List Oper // (opsOf r14_14).map strip = l} := by refine ⟨?l, ?h⟩; case h => simp only [r14_14, c14, bodyOf, Tryd.f14, Code.sub, opsOf, List.map_cons, List.map_nil, strip]; rfl
theorem w14_14 : W Tryd.prog TT S 4 [4, 4, 4, 4, 4, 4, 4, 4, 4, 4, 4, 4, 4, 4, 4, 4, 4, 4, 4, 4, 4, 4] r14_14 k E m Q ↔ Rg Tryd.prog TT S 4 [4, 4, 4, 4, 4, 4, 4, 4, 4, 4, 4, 4, 4, 4, 4, 4, 4, 4, 4, 4, 4, 4] [] [4] (lgo E [3] (lops Tryd.prog (callw Tryd.prog TT S) [(some 17), (some 4)] (L14_14).1 E m)) k E Q := w_plain (by kernel_rfl) (L14_14).2
noncomputable def L14_15 : {l : List Oper // (opsOf r14_15).map strip = l} := by refine ⟨?l, ?h⟩; case h => simp only [r14_15, c14, bodyOf, Tryd.f14, Code.sub, opsOf, List.map_cons, List.map_nil, strip]; rfl
theorem w14_15 : W Tryd.prog TT S 4 [4, 4, 4, 4, 4, 4, 4, 4, 4, 4, 4, 4, 4, 4, 4, 4, 4, 4, 4, 4, 4, 4] r14_15 k E m Q ↔ Rg Tryd.prog TT S 4 [4, 4, 4, 4, 4, 4, 4, 4, 4, 4, 4, 4, 4, 4, 4, 4, 4, 4, 4, 4, 4, 4] [] [4] (lgo E [3] (lops Tryd.prog (callw Tryd.prog TT S) [(some 18), (some 4)] (L14_15).1 E m)) k E Q := w_plain (by kernel_rfl) (L14_15).2
noncomputable def L14_16 : {l : List Oper // (opsOf r14_16).map strip = l} := by refine ⟨?l, ?h⟩; case h => simp only [r14_16, c14, bodyOf, Tryd.f14, Code.sub, opsOf, List.map_cons, List.map_nil, strip]; rfl
theorem w14_16 : W Tryd.prog TT S 4 [4, 4, 4, 4, 4, 4, 4, 4, 4, 4, 4, 4, 4, 4, 4, 4, 4, 4, 4, 4, 4, 4] r14_16 k E m Q ↔ Rg Tryd.prog TT S 4 [4, 4, 4, 4, 4, 4, 4, 4, 4, 4, 4, 4, 4, 4, 4, 4, 4, 4, 4, 4, 4, 4] [] [4] (lgo E [3] (lops Tryd.prog (callw Tryd.prog TT S) [(some 19), (some 4)] (L14_16).1 E m)) k E Q := w_plain (by kernel_rfl) (L14_16).2
noncomputable def L14_17 : {l : List Oper // (opsOf r14_17).map strip = l} := by refine ⟨?l, ?h⟩; case h => simp only [r14_17, c14, bodyOf, Tryd.f14, Code.sub, opsOf, List.map_cons, List.map_nil, strip]; rfl
theorem w14_17 : W Tryd.prog TT S 4 [4, 4, 4, 4, 4, 4, 4, 4, 4, 4, 4, 4, 4, 4, 4, 4, 4, 4, 4, 4, 4, 4] r14_17 k E m Q ↔ Rg Tryd.prog TT S 4 [4, 4, 4, 4, 4, 4, 4, 4, 4, 4, 4, 4, 4, 4, 4, 4, 4, 4, 4, 4, 4, 4] [] [4] (lgo E [3] (lops Tryd.prog (callw Tryd.prog TT S) [(some 20), (some 4)] (L14_17).1 E m)) k E Q := w_plain (by kernel_rfl) (L14_17).2
noncomputable def L14_18 : {l : List Oper // (opsOf r14_18).map strip = l} := by refine ⟨?l, ?h⟩; case h => simp only [r14_18, c14, bodyOf, Tryd.f14, Code.sub, opsOf, List.map_cons, List.map_nil, strip]; rfl
theorem w14_18 : W Tryd.prog TT S 4 [4, 4, 4, 4, 4, 4, 4, 4, 4, 4, 4, 4, 4, 4, 4, 4, 4, 4, 4, 4, 4, 4] r14_18 k E m Q ↔ Rg Tryd.prog TT S 4 [4, 4, 4, 4, 4, 4, 4, 4, 4, 4, 4, 4, 4, 4, 4, 4, 4, 4, 4, 4, 4, 4] [] [4] (lgo E [3] (lops Tryd.prog (callw Tryd.prog TT S) [(some 21), (some 4)] (L14_18).1 E m)) k E Q := w_plain (by kernel_rfl) (L14_18).2
noncomputable def L14_19 : {l : List Oper // (opsOf r14_19).map strip = l} := by refine ⟨?l, ?h⟩; case h => simp only [r14_19, c14, bodyOf, Tryd.f14, Code.sub, opsOf, List.map_cons, List.map_nil, strip]; rfl
theorem w14_19 : W Tryd.prog TT S 4 [4, 4, 4, 4, 4, 4, 4, 4, 4, 4, 4, 4, 4, 4, 4, 4, 4, 4, 4, 4, 4, 4] r14_19 k E m Q ↔ Rg Tryd.prog TT S 4 [4, 4, 4, 4, 4, 4, 4, 4, 4, 4, 4, 4, 4, 4, 4, 4, 4, 4, 4, 4, 4, 4] [] [4] (lgo E [3] (lops Tryd.prog (callw Tryd.prog TT S) [(some 22), (some 4)] (L14_19).1 E m)) k E Q := w_plain (by kernel_rfl) (L14_19).2
noncomputable def L14_20 : {l : List Oper // (opsOf r14_20).map strip = l} := by refine ⟨?l, ?h⟩; case h => simp only [r14_20, c14, bodyOf, Tryd.f14, Code.sub, opsOf, List.map_cons, List.map_nil, strip]; rfl
theorem w14_20 : W Tryd.prog TT S 4 [4, 4, 4, 4, 4, 4, 4, 4, 4, 4, 4, 4, 4, 4, 4, 4, 4, 4, 4, 4, 4, 4] r14_20 k E m Q ↔ Rg Tryd.prog TT S 4 [4, 4, 4, 4, 4, 4, 4, 4, 4, 4, 4, 4, 4, 4, 4, 4, 4, 4, 4, 4, 4, 4] [] [4] (lgo E [3] (lops Tryd.prog (callw Tryd.prog TT S) [(some 23), (some 4)] (L14_20).1 E m)) k E Q := w_plain (by kernel_rfl) (L14_20).2
noncomputable def L14_21 : {l : List Oper // (opsOf r14_21).map strip = l} := by refine ⟨?l, ?h⟩; case h => simp only [r14_21, c14, bodyOf, Tryd.f14, Code.sub, opsOf, List.map_cons, List.map_nil, strip]; rfl
theorem w14_21 : W Tryd.prog TT S 4 [4, 4, 4, 4, 4, 4, 4, 4, 4, 4, 4, 4, 4, 4, 4, 4, 4, 4, 4, 4, 4, 4] r14_21 k E m Q ↔ Rg Tryd.prog TT S 4 [4, 4, 4, 4, 4, 4, 4, 4, 4, 4, 4, 4, 4, 4, 4, 4, 4, 4, 4, 4, 4, 4] [] [4] (lgo E [3] (lops Tryd.prog (callw Tryd.prog TT S) [(some 24), (some 4)] (L14_21).1 E m)) k E Q := w_plain (by kernel_rfl) (L14_21).2
noncomputable def L14_22 : {l : List Oper // (opsOf r14_22).map strip = l} := by refine ⟨?l, ?h⟩; case h => simp only [r14_22, c14, bodyOf, Tryd.f14, Code.sub, opsOf, List.map_cons, List.map_nil, strip]; rfl
theorem w14_22 : W Tryd.prog TT S 4 [4, 4, 4, 4, 4, 4, 4, 4, 4, 4, 4, 4, 4, 4, 4, 4, 4, 4, 4, 4, 4, 4] r14_22 k E m Q ↔ Rg Tryd.prog TT S 4 [4, 4, 4, 4, 4, 4, 4, 4, 4, 4, 4, 4, 4, 4, 4, 4, 4, 4, 4, 4, 4, 4] [] [4] (lgo E [3] (lops Tryd.prog (callw Tryd.prog TT S) [(some 25), (some 4)] (L14_22).1 E m)) k E Q := w_plain (by kernel_rfl) (L14_22).2
noncomputable def L14_23 : {l : List Oper // (opsOf r14_23).map strip = l} := by refine ⟨?l, ?h⟩; case h => simp only [r14_23, c14, bodyOf, Tryd.f14, Code.sub, opsOf, List.map_cons, List.map_nil, strip]; rfl
theorem w14_23 : W Tryd.prog TT S 4 [4, 4, 4, 4, 4, 4, 4, 4, 4, 4, 4, 4, 4, 4, 4, 4, 4, 4, 4, 4, 4, 4] r14_23 k E m Q ↔ Rg Tryd.prog TT S 4 [4, 4, 4, 4, 4, 4, 4, 4, 4, 4, 4, 4, 4, 4, 4, 4, 4, 4, 4, 4, 4, 4] [] [4] (lgo E [3] (lops Tryd.prog (callw Tryd.prog TT S) [(some 26), (some 4)] (L14_23).1 E m)) k E Q := w_plain (by kernel_rfl) (L14_23).2
noncomputable def L14_24 : {l : List Oper // (opsOf r14_24).map strip = l} := by refine ⟨?l, ?h⟩; case h => simp only [r14_24, c14, bodyOf, Tryd.f14, Code.sub, opsOf, List.map_cons, List.map_nil, strip]; rfl
theorem w14_24 : W Tryd.prog TT S 4 [4, 4, 4, 4, 4, 4, 4, 4, 4, 4, 4, 4, 4, 4, 4, 4, 4, 4, 4, 4, 4, 4] r14_24 k E m Q ↔ Rg Tryd.prog TT S 4 [4, 4, 4, 4, 4, 4, 4, 4, 4, 4, 4, 4, 4, 4, 4, 4, 4, 4, 4, 4, 4, 4] [2] [] (lgo E [] (lops Tryd.prog (callw Tryd.prog TT S) [(some 2)] (L14_24).1 E m)) k E Q := w_plain (by kernel_rfl) (L14_24).2
noncomputable def L14_25 : {l : List Oper // (opsOf r14_25).map strip = l} := by refine ⟨?l, ?h⟩; case h => simp only [r14_25, c14, bodyOf, Tryd.f14, Code.sub, opsOf, List.map_cons, List.map_nil, strip]; rfl
theorem w14_25 : W Tryd.prog TT S 4 [4, 4, 4, 4, 4, 4, 4, 4, 4, 4, 4, 4, 4, 4, 4, 4, 4, 4, 4, 4, 4, 4] r14_25 k E m Q ↔ Rg Tryd.prog TT S 4 [4, 4, 4, 4, 4, 4, 4, 4, 4, 4, 4, 4, 4, 4, 4, 4, 4, 4, 4, 4, 4, 4] [2] [] (lgo E [] (lops Tryd.prog (callw Tryd.prog TT S) [(some 2)] (L14_25).1 E m)) k E Q := w_plain (by kernel_rfl) (L14_25).2
theorem k14 : FnIs TT 14 c14 [.tmp 2] 1 := ⟨Tryd.f14, by kernel_rfl, by simp only [Tryd.f14, c14, bodyOf], by kernel_rfl, of_decide_eq_true (by kernel_rfl)⟩

/- (*token.scanner).one -/
noncomputable def c23 : Code := bodyOf Tryd.f23
noncomputable def r23_0 : Code := Code.sub [0] c23
noncomputable def r23_1 : Code := Code.sub [1, 0, 0] c23
noncomputable def r23_2 : Code := Code.sub [1, 0, 1, 0, 0] c23
noncomputable def r23_3 : Code := Code.sub [1, 0, 1, 0, 1, 0, 0, 0] c23
noncomputable def r23_4 : Code := Code.sub [1, 0, 1, 0, 1, 0, 0, 1, 0] c23
noncomputable def r23_5 : Code := Code.sub [1, 0, 1, 0, 1, 0, 1, 0] c23
noncomputable def r23_6 : Code := Code.sub [1, 0, 1, 0, 1, 0, 1, 1, 0] c23
noncomputable def r23_7 : Code := Code.sub [1, 0, 1, 0, 1, 1, 0] c23
noncomputable def r23_8 : Code := Code.sub [1, 0, 1, 0, 1, 1, 1, 0, 0] c23
noncomputable def r23_9 : Code := Code.sub [1, 0, 1, 0, 1, 1, 1, 1, 0] c23
noncomputable def r23_10 : Code := Code.sub [1, 0, 1, 0, 1, 1, 1, 1, 1, 0] c23
noncomputable def r23_11 : Code := Code.sub [1, 0, 1, 0, 1, 1, 1, 1, 1, 1, 0] c23
noncomputable def r23_12 : Code := Code.sub [1, 0, 1, 0, 1, 1, 1, 1, 1, 1, 1, 0] c23
noncomputable def r23_13 : Code := Code.sub [1, 0, 1, 0, 1, 1, 1, 1, 1, 1, 1, 1, 0] c23
noncomputable def r23_14 : Code := Code.sub [1, 0, 1, 0, 1, 1, 1, 1, 1, 1, 1, 1, 1, 0] c23
noncomputable def r23_15 : Code := Code.sub [1, 0, 1, 0, 1, 1, 1, 1, 1, 1, 1, 1, 1, 1, 0] c23
noncomputable def r23_16 : Code := Code.sub [1, 0, 1, 0, 1, 1, 1, 1, 1, 1, 1, 1, 1, 1, 1, 0] c23
noncomputable def r23_17 : Code := Code.sub [1, 1] c23
theorem body23 : c23 = (.seq r23_0 (.seq (.seq r23_1 (.block 0 (.seq r23_2 (.cond (.tmp 8) (.seq (.seq r23_3 (.cond (.tmp 12) r23_4 .skip)) (.seq r23_5 (.seq r23_6 .ret))) (.seq r23_7 (.cond (.tmp 33) (.seq r23_8 .ret) (.seq r23_9 (.cond (.tmp 46) r23_10 (.seq r23_11 (.cond (.tmp 63) r23_12 (.seq r23_13 (.cond (.tmp 68) r23_14 (.seq r23_15 (.cond (.tmp 73) r23_16 .skip)))))))))))))) r23_17)) := by kernel_rfl
noncomputable def L23_0 : {l : List Oper // (opsOf r23_0).map strip = l} := by refine ⟨?l, ?h⟩; case h => simp only [r23_0, c23, bodyOf, Tryd.f23, Code.sub, opsOf, List.map_cons, List.map_nil, strip]; rfl
theorem w23_0 : W Tryd.prog TT S 4 [8, 12, 33, 46, 63, 68, 73] r23_0 k E m Q ↔ Rg Tryd.prog TT S 4 [8, 12, 33, 46, 63, 68, 73] [2] [] (lgo E [0] (lops Tryd.prog (callw Tryd.prog TT S) [(some 4), (some 5), (some 2)] (L23_0).1 E m)) k E Q := w_plain (by kernel_rfl) (L23_0).2
noncomputable def L23_1 : {l : List Oper // (opsOf r23_1).map strip = l} := by refine ⟨?l, ?h⟩; case h => simp only [r23_1, c23, bodyOf, Tryd.f23, Code.sub, opsOf, List.map_cons, List.map_nil, strip]; rfl
theorem w23_1 : W Tryd.prog TT S 4 [8, 12, 33, 46, 63, 68, 73] r23_1 k E m Q ↔ Rg Tryd.prog TT S 4 [8, 12, 33, 46, 63, 68, 73] [3] [] (lgo E [0] (lops Tryd.prog (callw Tryd.prog TT S) [(some 6), (some 7), (some 3)] (L23_1).1 E m)) k E Q := w_plain (by kernel_rfl) (L23_1).2
noncomputable def L23_2 : {l : List Oper // (opsOf r23_2).map strip = l} := by refine ⟨?l, ?h⟩; case h => simp only [r23_2, c23, bodyOf, Tryd.f23, Code.sub, opsOf, List.map_cons, List.map_nil, strip]; rfl
theorem w23_2 : W Tryd.prog TT S 4 [8, 12, 33, 46, 63, 68, 73] r23_2 k E m Q ↔ Rg Tryd.prog TT S 4 [8, 12, 33, 46, 63, 68, 73] [] [8] (lgo E [3] (lops Tryd.prog (callw Tryd.prog TT S) [(some 9), (some 10), (some 8)] (L23_2).1 E m)) k E Q := w_plain (by kernel_rfl) (L23_2).2
noncomputable def L23_3 : {l : List Oper // (opsOf r23_3).map strip = l} := by refine ⟨?l, ?h⟩; case h => simp only [r23_3, c23, bodyOf, Tryd.f23, Code.sub, opsOf, List.map_cons, List.map_nil, strip]; rfl
theorem w23_3 : W Tryd.prog TT S 4 [8, 12, 33, 46, 63, 68, 73] r23_3 k E m Q ↔ Rg Tryd.prog TT S 4 [8, 12, 33, 46, 63, 68, 73] [] [12] (lgo E [0] (lops Tryd.prog (callw Tryd.prog TT S) [(some 11), (some 12)] (L23_3).1 E m)) k E Q := w_plain (by kernel_rfl) (L23_3).2
noncomputable def L23_4 : {l : List Oper // (opsOf r23_4).map strip = l} := by refine ⟨?l, ?h⟩; case h => simp only [r23_4, c23, bodyOf, Tryd.f23, Code.sub, opsOf, List.map_cons, List.map_nil, strip]; rfl
theorem w23_4 : W Tryd.prog TT S 4 [8, 12, 33, 46, 63, 68, 73] r23_4 k E m Q ↔ Rg Tryd.prog TT S 4 [8, 12, 33, 46, 63, 68, 73] [] [] (lgo E [0] (lops Tryd.prog (callw Tryd.prog TT S) [(some 13), (some 14)] (L23_4).1 E m)) k E Q := w_plain (by kernel_rfl) (L23_4).2
noncomputable def L23_5 : {l : List Oper // (opsOf r23_5).map strip = l} := by refine ⟨?l, ?h⟩; case h => simp only [r23_5, c23, bodyOf, Tryd.f23, Code.sub, opsOf, List.map_cons, List.map_nil, strip]; rfl
theorem w23_5 : W Tryd.prog TT S 4 [8, 12, 33, 46, 63, 68, 73] r23_5 k E m Q ↔ Rg Tryd.prog TT S 4 [8, 12, 33, 46, 63, 68, 73] [] [] (lgo E [0] (lops Tryd.prog (callw Tryd.prog TT S) [(some 15), (some 16), (some 17), (some 18), (some 19), (some 20), (some 21), none] (L23_5).1 E m)) k E Q := w_plain (by kernel_rfl) (L23_5).2
noncomputable def L23_6 : {l : List Oper // (opsOf r23_6).map strip = l} := by refine ⟨?l, ?h⟩; case h => simp only [r23_6, c23, bodyOf, Tryd.f23, Code.sub, opsOf, List.map_cons, List.map_nil, strip]; rfl
theorem w23_6 : W Tryd.prog TT S 4 [8, 12, 33, 46, 63, 68, 73] r23_6 k E m Q ↔ Rg Tryd.prog TT S 4 [8, 12, 33, 46, 63, 68, 73] [] [] (lgo E [0] (lops Tryd.prog (callw Tryd.prog TT S) [(some 22), (some 23), (some 24), (some 25), (some 26), (some 27), (some 28), (some 29), (some 30), none, (some 31), (some 32), none] (L23_6).1 E m)) k E Q := w_plain (by kernel_rfl) (L23_6).2
noncomputable def L23_7 : {l : List Oper // (opsOf r23_7).map strip = l} := by refine ⟨?l, ?h⟩; case h => simp only [r23_7, c23, bodyOf, Tryd.f23, Code.sub, opsOf, List.map_cons, List.map_nil, strip]; rfl
theorem w23_7 : W Tryd.prog TT S 4 [8, 12, 33, 46, 63, 68, 73] r23_7 k E m Q ↔ Rg Tryd.prog TT S 4 [8, 12, 33, 46, 63, 68, 73] [] [33] (lgo E [3] (lops Tryd.prog (callw Tryd.prog TT S) [(some 34), (some 35), (some 36), (some 37), (some 38), (some 39), (some 40), (some 41), (some 42), (some 43), (some 33)] (L23_7).1 E m)) k E Q := w_plain (by kernel_rfl) (L23_7).2
noncomputable def L23_8 : {l : List Oper // (opsOf r23_8).map strip = l} := by refine ⟨?l, ?h⟩; case h => simp only [r23_8, c23, bodyOf, Tryd.f23, Code.sub, opsOf, List.map_cons, List.map_nil, strip]; rfl
theorem w23_8 : W Tryd.prog TT S 4 [8, 12, 33, 46, 63, 68, 73] r23_8 k E m Q ↔ Rg Tryd.prog TT S 4 [8, 12, 33, 46, 63, 68, 73] [] [] (lgo E [0] (lops Tryd.prog (callw Tryd.prog TT S) [(some 44), (some 45)] (L23_8).1 E m)) k E Q := w_plain (by kernel_rfl) (L23_8).2
noncomputable def L23_9 : {l : List Oper // (opsOf r23_9).map strip = l} := by refine ⟨?l, ?h⟩; case h => simp only [r23_9, c23, bodyOf, Tryd.f23, Code.sub, opsOf, List.map_cons, List.map_nil, strip]; rfl
theorem w23_9 : W Tryd.prog TT S 4 [8, 12, 33, 46, 63, 68, 73] r23_9 k E m Q ↔ Rg Tryd.prog TT S 4 [8, 12, 33, 46, 63, 68, 73] [] [46] (lgo E [3, 0] (lops Tryd.prog (callw Tryd.prog TT S) [(some 47), (some 48), (some 49), (some 50), (some 51), (some 52), (some 53), (some 54), (some 55), (some 56), (some 57), (some 58), (some 59), (some 60), (some 46)] (L23_9).1 E m)) k E Q := w_plain (by kernel_rfl) (L23_9).2
noncomputable def L23_10 : {l : List Oper // (opsOf r23_10).map strip = l} := by refine ⟨?l, ?h⟩; case h => simp only [r23_10, c23, bodyOf, Tryd.f23, Code.sub, opsOf, List.map_cons, List.map_nil, strip]; rfl
theorem w23_10 : W Tryd.prog TT S 4 [8, 12, 33, 46, 63, 68, 73] r23_10 k E m Q ↔ Rg Tryd.prog TT S 4 [8, 12, 33, 46, 63, 68, 73] [2] [] (lgo E [0] (lops Tryd.prog (callw Tryd.prog TT S) [(some 61), (some 62), (some 2)] (L23_10).1 E m)) k E Q := w_plain (by kernel_rfl) (L23_10).2
noncomputable def L23_11 : {l : List Oper // (opsOf r23_11).map strip = l} := by refine ⟨?l, ?h⟩; case h => simp only [r23_11, c23, bodyOf, Tryd.f23, Code.sub, opsOf, List.map_cons, List.map_nil, strip]; rfl
theorem w23_11 : W Tryd.prog TT S 4 [8, 12, 33, 46, 63, 68, 73] r23_11 k E m Q ↔ Rg Tryd.prog TT S 4 [8, 12, 33, 46, 63, 68, 73] [] [63] (lgo E [3] (lops Tryd.prog (callw Tryd.prog TT S) [(some 64), (some 65), (some 63)] (L23_11).1 E m)) k E Q := w_plain (by kernel_rfl) (L23_11).2
noncomputable def L23_12 : {l : List Oper // (opsOf r23_12).map strip = l} := by refine ⟨?l, ?h⟩; case h => simp only [r23_12, c23, bodyOf, Tryd.f23, Code.sub, opsOf, List.map_cons, List.map_nil, strip]; rfl
theorem w23_12 : W Tryd.prog TT S 4 [8, 12, 33, 46, 63, 68, 73] r23_12 k E m Q ↔ Rg Tryd.prog TT S 4 [8, 12, 33, 46, 63, 68, 73] [2] [] (lgo E [0] (lops Tryd.prog (callw Tryd.prog TT S) [(some 66), (some 67), (some 2)] (L23_12).1 E m)) k E Q := w_plain (by kernel_rfl) (L23_12).2
noncomputable def L23_13 : {l : List Oper // (opsOf r23_13).map strip = l} := by refine ⟨?l, ?h⟩; case h => simp only [r23_13, c23, bodyOf, Tryd.f23, Code.sub, opsOf, List.map_cons, List.map_nil, strip]; rfl
theorem w23_13 : W Tryd.prog TT S 4 [8, 12, 33, 46, 63, 68, 73] r23_13 k E m Q ↔ Rg Tryd.prog TT S 4 [8, 12, 33, 46, 63, 68, 73] [] [68] (lgo E [3] (lops Tryd.prog (callw Tryd.prog TT S) [(some 69), (some 70), (some 68)] (L23_13).1 E m)) k E Q := w_plain (by kernel_rfl) (L23_13).2
noncomputable def L23_14 : {l : List Oper // (opsOf r23_14).map strip = l} := by refine ⟨?l, ?h⟩; case h => simp only [r23_14, c23, bodyOf, Tryd.f23, Code.sub, opsOf, List.map_cons, List.map_nil, strip]; rfl
theorem w23_14 : W Tryd.prog TT S 4 [8, 12, 33, 46, 63, 68, 73] r23_14 k E m Q ↔ Rg Tryd.prog TT S 4 [8, 12, 33, 46, 63, 68, 73] [2] [] (lgo E [0] (lops Tryd.prog (callw Tryd.prog TT S) [(some 71), (some 72), (some 2)] (L23_14).1 E m)) k E Q := w_plain (by kernel_rfl) (L23_14).2
noncomputable def L23_15 : {l : List Oper // (opsOf r23_15).map strip = l} := by refine ⟨?l, ?h⟩; case h => simp only [r23_15, c23, bodyOf, Tryd.f23, Code.sub, opsOf, List.map_cons, List.map_nil, strip]; rfl
theorem w23_15 : W Tryd.prog TT S 4 [8, 12, 33, 46, 63, 68, 73] r23_15 k E m Q ↔ Rg Tryd.prog TT S 4 [8, 12, 33, 46, 63, 68, 73] [] [73] (lgo E [3] (lops Tryd.prog (callw Tryd.prog TT S) [(some 74), (some 75), (some 73)] (L23_15).1 E m)) k E Q := w_plain (by kernel_rfl) (L23_15).2
noncomputable def L23_16 : {l : List Oper // (opsOf r23_16).map strip = l} := by refine ⟨?l, ?h⟩; case h => simp only [r23_16, c23, bodyOf, Tryd.f23, Code.sub, opsOf, List.map_cons, List.map_nil, strip]; rfl
theorem w23_16 : W Tryd.prog TT S 4 [8, 12, 33, 46, 63, 68, 73] r23_16 k E m Q ↔ Rg Tryd.prog TT S 4 [8, 12, 33, 46, 63, 68, 73] [2] [] (lgo E [0] (lops Tryd.prog (callw Tryd.prog TT S) [(some 76), (some 77), (some 2)] (L23_16).1 E m)) k E Q := w_plain (by kernel_rfl) (L23_16).2
noncomputable def L23_17 : {l : List Oper // (opsOf r23_17).map strip = l} := by refine ⟨?l, ?h⟩; case h => simp only [r23_17, c23, bodyOf, Tryd.f23, Code.sub, opsOf, List.map_cons, List.map_nil, strip]; rfl
theorem w23_17 : W Tryd.prog TT S 4 [8, 12, 33, 46, 63, 68, 73] r23_17 k E m Q ↔ Rg Tryd.prog TT S 4 [8, 12, 33, 46, 63, 68, 73] [] [] (lgo E [0, 2] (lops Tryd.prog (callw Tryd.prog TT S) [(some 78), (some 79), (some 80), (some 81)] (L23_17).1 E m)) k E Q := w_plain (by kernel_rfl) (L23_17).2
theorem k23 : FnIs TT 23 c23 [] 1 := ⟨Tryd.f23, by kernel_rfl, by simp only [Tryd.f23, c23, bodyOf], by kernel_rfl, of_decide_eq_true (by kernel_rfl)⟩

/- (*token.scanner).ends -/
noncomputable def c24 : Code := bodyOf Tryd.f24
noncomputable def r24_0 : Code := Code.sub [0] c24
noncomputable def r24_1 : Code := Code.sub [1, 0, 0] c24
noncomputable def r24_2 : Code := Code.sub [1, 0, 1, 0, 0] c24
noncomputable def r24_3 : Code := Code.sub [1, 1, 0] c24
noncomputable def r24_4 : Code := Code.sub [1, 1, 1, 0, 0] c24
noncomputable def r24_5 : Code := Code.sub [1, 1, 1, 0, 1, 0, 0, 0] c24
noncomputable def r24_6 : Code := Code.sub [1, 1, 1, 0, 1, 0, 0, 1, 1, 0] c24
noncomputable def r24_7 : Code := Code.sub [1, 1, 1, 0, 1, 0, 0, 1, 1, 1, 1] c24
noncomputable def r24_8 : Code := Code.sub [1, 1, 1, 0, 1, 0, 1, 0, 0] c24
noncomputable def r24_9 : Code := Code.sub [1, 1, 1, 0, 1, 0, 1, 1, 0] c24
noncomputable def r24_10 : Code := Code.sub [1, 1, 1, 0, 1, 0, 1, 1, 1, 0, 0] c24
noncomputable def r24_11 : Code := Code.sub [1, 1, 1, 0, 1, 0, 1, 1, 1, 0, 1, 0, 0, 0] c24
noncomputable def r24_12 : Code := Code.sub [1, 1, 1, 0, 1, 0, 1, 1, 1, 0, 1, 0, 0, 1, 1, 0] c24
noncomputable def r24_13 : Code := Code.sub [1, 1, 1, 0, 1, 0, 1, 1, 1, 0, 1, 0, 0, 1, 1, 1, 1, 0] c24
noncomputable def r24_14 : Code := Code.sub [1, 1, 1, 0, 1, 0, 1, 1, 1, 0, 1, 0, 0, 1, 1, 1, 1, 1, 1, 0] c24
noncomputable def r24_15 : Code := Code.sub [1, 1, 1, 0, 1, 0, 1, 1, 1, 0, 1, 0, 0, 1, 1, 1, 1, 1, 1, 1, 1, 0] c24
noncomputable def r24_16 : Code := Code.sub [1, 1, 1, 0, 1, 0, 1, 1, 1, 0, 1, 0, 0, 1, 1, 1, 1, 1, 1, 1, 1, 1, 1, 0] c24
noncomputable def r24_17 : Code := Code.sub [1, 1, 1, 0, 1, 0, 1, 1, 1, 0, 1, 0, 0, 1, 1, 1, 1, 1, 1, 1, 1, 1, 1, 1, 1, 0] c24
noncomputable def r24_18 : Code := Code.sub [1, 1, 1, 0, 1, 0, 1, 1, 1, 0, 1, 0, 0, 1, 1, 1, 1, 1, 1, 1, 1, 1, 1, 1, 1, 1, 1, 0] c24
noncomputable def r24_19 : Code := Code.sub [1, 1, 1, 0, 1, 0, 1, 1, 1, 0, 1, 0, 0, 1, 1, 1, 1, 1, 1, 1, 1, 1, 1, 1, 1, 1, 1, 1, 1] c24
noncomputable def r24_20 : Code := Code.sub [1, 1, 1, 0, 1, 0, 1, 1, 1, 0, 1, 0, 1, 0, 0] c24
noncomputable def r24_21 : Code := Code.sub [1, 1, 1, 0, 1, 0, 1, 1, 1, 1, 0] c24
noncomputable def r24_22 : Code := Code.sub [1, 1, 1, 0, 1, 0, 1, 1, 1, 1, 1, 0, 0] c24
noncomputable def r24_23 : Code := Code.sub [1, 1, 1, 1, 0] c24
theorem body24 : c24 = (.seq r24_0 (.seq (.seq r24_1 (.cond (.tmp 9) (.seq r24_2 .ret) .skip)) (.seq r24_3 (.seq (.seq r24_4 (.block 0 (.seq (.seq r24_5 (.cond (.tmp 24) .skip (.seq r24_6 (.cond (.tmp 24) .skip r24_7)))) (.cond (.tmp 24) (.seq r24_8 .ret) (.seq r24_9 (.cond (.tmp 28) (.seq r24_10 (.block 1 (.seq (.seq r24_11 (.cond (.tmp 32) .skip (.seq r24_12 (.cond (.tmp 32) .skip (.seq r24_13 (.cond (.tmp 32) .skip (.seq r24_14 (.cond (.tmp 32) .skip (.seq r24_15 (.cond (.tmp 32) .skip (.seq r24_16 (.cond (.tmp 32) .skip (.seq r24_17 (.cond (.tmp 32) .skip (.seq r24_18 (.cond (.tmp 32) .skip r24_19)))))))))))))))) (.cond (.tmp 32) (.seq r24_20 .ret) .skip)))) (.seq r24_21 (.cond (.tmp 42) (.seq r24_22 .ret) .skip)))))))) (.seq r24_23 .ret))))) := by kernel_rfl
noncomputable def L24_0 : {l : List Oper // (opsOf r24_0).map strip = l} := by refine ⟨?l, ?h⟩; case h => simp only [r24_0, c24, bodyOf, Tryd.f24, Code.sub, opsOf, List.map_cons, List.map_nil, strip]; rfl
theorem w24_0 : W Tryd.prog TT S 32 [32, 32, 32, 32, 32, 32, 32, 32, 32, 42] r24_0 k E m Q ↔ Rg Tryd.prog TT S 32 [32, 32, 32, 32, 32, 32, 32, 32, 32, 42] [2] [] (lgo E [] (lops Tryd.prog (callw Tryd.prog TT S) [(some 2)] (L24_0).1 E m)) k E Q := w_plain (by kernel_rfl) (L24_0).2
noncomputable def L24_1 : {l : List Oper // (opsOf r24_1).map strip = l} := by refine ⟨?l, ?h⟩; case h => simp only [r24_1, c24, bodyOf, Tryd.f24, Code.sub, opsOf, List.map_cons, List.map_nil, strip]; rfl
theorem w24_1 : W Tryd.prog TT S 32 [32, 32, 32, 32, 32, 32, 32, 32, 32, 42] r24_1 k E m Q ↔ Rg Tryd.prog TT S 32 [32, 32, 32, 32, 32, 32, 32, 32, 32, 42] [4, 5, 6, 7, 8, 9] [] (lgo E [0] (lops Tryd.prog (callw Tryd.prog TT S) [(some 4), (some 5), (some 6), (some 7), (some 8), (some 9)] (L24_1).1 E m)) k E Q := w_plain (by kernel_rfl) (L24_1).2
noncomputable def L24_2 : {l : List Oper // (opsOf r24_2).map strip = l} := by refine ⟨?l, ?h⟩; case h => simp only [r24_2, c24, bodyOf, Tryd.f24, Code.sub, opsOf, List.map_cons, List.map_nil, strip]; rfl
theorem w24_2 : W Tryd.prog TT S 32 [32, 32, 32, 32, 32, 32, 32, 32, 32, 42] r24_2 k E m Q ↔ Rg Tryd.prog TT S 32 [32, 32, 32, 32, 32, 32, 32, 32, 32, 42] [2] [] (lgo E [] (lops Tryd.prog (callw Tryd.prog TT S) [(some 2)] (L24_2).1 E m)) k E Q := w_plain (by kernel_rfl) (L24_2).2
theorem can24_3 : canonOps (opsOf r24_3) = List.filterMap (fun i => ((opsOf r24_3)[i]?).map (renum [0, 1, 2, 3, 4, 5, 6, 7, 8, 9, 10, 11, 12, 13])) [0, 1, 2, 3, 4, 5, 6, 7, 8, 9, 10, 11, 12, 13] := by kernel_rfl
noncomputable def L24_3 : {l : List Oper // (canonOps (opsOf r24_3)).map strip = l} := by refine ⟨?l, (congrArg (List.map strip) can24_3).trans ?h⟩; case h => simp only [r24_3, c24, bodyOf, Tryd.f24, Code.sub, opsOf, List.filterMap_cons, List.filterMap_nil, List.getElem?_cons_succ, List.getElem?_cons_zero, Option.map_some, renum, List.map_cons, List.map_nil, strip]; rfl
theorem w24_3 : W Tryd.prog TT S 32 [32, 32, 32, 32, 32, 32, 32, 32, 32, 42] r24_3 k E m Q ↔ Rg Tryd.prog TT S 32 [32, 32, 32, 32, 32, 32, 32, 32, 32, 42] [10, 11, 12, 13, 14, 15, 16, 17, 18, 19, 20, 21, 3] [] (lgo E [0] (lloud Tryd.prog (callw Tryd.prog TT S) [(some 10), (some 11), (some 12), (some 13), (some 14), (some 15), (some 16), (some 17), (some 18), (some 19), (some 20), (some 21), (some 3), none] (L24_3).1 [(3, [12, 13]), (7, [12, 13]), (8, [12, 13]), (11, [12, 13])] (lstates Tryd.prog (callw Tryd.prog TT S) [(some 10), (some 11), (some 12), (some 13), (some 14), (some 15), (some 16), (some 17), (some 18), (some 19), (some 20), (some 21), (some 3), none] (L24_3).1 E m))) k E Q := w_loud (by kernel_rfl) (L24_3).2
noncomputable def L24_4 : {l : List Oper // (opsOf r24_4).map strip = l} := by refine ⟨?l, ?h⟩; case h => simp only [r24_4, c24, bodyOf, Tryd.f24, Code.sub, opsOf, List.map_cons, List.map_nil, strip]; rfl
theorem w24_4 : W Tryd.prog TT S 32 [32, 32, 32, 32, 32, 32, 32, 32, 32, 42] r24_4 k E m Q ↔ Rg Tryd.prog TT S 32 [32, 32, 32, 32, 32, 32, 32, 32, 32, 42] [22, 23] [] (lgo E [3] (lops Tryd.prog (callw Tryd.prog TT S) [(some 22), (some 23)] (L24_4).1 E m)) k E Q := w_plain (by kernel_rfl) (L24_4).2
noncomputable def L24_5 : {l : List Oper // (opsOf r24_5).map strip = l} := by refine ⟨?l, ?h⟩; case h => simp only [r24_5, c24, bodyOf, Tryd.f24, Code.sub, opsOf, List.map_cons, List.map_nil, strip]; rfl
theorem w24_5 : W Tryd.prog TT S 32 [32, 32, 32, 32, 32, 32, 32, 32, 32, 42] r24_5 k E m Q ↔ Rg Tryd.prog TT S 32 [32, 32, 32, 32, 32, 32, 32, 32, 32, 42] [25, 24] [] (lgo E [23] (lops Tryd.prog (callw Tryd.prog TT S) [(some 25), (some 24)] (L24_5).1 E m)) k E Q := w_plain (by kernel_rfl) (L24_5).2
noncomputable def L24_6 : {l : List Oper // (opsOf r24_6).map strip = l} := by refine ⟨?l, ?h⟩; case h => simp only [r24_6, c24, bodyOf, Tryd.f24, Code.sub, opsOf, List.map_cons, List.map_nil, strip]; rfl
theorem w24_6 : W Tryd.prog TT S 32 [32, 32, 32, 32, 32, 32, 32, 32, 32, 42] r24_6 k E m Q ↔ Rg Tryd.prog TT S 32 [32, 32, 32, 32, 32, 32, 32, 32, 32, 42] [26, 24] [] (lgo E [23] (lops Tryd.prog (callw Tryd.prog TT S) [(some 26), (some 24)] (L24_6).1 E m)) k E Q := w_plain (by kernel_rfl) (L24_6).2
noncomputable def L24_7 : {l : List Oper // (opsOf r24_7).map strip = l} := by refine ⟨?l, ?h⟩; case h => simp only [r24_7, c24, bodyOf, Tryd.f24, Code.sub, opsOf, List.map_cons, List.map_nil, strip]; rfl
theorem w24_7 : W Tryd.prog TT S 32 [32, 32, 32, 32, 32, 32, 32, 32, 32, 42] r24_7 k E m Q ↔ Rg Tryd.prog TT S 32 [32, 32, 32, 32, 32, 32, 32, 32, 32, 42] [27, 24] [] (lgo E [23] (lops Tryd.prog (callw Tryd.prog TT S) [(some 27), (some 24)] (L24_7).1 E m)) k E Q := w_plain (by kernel_rfl) (L24_7).2
noncomputable def L24_8 : {l : List Oper // (opsOf r24_8).map strip = l} := by refine ⟨?l, ?h⟩; case h => simp only [r24_8, c24, bodyOf, Tryd.f24, Code.sub, opsOf, List.map_cons, List.map_nil, strip]; rfl
theorem w24_8 : W Tryd.prog TT S 32 [32, 32, 32, 32, 32, 32, 32, 32, 32, 42] r24_8 k E m Q ↔ Rg Tryd.prog TT S 32 [32, 32, 32, 32, 32, 32, 32, 32, 32, 42] [2] [] (lgo E [] (lops Tryd.prog (callw Tryd.prog TT S) [(some 2)] (L24_8).1 E m)) k E Q := w_plain (by kernel_rfl) (L24_8).2
noncomputable def L24_9 : {l : List Oper // (opsOf r24_9).map strip = l} := by refine ⟨?l, ?h⟩; case h => simp only [r24_9, c24, bodyOf, Tryd.f24, Code.sub, opsOf, List.map_cons, List.map_nil, strip]; rfl
theorem w24_9 : W Tryd.prog TT S 32 [32, 32, 32, 32, 32, 32, 32, 32, 32, 42] r24_9 k E m Q ↔ Rg Tryd.prog TT S 32 [32, 32, 32, 32, 32, 32, 32, 32, 32, 42] [29, 28] [] (lgo E [23] (lops Tryd.prog (callw Tryd.prog TT S) [(some 29), (some 28)] (L24_9).1 E m)) k E Q := w_plain (by kernel_rfl) (L24_9).2
noncomputable def L24_10 : {l : List Oper // (opsOf r24_10).map strip = l} := by refine ⟨?l, ?h⟩; case h => simp only [r24_10, c24, bodyOf, Tryd.f24, Code.sub, opsOf, List.map_cons, List.map_nil, strip]; rfl
theorem w24_10 : W Tryd.prog TT S 32 [32, 32, 32, 32, 32, 32, 32, 32, 32, 42] r24_10 k E m Q ↔ Rg Tryd.prog TT S 32 [32, 32, 32, 32, 32, 32, 32, 32, 32, 42] [30, 31] [] (lgo E [3] (lops Tryd.prog (callw Tryd.prog TT S) [(some 30), (some 31)] (L24_10).1 E m)) k E Q := w_plain (by kernel_rfl) (L24_10).2
noncomputable def L24_11 : {l : List Oper // (opsOf r24_11).map strip = l} := by refine ⟨?l, ?h⟩; case h => simp only [r24_11, c24, bodyOf, Tryd.f24, Code.sub, opsOf, List.map_cons, List.map_nil, strip]; rfl
theorem w24_11 : W Tryd.prog TT S 32 [32, 32, 32, 32, 32, 32, 32, 32, 32, 42] r24_11 k E m Q ↔ Rg Tryd.prog TT S 32 [32, 32, 32, 32, 32, 32, 32, 32, 32, 42] [] [32] (lgo E [31] (lops Tryd.prog (callw Tryd.prog TT S) [(some 33), (some 32)] (L24_11).1 E m)) k E Q := w_plain (by kernel_rfl) (L24_11).2
noncomputable def L24_12 : {l : List Oper // (opsOf r24_12).map strip = l} := by refine ⟨?l, ?h⟩; case h => simp only [r24_12, c24, bodyOf, Tryd.f24, Code.sub, opsOf, List.map_cons, List.map_nil, strip]; rfl
theorem w24_12 : W Tryd.prog TT S 32 [32, 32, 32, 32, 32, 32, 32, 32, 32, 42] r24_12 k E m Q ↔ Rg Tryd.prog TT S 32 [32, 32, 32, 32, 32, 32, 32, 32, 32, 42] [] [32] (lgo E [31] (lops Tryd.prog (callw Tryd.prog TT S) [(some 34), (some 32)] (L24_12).1 E m)) k E Q := w_plain (by kernel_rfl) (L24_12).2
noncomputable def L24_13 : {l : List Oper // (opsOf r24_13).map strip = l} := by refine ⟨?l, ?h⟩; case h => simp only [r24_13, c24, bodyOf, Tryd.f24, Code.sub, opsOf, List.map_cons, List.map_nil, strip]; rfl
theorem w24_13 : W Tryd.prog TT S 32 [32, 32, 32, 32, 32, 32, 32, 32, 32, 42] r24_13 k E m Q ↔ Rg Tryd.prog TT S 32 [32, 32, 32, 32, 32, 32, 32, 32, 32, 42] [] [32] (lgo E [31] (lops Tryd.prog (callw Tryd.prog TT S) [(some 35), (some 32)] (L24_13).1 E m)) k E Q := w_plain (by kernel_rfl) (L24_13).2
noncomputable def L24_14 : {l : List Oper // (opsOf r24_14).map strip = l} := by refine ⟨?l, ?h⟩; case h => simp only [r24_14, c24, bodyOf, Tryd.f24, Code.sub, opsOf, List.map_cons, List.map_nil, strip]; rfl
theorem w24_14 : W Tryd.prog TT S 32 [32, 32, 32, 32, 32, 32, 32, 32, 32, 42] r24_14 k E m Q ↔ Rg Tryd.prog TT S 32 [32, 32, 32, 32, 32, 32, 32, 32, 32, 42] [] [32] (lgo E [31] (lops Tryd.prog (callw Tryd.prog TT S) [(some 36), (some 32)] (L24_14).1 E m)) k E Q := w_plain (by kernel_rfl) (L24_14).2
noncomputable def L24_15 : {l : List Oper // (opsOf r24_15).map strip = l} := by refine ⟨?l, ?h⟩; case h => simp only [r24_15, c24, bodyOf, Tryd.f24, Code.sub, opsOf, List.map_cons, List.map_nil, strip]; rfl
theorem w24_15 : W Tryd.prog TT S 32 [32, 32, 32, 32, 32, 32, 32, 32, 32, 42] r24_15 k E m Q ↔ Rg Tryd.prog TT S 32 [32, 32, 32, 32, 32, 32, 32, 32, 32, 42] [] [32] (lgo E [31] (lops Tryd.prog (callw Tryd.prog TT S) [(some 37), (some 32)] (L24_15).1 E m)) k E Q := w_plain (by kernel_rfl) (L24_15).2
noncomputable def L24_16 : {l : List Oper // (opsOf r24_16).map strip = l} := by refine ⟨?l, ?h⟩; case h => simp only [r24_16, c24, bodyOf, Tryd.f24, Code.sub, opsOf, List.map_cons, List.map_nil, strip]; rfl
theorem w24_16 : W Tryd.prog TT S 32 [32, 32, 32, 32, 32, 32, 32, 32, 32, 42] r24_16 k E m Q ↔ Rg Tryd.prog TT S 32 [32, 32, 32, 32, 32, 32, 32, 32, 32, 42] [] [32] (lgo E [31] (lops Tryd.prog (callw Tryd.prog TT S) [(some 38), (some 32)] (L24_16).1 E m)) k E Q := w_plain (by kernel_rfl) (L24_16).2
noncomputable def L24_17 : {l : List Oper // (opsOf r24_17).map strip = l} := by refine ⟨?l, ?h⟩; case h => simp only [r24_17, c24, bodyOf, Tryd.f24, Code.sub, opsOf, List.map_cons, List.map_nil, strip]; rfl
theorem w24_17 : W Tryd.prog TT S 32 [32, 32, 32, 32, 32, 32, 32, 32, 32, 42] r24_17 k E m Q ↔ Rg Tryd.prog TT S 32 [32, 32, 32, 32, 32, 32, 32, 32, 32, 42] [] [32] (lgo E [31] (lops Tryd.prog (callw Tryd.prog TT S) [(some 39), (some 32)] (L24_17).1 E m)) k E Q := w_plain (by kernel_rfl) (L24_17).2
noncomputable def L24_18 : {l : List Oper // (opsOf r24_18).map strip = l} := by refine ⟨?l, ?h⟩; case h => simp only [r24_18, c24, bodyOf, Tryd.f24, Code.sub, opsOf, List.map_cons, List.map_nil, strip]; rfl
theorem w24_18 : W Tryd.prog TT S 32 [32, 32, 32, 32, 32, 32, 32, 32, 32, 42] r24_18 k E m Q ↔ Rg Tryd.prog TT S 32 [32, 32, 32, 32, 32, 32, 32, 32, 32, 42] [] [32] (lgo E [31] (lops Tryd.prog (callw Tryd.prog TT S) [(some 40), (some 32)] (L24_18).1 E m)) k E Q := w_plain (by kernel_rfl) (L24_18).2
noncomputable def L24_19 : {l : List Oper // (opsOf r24_19).map strip = l} := by refine ⟨?l, ?h⟩; case h => simp only [r24_19, c24, bodyOf, Tryd.f24, Code.sub, opsOf, List.map_cons, List.map_nil, strip]; rfl
theorem w24_19 : W Tryd.prog TT S 32 [32, 32, 32, 32, 32, 32, 32, 32, 32, 42] r24_19 k E m Q ↔ Rg Tryd.prog TT S 32 [32, 32, 32, 32, 32, 32, 32, 32, 32, 42] [] [32] (lgo E [31] (lops Tryd.prog (callw Tryd.prog TT S) [(some 41), (some 32)] (L24_19).1 E m)) k E Q := w_plain (by kernel_rfl) (L24_19).2
noncomputable def L24_20 : {l : List Oper // (opsOf r24_20).map strip = l} := by refine ⟨?l, ?h⟩; case h => simp only [r24_20, c24, bodyOf, Tryd.f24, Code.sub, opsOf, List.map_cons, List.map_nil, strip]; rfl
theorem w24_20 : W Tryd.prog TT S 32 [32, 32, 32, 32, 32, 32, 32, 32, 32, 42] r24_20 k E m Q ↔ Rg Tryd.prog TT S 32 [32, 32, 32, 32, 32, 32, 32, 32, 32, 42] [2] [] (lgo E [] (lops Tryd.prog (callw Tryd.prog TT S) [(some 2)] (L24_20).1 E m)) k E Q := w_plain (by kernel_rfl) (L24_20).2
noncomputable def L24_21 : {l : List Oper // (opsOf r24_21).map strip = l} := by refine ⟨?l, ?h⟩; case h => simp only [r24_21, c24, bodyOf, Tryd.f24, Code.sub, opsOf, List.map_cons, List.map_nil, strip]; rfl
theorem w24_21 : W Tryd.prog TT S 32 [32, 32, 32, 32, 32, 32, 32, 32, 32, 42] r24_21 k E m Q ↔ Rg Tryd.prog TT S 32 [32, 32, 32, 32, 32, 32, 32, 32, 32, 42] [] [42] (lgo E [23] (lops Tryd.prog (callw Tryd.prog TT S) [(some 43), (some 42)] (L24_21).1 E m)) k E Q := w_plain (by kernel_rfl) (L24_21).2
noncomputable def L24_22 : {l : List Oper // (opsOf r24_22).map strip = l} := by refine ⟨?l, ?h⟩; case h => simp only [r24_22, c24, bodyOf, Tryd.f24, Code.sub, opsOf, List.map_cons, List.map_nil, strip]; rfl
theorem w24_22 : W Tryd.prog TT S 32 [32, 32, 32, 32, 32, 32, 32, 32, 32, 42] r24_22 k E m Q ↔ Rg Tryd.prog TT S 32 [32, 32, 32, 32, 32, 32, 32, 32, 32, 42] [2] [] (lgo E [3] (lops Tryd.prog (callw Tryd.prog TT S) [(some 44), (some 45), (some 46), (some 47), (some 48), (some 49), (some 50), (some 51), (some 52), (some 53), (some 54), (some 55), (some 56), (some 2)] (L24_22).1 E m)) k E Q := w_plain (by kernel_rfl) (L24_22).2
noncomputable def L24_23 : {l : List Oper // (opsOf r24_23).map strip = l} := by refine ⟨?l, ?h⟩; case h => simp only [r24_23, c24, bodyOf, Tryd.f24, Code.sub, opsOf, List.map_cons, List.map_nil, strip]; rfl
theorem w24_23 : W Tryd.prog TT S 32 [32, 32, 32, 32, 32, 32, 32, 32, 32, 42] r24_23 k E m Q ↔ Rg Tryd.prog TT S 32 [32, 32, 32, 32, 32, 32, 32, 32, 32, 42] [2] [] (lgo E [] (lops Tryd.prog (callw Tryd.prog TT S) [(some 2)] (L24_23).1 E m)) k E Q := w_plain (by kernel_rfl) (L24_23).2
theorem k24 : FnIs TT 24 c24 [.tmp 2] 1 := ⟨Tryd.f24, by kernel_rfl, by simp only [Tryd.f24, c24, bodyOf], by kernel_rfl, of_decide_eq_true (by kernel_rfl)⟩

/- (*token.scanner).put -/
noncomputable def c25 : Code := bodyOf Tryd.f25
noncomputable def r25_0 : Code := Code.sub [0, 0] c25
noncomputable def r25_1 : Code := Code.sub [0, 1, 0, 0] c25
noncomputable def r25_2 : Code := Code.sub [1] c25
theorem body25 : c25 = (.seq (.seq r25_0 (.cond (.tmp 13) (.seq r25_1 .ret) .skip)) r25_2) := by kernel_rfl
noncomputable def L25_0 : {l : List Oper // (opsOf r25_0).map strip = l} := by refine ⟨?l, ?h⟩; case h => simp only [r25_0, c25, bodyOf, Tryd.f25, Code.sub, opsOf, List.map_cons, List.map_nil, strip]; rfl
theorem w25_0 : W Tryd.prog TT S 4 [13] r25_0 k E m Q ↔ Rg Tryd.prog TT S 4 [13] [] [13] (lgo E [0] (lops Tryd.prog (callw Tryd.prog TT S) [(some 8), (some 9), (some 10), (some 11), (some 12), (some 13)] (L25_0).1 E m)) k E Q := w_plain (by kernel_rfl) (L25_0).2
theorem can25_1 : canonOps (opsOf r25_1) = opsOf r25_1 := by kernel_rfl
noncomputable def L25_1 : {l : List Oper // (canonOps (opsOf r25_1)).map strip = l} := by refine ⟨?l, (congrArg (List.map strip) can25_1).trans ?h⟩; case h => simp only [r25_1, c25, bodyOf, Tryd.f25, Code.sub, opsOf, List.map_cons, List.map_nil, strip]; rfl
theorem w25_1 : W Tryd.prog TT S 4 [13] r25_1 k E m Q ↔ Rg Tryd.prog TT S 4 [13] [] [] (lgo E [0] (lloud Tryd.prog (callw Tryd.prog TT S) [(some 14), (some 15), (some 16), (some 17), (some 18), (some 19), (some 20), (some 21), (some 22), (some 23), (some 24), (some 25), (some 26), none, (some 27), (some 28), none] (L25_1).1 [(5, [13]), (9, [13])] (lstates Tryd.prog (callw Tryd.prog TT S) [(some 14), (some 15), (some 16), (some 17), (some 18), (some 19), (some 20), (some 21), (some 22), (some 23), (some 24), (some 25), (some 26), none, (some 27), (some 28), none] (L25_1).1 E m))) k E Q := w_loud (by kernel_rfl) (L25_1).2
theorem can25_2 : canonOps (opsOf r25_2) = List.filterMap (fun i => ((opsOf r25_2)[i]?).map (renum [0, 1, 2, 3, 4, 5, 6, 7, 8, 9, 10, 11, 12, 13, 14, 15, 16, 17, 18, 19, 20, 21])) [0, 1, 2, 3, 4, 5, 6, 7, 8, 9, 10, 11, 12, 13, 14, 15, 16, 17, 18, 19, 20, 21] := by kernel_rfl
noncomputable def L25_2 : {l : List Oper // (canonOps (opsOf r25_2)).map strip = l} := by refine ⟨?l, (congrArg (List.map strip) can25_2).trans ?h⟩; case h => simp only [r25_2, c25, bodyOf, Tryd.f25, Code.sub, opsOf, List.filterMap_cons, List.filterMap_nil, List.getElem?_cons_succ, List.getElem?_cons_zero, Option.map_some, renum, List.map_cons, List.map_nil, strip]; rfl
theorem w25_2 : W Tryd.prog TT S 4 [13] r25_2 k E m Q ↔ Rg Tryd.prog TT S 4 [13] [] [] (lgo E [1, 2, 3, 0] (lloud Tryd.prog (callw Tryd.prog TT S) [(some 29), (some 30), (some 31), (some 32), (some 33), (some 34), (some 35), (some 36), (some 37), (some 38), (some 39), (some 40), (some 41), (some 42), (some 43), (some 44), (some 45), (some 46), (some 47), (some 48), (some 49), none] (L25_2).1 [(4, [17, 18]), (11, [17]), (15, [17])] (lstates Tryd.prog (callw Tryd.prog TT S) [(some 29), (some 30), (some 31), (some 32), (some 33), (some 34), (some 35), (some 36), (some 37), (some 38), (some 39), (some 40), (some 41), (some 42), (some 43), (some 44), (some 45), (some 46), (some 47), (some 48), (some 49), none] (L25_2).1 E m))) k E Q := w_loud (by kernel_rfl) (L25_2).2
theorem k25 : FnIs TT 25 c25 [] 4 := ⟨Tryd.f25, by kernel_rfl, by simp only [Tryd.f25, c25, bodyOf], by kernel_rfl, of_decide_eq_true (by kernel_rfl)⟩

/- token.letter -/
noncomputable def c26 : Code := bodyOf Tryd.f26
noncomputable def r26_0 : Code := Code.sub [0] c26
noncomputable def r26_1 : Code := Code.sub [1, 0] c26
theorem body26 : c26 = (.seq r26_0 (.seq r26_1 .ret)) := by kernel_rfl
noncomputable def L26_0 : {l : List Oper // (opsOf r26_0).map strip = l} := by refine ⟨?l, ?h⟩; case h => simp only [r26_0, c26, bodyOf, Tryd.f26, Code.sub, opsOf, List.map_cons, List.map_nil, strip]; rfl
theorem w26_0 : W Tryd.prog TT S 3 [] r26_0 k E m Q ↔ Rg Tryd.prog TT S 3 [] [2] [] (lgo E [] (lops Tryd.prog (callw Tryd.prog TT S) [(some 2)] (L26_0).1 E m)) k E Q := w_plain (by kernel_rfl) (L26_0).2
noncomputable def L26_1 : {l : List Oper // (opsOf r26_1).map strip = l} := by refine ⟨?l, ?h⟩; case h => simp only [r26_1, c26, bodyOf, Tryd.f26, Code.sub, opsOf, List.map_cons, List.map_nil, strip]; rfl
theorem w26_1 : W Tryd.prog TT S 3 [] r26_1 k E m Q ↔ Rg Tryd.prog TT S 3 [] [2] [] (lgo E [0] (lops Tryd.prog (callw Tryd.prog TT S) [(some 3), (some 4), (some 5), (some 6), (some 7), (some 8), (some 9), (some 10), (some 11), (some 12), (some 13), (some 14), (some 15), (some 16), (some 17), (some 18), (some 19), (some 20), (some 2)] (L26_1).1 E m)) k E Q := w_plain (by kernel_rfl) (L26_1).2
theorem k26 : FnIs TT 26 c26 [.tmp 2] 1 := ⟨Tryd.f26, by kernel_rfl, by simp only [Tryd.f26, c26, bodyOf], by kernel_rfl, of_decide_eq_true (by kernel_rfl)⟩

/- token.digit -/
noncomputable def c27 : Code := bodyOf Tryd.f27
noncomputable def r27_0 : Code := Code.sub [0] c27
noncomputable def r27_1 : Code := Code.sub [1, 0] c27
theorem body27 : c27 = (.seq r27_0 (.seq r27_1 .ret)) := by kernel_rfl
noncomputable def L27_0 : {l : List Oper // (opsOf r27_0).map strip = l} := by refine ⟨?l, ?h⟩; case h => simp only [r27_0, c27, bodyOf, Tryd.f27, Code.sub, opsOf, List.map_cons, List.map_nil, strip]; rfl
theorem w27_0 : W Tryd.prog TT S 3 [] r27_0 k E m Q ↔ Rg Tryd.prog TT S 3 [] [2] [] (lgo E [] (lops Tryd.prog (callw Tryd.prog TT S) [(some 2)] (L27_0).1 E m)) k E Q := w_plain (by kernel_rfl) (L27_0).2
noncomputable def L27_1 : {l : List Oper // (opsOf r27_1).map strip = l} := by refine ⟨?l, ?h⟩; case h => simp only [r27_1, c27, bodyOf, Tryd.f27, Code.sub, opsOf, List.map_cons, List.map_nil, strip]; rfl
theorem w27_1 : W Tryd.prog TT S 3 [] r27_1 k E m Q ↔ Rg Tryd.prog TT S 3 [] [2] [] (lgo E [0] (lops Tryd.prog (callw Tryd.prog TT S) [(some 3), (some 4), (some 5), (some 6), (some 7), (some 8), (some 2)] (L27_1).1 E m)) k E Q := w_plain (by kernel_rfl) (L27_1).2
theorem k27 : FnIs TT 27 c27 [.tmp 2] 1 := ⟨Tryd.f27, by kernel_rfl, by simp only [Tryd.f27, c27, bodyOf], by kernel_rfl, of_decide_eq_true (by kernel_rfl)⟩

/- (*token.scanner).sign -/
noncomputable def c36 : Code := bodyOf Tryd.f36
noncomputable def r36_0 : Code := Code.sub [0] c36
noncomputable def r36_1 : Code := Code.sub [1, 0] c36
noncomputable def r36_2 : Code := Code.sub [1, 1, 0, 0] c36
noncomputable def r36_3 : Code := Code.sub [1, 1, 0, 1, 0, 0] c36
noncomputable def r36_4 : Code := Code.sub [1, 1, 0, 1, 0, 1, 0, 0, 0] c36
noncomputable def r36_5 : Code := Code.sub [1, 1, 0, 1, 0, 1, 0, 0, 1, 1, 0] c36
noncomputable def r36_6 : Code := Code.sub [1, 1, 0, 1, 0, 1, 0, 0, 1, 1, 1, 1, 0] c36
noncomputable def r36_7 : Code := Code.sub [1, 1, 0, 1, 0, 1, 0, 0, 1, 1, 1, 1, 1, 1, 0] c36
noncomputable def r36_8 : Code := Code.sub [1, 1, 0, 1, 0, 1, 0, 0, 1, 1, 1, 1, 1, 1, 1, 1, 0] c36
noncomputable def r36_9 : Code := Code.sub [1, 1, 0, 1, 0, 1, 0, 0, 1, 1, 1, 1, 1, 1, 1, 1, 1, 1, 0] c36
noncomputable def r36_10 : Code := Code.sub [1, 1, 0, 1, 0, 1, 0, 0, 1, 1, 1, 1, 1, 1, 1, 1, 1, 1, 1, 1] c36
noncomputable def r36_11 : Code := Code.sub [1, 1, 0, 1, 0, 1, 0, 1, 0, 0] c36
noncomputable def r36_12 : Code := Code.sub [1, 1, 0, 1, 0, 1, 0, 1, 0, 1, 0] c36
noncomputable def r36_13 : Code := Code.sub [1, 1, 1, 0, 0] c36
noncomputable def r36_14 : Code := Code.sub [1, 1, 1, 0, 1, 0, 0] c36
noncomputable def r36_15 : Code := Code.sub [1, 1, 1, 0, 1, 0, 1, 0, 0] c36
noncomputable def r36_16 : Code := Code.sub [1, 1, 1, 0, 1, 0, 1, 0, 1, 0] c36
noncomputable def r36_17 : Code := Code.sub [1, 1, 1, 0, 1, 0, 1, 1, 0, 0] c36
noncomputable def r36_18 : Code := Code.sub [1, 1, 1, 0, 1, 0, 1, 1, 0, 1, 1, 0] c36
noncomputable def r36_19 : Code := Code.sub [1, 1, 1, 0, 1, 0, 1, 1, 0, 1, 1, 1, 1, 0] c36
noncomputable def r36_20 : Code := Code.sub [1, 1, 1, 0, 1, 0, 1, 1, 0, 1, 1, 1, 1, 1, 1, 0] c36
noncomputable def r36_21 : Code := Code.sub [1, 1, 1, 0, 1, 0, 1, 1, 0, 1, 1, 1, 1, 1, 1, 1, 1, 0] c36
noncomputable def r36_22 : Code := Code.sub [1, 1, 1, 0, 1, 0, 1, 1, 0, 1, 1, 1, 1, 1, 1, 1, 1, 1, 1, 0] c36
noncomputable def r36_23 : Code := Code.sub [1, 1, 1, 0, 1, 0, 1, 1, 0, 1, 1, 1, 1, 1, 1, 1, 1, 1, 1, 1, 1, 0] c36
noncomputable def r36_24 : Code := Code.sub [1, 1, 1, 0, 1, 0, 1, 1, 0, 1, 1, 1, 1, 1, 1, 1, 1, 1, 1, 1, 1, 1, 1, 0] c36
noncomputable def r36_25 : Code := Code.sub [1, 1, 1, 0, 1, 0, 1, 1, 0, 1, 1, 1, 1, 1, 1, 1, 1, 1, 1, 1, 1, 1, 1, 1, 1, 0] c36
noncomputable def r36_26 : Code := Code.sub [1, 1, 1, 0, 1, 0, 1, 1, 0, 1, 1, 1, 1, 1, 1, 1, 1, 1, 1, 1, 1, 1, 1, 1, 1, 1, 1, 0] c36
noncomputable def r36_27 : Code := Code.sub [1, 1, 1, 0, 1, 0, 1, 1, 0, 1, 1, 1, 1, 1, 1, 1, 1, 1, 1, 1, 1, 1, 1, 1, 1, 1, 1, 1, 1, 0] c36
noncomputable def r36_28 : Code := Code.sub [1, 1, 1, 0, 1, 0, 1, 1, 0, 1, 1, 1, 1, 1, 1, 1, 1, 1, 1, 1, 1, 1, 1, 1, 1, 1, 1, 1, 1, 1, 1, 0] c36
noncomputable def r36_29 : Code := Code.sub [1, 1, 1, 0, 1, 0, 1, 1, 0, 1, 1, 1, 1, 1, 1, 1, 1, 1, 1, 1, 1, 1, 1, 1, 1, 1, 1, 1, 1, 1, 1, 1, 1, 0] c36
noncomputable def r36_30 : Code := Code.sub [1, 1, 1, 0, 1, 0, 1, 1, 0, 1, 1, 1, 1, 1, 1, 1, 1, 1, 1, 1, 1, 1, 1, 1, 1, 1, 1, 1, 1, 1, 1, 1, 1, 1, 1, 0] c36
noncomputable def r36_31 : Code := Code.sub [1, 1, 1, 0, 1, 0, 1, 1, 0, 1, 1, 1, 1, 1, 1, 1, 1, 1, 1, 1, 1, 1, 1, 1, 1, 1, 1, 1, 1, 1, 1, 1, 1, 1, 1, 1, 1, 0] c36
noncomputable def r36_32 : Code := Code.sub [1, 1, 1, 0, 1, 0, 1, 1, 0, 1, 1, 1, 1, 1, 1, 1, 1, 1, 1, 1, 1, 1, 1, 1, 1, 1, 1, 1, 1, 1, 1, 1, 1, 1, 1, 1, 1, 1, 1, 0] c36
noncomputable def r36_33 : Code := Code.sub [1, 1, 1, 0, 1, 0, 1, 1, 0, 1, 1, 1, 1, 1, 1, 1, 1, 1, 1, 1, 1, 1, 1, 1, 1, 1, 1, 1, 1, 1, 1, 1, 1, 1, 1, 1, 1, 1, 1, 1, 1] c36
noncomputable def r36_34 : Code := Code.sub [1, 1, 1, 0, 1, 0, 1, 1, 1, 0, 0] c36
noncomputable def r36_35 : Code := Code.sub [1, 1, 1, 0, 1, 0, 1, 1, 1, 0, 1, 0] c36
noncomputable def r36_36 : Code := Code.sub [1, 1, 1, 1, 0] c36
noncomputable def r36_37 : Code := Code.sub [1, 1, 1, 1, 1, 0] c36
theorem body36 : c36 = (.seq r36_0 (.seq r36_1 (.seq (.seq r36_2 (.cond (.tmp 8) (.seq r36_3 (.block 0 (.seq (.seq r36_4 (.cond (.tmp 11) .skip (.seq r36_5 (.cond (.tmp 11) .skip (.seq r36_6 (.cond (.tmp 11) .skip (.seq r36_7 (.cond (.tmp 11) .skip (.seq r36_8 (.cond (.tmp 11) .skip (.seq r36_9 (.cond (.tmp 11) .skip r36_10)))))))))))) (.cond (.tmp 11) (.seq r36_11 (.seq r36_12 .ret)) .skip)))) .skip)) (.seq (.seq r36_13 (.block 1 (.seq r36_14 (.cond (.tmp 25) (.seq r36_15 (.seq r36_16 .ret)) (.seq (.seq r36_17 (.cond (.tmp 29) .skip (.seq r36_18 (.cond (.tmp 29) .skip (.seq r36_19 (.cond (.tmp 29) .skip (.seq r36_20 (.cond (.tmp 29) .skip (.seq r36_21 (.cond (.tmp 29) .skip (.seq r36_22 (.cond (.tmp 29) .skip (.seq r36_23 (.cond (.tmp 29) .skip (.seq r36_24 (.cond (.tmp 29) .skip (.seq r36_25 (.cond (.tmp 29) .skip (.seq r36_26 (.cond (.tmp 29) .skip (.seq r36_27 (.cond (.tmp 29) .skip (.seq r36_28 (.cond (.tmp 29) .skip (.seq r36_29 (.cond (.tmp 29) .skip (.seq r36_30 (.cond (.tmp 29) .skip (.seq r36_31 (.cond (.tmp 29) .skip (.seq r36_32 (.cond (.tmp 29) .skip r36_33)))))))))))))))))))))))))))))))) (.cond (.tmp 29) (.seq r36_34 (.seq r36_35 .ret)) .skip)))))) (.seq r36_36 (.seq r36_37 .ret)))))) := by kernel_rfl
noncomputable def L36_0 : {l : List Oper // (opsOf r36_0).map strip = l} := by refine ⟨?l, ?h⟩; case h => simp only [r36_0, c36, bodyOf, Tryd.f36, Code.sub, opsOf, List.map_cons, List.map_nil, strip]; rfl
theorem w36_0 : W Tryd.prog TT S 25 [25, 29, 29, 29, 29, 29, 29, 29, 29, 29, 29, 29, 29, 29, 29, 29, 29, 29] r36_0 k E m Q ↔ Rg Tryd.prog TT S 25 [25, 29, 29, 29, 29, 29, 29, 29, 29, 29, 29, 29, 29, 29, 29, 29, 29, 29] [2] [] (lgo E [] (lops Tryd.prog (callw Tryd.prog TT S) [(some 2)] (L36_0).1 E m)) k E Q := w_plain (by kernel_rfl) (L36_0).2
noncomputable def L36_1 : {l : List Oper // (opsOf r36_1).map strip = l} := by refine ⟨?l, ?h⟩; case h => simp only [r36_1, c36, bodyOf, Tryd.f36, Code.sub, opsOf, List.map_cons, List.map_nil, strip]; rfl
theorem w36_1 : W Tryd.prog TT S 25 [25, 29, 29, 29, 29, 29, 29, 29, 29, 29, 29, 29, 29, 29, 29, 29, 29, 29] r36_1 k E m Q ↔ Rg Tryd.prog TT S 25 [25, 29, 29, 29, 29, 29, 29, 29, 29, 29, 29, 29, 29, 29, 29, 29, 29, 29] [4, 5, 3] [] (lgo E [0] (lops Tryd.prog (callw Tryd.prog TT S) [(some 4), (some 5), (some 3)] (L36_1).1 E m)) k E Q := w_plain (by kernel_rfl) (L36_1).2
noncomputable def L36_2 : {l : List Oper // (opsOf r36_2).map strip = l} := by refine ⟨?l, ?h⟩; case h => simp only [r36_2, c36, bodyOf, Tryd.f36, Code.sub, opsOf, List.map_cons, List.map_nil, strip]; rfl
theorem w36_2 : W Tryd.prog TT S 25 [25, 29, 29, 29, 29, 29, 29, 29, 29, 29, 29, 29, 29, 29, 29, 29, 29, 29] r36_2 k E m Q ↔ Rg Tryd.prog TT S 25 [25, 29, 29, 29, 29, 29, 29, 29, 29, 29, 29, 29, 29, 29, 29, 29, 29, 29] [6, 7, 8] [] (lgo E [3] (lops Tryd.prog (callw Tryd.prog TT S) [(some 6), (some 7), (some 8)] (L36_2).1 E m)) k E Q := w_plain (by kernel_rfl) (L36_2).2
noncomputable def L36_3 : {l : List Oper // (opsOf r36_3).map strip = l} := by refine ⟨?l, ?h⟩; case h => simp only [r36_3, c36, bodyOf, Tryd.f36, Code.sub, opsOf, List.map_cons, List.map_nil, strip]; rfl
theorem w36_3 : W Tryd.prog TT S 25 [25, 29, 29, 29, 29, 29, 29, 29, 29, 29, 29, 29, 29, 29, 29, 29, 29, 29] r36_3 k E m Q ↔ Rg Tryd.prog TT S 25 [25, 29, 29, 29, 29, 29, 29, 29, 29, 29, 29, 29, 29, 29, 29, 29, 29, 29] [9, 10] [] (lgo E [3] (lops Tryd.prog (callw Tryd.prog TT S) [(some 9), (some 10)] (L36_3).1 E m)) k E Q := w_plain (by kernel_rfl) (L36_3).2
noncomputable def L36_4 : {l : List Oper // (opsOf r36_4).map strip = l} := by refine ⟨?l, ?h⟩; case h => simp only [r36_4, c36, bodyOf, Tryd.f36, Code.sub, opsOf, List.map_cons, List.map_nil, strip]; rfl
theorem w36_4 : W Tryd.prog TT S 25 [25, 29, 29, 29, 29, 29, 29, 29, 29, 29, 29, 29, 29, 29, 29, 29, 29, 29] r36_4 k E m Q ↔ Rg Tryd.prog TT S 25 [25, 29, 29, 29, 29, 29, 29, 29, 29, 29, 29, 29, 29, 29, 29, 29, 29, 29] [12, 11] [] (lgo E [10] (lops Tryd.prog (callw Tryd.prog TT S) [(some 12), (some 11)] (L36_4).1 E m)) k E Q := w_plain (by kernel_rfl) (L36_4).2
noncomputable def L36_5 : {l : List Oper // (opsOf r36_5).map strip = l} := by refine ⟨?l, ?h⟩; case h => simp only [r36_5, c36, bodyOf, Tryd.f36, Code.sub, opsOf, List.map_cons, List.map_nil, strip]; rfl
theorem w36_5 : W Tryd.prog TT S 25 [25, 29, 29, 29, 29, 29, 29, 29, 29, 29, 29, 29, 29, 29, 29, 29, 29, 29] r36_5 k E m Q ↔ Rg Tryd.prog TT S 25 [25, 29, 29, 29, 29, 29, 29, 29, 29, 29, 29, 29, 29, 29, 29, 29, 29, 29] [13, 11] [] (lgo E [10] (lops Tryd.prog (callw Tryd.prog TT S) [(some 13), (some 11)] (L36_5).1 E m)) k E Q := w_plain (by kernel_rfl) (L36_5).2
noncomputable def L36_6 : {l : List Oper // (opsOf r36_6).map strip = l} := by refine ⟨?l, ?h⟩; case h => simp only [r36_6, c36, bodyOf, Tryd.f36, Code.sub, opsOf, List.map_cons, List.map_nil, strip]; rfl
theorem w36_6 : W Tryd.prog TT S 25 [25, 29, 29, 29, 29, 29, 29, 29, 29, 29, 29, 29, 29, 29, 29, 29, 29, 29] r36_6 k E m Q ↔ Rg Tryd.prog TT S 25 [25, 29, 29, 29, 29, 29, 29, 29, 29, 29, 29, 29, 29, 29, 29, 29, 29, 29] [14, 11] [] (lgo E [10] (lops Tryd.prog (callw Tryd.prog TT S) [(some 14), (some 11)] (L36_6).1 E m)) k E Q := w_plain (by kernel_rfl) (L36_6).2
noncomputable def L36_7 : {l : List Oper // (opsOf r36_7).map strip = l} := by refine ⟨?l, ?h⟩; case h => simp only [r36_7, c36, bodyOf, Tryd.f36, Code.sub, opsOf, List.map_cons, List.map_nil, strip]; rfl
theorem w36_7 : W Tryd.prog TT S 25 [25, 29, 29, 29, 29, 29, 29, 29, 29, 29, 29, 29, 29, 29, 29, 29, 29, 29] r36_7 k E m Q ↔ Rg Tryd.prog TT S 25 [25, 29, 29, 29, 29, 29, 29, 29, 29, 29, 29, 29, 29, 29, 29, 29, 29, 29] [15, 11] [] (lgo E [10] (lops Tryd.prog (callw Tryd.prog TT S) [(some 15), (some 11)] (L36_7).1 E m)) k E Q := w_plain (by kernel_rfl) (L36_7).2
noncomputable def L36_8 : {l : List Oper // (opsOf r36_8).map strip = l} := by refine ⟨?l, ?h⟩; case h => simp only [r36_8, c36, bodyOf, Tryd.f36, Code.sub, opsOf, List.map_cons, List.map_nil, strip]; rfl
theorem w36_8 : W Tryd.prog TT S 25 [25, 29, 29, 29, 29, 29, 29, 29, 29, 29, 29, 29, 29, 29, 29, 29, 29, 29] r36_8 k E m Q ↔ Rg Tryd.prog TT S 25 [25, 29, 29, 29, 29, 29, 29, 29, 29, 29, 29, 29, 29, 29, 29, 29, 29, 29] [16, 11] [] (lgo E [10] (lops Tryd.prog (callw Tryd.prog TT S) [(some 16), (some 11)] (L36_8).1 E m)) k E Q := w_plain (by kernel_rfl) (L36_8).2
noncomputable def L36_9 : {l : List Oper // (opsOf r36_9).map strip = l} := by refine ⟨?l, ?h⟩; case h => simp only [r36_9, c36, bodyOf, Tryd.f36, Code.sub, opsOf, List.map_cons, List.map_nil, strip]; rfl
theorem w36_9 : W Tryd.prog TT S 25 [25, 29, 29, 29, 29, 29, 29, 29, 29, 29, 29, 29, 29, 29, 29, 29, 29, 29] r36_9 k E m Q ↔ Rg Tryd.prog TT S 25 [25, 29, 29, 29, 29, 29, 29, 29, 29, 29, 29, 29, 29, 29, 29, 29, 29, 29] [17, 11] [] (lgo E [10] (lops Tryd.prog (callw Tryd.prog TT S) [(some 17), (some 11)] (L36_9).1 E m)) k E Q := w_plain (by kernel_rfl) (L36_9).2
noncomputable def L36_10 : {l : List Oper // (opsOf r36_10).map strip = l} := by refine ⟨?l, ?h⟩; case h => simp only [r36_10, c36, bodyOf, Tryd.f36, Code.sub, opsOf, List.map_cons, List.map_nil, strip]; rfl
theorem w36_10 : W Tryd.prog TT S 25 [25, 29, 29, 29, 29, 29, 29, 29, 29, 29, 29, 29, 29, 29, 29, 29, 29, 29] r36_10 k E m Q ↔ Rg Tryd.prog TT S 25 [25, 29, 29, 29, 29, 29, 29, 29, 29, 29, 29, 29, 29, 29, 29, 29, 29, 29] [18, 11] [] (lgo E [10] (lops Tryd.prog (callw Tryd.prog TT S) [(some 18), (some 11)] (L36_10).1 E m)) k E Q := w_plain (by kernel_rfl) (L36_10).2
noncomputable def L36_11 : {l : List Oper // (opsOf r36_11).map strip = l} := by refine ⟨?l, ?h⟩; case h => simp only [r36_11, c36, bodyOf, Tryd.f36, Code.sub, opsOf, List.map_cons, List.map_nil, strip]; rfl
theorem w36_11 : W Tryd.prog TT S 25 [25, 29, 29, 29, 29, 29, 29, 29, 29, 29, 29, 29, 29, 29, 29, 29, 29, 29] r36_11 k E m Q ↔ Rg Tryd.prog TT S 25 [25, 29, 29, 29, 29, 29, 29, 29, 29, 29, 29, 29, 29, 29, 29, 29, 29, 29] [19, 20, 21, 22] [] (lgo E [0, 3] (lops Tryd.prog (callw Tryd.prog TT S) [(some 19), (some 20), (some 21), (some 22)] (L36_11).1 E m)) k E Q := w_plain (by kernel_rfl) (L36_11).2
noncomputable def L36_12 : {l : List Oper // (opsOf r36_12).map strip = l} := by refine ⟨?l, ?h⟩; case h => simp only [r36_12, c36, bodyOf, Tryd.f36, Code.sub, opsOf, List.map_cons, List.map_nil, strip]; rfl
theorem w36_12 : W Tryd.prog TT S 25 [25, 29, 29, 29, 29, 29, 29, 29, 29, 29, 29, 29, 29, 29, 29, 29, 29, 29] r36_12 k E m Q ↔ Rg Tryd.prog TT S 25 [25, 29, 29, 29, 29, 29, 29, 29, 29, 29, 29, 29, 29, 29, 29, 29, 29, 29] [2] [] (lgo E [] (lops Tryd.prog (callw Tryd.prog TT S) [(some 2)] (L36_12).1 E m)) k E Q := w_plain (by kernel_rfl) (L36_12).2
noncomputable def L36_13 : {l : List Oper // (opsOf r36_13).map strip = l} := by refine ⟨?l, ?h⟩; case h => simp only [r36_13, c36, bodyOf, Tryd.f36, Code.sub, opsOf, List.map_cons, List.map_nil, strip]; rfl
theorem w36_13 : W Tryd.prog TT S 25 [25, 29, 29, 29, 29, 29, 29, 29, 29, 29, 29, 29, 29, 29, 29, 29, 29, 29] r36_13 k E m Q ↔ Rg Tryd.prog TT S 25 [25, 29, 29, 29, 29, 29, 29, 29, 29, 29, 29, 29, 29, 29, 29, 29, 29, 29] [23, 24] [] (lgo E [3] (lops Tryd.prog (callw Tryd.prog TT S) [(some 23), (some 24)] (L36_13).1 E m)) k E Q := w_plain (by kernel_rfl) (L36_13).2
noncomputable def L36_14 : {l : List Oper // (opsOf r36_14).map strip = l} := by refine ⟨?l, ?h⟩; case h => simp only [r36_14, c36, bodyOf, Tryd.f36, Code.sub, opsOf, List.map_cons, List.map_nil, strip]; rfl
theorem w36_14 : W Tryd.prog TT S 25 [25, 29, 29, 29, 29, 29, 29, 29, 29, 29, 29, 29, 29, 29, 29, 29, 29, 29] r36_14 k E m Q ↔ Rg Tryd.prog TT S 25 [25, 29, 29, 29, 29, 29, 29, 29, 29, 29, 29, 29, 29, 29, 29, 29, 29, 29] [] [25] (lgo E [24] (lops Tryd.prog (callw Tryd.prog TT S) [(some 26), (some 25)] (L36_14).1 E m)) k E Q := w_plain (by kernel_rfl) (L36_14).2
noncomputable def L36_15 : {l : List Oper // (opsOf r36_15).map strip = l} := by refine ⟨?l, ?h⟩; case h => simp only [r36_15, c36, bodyOf, Tryd.f36, Code.sub, opsOf, List.map_cons, List.map_nil, strip]; rfl
theorem w36_15 : W Tryd.prog TT S 25 [25, 29, 29, 29, 29, 29, 29, 29, 29, 29, 29, 29, 29, 29, 29, 29, 29, 29] r36_15 k E m Q ↔ Rg Tryd.prog TT S 25 [25, 29, 29, 29, 29, 29, 29, 29, 29, 29, 29, 29, 29, 29, 29, 29, 29, 29] [] [] (lgo E [0] (lops Tryd.prog (callw Tryd.prog TT S) [(some 27), (some 28)] (L36_15).1 E m)) k E Q := w_plain (by kernel_rfl) (L36_15).2
noncomputable def L36_16 : {l : List Oper // (opsOf r36_16).map strip = l} := by refine ⟨?l, ?h⟩; case h => simp only [r36_16, c36, bodyOf, Tryd.f36, Code.sub, opsOf, List.map_cons, List.map_nil, strip]; rfl
theorem w36_16 : W Tryd.prog TT S 25 [25, 29, 29, 29, 29, 29, 29, 29, 29, 29, 29, 29, 29, 29, 29, 29, 29, 29] r36_16 k E m Q ↔ Rg Tryd.prog TT S 25 [25, 29, 29, 29, 29, 29, 29, 29, 29, 29, 29, 29, 29, 29, 29, 29, 29, 29] [2] [] (lgo E [] (lops Tryd.prog (callw Tryd.prog TT S) [(some 2)] (L36_16).1 E m)) k E Q := w_plain (by kernel_rfl) (L36_16).2
noncomputable def L36_17 : {l : List Oper // (opsOf r36_17).map strip = l} := by refine ⟨?l, ?h⟩; case h => simp only [r36_17, c36, bodyOf, Tryd.f36, Code.sub, opsOf, List.map_cons, List.map_nil, strip]; rfl
theorem w36_17 : W Tryd.prog TT S 25 [25, 29, 29, 29, 29, 29, 29, 29, 29, 29, 29, 29, 29, 29, 29, 29, 29, 29] r36_17 k E m Q ↔ Rg Tryd.prog TT S 25 [25, 29, 29, 29, 29, 29, 29, 29, 29, 29, 29, 29, 29, 29, 29, 29, 29, 29] [] [29] (lgo E [24] (lops Tryd.prog (callw Tryd.prog TT S) [(some 30), (some 29)] (L36_17).1 E m)) k E Q := w_plain (by kernel_rfl) (L36_17).2
noncomputable def L36_18 : {l : List Oper // (opsOf r36_18).map strip = l} := by refine ⟨?l, ?h⟩; case h => simp only [r36_18, c36, bodyOf, Tryd.f36, Code.sub, opsOf, List.map_cons, List.map_nil, strip]; rfl
theorem w36_18 : W Tryd.prog TT S 25 [25, 29, 29, 29, 29, 29, 29, 29, 29, 29, 29, 29, 29, 29, 29, 29, 29, 29] r36_18 k E m Q ↔ Rg Tryd.prog TT S 25 [25, 29, 29, 29, 29, 29, 29, 29, 29, 29, 29, 29, 29, 29, 29, 29, 29, 29] [] [29] (lgo E [24] (lops Tryd.prog (callw Tryd.prog TT S) [(some 31), (some 29)] (L36_18).1 E m)) k E Q := w_plain (by kernel_rfl) (L36_18).2
noncomputable def L36_19 : {l : List Oper // (opsOf r36_19).map strip = l} := by refine ⟨?l, ?h⟩; case h => simp only [r36_19, c36, bodyOf, Tryd.f36, Code.sub, opsOf, List.map_cons, List.map_nil, strip]; rfl
theorem w36_19 : W Tryd.prog TT S 25 [25, 29, 29, 29, 29, 29, 29, 29, 29, 29, 29, 29, 29, 29, 29, 29, 29, 29] r36_19 k E m Q ↔ Rg Tryd.prog TT S 25 [25, 29, 29, 29, 29, 29, 29, 29, 29, 29, 29, 29, 29, 29, 29, 29, 29, 29] [] [29] (lgo E [24] (lops Tryd.prog (callw Tryd.prog TT S) [(some 32), (some 29)] (L36_19).1 E m)) k E Q := w_plain (by kernel_rfl) (L36_19).2
noncomputable def L36_20 : {l : List Oper // (opsOf r36_20).map strip = l} := by refine ⟨?l, ?h⟩; case h => simp only [r36_20, c36, bodyOf, Tryd.f36, Code.sub, opsOf, List.map_cons, List.map_nil, strip]; rfl
theorem w36_20 : W Tryd.prog TT S 25 [25, 29, 29, 29, 29, 29, 29, 29, 29, 29, 29, 29, 29, 29, 29, 29, 29, 29] r36_20 k E m Q ↔ Rg Tryd.prog TT S 25 [25, 29, 29, 29, 29, 29, 29, 29, 29, 29, 29, 29, 29, 29, 29, 29, 29, 29] [] [29] (lgo E [24] (lops Tryd.prog (callw Tryd.prog TT S) [(some 33), (some 29)] (L36_20).1 E m)) k E Q := w_plain (by kernel_rfl) (L36_20).2
noncomputable def L36_21 : {l : List Oper // (opsOf r36_21).map strip = l} := by refine ⟨?l, ?h⟩; case h => simp only [r36_21, c36, bodyOf, Tryd.f36, Code.sub, opsOf, List.map_cons, List.map_nil, strip]; rfl
theorem w36_21 : W Tryd.prog TT S 25 [25, 29, 29, 29, 29, 29, 29, 29, 29, 29, 29, 29, 29, 29, 29, 29, 29, 29] r36_21 k E m Q ↔ Rg Tryd.prog TT S 25 [25, 29, 29, 29, 29, 29, 29, 29, 29, 29, 29, 29, 29, 29, 29, 29, 29, 29] [] [29] (lgo E [24] (lops Tryd.prog (callw Tryd.prog TT S) [(some 34), (some 29)] (L36_21).1 E m)) k E Q := w_plain (by kernel_rfl) (L36_21).2
noncomputable def L36_22 : {l : List Oper // (opsOf r36_22).map strip = l} := by refine ⟨?l, ?h⟩; case h => simp only [r36_22, c36, bodyOf, Tryd.f36, Code.sub, opsOf, List.map_cons, List.map_nil, strip]; rfl
theorem w36_22 : W Tryd.prog TT S 25 [25, 29, 29, 29, 29, 29, 29, 29, 29, 29, 29, 29, 29, 29, 29, 29, 29, 29] r36_22 k E m Q ↔ Rg Tryd.prog TT S 25 [25, 29, 29, 29, 29, 29, 29, 29, 29, 29, 29, 29, 29, 29, 29, 29, 29, 29] [] [29] (lgo E [24] (lops Tryd.prog (callw Tryd.prog TT S) [(some 35), (some 29)] (L36_22).1 E m)) k E Q := w_plain (by kernel_rfl) (L36_22).2
noncomputable def L36_23 : {l : List Oper // (opsOf r36_23).map strip = l} := by refine ⟨?l, ?h⟩; case h => simp only [r36_23, c36, bodyOf, Tryd.f36, Code.sub, opsOf, List.map_cons, List.map_nil, strip]; rfl
theorem w36_23 : W Tryd.prog TT S 25 [25, 29, 29, 29, 29, 29, 29, 29, 29, 29, 29, 29, 29, 29, 29, 29, 29, 29] r36_23 k E m Q ↔ Rg Tryd.prog TT S 25 [25, 29, 29, 29, 29, 29, 29, 29, 29, 29, 29, 29, 29, 29, 29, 29, 29, 29] [] [29] (lgo E [24] (lops Tryd.prog (callw Tryd.prog TT S) [(some 36), (some 29)] (L36_23).1 E m)) k E Q := w_plain (by kernel_rfl) (L36_23).2
noncomputable def L36_24 : {l : List Oper // (opsOf r36_24).map strip = l} := by refine ⟨?l, ?h⟩; case h => simp only [r36_24, c36, bodyOf, Tryd.f36, Code.sub, opsOf, List.map_cons, List.map_nil, strip]; rfl
theorem w36_24 : W Tryd.prog TT S 25 [25, 29, 29, 29, 29, 29, 29, 29, 29, 29, 29, 29, 29, 29, 29, 29, 29, 29] r36_24 k E m Q ↔ Rg Tryd.prog TT S 25 [25, 29, 29, 29, 29, 29, 29, 29, 29, 29, 29, 29, 29, 29, 29, 29, 29, 29] [] [29] (lgo E [24] (lops Tryd.prog (callw Tryd.prog TT S) [(some 37), (some 29)] (L36_24).1 E m)) k E Q := w_plain (by kernel_rfl) (L36_24).2
noncomputable def L36_25 : {l : List Oper // (opsOf r36_25).map strip = l} := by refine ⟨?l, ?h⟩; case h => simp only [r36_25, c36, bodyOf, Tryd.f36, Code.sub, opsOf, List.map_cons, List.map_nil, strip]; rfl
theorem w36_25 : W Tryd.prog TT S 25 [25, 29, 29, 29, 29, 29, 29, 29, 29, 29, 29, 29, 29, 29, 29, 29, 29, 29] r36_25 k E m Q ↔ Rg Tryd.prog TT S 25 [25, 29, 29, 29, 29, 29, 29, 29, 29, 29, 29, 29, 29, 29, 29, 29, 29, 29] [] [29] (lgo E [24] (lops Tryd.prog (callw Tryd.prog TT S) [(some 38), (some 29)] (L36_25).1 E m)) k E Q := w_plain (by kernel_rfl) (L36_25).2
noncomputable def L36_26 : {l : List Oper // (opsOf r36_26).map strip = l} := by refine ⟨?l, ?h⟩; case h => simp only [r36_26, c36, bodyOf, Tryd.f36, Code.sub, opsOf, List.map_cons, List.map_nil, strip]; rfl
theorem w36_26 : W Tryd.prog TT S 25 [25, 29, 29, 29, 29, 29, 29, 29, 29, 29, 29, 29, 29, 29, 29, 29, 29, 29] r36_26 k E m Q ↔ Rg Tryd.prog TT S 25 [25, 29, 29, 29, 29, 29, 29, 29, 29, 29, 29, 29, 29, 29, 29, 29, 29, 29] [] [29] (lgo E [24] (lops Tryd.prog (callw Tryd.prog TT S) [(some 39), (some 29)] (L36_26).1 E m)) k E Q := w_plain (by kernel_rfl) (L36_26).2
noncomputable def L36_27 : {l : List Oper // (opsOf r36_27).map strip = l} := by refine ⟨?l, ?h⟩; case h => simp only [r36_27, c36, bodyOf, Tryd.f36, Code.sub, opsOf, List.map_cons, List.map_nil, strip]; rfl
theorem w36_27 : W Tryd.prog TT S 25 [25, 29, 29, 29, 29, 29, 29, 29, 29, 29, 29, 29, 29, 29, 29, 29, 29, 29] r36_27 k E m Q ↔ Rg Tryd.prog TT S 25 [25, 29, 29, 29, 29, 29, 29, 29, 29, 29, 29, 29, 29, 29, 29, 29, 29, 29] [] [29] (lgo E [24] (lops Tryd.prog (callw Tryd.prog TT S) [(some 40), (some 29)] (L36_27).1 E m)) k E Q := w_plain (by kernel_rfl) (L36_27).2
noncomputable def L36_28 : {l : List Oper // (opsOf r36_28).map strip = l} := by refine ⟨?l, ?h⟩; case h => simp only [r36_28, c36, bodyOf, Tryd.f36, Code.sub, opsOf, List.map_cons, List.map_nil, strip]; rfl
theorem w36_28 : W Tryd.prog TT S 25 [25, 29, 29, 29, 29, 29, 29, 29, 29, 29, 29, 29, 29, 29, 29, 29, 29, 29] r36_28 k E m Q ↔ Rg Tryd.prog TT S 25 [25, 29, 29, 29, 29, 29, 29, 29, 29, 29, 29, 29, 29, 29, 29, 29, 29, 29] [] [29] (lgo E [24] (lops Tryd.prog (callw Tryd.prog TT S) [(some 41), (some 29)] (L36_28).1 E m)) k E Q := w_plain (by kernel_rfl) (L36_28).2
noncomputable def L36_29 : {l : List Oper // (opsOf r36_29).map strip = l} := by refine ⟨?l, ?h⟩; case h => simp only [r36_29, c36, bodyOf, Tryd.f36, Code.sub, opsOf, List.map_cons, List.map_nil, strip]; rfl
theorem w36_29 : W Tryd.prog TT S 25 [25, 29, 29, 29, 29, 29, 29, 29, 29, 29, 29, 29, 29, 29, 29, 29, 29, 29] r36_29 k E m Q ↔ Rg Tryd.prog TT S 25 [25, 29, 29, 29, 29, 29, 29, 29, 29, 29, 29, 29, 29, 29, 29, 29, 29, 29] [] [29] (lgo E [24] (lops Tryd.prog (callw Tryd.prog TT S) [(some 42), (some 29)] (L36_29).1 E m)) k E Q := w_plain (by kernel_rfl) (L36_29).2
noncomputable def L36_30 : {l : List Oper // (opsOf r36_30).map strip = l} := by refine ⟨?l, ?h⟩; case h => simp only [r36_30, c36, bodyOf, Tryd.f36, Code.sub, opsOf, List.map_cons, List.map_nil, strip]; rfl
theorem w36_30 : W Tryd.prog TT S 25 [25, 29, 29, 29, 29, 29, 29, 29, 29, 29, 29, 29, 29, 29, 29, 29, 29, 29] r36_30 k E m Q ↔ Rg Tryd.prog TT S 25 [25, 29, 29, 29, 29, 29, 29, 29, 29, 29, 29, 29, 29, 29, 29, 29, 29, 29] [] [29] (lgo E [24] (lops Tryd.prog (callw Tryd.prog TT S) [(some 43), (some 29)] (L36_30).1 E m)) k E Q := w_plain (by kernel_rfl) (L36_30).2
noncomputable def L36_31 : {l : List Oper // (opsOf r36_31).map strip = l} := by refine ⟨?l, ?h⟩; case h => simp only [r36_31, c36, bodyOf, Tryd.f36, Code.sub, opsOf, List.map_cons, List.map_nil, strip]; rfl
theorem w36_31 : W Tryd.prog TT S 25 [25, 29, 29, 29, 29, 29, 29, 29, 29, 29, 29, 29, 29, 29, 29, 29, 29, 29] r36_31 k E m Q ↔ Rg Tryd.prog TT S 25 [25, 29, 29, 29, 29, 29, 29, 29, 29, 29, 29, 29, 29, 29, 29, 29, 29, 29] [] [29] (lgo E [24] (lops Tryd.prog (callw Tryd.prog TT S) [(some 44), (some 29)] (L36_31).1 E m)) k E Q := w_plain (by kernel_rfl) (L36_31).2
noncomputable def L36_32 : {l : List Oper // (opsOf r36_32).map strip = l} := by refine ⟨?l, ?h⟩; case h => simp only [r36_32, c36, bodyOf, Tryd.f36, Code.sub, opsOf, List.map_cons, List.map_nil, strip]; rfl
theorem w36_32 : W Tryd.prog TT S 25 [25, 29, 29, 29, 29, 29, 29, 29, 29, 29, 29, 29, 29, 29, 29, 29, 29, 29] r36_32 k E m Q ↔ Rg Tryd.prog TT S 25 [25, 29, 29, 29, 29, 29, 29, 29, 29, 29, 29, 29, 29, 29, 29, 29, 29, 29] [] [29] (lgo E [24] (lops Tryd.prog (callw Tryd.prog TT S) [(some 45), (some 29)] (L36_32).1 E m)) k E Q := w_plain (by kernel_rfl) (L36_32).2
noncomputable def L36_33 : {l : List Oper // (opsOf r36_33).map strip = l} := by refine ⟨?l, ?h⟩; case h => simp only [r36_33, c36, bodyOf, Tryd.f36, Code.sub, opsOf, List.map_cons, List.map_nil, strip]; rfl
theorem w36_33 : W Tryd.prog TT S 25 [25, 29, 29, 29, 29, 29, 29, 29, 29, 29, 29, 29, 29, 29, 29, 29, 29, 29] r36_33 k E m Q ↔ Rg Tryd.prog TT S 25 [25, 29, 29, 29, 29, 29, 29, 29, 29, 29, 29, 29, 29, 29, 29, 29, 29, 29] [] [29] (lgo E [24] (lops Tryd.prog (callw Tryd.prog TT S) [(some 46), (some 29)] (L36_33).1 E m)) k E Q := w_plain (by kernel_rfl) (L36_33).2
noncomputable def L36_34 : {l : List Oper // (opsOf r36_34).map strip = l} := by refine ⟨?l, ?h⟩; case h => simp only [r36_34, c36, bodyOf, Tryd.f36, Code.sub, opsOf, List.map_cons, List.map_nil, strip]; rfl
theorem w36_34 : W Tryd.prog TT S 25 [25, 29, 29, 29, 29, 29, 29, 29, 29, 29, 29, 29, 29, 29, 29, 29, 29, 29] r36_34 k E m Q ↔ Rg Tryd.prog TT S 25 [25, 29, 29, 29, 29, 29, 29, 29, 29, 29, 29, 29, 29, 29, 29, 29, 29, 29] [] [] (lgo E [0, 3] (lops Tryd.prog (callw Tryd.prog TT S) [(some 47), (some 48), (some 49), (some 50)] (L36_34).1 E m)) k E Q := w_plain (by kernel_rfl) (L36_34).2
noncomputable def L36_35 : {l : List Oper // (opsOf r36_35).map strip = l} := by refine ⟨?l, ?h⟩; case h => simp only [r36_35, c36, bodyOf, Tryd.f36, Code.sub, opsOf, List.map_cons, List.map_nil, strip]; rfl
theorem w36_35 : W Tryd.prog TT S 25 [25, 29, 29, 29, 29, 29, 29, 29, 29, 29, 29, 29, 29, 29, 29, 29, 29, 29] r36_35 k E m Q ↔ Rg Tryd.prog TT S 25 [25, 29, 29, 29, 29, 29, 29, 29, 29, 29, 29, 29, 29, 29, 29, 29, 29, 29] [2] [] (lgo E [] (lops Tryd.prog (callw Tryd.prog TT S) [(some 2)] (L36_35).1 E m)) k E Q := w_plain (by kernel_rfl) (L36_35).2
noncomputable def L36_36 : {l : List Oper // (opsOf r36_36).map strip = l} := by refine ⟨?l, ?h⟩; case h => simp only [r36_36, c36, bodyOf, Tryd.f36, Code.sub, opsOf, List.map_cons, List.map_nil, strip]; rfl
theorem w36_36 : W Tryd.prog TT S 25 [25, 29, 29, 29, 29, 29, 29, 29, 29, 29, 29, 29, 29, 29, 29, 29, 29, 29] r36_36 k E m Q ↔ Rg Tryd.prog TT S 25 [25, 29, 29, 29, 29, 29, 29, 29, 29, 29, 29, 29, 29, 29, 29, 29, 29, 29] [] [] (lgo E [0] (lops Tryd.prog (callw Tryd.prog TT S) [(some 51), (some 52)] (L36_36).1 E m)) k E Q := w_plain (by kernel_rfl) (L36_36).2
noncomputable def L36_37 : {l : List Oper // (opsOf r36_37).map strip = l} := by refine ⟨?l, ?h⟩; case h => simp only [r36_37, c36, bodyOf, Tryd.f36, Code.sub, opsOf, List.map_cons, List.map_nil, strip]; rfl
theorem w36_37 : W Tryd.prog TT S 25 [25, 29, 29, 29, 29, 29, 29, 29, 29, 29, 29, 29, 29, 29, 29, 29, 29, 29] r36_37 k E m Q ↔ Rg Tryd.prog TT S 25 [25, 29, 29, 29, 29, 29, 29, 29, 29, 29, 29, 29, 29, 29, 29, 29, 29, 29] [2] [] (lgo E [] (lops Tryd.prog (callw Tryd.prog TT S) [(some 2)] (L36_37).1 E m)) k E Q := w_plain (by kernel_rfl) (L36_37).2
theorem k36 : FnIs TT 36 c36 [.tmp 2] 1 := ⟨Tryd.f36, by kernel_rfl, by simp only [Tryd.f36, c36, bodyOf], by kernel_rfl, of_decide_eq_true (by kernel_rfl)⟩

/- (*token.scanner).next -/
noncomputable def c37 : Code := bodyOf Tryd.f37
noncomputable def r37_0 : Code := Code.sub [0] c37
noncomputable def r37_1 : Code := Code.sub [1, 0, 0] c37
noncomputable def r37_2 : Code := Code.sub [1, 0, 1, 0, 0] c37
noncomputable def r37_3 : Code := Code.sub [1, 1, 0] c37
theorem body37 : c37 = (.seq r37_0 (.seq (.seq r37_1 (.cond (.tmp 12) (.seq r37_2 .ret) .skip)) (.seq r37_3 .ret))) := by kernel_rfl
noncomputable def L37_0 : {l : List Oper // (opsOf r37_0).map strip = l} := by refine ⟨?l, ?h⟩; case h => simp only [r37_0, c37, bodyOf, Tryd.f37, Code.sub, opsOf, List.map_cons, List.map_nil, strip]; rfl
theorem w37_0 : W Tryd.prog TT S 3 [12] r37_0 k E m Q ↔ Rg Tryd.prog TT S 3 [12] [2] [] (lgo E [] (lops Tryd.prog (callw Tryd.prog TT S) [(some 2)] (L37_0).1 E m)) k E Q := w_plain (by kernel_rfl) (L37_0).2
noncomputable def L37_1 : {l : List Oper // (opsOf r37_1).map strip = l} := by refine ⟨?l, ?h⟩; case h => simp only [r37_1, c37, bodyOf, Tryd.f37, Code.sub, opsOf, List.map_cons, List.map_nil, strip]; rfl
theorem w37_1 : W Tryd.prog TT S 3 [12] r37_1 k E m Q ↔ Rg Tryd.prog TT S 3 [12] [] [12] (lgo E [0] (lops Tryd.prog (callw Tryd.prog TT S) [(some 3), (some 4), (some 5), (some 6), (some 7), (some 8), (some 9), (some 10), (some 11), (some 12)] (L37_1).1 E m)) k E Q := w_plain (by kernel_rfl) (L37_1).2
noncomputable def L37_2 : {l : List Oper // (opsOf r37_2).map strip = l} := by refine ⟨?l, ?h⟩; case h => simp only [r37_2, c37, bodyOf, Tryd.f37, Code.sub, opsOf, List.map_cons, List.map_nil, strip]; rfl
theorem w37_2 : W Tryd.prog TT S 3 [12] r37_2 k E m Q ↔ Rg Tryd.prog TT S 3 [12] [2] [] (lgo E [] (lops Tryd.prog (callw Tryd.prog TT S) [(some 2)] (L37_2).1 E m)) k E Q := w_plain (by kernel_rfl) (L37_2).2
noncomputable def L37_3 : {l : List Oper // (opsOf r37_3).map strip = l} := by refine ⟨?l, ?h⟩; case h => simp only [r37_3, c37, bodyOf, Tryd.f37, Code.sub, opsOf, List.map_cons, List.map_nil, strip]; rfl
theorem w37_3 : W Tryd.prog TT S 3 [12] r37_3 k E m Q ↔ Rg Tryd.prog TT S 3 [12] [2] [] (lgo E [0] (lops Tryd.prog (callw Tryd.prog TT S) [(some 13), (some 14), (some 15), (some 16), (some 17), (some 18), (some 19), (some 20), (some 21), (some 2)] (L37_3).1 E m)) k E Q := w_plain (by kernel_rfl) (L37_3).2
theorem k37 : FnIs TT 37 c37 [.tmp 2] 1 := ⟨Tryd.f37, by kernel_rfl, by simp only [Tryd.f37, c37, bodyOf], by kernel_rfl, of_decide_eq_true (by kernel_rfl)⟩

/- (*token.scanner).skip -/
noncomputable def c38 : Code := bodyOf Tryd.f38
noncomputable def r38_0 : Code := Code.sub [0] c38
noncomputable def r38_1 : Code := Code.sub [1] c38
theorem body38 : c38 = (.seq r38_0 r38_1) := by kernel_rfl
noncomputable def L38_0 : {l : List Oper // (opsOf r38_0).map strip = l} := by refine ⟨?l, ?h⟩; case h => simp only [r38_0, c38, bodyOf, Tryd.f38, Code.sub, opsOf, List.map_cons, List.map_nil, strip]; rfl
theorem w38_0 : W Tryd.prog TT S 2 [] r38_0 k E m Q ↔ Rg Tryd.prog TT S 2 [] [] [] (lgo E [0, 1] (lops Tryd.prog (callw Tryd.prog TT S) [(some 4), (some 5), (some 6), (some 7), (some 8), (some 9), (some 10), (some 11), none] (L38_0).1 E m)) k E Q := w_plain (by kernel_rfl) (L38_0).2
noncomputable def L38_1 : {l : List Oper // (opsOf r38_1).map strip = l} := by refine ⟨?l, ?h⟩; case h => simp only [r38_1, c38, bodyOf, Tryd.f38, Code.sub, opsOf, List.map_cons, List.map_nil, strip]; rfl
theorem w38_1 : W Tryd.prog TT S 2 [] r38_1 k E m Q ↔ Rg Tryd.prog TT S 2 [] [] [] (lgo E [0, 1] (lops Tryd.prog (callw Tryd.prog TT S) [(some 12), (some 13), (some 14), (some 15), (some 16), (some 17), (some 18), (some 19), none] (L38_1).1 E m)) k E Q := w_plain (by kernel_rfl) (L38_1).2
theorem k38 : FnIs TT 38 c38 [] 2 := ⟨Tryd.f38, by kernel_rfl, by simp only [Tryd.f38, c38, bodyOf], by kernel_rfl, of_decide_eq_true (by kernel_rfl)⟩

/- (*token.scanner).rest -/
noncomputable def c39 : Code := bodyOf Tryd.f39
noncomputable def r39_0 : Code := Code.sub [0] c39
noncomputable def r39_1 : Code := Code.sub [1, 0] c39
theorem body39 : c39 = (.seq r39_0 (.seq r39_1 .ret)) := by kernel_rfl
noncomputable def L39_0 : {l : List Oper // (opsOf r39_0).map strip = l} := by refine ⟨?l, ?h⟩; case h => simp only [r39_0, c39, bodyOf, Tryd.f39, Code.sub, opsOf, List.map_cons, List.map_nil, strip]; rfl
theorem w39_0 : W Tryd.prog TT S 3 [] r39_0 k E m Q ↔ Rg Tryd.prog TT S 3 [] [2] [] (lgo E [] (lops Tryd.prog (callw Tryd.prog TT S) [(some 2)] (L39_0).1 E m)) k E Q := w_plain (by kernel_rfl) (L39_0).2
noncomputable def L39_1 : {l : List Oper // (opsOf r39_1).map strip = l} := by refine ⟨?l, ?h⟩; case h => simp only [r39_1, c39, bodyOf, Tryd.f39, Code.sub, opsOf, List.map_cons, List.map_nil, strip]; rfl
theorem w39_1 : W Tryd.prog TT S 3 [] r39_1 k E m Q ↔ Rg Tryd.prog TT S 3 [] [2] [] (lgo E [0] (lops Tryd.prog (callw Tryd.prog TT S) [(some 3), (some 4), (some 5), (some 6), (some 7), (some 8), (some 9), (some 10), (some 11), (some 2)] (L39_1).1 E m)) k E Q := w_plain (by kernel_rfl) (L39_1).2
theorem k39 : FnIs TT 39 c39 [.tmp 2] 1 := ⟨Tryd.f39, by kernel_rfl, by simp only [Tryd.f39, c39, bodyOf], by kernel_rfl, of_decide_eq_true (by kernel_rfl)⟩

/- (*token.scanner).comment -/
noncomputable def c40 : Code := bodyOf Tryd.f40
noncomputable def r40_0 : Code := Code.sub [0] c40
noncomputable def r40_1 : Code := Code.sub [1, 0] c40
noncomputable def r40_2 : Code := Code.sub [1, 1, 0, 0] c40
noncomputable def r40_3 : Code := Code.sub [1, 1, 0, 1, 0, 0, 0, 0] c40
noncomputable def r40_4 : Code := Code.sub [1, 1, 0, 1, 0, 0, 1, 0] c40
noncomputable def r40_5 : Code := Code.sub [1, 1, 1, 0] c40
theorem body40 : c40 = (.seq r40_0 (.seq r40_1 (.seq (.seq r40_2 (.block 0 (.loop (.seq (.seq r40_3 (.cond (.tmp 16) .skip (.exit 0))) (.block 1 r40_4))))) (.seq r40_5 .ret)))) := by kernel_rfl
noncomputable def L40_0 : {l : List Oper // (opsOf r40_0).map strip = l} := by refine ⟨?l, ?h⟩; case h => simp only [r40_0, c40, bodyOf, Tryd.f40, Code.sub, opsOf, List.map_cons, List.map_nil, strip]; rfl
theorem w40_0 : W Tryd.prog TT S 5 [16] r40_0 k E m Q ↔ Rg Tryd.prog TT S 5 [16] [2] [] (lgo E [] (lops Tryd.prog (callw Tryd.prog TT S) [(some 2)] (L40_0).1 E m)) k E Q := w_plain (by kernel_rfl) (L40_0).2
noncomputable def L40_1 : {l : List Oper // (opsOf r40_1).map strip = l} := by refine ⟨?l, ?h⟩; case h => simp only [r40_1, c40, bodyOf, Tryd.f40, Code.sub, opsOf, List.map_cons, List.map_nil, strip]; rfl
theorem w40_1 : W Tryd.prog TT S 5 [16] r40_1 k E m Q ↔ Rg Tryd.prog TT S 5 [16] [3] [] (lgo E [] (lops Tryd.prog (callw Tryd.prog TT S) [(some 3)] (L40_1).1 E m)) k E Q := w_plain (by kernel_rfl) (L40_1).2
noncomputable def L40_2 : {l : List Oper // (opsOf r40_2).map strip = l} := by refine ⟨?l, ?h⟩; case h => simp only [r40_2, c40, bodyOf, Tryd.f40, Code.sub, opsOf, List.map_cons, List.map_nil, strip]; rfl
theorem w40_2 : W Tryd.prog TT S 5 [16] r40_2 k E m Q ↔ Rg Tryd.prog TT S 5 [16] [4] [] (lgo E [0] (lops Tryd.prog (callw Tryd.prog TT S) [(some 5), (some 6), (some 4)] (L40_2).1 E m)) k E Q := w_plain (by kernel_rfl) (L40_2).2
noncomputable def L40_3 : {l : List Oper // (opsOf r40_3).map strip = l} := by refine ⟨?l, ?h⟩; case h => simp only [r40_3, c40, bodyOf, Tryd.f40, Code.sub, opsOf, List.map_cons, List.map_nil, strip]; rfl
theorem w40_3 : W Tryd.prog TT S 5 [16] r40_3 k E m Q ↔ Rg Tryd.prog TT S 5 [16] [] [16] (lgo E [4, 3] (lops Tryd.prog (callw Tryd.prog TT S) [(some 7), (some 8), (some 9), (some 10), (some 11), (some 12), (some 13), (some 14), (some 15), (some 16)] (L40_3).1 E m)) k E Q := w_plain (by kernel_rfl) (L40_3).2
noncomputable def L40_4 : {l : List Oper // (opsOf r40_4).map strip = l} := by refine ⟨?l, ?h⟩; case h => simp only [r40_4, c40, bodyOf, Tryd.f40, Code.sub, opsOf, List.map_cons, List.map_nil, strip]; rfl
theorem w40_4 : W Tryd.prog TT S 5 [16] r40_4 k E m Q ↔ Rg Tryd.prog TT S 5 [16] [3] [] (lgo E [3] (lops Tryd.prog (callw Tryd.prog TT S) [(some 17), (some 18), (some 3)] (L40_4).1 E m)) k E Q := w_plain (by kernel_rfl) (L40_4).2
noncomputable def L40_5 : {l : List Oper // (opsOf r40_5).map strip = l} := by refine ⟨?l, ?h⟩; case h => simp only [r40_5, c40, bodyOf, Tryd.f40, Code.sub, opsOf, List.map_cons, List.map_nil, strip]; rfl
theorem w40_5 : W Tryd.prog TT S 5 [16] r40_5 k E m Q ↔ Rg Tryd.prog TT S 5 [16] [2] [] (lgo E [3] (lops Tryd.prog (callw Tryd.prog TT S) [(some 19), (some 2)] (L40_5).1 E m)) k E Q := w_plain (by kernel_rfl) (L40_5).2
theorem k40 : FnIs TT 40 c40 [.tmp 2] 1 := ⟨Tryd.f40, by kernel_rfl, by simp only [Tryd.f40, c40, bodyOf], by kernel_rfl, of_decide_eq_true (by kernel_rfl)⟩

/- (*token.scanner).word -/
noncomputable def c41 : Code := bodyOf Tryd.f41
noncomputable def r41_0 : Code := Code.sub [0] c41
noncomputable def r41_1 : Code := Code.sub [1, 0] c41
noncomputable def r41_2 : Code := Code.sub [1, 1, 0] c41
noncomputable def r41_3 : Code := Code.sub [1, 1, 1, 0, 0, 0, 0, 0] c41
noncomputable def r41_4 : Code := Code.sub [1, 1, 1, 0, 0, 0, 1, 0] c41
noncomputable def r41_5 : Code := Code.sub [1, 1, 1, 1, 0] c41
noncomputable def r41_6 : Code := Code.sub [1, 1, 1, 1, 1, 0, 0] c41
noncomputable def r41_7 : Code := Code.sub [1, 1, 1, 1, 1, 0, 1, 0] c41
noncomputable def r41_8 : Code := Code.sub [1, 1, 1, 1, 1, 1, 0] c41
noncomputable def r41_9 : Code := Code.sub [1, 1, 1, 1, 1, 1, 1, 0] c41
theorem body41 : c41 = (.seq r41_0 (.seq r41_1 (.seq r41_2 (.seq (.block 0 (.loop (.seq (.seq r41_3 (.cond (.tmp 23) .skip (.exit 0))) (.block 1 r41_4)))) (.seq r41_5 (.seq (.seq r41_6 (.cond (.tmp 29) r41_7 .skip)) (.seq r41_8 (.seq r41_9 .ret)))))))) := by kernel_rfl
noncomputable def L41_0 : {l : List Oper // (opsOf r41_0).map strip = l} := by refine ⟨?l, ?h⟩; case h => simp only [r41_0, c41, bodyOf, Tryd.f41, Code.sub, opsOf, List.map_cons, List.map_nil, strip]; rfl
theorem w41_0 : W Tryd.prog TT S 6 [23, 29] r41_0 k E m Q ↔ Rg Tryd.prog TT S 6 [23, 29] [2] [] (lgo E [] (lops Tryd.prog (callw Tryd.prog TT S) [(some 2)] (L41_0).1 E m)) k E Q := w_plain (by kernel_rfl) (L41_0).2
noncomputable def L41_1 : {l : List Oper // (opsOf r41_1).map strip = l} := by refine ⟨?l, ?h⟩; case h => simp only [r41_1, c41, bodyOf, Tryd.f41, Code.sub, opsOf, List.map_cons, List.map_nil, strip]; rfl
theorem w41_1 : W Tryd.prog TT S 6 [23, 29] r41_1 k E m Q ↔ Rg Tryd.prog TT S 6 [23, 29] [3] [] (lgo E [0] (lops Tryd.prog (callw Tryd.prog TT S) [(some 6), (some 7), (some 3)] (L41_1).1 E m)) k E Q := w_plain (by kernel_rfl) (L41_1).2
noncomputable def L41_2 : {l : List Oper // (opsOf r41_2).map strip = l} := by refine ⟨?l, ?h⟩; case h => simp only [r41_2, c41, bodyOf, Tryd.f41, Code.sub, opsOf, List.map_cons, List.map_nil, strip]; rfl
theorem w41_2 : W Tryd.prog TT S 6 [23, 29] r41_2 k E m Q ↔ Rg Tryd.prog TT S 6 [23, 29] [4] [] (lgo E [] (lops Tryd.prog (callw Tryd.prog TT S) [(some 4)] (L41_2).1 E m)) k E Q := w_plain (by kernel_rfl) (L41_2).2
noncomputable def L41_3 : {l : List Oper // (opsOf r41_3).map strip = l} := by refine ⟨?l, ?h⟩; case h => simp only [r41_3, c41, bodyOf, Tryd.f41, Code.sub, opsOf, List.map_cons, List.map_nil, strip]; rfl
theorem w41_3 : W Tryd.prog TT S 6 [23, 29] r41_3 k E m Q ↔ Rg Tryd.prog TT S 6 [23, 29] [] [23] (lgo E [3, 4] (lops Tryd.prog (callw Tryd.prog TT S) [(some 8), (some 9), (some 10), (some 11), (some 12), (some 13), (some 14), (some 15), (some 16), (some 17), (some 18), (some 19), (some 20), (some 21), (some 22), (some 23)] (L41_3).1 E m)) k E Q := w_plain (by kernel_rfl) (L41_3).2
noncomputable def L41_4 : {l : List Oper // (opsOf r41_4).map strip = l} := by refine ⟨?l, ?h⟩; case h => simp only [r41_4, c41, bodyOf, Tryd.f41, Code.sub, opsOf, List.map_cons, List.map_nil, strip]; rfl
theorem w41_4 : W Tryd.prog TT S 6 [23, 29] r41_4 k E m Q ↔ Rg Tryd.prog TT S 6 [23, 29] [4] [] (lgo E [4] (lops Tryd.prog (callw Tryd.prog TT S) [(some 24), (some 25), (some 4)] (L41_4).1 E m)) k E Q := w_plain (by kernel_rfl) (L41_4).2
noncomputable def L41_5 : {l : List Oper // (opsOf r41_5).map strip = l} := by refine ⟨?l, ?h⟩; case h => simp only [r41_5, c41, bodyOf, Tryd.f41, Code.sub, opsOf, List.map_cons, List.map_nil, strip]; rfl
theorem w41_5 : W Tryd.prog TT S 6 [23, 29] r41_5 k E m Q ↔ Rg Tryd.prog TT S 6 [23, 29] [5] [] (lgo E [] (lops Tryd.prog (callw Tryd.prog TT S) [(some 5)] (L41_5).1 E m)) k E Q := w_plain (by kernel_rfl) (L41_5).2
noncomputable def L41_6 : {l : List Oper // (opsOf r41_6).map strip = l} := by refine ⟨?l, ?h⟩; case h => simp only [r41_6, c41, bodyOf, Tryd.f41, Code.sub, opsOf, List.map_cons, List.map_nil, strip]; rfl
theorem w41_6 : W Tryd.prog TT S 6 [23, 29] r41_6 k E m Q ↔ Rg Tryd.prog TT S 6 [23, 29] [] [29] (lgo E [3, 4] (lops Tryd.prog (callw Tryd.prog TT S) [(some 26), (some 27), (some 28), (some 29)] (L41_6).1 E m)) k E Q := w_plain (by kernel_rfl) (L41_6).2
noncomputable def L41_7 : {l : List Oper // (opsOf r41_7).map strip = l} := by refine ⟨?l, ?h⟩; case h => simp only [r41_7, c41, bodyOf, Tryd.f41, Code.sub, opsOf, List.map_cons, List.map_nil, strip]; rfl
theorem w41_7 : W Tryd.prog TT S 6 [23, 29] r41_7 k E m Q ↔ Rg Tryd.prog TT S 6 [23, 29] [5] [] (lgo E [] (lops Tryd.prog (callw Tryd.prog TT S) [(some 5)] (L41_7).1 E m)) k E Q := w_plain (by kernel_rfl) (L41_7).2
noncomputable def L41_8 : {l : List Oper // (opsOf r41_8).map strip = l} := by refine ⟨?l, ?h⟩; case h => simp only [r41_8, c41, bodyOf, Tryd.f41, Code.sub, opsOf, List.map_cons, List.map_nil, strip]; rfl
theorem w41_8 : W Tryd.prog TT S 6 [23, 29] r41_8 k E m Q ↔ Rg Tryd.prog TT S 6 [23, 29] [] [] (lgo E [0, 5, 3, 4] (lops Tryd.prog (callw Tryd.prog TT S) [(some 30), (some 31), (some 32), (some 33), (some 34), (some 35)] (L41_8).1 E m)) k E Q := w_plain (by kernel_rfl) (L41_8).2
noncomputable def L41_9 : {l : List Oper // (opsOf r41_9).map strip = l} := by refine ⟨?l, ?h⟩; case h => simp only [r41_9, c41, bodyOf, Tryd.f41, Code.sub, opsOf, List.map_cons, List.map_nil, strip]; rfl
theorem w41_9 : W Tryd.prog TT S 6 [23, 29] r41_9 k E m Q ↔ Rg Tryd.prog TT S 6 [23, 29] [2] [] (lgo E [4] (lops Tryd.prog (callw Tryd.prog TT S) [(some 36), (some 2)] (L41_9).1 E m)) k E Q := w_plain (by kernel_rfl) (L41_9).2
theorem k41 : FnIs TT 41 c41 [.tmp 2] 1 := ⟨Tryd.f41, by kernel_rfl, by simp only [Tryd.f41, c41, bodyOf], by kernel_rfl, of_decide_eq_true (by kernel_rfl)⟩

/- (*token.scanner).number -/
noncomputable def c42 : Code := bodyOf Tryd.f42
noncomputable def r42_0 : Code := Code.sub [0] c42
noncomputable def r42_1 : Code := Code.sub [1, 0] c42
noncomputable def r42_2 : Code := Code.sub [1, 1, 0] c42
noncomputable def r42_3 : Code := Code.sub [1, 1, 1, 0] c42
noncomputable def r42_4 : Code := Code.sub [1, 1, 1, 1, 0, 0, 0, 0, 0] c42
noncomputable def r42_5 : Code := Code.sub [1, 1, 1, 1, 0, 0, 0, 1, 0, 0] c42
noncomputable def r42_6 : Code := Code.sub [1, 1, 1, 1, 0, 0, 0, 1, 0, 1, 0, 0] c42
noncomputable def r42_7 : Code := Code.sub [1, 1, 1, 1, 0, 0, 0, 1, 0, 1, 0, 1, 0, 0] c42
noncomputable def r42_8 : Code := Code.sub [1, 1, 1, 1, 0, 0, 0, 1, 0, 1, 0, 1, 0, 1, 0] c42
noncomputable def r42_9 : Code := Code.sub [1, 1, 1, 1, 0, 0, 0, 1, 0, 1, 1, 0] c42
noncomputable def r42_10 : Code := Code.sub [1, 1, 1, 1, 0, 0, 0, 1, 0, 1, 1, 1] c42
noncomputable def r42_11 : Code := Code.sub [1, 1, 1, 1, 1, 0] c42
noncomputable def r42_12 : Code := Code.sub [1, 1, 1, 1, 1, 1, 0] c42
theorem body42 : c42 = (.seq r42_0 (.seq r42_1 (.seq r42_2 (.seq r42_3 (.seq (.block 0 (.loop (.seq (.seq r42_4 (.cond (.tmp 18) .skip (.exit 0))) (.block 1 (.seq r42_5 (.seq (.seq r42_6 (.cond (.tmp 28) (.seq r42_7 (.seq r42_8 .ret)) .skip)) (.seq r42_9 r42_10))))))) (.seq r42_11 (.seq r42_12 .ret))))))) := by kernel_rfl
noncomputable def L42_0 : {l : List Oper // (opsOf r42_0).map strip = l} := by refine ⟨?l, ?h⟩; case h => simp only [r42_0, c42, bodyOf, Tryd.f42, Code.sub, opsOf, List.map_cons, List.map_nil, strip]; rfl
theorem w42_0 : W Tryd.prog TT S 7 [18, 28] r42_0 k E m Q ↔ Rg Tryd.prog TT S 7 [18, 28] [2] [] (lgo E [] (lops Tryd.prog (callw Tryd.prog TT S) [(some 2)] (L42_0).1 E m)) k E Q := w_plain (by kernel_rfl) (L42_0).2
noncomputable def L42_1 : {l : List Oper // (opsOf r42_1).map strip = l} := by refine ⟨?l, ?h⟩; case h => simp only [r42_1, c42, bodyOf, Tryd.f42, Code.sub, opsOf, List.map_cons, List.map_nil, strip]; rfl
theorem w42_1 : W Tryd.prog TT S 7 [18, 28] r42_1 k E m Q ↔ Rg Tryd.prog TT S 7 [18, 28] [3] [] (lgo E [0] (lops Tryd.prog (callw Tryd.prog TT S) [(some 7), (some 8), (some 3)] (L42_1).1 E m)) k E Q := w_plain (by kernel_rfl) (L42_1).2
noncomputable def L42_2 : {l : List Oper // (opsOf r42_2).map strip = l} := by refine ⟨?l, ?h⟩; case h => simp only [r42_2, c42, bodyOf, Tryd.f42, Code.sub, opsOf, List.map_cons, List.map_nil, strip]; rfl
theorem w42_2 : W Tryd.prog TT S 7 [18, 28] r42_2 k E m Q ↔ Rg Tryd.prog TT S 7 [18, 28] [4] [] (lgo E [] (lops Tryd.prog (callw Tryd.prog TT S) [(some 4)] (L42_2).1 E m)) k E Q := w_plain (by kernel_rfl) (L42_2).2
noncomputable def L42_3 : {l : List Oper // (opsOf r42_3).map strip = l} := by refine ⟨?l, ?h⟩; case h => simp only [r42_3, c42, bodyOf, Tryd.f42, Code.sub, opsOf, List.map_cons, List.map_nil, strip]; rfl
theorem w42_3 : W Tryd.prog TT S 7 [18, 28] r42_3 k E m Q ↔ Rg Tryd.prog TT S 7 [18, 28] [5] [] (lgo E [] (lops Tryd.prog (callw Tryd.prog TT S) [(some 5)] (L42_3).1 E m)) k E Q := w_plain (by kernel_rfl) (L42_3).2
noncomputable def L42_4 : {l : List Oper // (opsOf r42_4).map strip = l} := by refine ⟨?l, ?h⟩; case h => simp only [r42_4, c42, bodyOf, Tryd.f42, Code.sub, opsOf, List.map_cons, List.map_nil, strip]; rfl
theorem w42_4 : W Tryd.prog TT S 7 [18, 28] r42_4 k E m Q ↔ Rg Tryd.prog TT S 7 [18, 28] [] [18] (lgo E [3, 4] (lops Tryd.prog (callw Tryd.prog TT S) [(some 9), (some 10), (some 11), (some 12), (some 13), (some 14), (some 15), (some 16), (some 17), (some 18)] (L42_4).1 E m)) k E Q := w_plain (by kernel_rfl) (L42_4).2
noncomputable def L42_5 : {l : List Oper // (opsOf r42_5).map strip = l} := by refine ⟨?l, ?h⟩; case h => simp only [r42_5, c42, bodyOf, Tryd.f42, Code.sub, opsOf, List.map_cons, List.map_nil, strip]; rfl
theorem w42_5 : W Tryd.prog TT S 7 [18, 28] r42_5 k E m Q ↔ Rg Tryd.prog TT S 7 [18, 28] [6] [] (lgo E [3, 4] (lops Tryd.prog (callw Tryd.prog TT S) [(some 19), (some 20), (some 21), (some 22), (some 23), (some 6)] (L42_5).1 E m)) k E Q := w_plain (by kernel_rfl) (L42_5).2
noncomputable def L42_6 : {l : List Oper // (opsOf r42_6).map strip = l} := by refine ⟨?l, ?h⟩; case h => simp only [r42_6, c42, bodyOf, Tryd.f42, Code.sub, opsOf, List.map_cons, List.map_nil, strip]; rfl
theorem w42_6 : W Tryd.prog TT S 7 [18, 28] r42_6 k E m Q ↔ Rg Tryd.prog TT S 7 [18, 28] [] [28] (lgo E [5, 6] (lops Tryd.prog (callw Tryd.prog TT S) [(some 24), (some 25), (some 26), (some 27), (some 28)] (L42_6).1 E m)) k E Q := w_plain (by kernel_rfl) (L42_6).2
noncomputable def L42_7 : {l : List Oper // (opsOf r42_7).map strip = l} := by refine ⟨?l, ?h⟩; case h => simp only [r42_7, c42, bodyOf, Tryd.f42, Code.sub, opsOf, List.map_cons, List.map_nil, strip]; rfl
theorem w42_7 : W Tryd.prog TT S 7 [18, 28] r42_7 k E m Q ↔ Rg Tryd.prog TT S 7 [18, 28] [] [] (lgo E [0] (lops Tryd.prog (callw Tryd.prog TT S) [(some 29), (some 30)] (L42_7).1 E m)) k E Q := w_plain (by kernel_rfl) (L42_7).2
noncomputable def L42_8 : {l : List Oper // (opsOf r42_8).map strip = l} := by refine ⟨?l, ?h⟩; case h => simp only [r42_8, c42, bodyOf, Tryd.f42, Code.sub, opsOf, List.map_cons, List.map_nil, strip]; rfl
theorem w42_8 : W Tryd.prog TT S 7 [18, 28] r42_8 k E m Q ↔ Rg Tryd.prog TT S 7 [18, 28] [2] [] (lgo E [] (lops Tryd.prog (callw Tryd.prog TT S) [(some 2)] (L42_8).1 E m)) k E Q := w_plain (by kernel_rfl) (L42_8).2
noncomputable def L42_9 : {l : List Oper // (opsOf r42_9).map strip = l} := by refine ⟨?l, ?h⟩; case h => simp only [r42_9, c42, bodyOf, Tryd.f42, Code.sub, opsOf, List.map_cons, List.map_nil, strip]; rfl
theorem w42_9 : W Tryd.prog TT S 7 [18, 28] r42_9 k E m Q ↔ Rg Tryd.prog TT S 7 [18, 28] [5] [] (lgo E [5, 6] (lops Tryd.prog (callw Tryd.prog TT S) [(some 31), (some 32), (some 33), (some 34), (some 5)] (L42_9).1 E m)) k E Q := w_plain (by kernel_rfl) (L42_9).2
noncomputable def L42_10 : {l : List Oper // (opsOf r42_10).map strip = l} := by refine ⟨?l, ?h⟩; case h => simp only [r42_10, c42, bodyOf, Tryd.f42, Code.sub, opsOf, List.map_cons, List.map_nil, strip]; rfl
theorem w42_10 : W Tryd.prog TT S 7 [18, 28] r42_10 k E m Q ↔ Rg Tryd.prog TT S 7 [18, 28] [4] [] (lgo E [4] (lops Tryd.prog (callw Tryd.prog TT S) [(some 35), (some 36), (some 4)] (L42_10).1 E m)) k E Q := w_plain (by kernel_rfl) (L42_10).2
noncomputable def L42_11 : {l : List Oper // (opsOf r42_11).map strip = l} := by refine ⟨?l, ?h⟩; case h => simp only [r42_11, c42, bodyOf, Tryd.f42, Code.sub, opsOf, List.map_cons, List.map_nil, strip]; rfl
theorem w42_11 : W Tryd.prog TT S 7 [18, 28] r42_11 k E m Q ↔ Rg Tryd.prog TT S 7 [18, 28] [] [] (lgo E [0, 3, 4, 5] (lops Tryd.prog (callw Tryd.prog TT S) [(some 37), (some 38), (some 39), (some 40), (some 41), (some 42), (some 43)] (L42_11).1 E m)) k E Q := w_plain (by kernel_rfl) (L42_11).2
noncomputable def L42_12 : {l : List Oper // (opsOf r42_12).map strip = l} := by refine ⟨?l, ?h⟩; case h => simp only [r42_12, c42, bodyOf, Tryd.f42, Code.sub, opsOf, List.map_cons, List.map_nil, strip]; rfl
theorem w42_12 : W Tryd.prog TT S 7 [18, 28] r42_12 k E m Q ↔ Rg Tryd.prog TT S 7 [18, 28] [2] [] (lgo E [4] (lops Tryd.prog (callw Tryd.prog TT S) [(some 44), (some 2)] (L42_12).1 E m)) k E Q := w_plain (by kernel_rfl) (L42_12).2
theorem k42 : FnIs TT 42 c42 [.tmp 2] 1 := ⟨Tryd.f42, by kernel_rfl, by simp only [Tryd.f42, c42, bodyOf], by kernel_rfl, of_decide_eq_true (by kernel_rfl)⟩

/- (*token.scanner).text -/
noncomputable def c43 : Code := bodyOf Tryd.f43
noncomputable def r43_0 : Code := Code.sub [0] c43
noncomputable def r43_1 : Code := Code.sub [1, 0] c43
noncomputable def r43_2 : Code := Code.sub [1, 1, 0] c43
noncomputable def r43_3 : Code := Code.sub [1, 1, 1, 0, 0] c43
noncomputable def r43_4 : Code := Code.sub [1, 1, 1, 0, 1, 0, 0, 0, 0] c43
noncomputable def r43_5 : Code := Code.sub [1, 1, 1, 0, 1, 0, 0, 1, 0, 0, 0] c43
noncomputable def r43_6 : Code := Code.sub [1, 1, 1, 0, 1, 0, 0, 1, 0, 0, 1, 0, 0] c43
noncomputable def r43_7 : Code := Code.sub [1, 1, 1, 0, 1, 0, 0, 1, 0, 0, 1, 0, 1, 0, 0] c43
noncomputable def r43_8 : Code := Code.sub [1, 1, 1, 0, 1, 0, 0, 1, 0, 0, 1, 0, 1, 0, 1, 0] c43
noncomputable def r43_9 : Code := Code.sub [1, 1, 1, 0, 1, 0, 0, 1, 0, 0, 1, 0, 1, 1, 0] c43
noncomputable def r43_10 : Code := Code.sub [1, 1, 1, 0, 1, 0, 0, 1, 0, 0, 1, 0, 1, 1, 1, 0, 0] c43
noncomputable def r43_11 : Code := Code.sub [1, 1, 1, 0, 1, 0, 0, 1, 0, 0, 1, 0, 1, 1, 1, 0, 1, 0] c43
noncomputable def r43_12 : Code := Code.sub [1, 1, 1, 0, 1, 0, 0, 1, 0, 0, 1, 0, 1, 1, 1, 0, 1, 1, 0, 0] c43
noncomputable def r43_13 : Code := Code.sub [1, 1, 1, 0, 1, 0, 0, 1, 0, 0, 1, 0, 1, 1, 1, 0, 1, 1, 0, 1, 0, 0] c43
noncomputable def r43_14 : Code := Code.sub [1, 1, 1, 0, 1, 0, 0, 1, 0, 0, 1, 0, 1, 1, 1, 0, 1, 1, 0, 1, 0, 1, 0] c43
noncomputable def r43_15 : Code := Code.sub [1, 1, 1, 0, 1, 0, 0, 1, 0, 0, 1, 0, 1, 1, 1, 0, 1, 1, 1] c43
noncomputable def r43_16 : Code := Code.sub [1, 1, 1, 0, 1, 0, 0, 1, 0, 0, 1, 0, 1, 1, 1, 1, 0] c43
noncomputable def r43_17 : Code := Code.sub [1, 1, 1, 0, 1, 0, 0, 1, 0, 0, 1, 0, 1, 1, 1, 1, 1, 0, 0] c43
noncomputable def r43_18 : Code := Code.sub [1, 1, 1, 0, 1, 0, 0, 1, 0, 0, 1, 0, 1, 1, 1, 1, 1, 0, 1, 0] c43
noncomputable def r43_19 : Code := Code.sub [1, 1, 1, 0, 1, 0, 0, 1, 0, 0, 1, 0, 1, 1, 1, 1, 1, 1] c43
noncomputable def r43_20 : Code := Code.sub [1, 1, 1, 0, 1, 0, 0, 1, 1] c43
noncomputable def r43_21 : Code := Code.sub [1, 1, 1, 1, 0] c43
noncomputable def r43_22 : Code := Code.sub [1, 1, 1, 1, 1, 0] c43
theorem body43 : c43 = (.seq r43_0 (.seq r43_1 (.seq r43_2 (.seq (.seq r43_3 (.block 0 (.loop (.seq (.seq r43_4 (.cond (.tmp 14) .skip (.exit 0))) (.seq (.block 1 (.seq r43_5 (.block 2 (.seq r43_6 (.cond (.tmp 24) (.seq r43_7 (.seq r43_8 .ret)) (.seq r43_9 (.cond (.tmp 38) (.seq r43_10 (.seq r43_11 (.seq (.seq r43_12 (.cond (.tmp 58) (.seq r43_13 (.seq r43_14 .ret)) .skip)) r43_15))) (.seq r43_16 (.cond (.tmp 65) (.seq r43_17 (.seq r43_18 .ret)) r43_19))))))))) r43_20))))) (.seq r43_21 (.seq r43_22 .ret)))))) := by kernel_rfl
noncomputable def L43_0 : {l : List Oper // (opsOf r43_0).map strip = l} := by refine ⟨?l, ?h⟩; case h => simp only [r43_0, c43, bodyOf, Tryd.f43, Code.sub, opsOf, List.map_cons, List.map_nil, strip]; rfl
theorem w43_0 : W Tryd.prog TT S 9 [14, 24, 38, 58, 65] r43_0 k E m Q ↔ Rg Tryd.prog TT S 9 [14, 24, 38, 58, 65] [2] [] (lgo E [] (lops Tryd.prog (callw Tryd.prog TT S) [(some 2)] (L43_0).1 E m)) k E Q := w_plain (by kernel_rfl) (L43_0).2
noncomputable def L43_1 : {l : List Oper // (opsOf r43_1).map strip = l} := by refine ⟨?l, ?h⟩; case h => simp only [r43_1, c43, bodyOf, Tryd.f43, Code.sub, opsOf, List.map_cons, List.map_nil, strip]; rfl
theorem w43_1 : W Tryd.prog TT S 9 [14, 24, 38, 58, 65] r43_1 k E m Q ↔ Rg Tryd.prog TT S 9 [14, 24, 38, 58, 65] [3] [] (lgo E [0] (lops Tryd.prog (callw Tryd.prog TT S) [(some 9), (some 10), (some 3)] (L43_1).1 E m)) k E Q := w_plain (by kernel_rfl) (L43_1).2
noncomputable def L43_2 : {l : List Oper // (opsOf r43_2).map strip = l} := by refine ⟨?l, ?h⟩; case h => simp only [r43_2, c43, bodyOf, Tryd.f43, Code.sub, opsOf, List.map_cons, List.map_nil, strip]; rfl
theorem w43_2 : W Tryd.prog TT S 9 [14, 24, 38, 58, 65] r43_2 k E m Q ↔ Rg Tryd.prog TT S 9 [14, 24, 38, 58, 65] [4] [] (lgo E [] (lops Tryd.prog (callw Tryd.prog TT S) [(some 4)] (L43_2).1 E m)) k E Q := w_plain (by kernel_rfl) (L43_2).2
noncomputable def L43_3 : {l : List Oper // (opsOf r43_3).map strip = l} := by refine ⟨?l, ?h⟩; case h => simp only [r43_3, c43, bodyOf, Tryd.f43, Code.sub, opsOf, List.map_cons, List.map_nil, strip]; rfl
theorem w43_3 : W Tryd.prog TT S 9 [14, 24, 38, 58, 65] r43_3 k E m Q ↔ Rg Tryd.prog TT S 9 [14, 24, 38, 58, 65] [5] [] (lgo E [] (lops Tryd.prog (callw Tryd.prog TT S) [(some 5)] (L43_3).1 E m)) k E Q := w_plain (by kernel_rfl) (L43_3).2
noncomputable def L43_4 : {l : List Oper // (opsOf r43_4).map strip = l} := by refine ⟨?l, ?h⟩; case h => simp only [r43_4, c43, bodyOf, Tryd.f43, Code.sub, opsOf, List.map_cons, List.map_nil, strip]; rfl
theorem w43_4 : W Tryd.prog TT S 9 [14, 24, 38, 58, 65] r43_4 k E m Q ↔ Rg Tryd.prog TT S 9 [14, 24, 38, 58, 65] [] [14] (lgo E [5, 3] (lops Tryd.prog (callw Tryd.prog TT S) [(some 11), (some 12), (some 13), (some 14)] (L43_4).1 E m)) k E Q := w_plain (by kernel_rfl) (L43_4).2
noncomputable def L43_5 : {l : List Oper // (opsOf r43_5).map strip = l} := by refine ⟨?l, ?h⟩; case h => simp only [r43_5, c43, bodyOf, Tryd.f43, Code.sub, opsOf, List.map_cons, List.map_nil, strip]; rfl
theorem w43_5 : W Tryd.prog TT S 9 [14, 24, 38, 58, 65] r43_5 k E m Q ↔ Rg Tryd.prog TT S 9 [14, 24, 38, 58, 65] [6] [] (lgo E [3, 5] (lops Tryd.prog (callw Tryd.prog TT S) [(some 17), (some 18), (some 19), (some 6)] (L43_5).1 E m)) k E Q := w_plain (by kernel_rfl) (L43_5).2
noncomputable def L43_6 : {l : List Oper // (opsOf r43_6).map strip = l} := by refine ⟨?l, ?h⟩; case h => simp only [r43_6, c43, bodyOf, Tryd.f43, Code.sub, opsOf, List.map_cons, List.map_nil, strip]; rfl
theorem w43_6 : W Tryd.prog TT S 9 [14, 24, 38, 58, 65] r43_6 k E m Q ↔ Rg Tryd.prog TT S 9 [14, 24, 38, 58, 65] [] [24] (lgo E [6, 4] (lops Tryd.prog (callw Tryd.prog TT S) [(some 25), (some 26), (some 27), (some 28), (some 29), (some 30), (some 31), (some 24)] (L43_6).1 E m)) k E Q := w_plain (by kernel_rfl) (L43_6).2
noncomputable def L43_7 : {l : List Oper // (opsOf r43_7).map strip = l} := by refine ⟨?l, ?h⟩; case h => simp only [r43_7, c43, bodyOf, Tryd.f43, Code.sub, opsOf, List.map_cons, List.map_nil, strip]; rfl
theorem w43_7 : W Tryd.prog TT S 9 [14, 24, 38, 58, 65] r43_7 k E m Q ↔ Rg Tryd.prog TT S 9 [14, 24, 38, 58, 65] [] [] (lgo E [0, 4] (lops Tryd.prog (callw Tryd.prog TT S) [(some 32), (some 33), (some 34), (some 35)] (L43_7).1 E m)) k E Q := w_plain (by kernel_rfl) (L43_7).2
noncomputable def L43_8 : {l : List Oper // (opsOf r43_8).map strip = l} := by refine ⟨?l, ?h⟩; case h => simp only [r43_8, c43, bodyOf, Tryd.f43, Code.sub, opsOf, List.map_cons, List.map_nil, strip]; rfl
theorem w43_8 : W Tryd.prog TT S 9 [14, 24, 38, 58, 65] r43_8 k E m Q ↔ Rg Tryd.prog TT S 9 [14, 24, 38, 58, 65] [2] [] (lgo E [5] (lops Tryd.prog (callw Tryd.prog TT S) [(some 36), (some 37), (some 2)] (L43_8).1 E m)) k E Q := w_plain (by kernel_rfl) (L43_8).2
noncomputable def L43_9 : {l : List Oper // (opsOf r43_9).map strip = l} := by refine ⟨?l, ?h⟩; case h => simp only [r43_9, c43, bodyOf, Tryd.f43, Code.sub, opsOf, List.map_cons, List.map_nil, strip]; rfl
theorem w43_9 : W Tryd.prog TT S 9 [14, 24, 38, 58, 65] r43_9 k E m Q ↔ Rg Tryd.prog TT S 9 [14, 24, 38, 58, 65] [] [38] (lgo E [6, 5, 3] (lops Tryd.prog (callw Tryd.prog TT S) [(some 39), (some 40), (some 41), (some 42), (some 43), (some 44), (some 45), (some 46), (some 47), (some 38)] (L43_9).1 E m)) k E Q := w_plain (by kernel_rfl) (L43_9).2
noncomputable def L43_10 : {l : List Oper // (opsOf r43_10).map strip = l} := by refine ⟨?l, ?h⟩; case h => simp only [r43_10, c43, bodyOf, Tryd.f43, Code.sub, opsOf, List.map_cons, List.map_nil, strip]; rfl
theorem w43_10 : W Tryd.prog TT S 9 [14, 24, 38, 58, 65] r43_10 k E m Q ↔ Rg Tryd.prog TT S 9 [14, 24, 38, 58, 65] [5] [] (lgo E [5] (lops Tryd.prog (callw Tryd.prog TT S) [(some 48), (some 49), (some 5)] (L43_10).1 E m)) k E Q := w_plain (by kernel_rfl) (L43_10).2
noncomputable def L43_11 : {l : List Oper // (opsOf r43_11).map strip = l} := by refine ⟨?l, ?h⟩; case h => simp only [r43_11, c43, bodyOf, Tryd.f43, Code.sub, opsOf, List.map_cons, List.map_nil, strip]; rfl
theorem w43_11 : W Tryd.prog TT S 9 [14, 24, 38, 58, 65] r43_11 k E m Q ↔ Rg Tryd.prog TT S 9 [14, 24, 38, 58, 65] [7, 8] [] (lgo E [3, 5] (lops Tryd.prog (callw Tryd.prog TT S) [(some 51), (some 52), (some 53), (some 54), (some 50), (some 55), (some 56), (some 7), (some 8)] (L43_11).1 E m)) k E Q := w_plain (by kernel_rfl) (L43_11).2
noncomputable def L43_12 : {l : List Oper // (opsOf r43_12).map strip = l} := by refine ⟨?l, ?h⟩; case h => simp only [r43_12, c43, bodyOf, Tryd.f43, Code.sub, opsOf, List.map_cons, List.map_nil, strip]; rfl
theorem w43_12 : W Tryd.prog TT S 9 [14, 24, 38, 58, 65] r43_12 k E m Q ↔ Rg Tryd.prog TT S 9 [14, 24, 38, 58, 65] [] [58] (lgo E [8] (lops Tryd.prog (callw Tryd.prog TT S) [(some 57), (some 58)] (L43_12).1 E m)) k E Q := w_plain (by kernel_rfl) (L43_12).2
noncomputable def L43_13 : {l : List Oper // (opsOf r43_13).map strip = l} := by refine ⟨?l, ?h⟩; case h => simp only [r43_13, c43, bodyOf, Tryd.f43, Code.sub, opsOf, List.map_cons, List.map_nil, strip]; rfl
theorem w43_13 : W Tryd.prog TT S 9 [14, 24, 38, 58, 65] r43_13 k E m Q ↔ Rg Tryd.prog TT S 9 [14, 24, 38, 58, 65] [] [] (lgo E [0] (lops Tryd.prog (callw Tryd.prog TT S) [(some 59), (some 60)] (L43_13).1 E m)) k E Q := w_plain (by kernel_rfl) (L43_13).2
noncomputable def L43_14 : {l : List Oper // (opsOf r43_14).map strip = l} := by refine ⟨?l, ?h⟩; case h => simp only [r43_14, c43, bodyOf, Tryd.f43, Code.sub, opsOf, List.map_cons, List.map_nil, strip]; rfl
theorem w43_14 : W Tryd.prog TT S 9 [14, 24, 38, 58, 65] r43_14 k E m Q ↔ Rg Tryd.prog TT S 9 [14, 24, 38, 58, 65] [2] [] (lgo E [] (lops Tryd.prog (callw Tryd.prog TT S) [(some 2)] (L43_14).1 E m)) k E Q := w_plain (by kernel_rfl) (L43_14).2
noncomputable def L43_15 : {l : List Oper // (opsOf r43_15).map strip = l} := by refine ⟨?l, ?h⟩; case h => simp only [r43_15, c43, bodyOf, Tryd.f43, Code.sub, opsOf, List.map_cons, List.map_nil, strip]; rfl
theorem w43_15 : W Tryd.prog TT S 9 [14, 24, 38, 58, 65] r43_15 k E m Q ↔ Rg Tryd.prog TT S 9 [14, 24, 38, 58, 65] [4] [] (lgo E [4, 7] (lops Tryd.prog (callw Tryd.prog TT S) [(some 61), (some 62), (some 63), (some 64), (some 4)] (L43_15).1 E m)) k E Q := w_plain (by kernel_rfl) (L43_15).2
noncomputable def L43_16 : {l : List Oper // (opsOf r43_16).map strip = l} := by refine ⟨?l, ?h⟩; case h => simp only [r43_16, c43, bodyOf, Tryd.f43, Code.sub, opsOf, List.map_cons, List.map_nil, strip]; rfl
theorem w43_16 : W Tryd.prog TT S 9 [14, 24, 38, 58, 65] r43_16 k E m Q ↔ Rg Tryd.prog TT S 9 [14, 24, 38, 58, 65] [] [65] (lgo E [6] (lops Tryd.prog (callw Tryd.prog TT S) [(some 66), (some 67), (some 68), (some 69), (some 70), (some 71), (some 72), (some 73), (some 74), (some 75), (some 76), (some 77), (some 78), (some 79), (some 65)] (L43_16).1 E m)) k E Q := w_plain (by kernel_rfl) (L43_16).2
noncomputable def L43_17 : {l : List Oper // (opsOf r43_17).map strip = l} := by refine ⟨?l, ?h⟩; case h => simp only [r43_17, c43, bodyOf, Tryd.f43, Code.sub, opsOf, List.map_cons, List.map_nil, strip]; rfl
theorem w43_17 : W Tryd.prog TT S 9 [14, 24, 38, 58, 65] r43_17 k E m Q ↔ Rg Tryd.prog TT S 9 [14, 24, 38, 58, 65] [] [] (lgo E [0] (lops Tryd.prog (callw Tryd.prog TT S) [(some 80), (some 81)] (L43_17).1 E m)) k E Q := w_plain (by kernel_rfl) (L43_17).2
noncomputable def L43_18 : {l : List Oper // (opsOf r43_18).map strip = l} := by refine ⟨?l, ?h⟩; case h => simp only [r43_18, c43, bodyOf, Tryd.f43, Code.sub, opsOf, List.map_cons, List.map_nil, strip]; rfl
theorem w43_18 : W Tryd.prog TT S 9 [14, 24, 38, 58, 65] r43_18 k E m Q ↔ Rg Tryd.prog TT S 9 [14, 24, 38, 58, 65] [2] [] (lgo E [] (lops Tryd.prog (callw Tryd.prog TT S) [(some 2)] (L43_18).1 E m)) k E Q := w_plain (by kernel_rfl) (L43_18).2
noncomputable def L43_19 : {l : List Oper // (opsOf r43_19).map strip = l} := by refine ⟨?l, ?h⟩; case h => simp only [r43_19, c43, bodyOf, Tryd.f43, Code.sub, opsOf, List.map_cons, List.map_nil, strip]; rfl
theorem w43_19 : W Tryd.prog TT S 9 [14, 24, 38, 58, 65] r43_19 k E m Q ↔ Rg Tryd.prog TT S 9 [14, 24, 38, 58, 65] [4] [] (lgo E [4, 6] (lops Tryd.prog (callw Tryd.prog TT S) [(some 20), (some 21), (some 22), (some 23), (some 4)] (L43_19).1 E m)) k E Q := w_plain (by kernel_rfl) (L43_19).2
noncomputable def L43_20 : {l : List Oper // (opsOf r43_20).map strip = l} := by refine ⟨?l, ?h⟩; case h => simp only [r43_20, c43, bodyOf, Tryd.f43, Code.sub, opsOf, List.map_cons, List.map_nil, strip]; rfl
theorem w43_20 : W Tryd.prog TT S 9 [14, 24, 38, 58, 65] r43_20 k E m Q ↔ Rg Tryd.prog TT S 9 [14, 24, 38, 58, 65] [5] [] (lgo E [5] (lops Tryd.prog (callw Tryd.prog TT S) [(some 15), (some 16), (some 5)] (L43_20).1 E m)) k E Q := w_plain (by kernel_rfl) (L43_20).2
noncomputable def L43_21 : {l : List Oper // (opsOf r43_21).map strip = l} := by refine ⟨?l, ?h⟩; case h => simp only [r43_21, c43, bodyOf, Tryd.f43, Code.sub, opsOf, List.map_cons, List.map_nil, strip]; rfl
theorem w43_21 : W Tryd.prog TT S 9 [14, 24, 38, 58, 65] r43_21 k E m Q ↔ Rg Tryd.prog TT S 9 [14, 24, 38, 58, 65] [] [] (lgo E [0] (lops Tryd.prog (callw Tryd.prog TT S) [(some 82), (some 83)] (L43_21).1 E m)) k E Q := w_plain (by kernel_rfl) (L43_21).2
noncomputable def L43_22 : {l : List Oper // (opsOf r43_22).map strip = l} := by refine ⟨?l, ?h⟩; case h => simp only [r43_22, c43, bodyOf, Tryd.f43, Code.sub, opsOf, List.map_cons, List.map_nil, strip]; rfl
theorem w43_22 : W Tryd.prog TT S 9 [14, 24, 38, 58, 65] r43_22 k E m Q ↔ Rg Tryd.prog TT S 9 [14, 24, 38, 58, 65] [2] [] (lgo E [] (lops Tryd.prog (callw Tryd.prog TT S) [(some 2)] (L43_22).1 E m)) k E Q := w_plain (by kernel_rfl) (L43_22).2
theorem k43 : FnIs TT 43 c43 [.tmp 2] 1 := ⟨Tryd.f43, by kernel_rfl, by simp only [Tryd.f43, c43, bodyOf], by kernel_rfl, of_decide_eq_true (by kernel_rfl)⟩

/- (*token.scanner).fault -/
noncomputable def c48 : Code := bodyOf Tryd.f48
noncomputable def r48_0 : Code := Code.sub [0] c48
noncomputable def r48_1 : Code := Code.sub [1, 0] c48
theorem body48 : c48 = (.seq r48_0 (.cond (.tmp 8) r48_1 .skip)) := by kernel_rfl
noncomputable def L48_0 : {l : List Oper // (opsOf r48_0).map strip = l} := by refine ⟨?l, ?h⟩; case h => simp only [r48_0, c48, bodyOf, Tryd.f48, Code.sub, opsOf, List.map_cons, List.map_nil, strip]; rfl
theorem w48_0 : W Tryd.prog TT S 2 [8] r48_0 k E m Q ↔ Rg Tryd.prog TT S 2 [8] [] [8] (lgo E [0] (lops Tryd.prog (callw Tryd.prog TT S) [(some 4), (some 5), (some 6), (some 7), (some 8)] (L48_0).1 E m)) k E Q := w_plain (by kernel_rfl) (L48_0).2
theorem can48_1 : canonOps (opsOf r48_1) = opsOf r48_1 := by kernel_rfl
noncomputable def L48_1 : {l : List Oper // (canonOps (opsOf r48_1)).map strip = l} := by refine ⟨?l, (congrArg (List.map strip) can48_1).trans ?h⟩; case h => simp only [r48_1, c48, bodyOf, Tryd.f48, Code.sub, opsOf, List.map_cons, List.map_nil, strip]; rfl
theorem w48_1 : W Tryd.prog TT S 2 [8] r48_1 k E m Q ↔ Rg Tryd.prog TT S 2 [8] [] [] (lgo E [1, 0] (lloud Tryd.prog (callw Tryd.prog TT S) [(some 9), (some 10), (some 11), (some 12), (some 13), (some 14), (some 15), (some 16), (some 17), (some 18), (some 19), (some 20), (some 21), (some 22), none, (some 23), (some 24), none] (L48_1).1 [(6, [14]), (10, [14])] (lstates Tryd.prog (callw Tryd.prog TT S) [(some 9), (some 10), (some 11), (some 12), (some 13), (some 14), (some 15), (some 16), (some 17), (some 18), (some 19), (some 20), (some 21), (some 22), none, (some 23), (some 24), none] (L48_1).1 E m))) k E Q := w_loud (by kernel_rfl) (L48_1).2
theorem k48 : FnIs TT 48 c48 [] 2 := ⟨Tryd.f48, by kernel_rfl, by simp only [Tryd.f48, c48, bodyOf], by kernel_rfl, of_decide_eq_true (by kernel_rfl)⟩

/- token.escape -/
noncomputable def c49 : Code := bodyOf Tryd.f49
noncomputable def r49_0 : Code := Code.sub [0] c49
noncomputable def r49_1 : Code := Code.sub [1, 0, 0] c49
noncomputable def r49_2 : Code := Code.sub [1, 0, 1, 0, 0] c49
noncomputable def r49_3 : Code := Code.sub [1, 0, 1, 0, 1, 0, 0] c49
noncomputable def r49_4 : Code := Code.sub [1, 0, 1, 0, 1, 1, 0] c49
noncomputable def r49_5 : Code := Code.sub [1, 0, 1, 0, 1, 1, 1, 0, 0] c49
noncomputable def r49_6 : Code := Code.sub [1, 0, 1, 0, 1, 1, 1, 1, 0, 0] c49
noncomputable def r49_7 : Code := Code.sub [1, 0, 1, 0, 1, 1, 1, 1, 0, 1, 1] c49
noncomputable def r49_8 : Code := Code.sub [1, 0, 1, 0, 1, 1, 1, 1, 1, 0, 0] c49
noncomputable def r49_9 : Code := Code.sub [1, 1, 0] c49
theorem body49 : c49 = (.seq r49_0 (.seq (.seq r49_1 (.block 0 (.seq r49_2 (.cond (.tmp 5) (.seq r49_3 .ret) (.seq r49_4 (.cond (.tmp 7) (.seq r49_5 .ret) (.seq (.seq r49_6 (.cond (.tmp 9) .skip r49_7)) (.cond (.tmp 9) (.seq r49_8 .ret) .skip)))))))) (.seq r49_9 .ret))) := by kernel_rfl
noncomputable def L49_0 : {l : List Oper // (opsOf r49_0).map strip = l} := by refine ⟨?l, ?h⟩; case h => simp only [r49_0, c49, bodyOf, Tryd.f49, Code.sub, opsOf, List.map_cons, List.map_nil, strip]; rfl
theorem w49_0 : W Tryd.prog TT S 5 [5, 7, 9, 9] r49_0 k E m Q ↔ Rg Tryd.prog TT S 5 [5, 7, 9, 9] [2, 3] [] (lgo E [] (lops Tryd.prog (callw Tryd.prog TT S) [(some 2), (some 3)] (L49_0).1 E m)) k E Q := w_plain (by kernel_rfl) (L49_0).2
noncomputable def L49_1 : {l : List Oper // (opsOf r49_1).map strip = l} := by refine ⟨?l, ?h⟩; case h => simp only [r49_1, c49, bodyOf, Tryd.f49, Code.sub, opsOf, List.map_cons, List.map_nil, strip]; rfl
theorem w49_1 : W Tryd.prog TT S 5 [5, 7, 9, 9] r49_1 k E m Q ↔ Rg Tryd.prog TT S 5 [5, 7, 9, 9] [4] [] (lgo E [0] (lops Tryd.prog (callw Tryd.prog TT S) [(some 4)] (L49_1).1 E m)) k E Q := w_plain (by kernel_rfl) (L49_1).2
noncomputable def L49_2 : {l : List Oper // (opsOf r49_2).map strip = l} := by refine ⟨?l, ?h⟩; case h => simp only [r49_2, c49, bodyOf, Tryd.f49, Code.sub, opsOf, List.map_cons, List.map_nil, strip]; rfl
theorem w49_2 : W Tryd.prog TT S 5 [5, 7, 9, 9] r49_2 k E m Q ↔ Rg Tryd.prog TT S 5 [5, 7, 9, 9] [] [5] (lgo E [4] (lops Tryd.prog (callw Tryd.prog TT S) [(some 6), (some 5)] (L49_2).1 E m)) k E Q := w_plain (by kernel_rfl) (L49_2).2
noncomputable def L49_3 : {l : List Oper // (opsOf r49_3).map strip = l} := by refine ⟨?l, ?h⟩; case h => simp only [r49_3, c49, bodyOf, Tryd.f49, Code.sub, opsOf, List.map_cons, List.map_nil, strip]; rfl
theorem w49_3 : W Tryd.prog TT S 5 [5, 7, 9, 9] r49_3 k E m Q ↔ Rg Tryd.prog TT S 5 [5, 7, 9, 9] [2, 3] [] (lgo E [] (lops Tryd.prog (callw Tryd.prog TT S) [(some 2), (some 3)] (L49_3).1 E m)) k E Q := w_plain (by kernel_rfl) (L49_3).2
noncomputable def L49_4 : {l : List Oper // (opsOf r49_4).map strip = l} := by refine ⟨?l, ?h⟩; case h => simp only [r49_4, c49, bodyOf, Tryd.f49, Code.sub, opsOf, List.map_cons, List.map_nil, strip]; rfl
theorem w49_4 : W Tryd.prog TT S 5 [5, 7, 9, 9] r49_4 k E m Q ↔ Rg Tryd.prog TT S 5 [5, 7, 9, 9] [] [7] (lgo E [4] (lops Tryd.prog (callw Tryd.prog TT S) [(some 8), (some 7)] (L49_4).1 E m)) k E Q := w_plain (by kernel_rfl) (L49_4).2
noncomputable def L49_5 : {l : List Oper // (opsOf r49_5).map strip = l} := by refine ⟨?l, ?h⟩; case h => simp only [r49_5, c49, bodyOf, Tryd.f49, Code.sub, opsOf, List.map_cons, List.map_nil, strip]; rfl
theorem w49_5 : W Tryd.prog TT S 5 [5, 7, 9, 9] r49_5 k E m Q ↔ Rg Tryd.prog TT S 5 [5, 7, 9, 9] [2, 3] [] (lgo E [] (lops Tryd.prog (callw Tryd.prog TT S) [(some 2), (some 3)] (L49_5).1 E m)) k E Q := w_plain (by kernel_rfl) (L49_5).2
noncomputable def L49_6 : {l : List Oper // (opsOf r49_6).map strip = l} := by refine ⟨?l, ?h⟩; case h => simp only [r49_6, c49, bodyOf, Tryd.f49, Code.sub, opsOf, List.map_cons, List.map_nil, strip]; rfl
theorem w49_6 : W Tryd.prog TT S 5 [5, 7, 9, 9] r49_6 k E m Q ↔ Rg Tryd.prog TT S 5 [5, 7, 9, 9] [] [9] (lgo E [4] (lops Tryd.prog (callw Tryd.prog TT S) [(some 10), (some 9)] (L49_6).1 E m)) k E Q := w_plain (by kernel_rfl) (L49_6).2
noncomputable def L49_7 : {l : List Oper // (opsOf r49_7).map strip = l} := by refine ⟨?l, ?h⟩; case h => simp only [r49_7, c49, bodyOf, Tryd.f49, Code.sub, opsOf, List.map_cons, List.map_nil, strip]; rfl
theorem w49_7 : W Tryd.prog TT S 5 [5, 7, 9, 9] r49_7 k E m Q ↔ Rg Tryd.prog TT S 5 [5, 7, 9, 9] [] [9] (lgo E [4] (lops Tryd.prog (callw Tryd.prog TT S) [(some 11), (some 9)] (L49_7).1 E m)) k E Q := w_plain (by kernel_rfl) (L49_7).2
noncomputable def L49_8 : {l : List Oper // (opsOf r49_8).map strip = l} := by refine ⟨?l, ?h⟩; case h => simp only [r49_8, c49, bodyOf, Tryd.f49, Code.sub, opsOf, List.map_cons, List.map_nil, strip]; rfl
theorem w49_8 : W Tryd.prog TT S 5 [5, 7, 9, 9] r49_8 k E m Q ↔ Rg Tryd.prog TT S 5 [5, 7, 9, 9] [2, 3] [] (lgo E [0] (lops Tryd.prog (callw Tryd.prog TT S) [(some 12), (some 2), (some 3)] (L49_8).1 E m)) k E Q := w_plain (by kernel_rfl) (L49_8).2
noncomputable def L49_9 : {l : List Oper // (opsOf r49_9).map strip = l} := by refine ⟨?l, ?h⟩; case h => simp only [r49_9, c49, bodyOf, Tryd.f49, Code.sub, opsOf, List.map_cons, List.map_nil, strip]; rfl
theorem w49_9 : W Tryd.prog TT S 5 [5, 7, 9, 9] r49_9 k E m Q ↔ Rg Tryd.prog TT S 5 [5, 7, 9, 9] [2, 3] [] (lgo E [] (lops Tryd.prog (callw Tryd.prog TT S) [(some 2), (some 3)] (L49_9).1 E m)) k E Q := w_plain (by kernel_rfl) (L49_9).2
theorem k49 : FnIs TT 49 c49 [.tmp 2, .tmp 3] 1 := ⟨Tryd.f49, by kernel_rfl, by simp only [Tryd.f49, c49, bodyOf], by kernel_rfl, of_decide_eq_true (by kernel_rfl)⟩

/- what rewriting uses in the walks -/
attribute [simp] w_seq w_cond_tmp w_ret w_skip w_exit w_block w_loop r_nil r_seq r_seq_ret r_seq_exit r_block
attribute [simp] r_block_ret r_block_exit r_loop r_loop_ret r_loop_exit cnd_t cnd_f rg_some lgo_n lgo_c lops_nil lops_cons
attribute [simp] lk_some lop1_plain lop1_guard gdv_b gdv_u gd_tt gd_ff gd_tf gd_ft lput_s lput_n lev_t
attribute [simp] lev_c lev_g lev_f lget_n lget_c lset_n lset_c lkeep_n lkeep_c lsets_n lsets_c lconds_n
attribute [simp] lconds_c lfill qf_d okx lresults lresultsL lres_tmp o_move o_assign o_bin o_pick o_nilCheck
attribute [simp] o_fieldAddr o_load o_len o_store o_conv o_un o_extract o_append o_call2 o_callv o_buildSlice o_box
attribute [simp] o_alloc o_build o_indexAddr o_slice o_index o_field o_makeFunc o_makeSlice o_min o_max loOf_none loOf_some
attribute [simp] hiOf_none hiOf_some natOf_int sliceS_some sliceA_some strOp sz_str cat_str list_str s_binOp fastBin s_unOp
attribute [simp] fastUn boolEq int_beq int_bne txt_beq one_int one_slice one_ptr one_bool one_str cells_int cells_slice
attribute [simp] cells_ptr cells_bool cells_str cells_agg flatEq_n flatEq_c ba_beq closedA_l closedL_n closedL_c closedV_int closedV_str
attribute [simp] closedV_bool loadRow_new window over Instr.fill repl lst_nil lst_cons lks_some lkc_some lloud_some lreads_n
attribute [simp] lreads_c lsame_d eqV_int eqV_slice eqV_ptr eqV_agg eqL_n eqL_c eqV_str eqV_bool eqV_undef
attribute [simp] body7 w7_0 L7_0 w7_1 L7_1 w7_2 L7_2 w7_3 L7_3 w7_4 L7_4
attribute [simp] body8 w8_0 L8_0 w8_1 L8_1 w8_2 L8_2 w8_3 L8_3 w8_4 L8_4 w8_5 L8_5 w8_6 L8_6
attribute [simp] body13 w13_0 L13_0 w13_1 L13_1 w13_2 L13_2 w13_3 L13_3 w13_4 L13_4 w13_5 L13_5 w13_6 L13_6 w13_7 L13_7 w13_8 L13_8 w13_9 L13_9 w13_10 L13_10 w13_11 L13_11 w13_12 L13_12
attribute [simp] body14 w14_0 L14_0 w14_1 L14_1 w14_2 L14_2 w14_3 L14_3 w14_4 L14_4 w14_5 L14_5 w14_6 L14_6 w14_7 L14_7 w14_8 L14_8 w14_9 L14_9 w14_10 L14_10 w14_11 L14_11 w14_12 L14_12 w14_13 L14_13 w14_14 L14_14 w14_15 L14_15 w14_16 L14_16 w14_17 L14_17 w14_18 L14_18 w14_19 L14_19 w14_20 L14_20 w14_21 L14_21 w14_22 L14_22 w14_23 L14_23 w14_24 L14_24 w14_25 L14_25
attribute [simp] body23 w23_0 L23_0 w23_1 L23_1 w23_2 L23_2 w23_3 L23_3 w23_4 L23_4 w23_5 L23_5 w23_6 L23_6 w23_7 L23_7 w23_8 L23_8 w23_9 L23_9 w23_10 L23_10 w23_11 L23_11 w23_12 L23_12 w23_13 L23_13 w23_14 L23_14 w23_15 L23_15 w23_16 L23_16 w23_17 L23_17
attribute [simp] body24 w24_0 L24_0 w24_1 L24_1 w24_2 L24_2 w24_3 L24_3 w24_4 L24_4 w24_5 L24_5 w24_6 L24_6 w24_7 L24_7 w24_8 L24_8 w24_9 L24_9 w24_10 L24_10 w24_11 L24_11 w24_12 L24_12 w24_13 L24_13 w24_14 L24_14 w24_15 L24_15 w24_16 L24_16 w24_17 L24_17 w24_18 L24_18 w24_19 L24_19 w24_20 L24_20 w24_21 L24_21 w24_22 L24_22 w24_23 L24_23
attribute [simp] body25 w25_0 L25_0 w25_1 L25_1 w25_2 L25_2
attribute [simp] body26 w26_0 L26_0 w26_1 L26_1
attribute [simp] body27 w27_0 L27_0 w27_1 L27_1
attribute [simp] body36 w36_0 L36_0 w36_1 L36_1 w36_2 L36_2 w36_3 L36_3 w36_4 L36_4 w36_5 L36_5 w36_6 L36_6 w36_7 L36_7 w36_8 L36_8 w36_9 L36_9 w36_10 L36_10 w36_11 L36_11 w36_12 L36_12 w36_13 L36_13 w36_14 L36_14 w36_15 L36_15 w36_16 L36_16 w36_17 L36_17 w36_18 L36_18 w36_19 L36_19 w36_20 L36_20 w36_21 L36_21 w36_22 L36_22 w36_23 L36_23 w36_24 L36_24 w36_25 L36_25 w36_26 L36_26 w36_27 L36_27 w36_28 L36_28 w36_29 L36_29 w36_30 L36_30 w36_31 L36_31 w36_32 L36_32 w36_33 L36_33 w36_34 L36_34 w36_35 L36_35 w36_36 L36_36 w36_37 L36_37
attribute [simp] body37 w37_0 L37_0 w37_1 L37_1 w37_2 L37_2 w37_3 L37_3
attribute [simp] body38 w38_0 L38_0 w38_1 L38_1
attribute [simp] body39 w39_0 L39_0 w39_1 L39_1
attribute [simp] body40 w40_0 L40_0 w40_1 L40_1 w40_2 L40_2 w40_3 L40_3 w40_4 L40_4 w40_5 L40_5
attribute [simp] body41 w41_0 L41_0 w41_1 L41_1 w41_2 L41_2 w41_3 L41_3 w41_4 L41_4 w41_5 L41_5 w41_6 L41_6 w41_7 L41_7 w41_8 L41_8 w41_9 L41_9
attribute [simp] body42 w42_0 L42_0 w42_1 L42_1 w42_2 L42_2 w42_3 L42_3 w42_4 L42_4 w42_5 L42_5 w42_6 L42_6 w42_7 L42_7 w42_8 L42_8 w42_9 L42_9 w42_10 L42_10 w42_11 L42_11 w42_12 L42_12
attribute [simp] body43 w43_0 L43_0 w43_1 L43_1 w43_2 L43_2 w43_3 L43_3 w43_4 L43_4 w43_5 L43_5 w43_6 L43_6 w43_7 L43_7 w43_8 L43_8 w43_9 L43_9 w43_10 L43_10 w43_11 L43_11 w43_12 L43_12 w43_13 L43_13 w43_14 L43_14 w43_15 L43_15 w43_16 L43_16 w43_17 L43_17 w43_18 L43_18 w43_19 L43_19 w43_20 L43_20 w43_21 L43_21 w43_22 L43_22
attribute [simp] body48 w48_0 L48_0 w48_1 L48_1
attribute [simp] body49 w49_0 L49_0 w49_1 L49_1 w49_2 L49_2 w49_3 L49_3 w49_4 L49_4 w49_5 L49_5 w49_6 L49_6 w49_7 L49_7 w49_8 L49_8 w49_9 L49_9
end Go.Proofs.YtgomgdbapgibjaaDoor.gen

