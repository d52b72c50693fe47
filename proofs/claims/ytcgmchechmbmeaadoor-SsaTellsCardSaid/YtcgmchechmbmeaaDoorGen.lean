/-
  This text names the regions of the functions that are walked, with the slots that they read and set, and the facts of the types.
  No condition.
-/
import Derived.Test.YtcgmchechmbmeaaDoorProg
import Derived.Test.YtcgmchechmbmeaaDoorShD
set_option maxRecDepth 100000
set_option linter.unusedSimpArgs false
set_option linter.unusedVariables false
namespace Go.Proofs.YtcgmchechmbmeaaDoor.gen
open Go.Sh
def fns : List FuncId := [6, 9, 11, 12, 13, 14, 15, 16, 17, 18, 24, 25, 33, 34, 35, 36, 37, 38, 39, 40, 41, 42, 43, 44, 45, 46, 47, 48, 49, 53, 54, 55, 56, 58, 59, 60, 62, 63, 64, 65, 66, 67, 68, 69, 70, 72, 73, 76, 77, 79, 83]
noncomputable def TT : FuncId → Option Func := Sh.tabOf Tryd.prog fns
variable {S : Sums} {m : Mem} {k : List Fr} {E : LEnv} {Q : Post}
theorem ap3 : apOk Tryd.prog 3 1 8 = true := by kernel_rfl
theorem b43 : (Tryd.prog.info? 43).isSome = true := by kernel_rfl
theorem bs3 : bsOk Tryd.prog 3 [.int .i64 0] = true := by kernel_rfl
theorem fa43_0 : faOk Tryd.prog 43 0 0 = true := by kernel_rfl
theorem fa43_1 : faOk Tryd.prog 43 1 1 = true := by kernel_rfl
theorem fa43_2 : faOk Tryd.prog 43 2 2 = true := by kernel_rfl
theorem fa43_4 : faOk Tryd.prog 43 4 4 = true := by kernel_rfl
theorem ld22 : ldOk Tryd.prog 22 = true := by kernel_rfl
theorem ld3 : ldOk Tryd.prog 3 = true := by kernel_rfl
theorem ld43 : agOk Tryd.prog 43 6 = true := by kernel_rfl
theorem ld9 : ldOk Tryd.prog 9 = true := by kernel_rfl
theorem sz10 : sizeOfT Tryd.prog 10 = some 1 := by kernel_rfl
theorem sz103 : sizeOfT Tryd.prog 103 = some 1 := by kernel_rfl
theorem sz108 : sizeOfT Tryd.prog 108 = some 1 := by kernel_rfl
theorem sz11 : sizeOfT Tryd.prog 11 = some 1 := by kernel_rfl
theorem sz117 : sizeOfT Tryd.prog 117 = some 1 := by kernel_rfl
theorem sz118 : sizeOfT Tryd.prog 118 = some 1 := by kernel_rfl
theorem sz12 : sizeOfT Tryd.prog 12 = some 1 := by kernel_rfl
theorem sz121 : sizeOfT Tryd.prog 121 = some 1 := by kernel_rfl
theorem sz122 : sizeOfT Tryd.prog 122 = some 1 := by kernel_rfl
theorem sz2 : sizeOfT Tryd.prog 2 = some 1 := by kernel_rfl
theorem sz21 : sizeOfT Tryd.prog 21 = some 1 := by kernel_rfl
theorem sz22 : sizeOfT Tryd.prog 22 = some 1 := by kernel_rfl
theorem sz25 : sizeOfT Tryd.prog 25 = some 1 := by kernel_rfl
theorem sz26 : sizeOfT Tryd.prog 26 = some 1 := by kernel_rfl
theorem sz27 : sizeOfT Tryd.prog 27 = some 1 := by kernel_rfl
theorem sz3 : sizeOfT Tryd.prog 3 = some 1 := by kernel_rfl
theorem sz39 : sizeOfT Tryd.prog 39 = some 1 := by kernel_rfl
theorem sz4 : sizeOfT Tryd.prog 4 = some 1 := by kernel_rfl
theorem sz5 : sizeOfT Tryd.prog 5 = some 1 := by kernel_rfl
theorem sz57 : sizeOfT Tryd.prog 57 = some 1 := by kernel_rfl
theorem sz6 : sizeOfT Tryd.prog 6 = some 1 := by kernel_rfl
theorem sz60 : sizeOfT Tryd.prog 60 = some 1 := by kernel_rfl
theorem sz63 : sizeOfT Tryd.prog 63 = some 1 := by kernel_rfl
theorem sz74 : sizeOfT Tryd.prog 74 = some 1 := by kernel_rfl
theorem sz9 : sizeOfT Tryd.prog 9 = some 1 := by kernel_rfl
theorem sz92 : sizeOfT Tryd.prog 92 = some 1 := by kernel_rfl
theorem u10 : Tryd.prog.underlying 10 = some .string := by kernel_rfl
theorem u103 : Tryd.prog.underlying 103 = some (.int .u64) := by kernel_rfl
theorem u108 : Tryd.prog.underlying 108 = some (.int .u32) := by kernel_rfl
theorem u11 : Tryd.prog.underlying 11 = some .string := by kernel_rfl
theorem u117 : Tryd.prog.underlying 117 = some (.int .u8) := by kernel_rfl
theorem u118 : Tryd.prog.underlying 118 = some (.int .u8) := by kernel_rfl
theorem u12 : Tryd.prog.underlying 12 = some (.int .u64) := by kernel_rfl
theorem u121 : Tryd.prog.underlying 121 = some (.int .i32) := by kernel_rfl
theorem u122 : Tryd.prog.underlying 122 = some (.int .i32) := by kernel_rfl
theorem u2 : Tryd.prog.underlying 2 = some (.int .i64) := by kernel_rfl
theorem u21 : Tryd.prog.underlying 21 = some (.int .i32) := by kernel_rfl
theorem u22 : Tryd.prog.underlying 22 = some (.slice 3) := by kernel_rfl
theorem u25 : Tryd.prog.underlying 25 = some (.slice 43) := by kernel_rfl
theorem u26 : Tryd.prog.underlying 26 = some (.slice 36) := by kernel_rfl
theorem u27 : Tryd.prog.underlying 27 = some (.slice 41) := by kernel_rfl
theorem u3 : Tryd.prog.underlying 3 = some (.int .i64) := by kernel_rfl
theorem u39 : Tryd.prog.underlying 39 = some (.slice 52) := by kernel_rfl
theorem u4 : Tryd.prog.underlying 4 = some .bool := by kernel_rfl
theorem u5 : Tryd.prog.underlying 5 = some (.int .u8) := by kernel_rfl
theorem u57 : Tryd.prog.underlying 57 = some (.slice 22) := by kernel_rfl
theorem u6 : Tryd.prog.underlying 6 = some (.int .u8) := by kernel_rfl
theorem u60 : Tryd.prog.underlying 60 = some (.slice 4) := by kernel_rfl
theorem u63 : Tryd.prog.underlying 63 = some (.slice 60) := by kernel_rfl
theorem u74 : Tryd.prog.underlying 74 = some (.slice 9) := by kernel_rfl
theorem u9 : Tryd.prog.underlying 9 = some .string := by kernel_rfl
theorem u92 : Tryd.prog.underlying 92 = some (.slice 94) := by kernel_rfl

/- turnstonelaw15.SsaTells -/
noncomputable def c6 : Code := bodyOf Tryd.f6
noncomputable def r6_0 : Code := Code.sub [0] c6
noncomputable def r6_1 : Code := Code.sub [1, 0, 0] c6
noncomputable def r6_2 : Code := Code.sub [1, 0, 1, 0] c6
noncomputable def r6_3 : Code := Code.sub [1, 1, 0, 0] c6
noncomputable def r6_4 : Code := Code.sub [1, 1, 0, 1, 0, 0] c6
noncomputable def r6_5 : Code := Code.sub [1, 1, 1, 0] c6
noncomputable def r6_6 : Code := Code.sub [1, 1, 1, 1, 0] c6
noncomputable def r6_7 : Code := Code.sub [1, 1, 1, 1, 1, 0, 0] c6
noncomputable def r6_8 : Code := Code.sub [1, 1, 1, 1, 1, 0, 1, 0, 0] c6
noncomputable def r6_9 : Code := Code.sub [1, 1, 1, 1, 1, 1, 0, 0] c6
noncomputable def r6_10 : Code := Code.sub [1, 1, 1, 1, 1, 1, 0, 1, 0, 0, 0, 0] c6
noncomputable def r6_11 : Code := Code.sub [1, 1, 1, 1, 1, 1, 0, 1, 0, 0, 1, 0, 0, 0] c6
noncomputable def r6_12 : Code := Code.sub [1, 1, 1, 1, 1, 1, 0, 1, 0, 0, 1, 0, 0, 1, 0, 0] c6
noncomputable def r6_13 : Code := Code.sub [1, 1, 1, 1, 1, 1, 0, 1, 0, 0, 1, 1] c6
noncomputable def r6_14 : Code := Code.sub [1, 1, 1, 1, 1, 1, 1, 0] c6
theorem body6 : c6 = (.seq r6_0 (.seq (.seq r6_1 (.cond (.tmp 8) r6_2 .skip)) (.seq (.seq r6_3 (.cond (.tmp 21) (.seq r6_4 .ret) .skip)) (.seq r6_5 (.seq r6_6 (.seq (.seq r6_7 (.cond (.tmp 31) (.seq r6_8 .ret) .skip)) (.seq (.seq r6_9 (.block 0 (.loop (.seq (.seq r6_10 (.cond (.tmp 35) .skip (.exit 0))) (.seq (.block 1 (.seq r6_11 (.cond (.tmp 46) (.seq r6_12 .ret) .skip))) r6_13))))) (.seq r6_14 .ret)))))))) := by kernel_rfl
noncomputable def L6_0 : {l : List Oper // (opsOf r6_0).map strip = l} := by refine ⟨?l, ?h⟩; case h => simp only [r6_0, c6, bodyOf, Tryd.f6, Code.sub, opsOf, List.map_cons, List.map_nil, strip]; rfl
theorem w6_0 : W Tryd.prog TT S 8 [8, 21, 31, 35, 46] r6_0 k E m Q ↔ Rg Tryd.prog TT S 8 [8, 21, 31, 35, 46] [2, 4] [] (lgo E [0] (lops Tryd.prog (callw Tryd.prog TT S) [(some 2), (some 4)] (L6_0).1 E m)) k E Q := w_plain (by kernel_rfl) (L6_0).2
noncomputable def L6_1 : {l : List Oper // (opsOf r6_1).map strip = l} := by refine ⟨?l, ?h⟩; case h => simp only [r6_1, c6, bodyOf, Tryd.f6, Code.sub, opsOf, List.map_cons, List.map_nil, strip]; rfl
theorem w6_1 : W Tryd.prog TT S 8 [8, 21, 31, 35, 46] r6_1 k E m Q ↔ Rg Tryd.prog TT S 8 [8, 21, 31, 35, 46] [] [8] (lgo E [1] (lops Tryd.prog (callw Tryd.prog TT S) [(some 8)] (L6_1).1 E m)) k E Q := w_plain (by kernel_rfl) (L6_1).2
noncomputable def L6_2 : {l : List Oper // (opsOf r6_2).map strip = l} := by refine ⟨?l, ?h⟩; case h => simp only [r6_2, c6, bodyOf, Tryd.f6, Code.sub, opsOf, List.map_cons, List.map_nil, strip]; rfl
theorem w6_2 : W Tryd.prog TT S 8 [8, 21, 31, 35, 46] r6_2 k E m Q ↔ Rg Tryd.prog TT S 8 [8, 21, 31, 35, 46] [] [] (lgo E [2] (lops Tryd.prog (callw Tryd.prog TT S) [(some 9), (some 10), (some 11), (some 12), none] (L6_2).1 E m)) k E Q := w_plain (by kernel_rfl) (L6_2).2
noncomputable def L6_3 : {l : List Oper // (opsOf r6_3).map strip = l} := by refine ⟨?l, ?h⟩; case h => simp only [r6_3, c6, bodyOf, Tryd.f6, Code.sub, opsOf, List.map_cons, List.map_nil, strip]; rfl
theorem w6_3 : W Tryd.prog TT S 8 [8, 21, 31, 35, 46] r6_3 k E m Q ↔ Rg Tryd.prog TT S 8 [8, 21, 31, 35, 46] [] [21] (lgo E [2] (lops Tryd.prog (callw Tryd.prog TT S) [(some 13), (some 14), (some 15), (some 16), (some 17), (some 18), (some 19), (some 20), (some 21)] (L6_3).1 E m)) k E Q := w_plain (by kernel_rfl) (L6_3).2
noncomputable def L6_4 : {l : List Oper // (opsOf r6_4).map strip = l} := by refine ⟨?l, ?h⟩; case h => simp only [r6_4, c6, bodyOf, Tryd.f6, Code.sub, opsOf, List.map_cons, List.map_nil, strip]; rfl
theorem w6_4 : W Tryd.prog TT S 8 [8, 21, 31, 35, 46] r6_4 k E m Q ↔ Rg Tryd.prog TT S 8 [8, 21, 31, 35, 46] [4] [] (lgo E [] (lops Tryd.prog (callw Tryd.prog TT S) [(some 22), (some 4)] (L6_4).1 E m)) k E Q := w_plain (by kernel_rfl) (L6_4).2
noncomputable def L6_5 : {l : List Oper // (opsOf r6_5).map strip = l} := by refine ⟨?l, ?h⟩; case h => simp only [r6_5, c6, bodyOf, Tryd.f6, Code.sub, opsOf, List.map_cons, List.map_nil, strip]; rfl
theorem w6_5 : W Tryd.prog TT S 8 [8, 21, 31, 35, 46] r6_5 k E m Q ↔ Rg Tryd.prog TT S 8 [8, 21, 31, 35, 46] [5] [] (lgo E [2] (lops Tryd.prog (callw Tryd.prog TT S) [(some 23), (some 24), (some 5)] (L6_5).1 E m)) k E Q := w_plain (by kernel_rfl) (L6_5).2
noncomputable def L6_6 : {l : List Oper // (opsOf r6_6).map strip = l} := by refine ⟨?l, ?h⟩; case h => simp only [r6_6, c6, bodyOf, Tryd.f6, Code.sub, opsOf, List.map_cons, List.map_nil, strip]; rfl
theorem w6_6 : W Tryd.prog TT S 8 [8, 21, 31, 35, 46] r6_6 k E m Q ↔ Rg Tryd.prog TT S 8 [8, 21, 31, 35, 46] [6] [] (lgo E [2] (lops Tryd.prog (callw Tryd.prog TT S) [(some 25), (some 26), (some 6)] (L6_6).1 E m)) k E Q := w_plain (by kernel_rfl) (L6_6).2
noncomputable def L6_7 : {l : List Oper // (opsOf r6_7).map strip = l} := by refine ⟨?l, ?h⟩; case h => simp only [r6_7, c6, bodyOf, Tryd.f6, Code.sub, opsOf, List.map_cons, List.map_nil, strip]; rfl
theorem w6_7 : W Tryd.prog TT S 8 [8, 21, 31, 35, 46] r6_7 k E m Q ↔ Rg Tryd.prog TT S 8 [8, 21, 31, 35, 46] [] [31] (lgo E [5, 6] (lops Tryd.prog (callw Tryd.prog TT S) [(some 27), (some 28), (some 29), (some 30), (some 31)] (L6_7).1 E m)) k E Q := w_plain (by kernel_rfl) (L6_7).2
noncomputable def L6_8 : {l : List Oper // (opsOf r6_8).map strip = l} := by refine ⟨?l, ?h⟩; case h => simp only [r6_8, c6, bodyOf, Tryd.f6, Code.sub, opsOf, List.map_cons, List.map_nil, strip]; rfl
theorem w6_8 : W Tryd.prog TT S 8 [8, 21, 31, 35, 46] r6_8 k E m Q ↔ Rg Tryd.prog TT S 8 [8, 21, 31, 35, 46] [4] [] (lgo E [] (lops Tryd.prog (callw Tryd.prog TT S) [(some 4)] (L6_8).1 E m)) k E Q := w_plain (by kernel_rfl) (L6_8).2
noncomputable def L6_9 : {l : List Oper // (opsOf r6_9).map strip = l} := by refine ⟨?l, ?h⟩; case h => simp only [r6_9, c6, bodyOf, Tryd.f6, Code.sub, opsOf, List.map_cons, List.map_nil, strip]; rfl
theorem w6_9 : W Tryd.prog TT S 8 [8, 21, 31, 35, 46] r6_9 k E m Q ↔ Rg Tryd.prog TT S 8 [8, 21, 31, 35, 46] [7] [] (lgo E [] (lops Tryd.prog (callw Tryd.prog TT S) [(some 7)] (L6_9).1 E m)) k E Q := w_plain (by kernel_rfl) (L6_9).2
noncomputable def L6_10 : {l : List Oper // (opsOf r6_10).map strip = l} := by refine ⟨?l, ?h⟩; case h => simp only [r6_10, c6, bodyOf, Tryd.f6, Code.sub, opsOf, List.map_cons, List.map_nil, strip]; rfl
theorem w6_10 : W Tryd.prog TT S 8 [8, 21, 31, 35, 46] r6_10 k E m Q ↔ Rg Tryd.prog TT S 8 [8, 21, 31, 35, 46] [] [35] (lgo E [7, 5] (lops Tryd.prog (callw Tryd.prog TT S) [(some 32), (some 33), (some 34), (some 35)] (L6_10).1 E m)) k E Q := w_plain (by kernel_rfl) (L6_10).2
noncomputable def L6_11 : {l : List Oper // (opsOf r6_11).map strip = l} := by refine ⟨?l, ?h⟩; case h => simp only [r6_11, c6, bodyOf, Tryd.f6, Code.sub, opsOf, List.map_cons, List.map_nil, strip]; rfl
theorem w6_11 : W Tryd.prog TT S 8 [8, 21, 31, 35, 46] r6_11 k E m Q ↔ Rg Tryd.prog TT S 8 [8, 21, 31, 35, 46] [] [46] (lgo E [5, 6, 7] (lops Tryd.prog (callw Tryd.prog TT S) [(some 38), (some 39), (some 40), (some 41), (some 42), (some 43), (some 44), (some 45), (some 46)] (L6_11).1 E m)) k E Q := w_plain (by kernel_rfl) (L6_11).2
noncomputable def L6_12 : {l : List Oper // (opsOf r6_12).map strip = l} := by refine ⟨?l, ?h⟩; case h => simp only [r6_12, c6, bodyOf, Tryd.f6, Code.sub, opsOf, List.map_cons, List.map_nil, strip]; rfl
theorem w6_12 : W Tryd.prog TT S 8 [8, 21, 31, 35, 46] r6_12 k E m Q ↔ Rg Tryd.prog TT S 8 [8, 21, 31, 35, 46] [4] [] (lgo E [] (lops Tryd.prog (callw Tryd.prog TT S) [(some 4)] (L6_12).1 E m)) k E Q := w_plain (by kernel_rfl) (L6_12).2
noncomputable def L6_13 : {l : List Oper // (opsOf r6_13).map strip = l} := by refine ⟨?l, ?h⟩; case h => simp only [r6_13, c6, bodyOf, Tryd.f6, Code.sub, opsOf, List.map_cons, List.map_nil, strip]; rfl
theorem w6_13 : W Tryd.prog TT S 8 [8, 21, 31, 35, 46] r6_13 k E m Q ↔ Rg Tryd.prog TT S 8 [8, 21, 31, 35, 46] [7] [] (lgo E [7] (lops Tryd.prog (callw Tryd.prog TT S) [(some 36), (some 37), (some 7)] (L6_13).1 E m)) k E Q := w_plain (by kernel_rfl) (L6_13).2
theorem can6_14 : canonOps (opsOf r6_14) = opsOf r6_14 := by kernel_rfl
noncomputable def L6_14 : {l : List Oper // (canonOps (opsOf r6_14)).map strip = l} := by refine ⟨?l, (congrArg (List.map strip) can6_14).trans ?h⟩; case h => simp only [r6_14, c6, bodyOf, Tryd.f6, Code.sub, opsOf, List.map_cons, List.map_nil, strip]; rfl
theorem w6_14 : W Tryd.prog TT S 8 [8, 21, 31, 35, 46] r6_14 k E m Q ↔ Rg Tryd.prog TT S 8 [8, 21, 31, 35, 46] [4] [] (lgo E [2] (lloud Tryd.prog (callw Tryd.prog TT S) [(some 47), (some 48), (some 49), (some 50), (some 51), (some 52), (some 53), (some 54), (some 55), (some 56), (some 57), (some 58), (some 59), (some 60), (some 61), (some 62), (some 63), (some 64), (some 65), (some 66), (some 67), (some 68), (some 69), (some 70), (some 71), (some 4)] (L6_14).1 [(3, [4]), (6, [4, 7]), (12, [13]), (16, [13, 26]), (20, [26])] (lstates Tryd.prog (callw Tryd.prog TT S) [(some 47), (some 48), (some 49), (some 50), (some 51), (some 52), (some 53), (some 54), (some 55), (some 56), (some 57), (some 58), (some 59), (some 60), (some 61), (some 62), (some 63), (some 64), (some 65), (some 66), (some 67), (some 68), (some 69), (some 70), (some 71), (some 4)] (L6_14).1 E m))) k E Q := w_loud (by kernel_rfl) (L6_14).2
theorem k6 : FnIs TT 6 c6 [.tmp 4] 2 := ⟨Tryd.f6, by kernel_rfl, by simp only [Tryd.f6, c6, bodyOf], by kernel_rfl, of_decide_eq_true (by kernel_rfl)⟩

/- ssa.Uses -/
noncomputable def c13 : Code := bodyOf Tryd.f13
noncomputable def r13_0 : Code := Code.sub [0] c13
noncomputable def r13_1 : Code := Code.sub [1, 0] c13
noncomputable def r13_2 : Code := Code.sub [1, 1, 0, 0] c13
noncomputable def r13_3 : Code := Code.sub [1, 1, 0, 1, 0, 0] c13
noncomputable def r13_4 : Code := Code.sub [1, 1, 0, 1, 0, 1, 0] c13
noncomputable def r13_5 : Code := Code.sub [1, 1, 0, 1, 0, 1, 1, 0] c13
noncomputable def r13_6 : Code := Code.sub [1, 1, 0, 1, 0, 1, 1, 1, 0] c13
noncomputable def r13_7 : Code := Code.sub [1, 1, 1, 0] c13
theorem body13 : c13 = (.seq r13_0 (.seq r13_1 (.seq (.seq r13_2 (.block 0 (.seq r13_3 (.cond (.tmp 17) r13_4 (.seq r13_5 (.cond (.tmp 28) r13_6 .skip)))))) (.seq r13_7 .ret)))) := by kernel_rfl
noncomputable def L13_0 : {l : List Oper // (opsOf r13_0).map strip = l} := by refine ⟨?l, ?h⟩; case h => simp only [r13_0, c13, bodyOf, Tryd.f13, Code.sub, opsOf, List.map_cons, List.map_nil, strip]; rfl
theorem w13_0 : W Tryd.prog TT S 17 [17, 28] r13_0 k E m Q ↔ Rg Tryd.prog TT S 17 [17, 28] [1, 2] [] (lgo E [0] (lops Tryd.prog (callw Tryd.prog TT S) [(some 1), (some 2)] (L13_0).1 E m)) k E Q := w_plain (by kernel_rfl) (L13_0).2
theorem can13_1 : canonOps (opsOf r13_1) = List.filterMap (fun i => ((opsOf r13_1)[i]?).map (renum [1, 2, 3, 4, 6, 7, 8, 5, 9, 0, 10, 11])) [1, 2, 3, 4, 6, 7, 8, 5, 9, 0, 10, 11] := by kernel_rfl
noncomputable def L13_1 : {l : List Oper // (canonOps (opsOf r13_1)).map strip = l} := by refine ⟨?l, (congrArg (List.map strip) can13_1).trans ?h⟩; case h => simp only [r13_1, c13, bodyOf, Tryd.f13, Code.sub, opsOf, List.filterMap_cons, List.filterMap_nil, List.getElem?_cons_succ, List.getElem?_cons_zero, Option.map_some, renum, List.map_cons, List.map_nil, strip]; rfl
theorem w13_1 : W Tryd.prog TT S 17 [17, 28] r13_1 k E m Q ↔ Rg Tryd.prog TT S 17 [17, 28] [5, 6, 7, 8, 10, 11, 12, 9, 13, 4, 14, 3] [] (lgo E [1] (lloud Tryd.prog (callw Tryd.prog TT S) [(some 5), (some 6), (some 7), (some 8), (some 10), (some 11), (some 12), (some 9), (some 13), (some 4), (some 14), (some 3)] (L13_1).1 [(1, [6, 7]), (3, [6, 7]), (5, [6]), (8, [9, 10])] (lstates Tryd.prog (callw Tryd.prog TT S) [(some 5), (some 6), (some 7), (some 8), (some 10), (some 11), (some 12), (some 9), (some 13), (some 4), (some 14), (some 3)] (L13_1).1 E m))) k E Q := w_loud (by kernel_rfl) (L13_1).2
noncomputable def L13_2 : {l : List Oper // (opsOf r13_2).map strip = l} := by refine ⟨?l, ?h⟩; case h => simp only [r13_2, c13, bodyOf, Tryd.f13, Code.sub, opsOf, List.map_cons, List.map_nil, strip]; rfl
theorem w13_2 : W Tryd.prog TT S 17 [17, 28] r13_2 k E m Q ↔ Rg Tryd.prog TT S 17 [17, 28] [15, 16] [] (lgo E [1] (lops Tryd.prog (callw Tryd.prog TT S) [(some 15), (some 16)] (L13_2).1 E m)) k E Q := w_plain (by kernel_rfl) (L13_2).2
noncomputable def L13_3 : {l : List Oper // (opsOf r13_3).map strip = l} := by refine ⟨?l, ?h⟩; case h => simp only [r13_3, c13, bodyOf, Tryd.f13, Code.sub, opsOf, List.map_cons, List.map_nil, strip]; rfl
theorem w13_3 : W Tryd.prog TT S 17 [17, 28] r13_3 k E m Q ↔ Rg Tryd.prog TT S 17 [17, 28] [] [17] (lgo E [16] (lops Tryd.prog (callw Tryd.prog TT S) [(some 18), (some 17)] (L13_3).1 E m)) k E Q := w_plain (by kernel_rfl) (L13_3).2
noncomputable def L13_4 : {l : List Oper // (opsOf r13_4).map strip = l} := by refine ⟨?l, ?h⟩; case h => simp only [r13_4, c13, bodyOf, Tryd.f13, Code.sub, opsOf, List.map_cons, List.map_nil, strip]; rfl
theorem w13_4 : W Tryd.prog TT S 17 [17, 28] r13_4 k E m Q ↔ Rg Tryd.prog TT S 17 [17, 28] [3] [] (lgo E [3, 1] (lops Tryd.prog (callw Tryd.prog TT S) [(some 19), (some 20), (some 21), (some 22), (some 23), (some 24), (some 25), (some 26), (some 27), (some 3)] (L13_4).1 E m)) k E Q := w_plain (by kernel_rfl) (L13_4).2
noncomputable def L13_5 : {l : List Oper // (opsOf r13_5).map strip = l} := by refine ⟨?l, ?h⟩; case h => simp only [r13_5, c13, bodyOf, Tryd.f13, Code.sub, opsOf, List.map_cons, List.map_nil, strip]; rfl
theorem w13_5 : W Tryd.prog TT S 17 [17, 28] r13_5 k E m Q ↔ Rg Tryd.prog TT S 17 [17, 28] [] [28] (lgo E [16] (lops Tryd.prog (callw Tryd.prog TT S) [(some 29), (some 28)] (L13_5).1 E m)) k E Q := w_plain (by kernel_rfl) (L13_5).2
noncomputable def L13_6 : {l : List Oper // (opsOf r13_6).map strip = l} := by refine ⟨?l, ?h⟩; case h => simp only [r13_6, c13, bodyOf, Tryd.f13, Code.sub, opsOf, List.map_cons, List.map_nil, strip]; rfl
theorem w13_6 : W Tryd.prog TT S 17 [17, 28] r13_6 k E m Q ↔ Rg Tryd.prog TT S 17 [17, 28] [3] [] (lgo E [3, 1] (lops Tryd.prog (callw Tryd.prog TT S) [(some 30), (some 31), (some 32), (some 33), (some 3)] (L13_6).1 E m)) k E Q := w_plain (by kernel_rfl) (L13_6).2
noncomputable def L13_7 : {l : List Oper // (opsOf r13_7).map strip = l} := by refine ⟨?l, ?h⟩; case h => simp only [r13_7, c13, bodyOf, Tryd.f13, Code.sub, opsOf, List.map_cons, List.map_nil, strip]; rfl
theorem w13_7 : W Tryd.prog TT S 17 [17, 28] r13_7 k E m Q ↔ Rg Tryd.prog TT S 17 [17, 28] [2] [] (lgo E [3] (lops Tryd.prog (callw Tryd.prog TT S) [(some 34), (some 2)] (L13_7).1 E m)) k E Q := w_plain (by kernel_rfl) (L13_7).2
theorem k13 : FnIs TT 13 c13 [.tmp 2] 1 := ⟨Tryd.f13, by kernel_rfl, by simp only [Tryd.f13, c13, bodyOf], by kernel_rfl, of_decide_eq_true (by kernel_rfl)⟩

/- ssa.Pure -/
noncomputable def c14 : Code := bodyOf Tryd.f14
noncomputable def r14_0 : Code := Code.sub [0] c14
noncomputable def r14_1 : Code := Code.sub [1, 0] c14
theorem body14 : c14 = (.seq r14_0 (.seq r14_1 .ret)) := by kernel_rfl
noncomputable def L14_0 : {l : List Oper // (opsOf r14_0).map strip = l} := by refine ⟨?l, ?h⟩; case h => simp only [r14_0, c14, bodyOf, Tryd.f14, Code.sub, opsOf, List.map_cons, List.map_nil, strip]; rfl
theorem w14_0 : W Tryd.prog TT S 3 [] r14_0 k E m Q ↔ Rg Tryd.prog TT S 3 [] [2] [] (lgo E [] (lops Tryd.prog (callw Tryd.prog TT S) [(some 2)] (L14_0).1 E m)) k E Q := w_plain (by kernel_rfl) (L14_0).2
noncomputable def L14_1 : {l : List Oper // (opsOf r14_1).map strip = l} := by refine ⟨?l, ?h⟩; case h => simp only [r14_1, c14, bodyOf, Tryd.f14, Code.sub, opsOf, List.map_cons, List.map_nil, strip]; rfl
theorem w14_1 : W Tryd.prog TT S 3 [] r14_1 k E m Q ↔ Rg Tryd.prog TT S 3 [] [2] [] (lgo E [0] (lops Tryd.prog (callw Tryd.prog TT S) [(some 3), (some 4), (some 5), (some 6), (some 7), (some 8), (some 2)] (L14_1).1 E m)) k E Q := w_plain (by kernel_rfl) (L14_1).2
theorem k14 : FnIs TT 14 c14 [.tmp 2] 1 := ⟨Tryd.f14, by kernel_rfl, by simp only [Tryd.f14, c14, bodyOf], by kernel_rfl, of_decide_eq_true (by kernel_rfl)⟩

/- ssa.Name -/
noncomputable def c15 : Code := bodyOf Tryd.f15
noncomputable def r15_0 : Code := Code.sub [0] c15
noncomputable def r15_1 : Code := Code.sub [1, 0, 0] c15
noncomputable def r15_2 : Code := Code.sub [1, 0, 1, 0, 0] c15
noncomputable def r15_3 : Code := Code.sub [1, 1, 0] c15
theorem body15 : c15 = (.seq r15_0 (.seq (.seq r15_1 (.cond (.tmp 8) (.seq r15_2 .ret) .skip)) (.seq r15_3 .ret))) := by kernel_rfl
noncomputable def L15_0 : {l : List Oper // (opsOf r15_0).map strip = l} := by refine ⟨?l, ?h⟩; case h => simp only [r15_0, c15, bodyOf, Tryd.f15, Code.sub, opsOf, List.map_cons, List.map_nil, strip]; rfl
theorem w15_0 : W Tryd.prog TT S 3 [8] r15_0 k E m Q ↔ Rg Tryd.prog TT S 3 [8] [2] [] (lgo E [] (lops Tryd.prog (callw Tryd.prog TT S) [(some 2)] (L15_0).1 E m)) k E Q := w_plain (by kernel_rfl) (L15_0).2
noncomputable def L15_1 : {l : List Oper // (opsOf r15_1).map strip = l} := by refine ⟨?l, ?h⟩; case h => simp only [r15_1, c15, bodyOf, Tryd.f15, Code.sub, opsOf, List.map_cons, List.map_nil, strip]; rfl
theorem w15_1 : W Tryd.prog TT S 3 [8] r15_1 k E m Q ↔ Rg Tryd.prog TT S 3 [8] [] [8] (lgo E [0] (lops Tryd.prog (callw Tryd.prog TT S) [(some 3), (some 4), (some 5), (some 6), (some 7), (some 8)] (L15_1).1 E m)) k E Q := w_plain (by kernel_rfl) (L15_1).2
noncomputable def L15_2 : {l : List Oper // (opsOf r15_2).map strip = l} := by refine ⟨?l, ?h⟩; case h => simp only [r15_2, c15, bodyOf, Tryd.f15, Code.sub, opsOf, List.map_cons, List.map_nil, strip]; rfl
theorem w15_2 : W Tryd.prog TT S 3 [8] r15_2 k E m Q ↔ Rg Tryd.prog TT S 3 [8] [2] [] (lgo E [] (lops Tryd.prog (callw Tryd.prog TT S) [(some 2)] (L15_2).1 E m)) k E Q := w_plain (by kernel_rfl) (L15_2).2
noncomputable def L15_3 : {l : List Oper // (opsOf r15_3).map strip = l} := by refine ⟨?l, ?h⟩; case h => simp only [r15_3, c15, bodyOf, Tryd.f15, Code.sub, opsOf, List.map_cons, List.map_nil, strip]; rfl
theorem w15_3 : W Tryd.prog TT S 3 [8] r15_3 k E m Q ↔ Rg Tryd.prog TT S 3 [8] [2] [] (lgo E [0] (lops Tryd.prog (callw Tryd.prog TT S) [(some 9), (some 10), (some 11), (some 12), (some 13), (some 2)] (L15_3).1 E m)) k E Q := w_plain (by kernel_rfl) (L15_3).2
theorem k15 : FnIs TT 15 c15 [.tmp 2] 1 := ⟨Tryd.f15, by kernel_rfl, by simp only [Tryd.f15, c15, bodyOf], by kernel_rfl, of_decide_eq_true (by kernel_rfl)⟩

/- turnstonehand.Pick -/
noncomputable def c16 : Code := bodyOf Tryd.f16
noncomputable def r16_0 : Code := Code.sub [0] c16
noncomputable def r16_1 : Code := Code.sub [1, 0] c16
noncomputable def r16_2 : Code := Code.sub [1, 1, 0, 0] c16
noncomputable def r16_3 : Code := Code.sub [1, 1, 0, 1, 0] c16
noncomputable def r16_4 : Code := Code.sub [1, 1, 1, 0] c16
theorem body16 : c16 = (.seq r16_0 (.seq r16_1 (.seq (.seq r16_2 (.cond (.tmp 9) r16_3 .skip)) (.seq r16_4 .ret)))) := by kernel_rfl
noncomputable def L16_0 : {l : List Oper // (opsOf r16_0).map strip = l} := by refine ⟨?l, ?h⟩; case h => simp only [r16_0, c16, bodyOf, Tryd.f16, Code.sub, opsOf, List.map_cons, List.map_nil, strip]; rfl
theorem w16_0 : W Tryd.prog TT S 5 [9] r16_0 k E m Q ↔ Rg Tryd.prog TT S 5 [9] [4] [] (lgo E [] (lops Tryd.prog (callw Tryd.prog TT S) [(some 4)] (L16_0).1 E m)) k E Q := w_plain (by kernel_rfl) (L16_0).2
noncomputable def L16_1 : {l : List Oper // (opsOf r16_1).map strip = l} := by refine ⟨?l, ?h⟩; case h => simp only [r16_1, c16, bodyOf, Tryd.f16, Code.sub, opsOf, List.map_cons, List.map_nil, strip]; rfl
theorem w16_1 : W Tryd.prog TT S 5 [9] r16_1 k E m Q ↔ Rg Tryd.prog TT S 5 [9] [0] [] (lgo E [0, 1] (lops Tryd.prog (callw Tryd.prog TT S) [(some 5), (some 6), (some 7), (some 0)] (L16_1).1 E m)) k E Q := w_plain (by kernel_rfl) (L16_1).2
noncomputable def L16_2 : {l : List Oper // (opsOf r16_2).map strip = l} := by refine ⟨?l, ?h⟩; case h => simp only [r16_2, c16, bodyOf, Tryd.f16, Code.sub, opsOf, List.map_cons, List.map_nil, strip]; rfl
theorem w16_2 : W Tryd.prog TT S 5 [9] r16_2 k E m Q ↔ Rg Tryd.prog TT S 5 [9] [] [9] (lgo E [0] (lops Tryd.prog (callw Tryd.prog TT S) [(some 8), (some 9)] (L16_2).1 E m)) k E Q := w_plain (by kernel_rfl) (L16_2).2
noncomputable def L16_3 : {l : List Oper // (opsOf r16_3).map strip = l} := by refine ⟨?l, ?h⟩; case h => simp only [r16_3, c16, bodyOf, Tryd.f16, Code.sub, opsOf, List.map_cons, List.map_nil, strip]; rfl
theorem w16_3 : W Tryd.prog TT S 5 [9] r16_3 k E m Q ↔ Rg Tryd.prog TT S 5 [9] [0] [] (lgo E [0, 1] (lops Tryd.prog (callw Tryd.prog TT S) [(some 10), (some 11), (some 12), (some 0)] (L16_3).1 E m)) k E Q := w_plain (by kernel_rfl) (L16_3).2
noncomputable def L16_4 : {l : List Oper // (opsOf r16_4).map strip = l} := by refine ⟨?l, ?h⟩; case h => simp only [r16_4, c16, bodyOf, Tryd.f16, Code.sub, opsOf, List.map_cons, List.map_nil, strip]; rfl
theorem w16_4 : W Tryd.prog TT S 5 [9] r16_4 k E m Q ↔ Rg Tryd.prog TT S 5 [9] [4] [] (lgo E [0] (lops Tryd.prog (callw Tryd.prog TT S) [(some 13), (some 4)] (L16_4).1 E m)) k E Q := w_plain (by kernel_rfl) (L16_4).2
theorem k16 : FnIs TT 16 c16 [.tmp 4] 2 := ⟨Tryd.f16, by kernel_rfl, by simp only [Tryd.f16, c16, bodyOf], by kernel_rfl, of_decide_eq_true (by kernel_rfl)⟩

/- turnstoneref14.Uses -/
noncomputable def c17 : Code := bodyOf Tryd.f17
noncomputable def r17_0 : Code := Code.sub [0] c17
noncomputable def r17_1 : Code := Code.sub [1, 0, 0] c17
noncomputable def r17_2 : Code := Code.sub [1, 0, 1, 0, 0, 0] c17
noncomputable def r17_3 : Code := Code.sub [1, 0, 1, 0, 0, 1, 1, 0] c17
noncomputable def r17_4 : Code := Code.sub [1, 0, 1, 0, 0, 1, 1, 1, 1, 0] c17
noncomputable def r17_5 : Code := Code.sub [1, 0, 1, 0, 0, 1, 1, 1, 1, 1, 1, 0] c17
noncomputable def r17_6 : Code := Code.sub [1, 0, 1, 0, 0, 1, 1, 1, 1, 1, 1, 1, 1, 0] c17
noncomputable def r17_7 : Code := Code.sub [1, 0, 1, 0, 0, 1, 1, 1, 1, 1, 1, 1, 1, 1, 1, 0] c17
noncomputable def r17_8 : Code := Code.sub [1, 0, 1, 0, 0, 1, 1, 1, 1, 1, 1, 1, 1, 1, 1, 1, 1, 0] c17
noncomputable def r17_9 : Code := Code.sub [1, 0, 1, 0, 0, 1, 1, 1, 1, 1, 1, 1, 1, 1, 1, 1, 1, 1, 1, 0] c17
noncomputable def r17_10 : Code := Code.sub [1, 0, 1, 0, 0, 1, 1, 1, 1, 1, 1, 1, 1, 1, 1, 1, 1, 1, 1, 1, 1, 0] c17
noncomputable def r17_11 : Code := Code.sub [1, 0, 1, 0, 0, 1, 1, 1, 1, 1, 1, 1, 1, 1, 1, 1, 1, 1, 1, 1, 1, 1, 1, 0] c17
noncomputable def r17_12 : Code := Code.sub [1, 0, 1, 0, 0, 1, 1, 1, 1, 1, 1, 1, 1, 1, 1, 1, 1, 1, 1, 1, 1, 1, 1, 1, 1, 0] c17
noncomputable def r17_13 : Code := Code.sub [1, 0, 1, 0, 0, 1, 1, 1, 1, 1, 1, 1, 1, 1, 1, 1, 1, 1, 1, 1, 1, 1, 1, 1, 1, 1, 1] c17
noncomputable def r17_14 : Code := Code.sub [1, 0, 1, 0, 1, 0, 0] c17
noncomputable def r17_15 : Code := Code.sub [1, 0, 1, 0, 1, 1, 0, 0] c17
noncomputable def r17_16 : Code := Code.sub [1, 0, 1, 0, 1, 1, 0, 1, 1, 0] c17
noncomputable def r17_17 : Code := Code.sub [1, 0, 1, 0, 1, 1, 0, 1, 1, 1, 1, 0] c17
noncomputable def r17_18 : Code := Code.sub [1, 0, 1, 0, 1, 1, 0, 1, 1, 1, 1, 1, 1, 0] c17
noncomputable def r17_19 : Code := Code.sub [1, 0, 1, 0, 1, 1, 0, 1, 1, 1, 1, 1, 1, 1, 1, 0] c17
noncomputable def r17_20 : Code := Code.sub [1, 0, 1, 0, 1, 1, 0, 1, 1, 1, 1, 1, 1, 1, 1, 1, 1] c17
noncomputable def r17_21 : Code := Code.sub [1, 0, 1, 0, 1, 1, 1, 0, 0] c17
noncomputable def r17_22 : Code := Code.sub [1, 0, 1, 0, 1, 1, 1, 1, 0] c17
noncomputable def r17_23 : Code := Code.sub [1, 0, 1, 0, 1, 1, 1, 1, 1, 0, 0, 0] c17
noncomputable def r17_24 : Code := Code.sub [1, 0, 1, 0, 1, 1, 1, 1, 1, 0, 0, 1, 0, 0] c17
noncomputable def r17_25 : Code := Code.sub [1, 0, 1, 0, 1, 1, 1, 1, 1, 0, 1, 0] c17
noncomputable def r17_26 : Code := Code.sub [1, 0, 1, 0, 1, 1, 1, 1, 1, 1, 0] c17
noncomputable def r17_27 : Code := Code.sub [1, 0, 1, 0, 1, 1, 1, 1, 1, 1, 1, 0, 0] c17
noncomputable def r17_28 : Code := Code.sub [1, 1, 0] c17
theorem body17 : c17 = (.seq r17_0 (.seq (.seq r17_1 (.block 0 (.seq (.seq r17_2 (.cond (.tmp 5) .skip (.seq r17_3 (.cond (.tmp 5) .skip (.seq r17_4 (.cond (.tmp 5) .skip (.seq r17_5 (.cond (.tmp 5) .skip (.seq r17_6 (.cond (.tmp 5) .skip (.seq r17_7 (.cond (.tmp 5) .skip (.seq r17_8 (.cond (.tmp 5) .skip (.seq r17_9 (.cond (.tmp 5) .skip (.seq r17_10 (.cond (.tmp 5) .skip (.seq r17_11 (.cond (.tmp 5) .skip (.seq r17_12 (.cond (.tmp 5) .skip r17_13)))))))))))))))))))))) (.cond (.tmp 5) (.seq r17_14 .ret) (.seq (.seq r17_15 (.cond (.tmp 23) .skip (.seq r17_16 (.cond (.tmp 23) .skip (.seq r17_17 (.cond (.tmp 23) .skip (.seq r17_18 (.cond (.tmp 23) .skip (.seq r17_19 (.cond (.tmp 23) .skip r17_20)))))))))) (.cond (.tmp 23) (.seq r17_21 .ret) (.seq r17_22 (.cond (.tmp 33) (.seq (.seq r17_23 (.cond (.tmp 38) (.seq r17_24 .ret) .skip)) (.seq r17_25 .ret)) (.seq r17_26 (.cond (.tmp 53) (.seq r17_27 .ret) .skip)))))))))) (.seq r17_28 .ret))) := by kernel_rfl
noncomputable def L17_0 : {l : List Oper // (opsOf r17_0).map strip = l} := by refine ⟨?l, ?h⟩; case h => simp only [r17_0, c17, bodyOf, Tryd.f17, Code.sub, opsOf, List.map_cons, List.map_nil, strip]; rfl
theorem w17_0 : W Tryd.prog TT S 5 [5, 5, 5, 5, 5, 5, 5, 5, 5, 5, 5, 5, 23, 23, 23, 23, 23, 23, 33, 38, 53] r17_0 k E m Q ↔ Rg Tryd.prog TT S 5 [5, 5, 5, 5, 5, 5, 5, 5, 5, 5, 5, 5, 23, 23, 23, 23, 23, 23, 33, 38, 53] [1, 2] [] (lgo E [0] (lops Tryd.prog (callw Tryd.prog TT S) [(some 1), (some 2)] (L17_0).1 E m)) k E Q := w_plain (by kernel_rfl) (L17_0).2
noncomputable def L17_1 : {l : List Oper // (opsOf r17_1).map strip = l} := by refine ⟨?l, ?h⟩; case h => simp only [r17_1, c17, bodyOf, Tryd.f17, Code.sub, opsOf, List.map_cons, List.map_nil, strip]; rfl
theorem w17_1 : W Tryd.prog TT S 5 [5, 5, 5, 5, 5, 5, 5, 5, 5, 5, 5, 5, 23, 23, 23, 23, 23, 23, 33, 38, 53] r17_1 k E m Q ↔ Rg Tryd.prog TT S 5 [5, 5, 5, 5, 5, 5, 5, 5, 5, 5, 5, 5, 23, 23, 23, 23, 23, 23, 33, 38, 53] [3, 4] [] (lgo E [1] (lops Tryd.prog (callw Tryd.prog TT S) [(some 3), (some 4)] (L17_1).1 E m)) k E Q := w_plain (by kernel_rfl) (L17_1).2
noncomputable def L17_2 : {l : List Oper // (opsOf r17_2).map strip = l} := by refine ⟨?l, ?h⟩; case h => simp only [r17_2, c17, bodyOf, Tryd.f17, Code.sub, opsOf, List.map_cons, List.map_nil, strip]; rfl
theorem w17_2 : W Tryd.prog TT S 5 [5, 5, 5, 5, 5, 5, 5, 5, 5, 5, 5, 5, 23, 23, 23, 23, 23, 23, 33, 38, 53] r17_2 k E m Q ↔ Rg Tryd.prog TT S 5 [5, 5, 5, 5, 5, 5, 5, 5, 5, 5, 5, 5, 23, 23, 23, 23, 23, 23, 33, 38, 53] [] [5] (lgo E [4] (lops Tryd.prog (callw Tryd.prog TT S) [(some 6), (some 5)] (L17_2).1 E m)) k E Q := w_plain (by kernel_rfl) (L17_2).2
noncomputable def L17_3 : {l : List Oper // (opsOf r17_3).map strip = l} := by refine ⟨?l, ?h⟩; case h => simp only [r17_3, c17, bodyOf, Tryd.f17, Code.sub, opsOf, List.map_cons, List.map_nil, strip]; rfl
theorem w17_3 : W Tryd.prog TT S 5 [5, 5, 5, 5, 5, 5, 5, 5, 5, 5, 5, 5, 23, 23, 23, 23, 23, 23, 33, 38, 53] r17_3 k E m Q ↔ Rg Tryd.prog TT S 5 [5, 5, 5, 5, 5, 5, 5, 5, 5, 5, 5, 5, 23, 23, 23, 23, 23, 23, 33, 38, 53] [] [5] (lgo E [4] (lops Tryd.prog (callw Tryd.prog TT S) [(some 7), (some 5)] (L17_3).1 E m)) k E Q := w_plain (by kernel_rfl) (L17_3).2
noncomputable def L17_4 : {l : List Oper // (opsOf r17_4).map strip = l} := by refine ⟨?l, ?h⟩; case h => simp only [r17_4, c17, bodyOf, Tryd.f17, Code.sub, opsOf, List.map_cons, List.map_nil, strip]; rfl
theorem w17_4 : W Tryd.prog TT S 5 [5, 5, 5, 5, 5, 5, 5, 5, 5, 5, 5, 5, 23, 23, 23, 23, 23, 23, 33, 38, 53] r17_4 k E m Q ↔ Rg Tryd.prog TT S 5 [5, 5, 5, 5, 5, 5, 5, 5, 5, 5, 5, 5, 23, 23, 23, 23, 23, 23, 33, 38, 53] [] [5] (lgo E [4] (lops Tryd.prog (callw Tryd.prog TT S) [(some 8), (some 5)] (L17_4).1 E m)) k E Q := w_plain (by kernel_rfl) (L17_4).2
noncomputable def L17_5 : {l : List Oper // (opsOf r17_5).map strip = l} := by refine ⟨?l, ?h⟩; case h => simp only [r17_5, c17, bodyOf, Tryd.f17, Code.sub, opsOf, List.map_cons, List.map_nil, strip]; rfl
theorem w17_5 : W Tryd.prog TT S 5 [5, 5, 5, 5, 5, 5, 5, 5, 5, 5, 5, 5, 23, 23, 23, 23, 23, 23, 33, 38, 53] r17_5 k E m Q ↔ Rg Tryd.prog TT S 5 [5, 5, 5, 5, 5, 5, 5, 5, 5, 5, 5, 5, 23, 23, 23, 23, 23, 23, 33, 38, 53] [] [5] (lgo E [4] (lops Tryd.prog (callw Tryd.prog TT S) [(some 9), (some 5)] (L17_5).1 E m)) k E Q := w_plain (by kernel_rfl) (L17_5).2
noncomputable def L17_6 : {l : List Oper // (opsOf r17_6).map strip = l} := by refine ⟨?l, ?h⟩; case h => simp only [r17_6, c17, bodyOf, Tryd.f17, Code.sub, opsOf, List.map_cons, List.map_nil, strip]; rfl
theorem w17_6 : W Tryd.prog TT S 5 [5, 5, 5, 5, 5, 5, 5, 5, 5, 5, 5, 5, 23, 23, 23, 23, 23, 23, 33, 38, 53] r17_6 k E m Q ↔ Rg Tryd.prog TT S 5 [5, 5, 5, 5, 5, 5, 5, 5, 5, 5, 5, 5, 23, 23, 23, 23, 23, 23, 33, 38, 53] [] [5] (lgo E [4] (lops Tryd.prog (callw Tryd.prog TT S) [(some 10), (some 5)] (L17_6).1 E m)) k E Q := w_plain (by kernel_rfl) (L17_6).2
noncomputable def L17_7 : {l : List Oper // (opsOf r17_7).map strip = l} := by refine ⟨?l, ?h⟩; case h => simp only [r17_7, c17, bodyOf, Tryd.f17, Code.sub, opsOf, List.map_cons, List.map_nil, strip]; rfl
theorem w17_7 : W Tryd.prog TT S 5 [5, 5, 5, 5, 5, 5, 5, 5, 5, 5, 5, 5, 23, 23, 23, 23, 23, 23, 33, 38, 53] r17_7 k E m Q ↔ Rg Tryd.prog TT S 5 [5, 5, 5, 5, 5, 5, 5, 5, 5, 5, 5, 5, 23, 23, 23, 23, 23, 23, 33, 38, 53] [] [5] (lgo E [4] (lops Tryd.prog (callw Tryd.prog TT S) [(some 11), (some 5)] (L17_7).1 E m)) k E Q := w_plain (by kernel_rfl) (L17_7).2
noncomputable def L17_8 : {l : List Oper // (opsOf r17_8).map strip = l} := by refine ⟨?l, ?h⟩; case h => simp only [r17_8, c17, bodyOf, Tryd.f17, Code.sub, opsOf, List.map_cons, List.map_nil, strip]; rfl
theorem w17_8 : W Tryd.prog TT S 5 [5, 5, 5, 5, 5, 5, 5, 5, 5, 5, 5, 5, 23, 23, 23, 23, 23, 23, 33, 38, 53] r17_8 k E m Q ↔ Rg Tryd.prog TT S 5 [5, 5, 5, 5, 5, 5, 5, 5, 5, 5, 5, 5, 23, 23, 23, 23, 23, 23, 33, 38, 53] [] [5] (lgo E [4] (lops Tryd.prog (callw Tryd.prog TT S) [(some 12), (some 5)] (L17_8).1 E m)) k E Q := w_plain (by kernel_rfl) (L17_8).2
noncomputable def L17_9 : {l : List Oper // (opsOf r17_9).map strip = l} := by refine ⟨?l, ?h⟩; case h => simp only [r17_9, c17, bodyOf, Tryd.f17, Code.sub, opsOf, List.map_cons, List.map_nil, strip]; rfl
theorem w17_9 : W Tryd.prog TT S 5 [5, 5, 5, 5, 5, 5, 5, 5, 5, 5, 5, 5, 23, 23, 23, 23, 23, 23, 33, 38, 53] r17_9 k E m Q ↔ Rg Tryd.prog TT S 5 [5, 5, 5, 5, 5, 5, 5, 5, 5, 5, 5, 5, 23, 23, 23, 23, 23, 23, 33, 38, 53] [] [5] (lgo E [4] (lops Tryd.prog (callw Tryd.prog TT S) [(some 13), (some 5)] (L17_9).1 E m)) k E Q := w_plain (by kernel_rfl) (L17_9).2
noncomputable def L17_10 : {l : List Oper // (opsOf r17_10).map strip = l} := by refine ⟨?l, ?h⟩; case h => simp only [r17_10, c17, bodyOf, Tryd.f17, Code.sub, opsOf, List.map_cons, List.map_nil, strip]; rfl
theorem w17_10 : W Tryd.prog TT S 5 [5, 5, 5, 5, 5, 5, 5, 5, 5, 5, 5, 5, 23, 23, 23, 23, 23, 23, 33, 38, 53] r17_10 k E m Q ↔ Rg Tryd.prog TT S 5 [5, 5, 5, 5, 5, 5, 5, 5, 5, 5, 5, 5, 23, 23, 23, 23, 23, 23, 33, 38, 53] [] [5] (lgo E [4] (lops Tryd.prog (callw Tryd.prog TT S) [(some 14), (some 5)] (L17_10).1 E m)) k E Q := w_plain (by kernel_rfl) (L17_10).2
noncomputable def L17_11 : {l : List Oper // (opsOf r17_11).map strip = l} := by refine ⟨?l, ?h⟩; case h => simp only [r17_11, c17, bodyOf, Tryd.f17, Code.sub, opsOf, List.map_cons, List.map_nil, strip]; rfl
theorem w17_11 : W Tryd.prog TT S 5 [5, 5, 5, 5, 5, 5, 5, 5, 5, 5, 5, 5, 23, 23, 23, 23, 23, 23, 33, 38, 53] r17_11 k E m Q ↔ Rg Tryd.prog TT S 5 [5, 5, 5, 5, 5, 5, 5, 5, 5, 5, 5, 5, 23, 23, 23, 23, 23, 23, 33, 38, 53] [] [5] (lgo E [4] (lops Tryd.prog (callw Tryd.prog TT S) [(some 15), (some 5)] (L17_11).1 E m)) k E Q := w_plain (by kernel_rfl) (L17_11).2
noncomputable def L17_12 : {l : List Oper // (opsOf r17_12).map strip = l} := by refine ⟨?l, ?h⟩; case h => simp only [r17_12, c17, bodyOf, Tryd.f17, Code.sub, opsOf, List.map_cons, List.map_nil, strip]; rfl
theorem w17_12 : W Tryd.prog TT S 5 [5, 5, 5, 5, 5, 5, 5, 5, 5, 5, 5, 5, 23, 23, 23, 23, 23, 23, 33, 38, 53] r17_12 k E m Q ↔ Rg Tryd.prog TT S 5 [5, 5, 5, 5, 5, 5, 5, 5, 5, 5, 5, 5, 23, 23, 23, 23, 23, 23, 33, 38, 53] [] [5] (lgo E [4] (lops Tryd.prog (callw Tryd.prog TT S) [(some 16), (some 5)] (L17_12).1 E m)) k E Q := w_plain (by kernel_rfl) (L17_12).2
noncomputable def L17_13 : {l : List Oper // (opsOf r17_13).map strip = l} := by refine ⟨?l, ?h⟩; case h => simp only [r17_13, c17, bodyOf, Tryd.f17, Code.sub, opsOf, List.map_cons, List.map_nil, strip]; rfl
theorem w17_13 : W Tryd.prog TT S 5 [5, 5, 5, 5, 5, 5, 5, 5, 5, 5, 5, 5, 23, 23, 23, 23, 23, 23, 33, 38, 53] r17_13 k E m Q ↔ Rg Tryd.prog TT S 5 [5, 5, 5, 5, 5, 5, 5, 5, 5, 5, 5, 5, 23, 23, 23, 23, 23, 23, 33, 38, 53] [] [5] (lgo E [4] (lops Tryd.prog (callw Tryd.prog TT S) [(some 17), (some 5)] (L17_13).1 E m)) k E Q := w_plain (by kernel_rfl) (L17_13).2
noncomputable def L17_14 : {l : List Oper // (opsOf r17_14).map strip = l} := by refine ⟨?l, ?h⟩; case h => simp only [r17_14, c17, bodyOf, Tryd.f17, Code.sub, opsOf, List.map_cons, List.map_nil, strip]; rfl
theorem w17_14 : W Tryd.prog TT S 5 [5, 5, 5, 5, 5, 5, 5, 5, 5, 5, 5, 5, 23, 23, 23, 23, 23, 23, 33, 38, 53] r17_14 k E m Q ↔ Rg Tryd.prog TT S 5 [5, 5, 5, 5, 5, 5, 5, 5, 5, 5, 5, 5, 23, 23, 23, 23, 23, 23, 33, 38, 53] [2] [] (lgo E [1] (lops Tryd.prog (callw Tryd.prog TT S) [(some 18), (some 19), (some 20), (some 21), (some 22), (some 2)] (L17_14).1 E m)) k E Q := w_plain (by kernel_rfl) (L17_14).2
noncomputable def L17_15 : {l : List Oper // (opsOf r17_15).map strip = l} := by refine ⟨?l, ?h⟩; case h => simp only [r17_15, c17, bodyOf, Tryd.f17, Code.sub, opsOf, List.map_cons, List.map_nil, strip]; rfl
theorem w17_15 : W Tryd.prog TT S 5 [5, 5, 5, 5, 5, 5, 5, 5, 5, 5, 5, 5, 23, 23, 23, 23, 23, 23, 33, 38, 53] r17_15 k E m Q ↔ Rg Tryd.prog TT S 5 [5, 5, 5, 5, 5, 5, 5, 5, 5, 5, 5, 5, 23, 23, 23, 23, 23, 23, 33, 38, 53] [] [23] (lgo E [4] (lops Tryd.prog (callw Tryd.prog TT S) [(some 24), (some 23)] (L17_15).1 E m)) k E Q := w_plain (by kernel_rfl) (L17_15).2
noncomputable def L17_16 : {l : List Oper // (opsOf r17_16).map strip = l} := by refine ⟨?l, ?h⟩; case h => simp only [r17_16, c17, bodyOf, Tryd.f17, Code.sub, opsOf, List.map_cons, List.map_nil, strip]; rfl
theorem w17_16 : W Tryd.prog TT S 5 [5, 5, 5, 5, 5, 5, 5, 5, 5, 5, 5, 5, 23, 23, 23, 23, 23, 23, 33, 38, 53] r17_16 k E m Q ↔ Rg Tryd.prog TT S 5 [5, 5, 5, 5, 5, 5, 5, 5, 5, 5, 5, 5, 23, 23, 23, 23, 23, 23, 33, 38, 53] [] [23] (lgo E [4] (lops Tryd.prog (callw Tryd.prog TT S) [(some 25), (some 23)] (L17_16).1 E m)) k E Q := w_plain (by kernel_rfl) (L17_16).2
noncomputable def L17_17 : {l : List Oper // (opsOf r17_17).map strip = l} := by refine ⟨?l, ?h⟩; case h => simp only [r17_17, c17, bodyOf, Tryd.f17, Code.sub, opsOf, List.map_cons, List.map_nil, strip]; rfl
theorem w17_17 : W Tryd.prog TT S 5 [5, 5, 5, 5, 5, 5, 5, 5, 5, 5, 5, 5, 23, 23, 23, 23, 23, 23, 33, 38, 53] r17_17 k E m Q ↔ Rg Tryd.prog TT S 5 [5, 5, 5, 5, 5, 5, 5, 5, 5, 5, 5, 5, 23, 23, 23, 23, 23, 23, 33, 38, 53] [] [23] (lgo E [4] (lops Tryd.prog (callw Tryd.prog TT S) [(some 26), (some 23)] (L17_17).1 E m)) k E Q := w_plain (by kernel_rfl) (L17_17).2
noncomputable def L17_18 : {l : List Oper // (opsOf r17_18).map strip = l} := by refine ⟨?l, ?h⟩; case h => simp only [r17_18, c17, bodyOf, Tryd.f17, Code.sub, opsOf, List.map_cons, List.map_nil, strip]; rfl
theorem w17_18 : W Tryd.prog TT S 5 [5, 5, 5, 5, 5, 5, 5, 5, 5, 5, 5, 5, 23, 23, 23, 23, 23, 23, 33, 38, 53] r17_18 k E m Q ↔ Rg Tryd.prog TT S 5 [5, 5, 5, 5, 5, 5, 5, 5, 5, 5, 5, 5, 23, 23, 23, 23, 23, 23, 33, 38, 53] [] [23] (lgo E [4] (lops Tryd.prog (callw Tryd.prog TT S) [(some 27), (some 23)] (L17_18).1 E m)) k E Q := w_plain (by kernel_rfl) (L17_18).2
noncomputable def L17_19 : {l : List Oper // (opsOf r17_19).map strip = l} := by refine ⟨?l, ?h⟩; case h => simp only [r17_19, c17, bodyOf, Tryd.f17, Code.sub, opsOf, List.map_cons, List.map_nil, strip]; rfl
theorem w17_19 : W Tryd.prog TT S 5 [5, 5, 5, 5, 5, 5, 5, 5, 5, 5, 5, 5, 23, 23, 23, 23, 23, 23, 33, 38, 53] r17_19 k E m Q ↔ Rg Tryd.prog TT S 5 [5, 5, 5, 5, 5, 5, 5, 5, 5, 5, 5, 5, 23, 23, 23, 23, 23, 23, 33, 38, 53] [] [23] (lgo E [4] (lops Tryd.prog (callw Tryd.prog TT S) [(some 28), (some 23)] (L17_19).1 E m)) k E Q := w_plain (by kernel_rfl) (L17_19).2
noncomputable def L17_20 : {l : List Oper // (opsOf r17_20).map strip = l} := by refine ⟨?l, ?h⟩; case h => simp only [r17_20, c17, bodyOf, Tryd.f17, Code.sub, opsOf, List.map_cons, List.map_nil, strip]; rfl
theorem w17_20 : W Tryd.prog TT S 5 [5, 5, 5, 5, 5, 5, 5, 5, 5, 5, 5, 5, 23, 23, 23, 23, 23, 23, 33, 38, 53] r17_20 k E m Q ↔ Rg Tryd.prog TT S 5 [5, 5, 5, 5, 5, 5, 5, 5, 5, 5, 5, 5, 23, 23, 23, 23, 23, 23, 33, 38, 53] [] [23] (lgo E [4] (lops Tryd.prog (callw Tryd.prog TT S) [(some 29), (some 23)] (L17_20).1 E m)) k E Q := w_plain (by kernel_rfl) (L17_20).2
noncomputable def L17_21 : {l : List Oper // (opsOf r17_21).map strip = l} := by refine ⟨?l, ?h⟩; case h => simp only [r17_21, c17, bodyOf, Tryd.f17, Code.sub, opsOf, List.map_cons, List.map_nil, strip]; rfl
theorem w17_21 : W Tryd.prog TT S 5 [5, 5, 5, 5, 5, 5, 5, 5, 5, 5, 5, 5, 23, 23, 23, 23, 23, 23, 33, 38, 53] r17_21 k E m Q ↔ Rg Tryd.prog TT S 5 [5, 5, 5, 5, 5, 5, 5, 5, 5, 5, 5, 5, 23, 23, 23, 23, 23, 23, 33, 38, 53] [2] [] (lgo E [1] (lops Tryd.prog (callw Tryd.prog TT S) [(some 30), (some 31), (some 32), (some 2)] (L17_21).1 E m)) k E Q := w_plain (by kernel_rfl) (L17_21).2
noncomputable def L17_22 : {l : List Oper // (opsOf r17_22).map strip = l} := by refine ⟨?l, ?h⟩; case h => simp only [r17_22, c17, bodyOf, Tryd.f17, Code.sub, opsOf, List.map_cons, List.map_nil, strip]; rfl
theorem w17_22 : W Tryd.prog TT S 5 [5, 5, 5, 5, 5, 5, 5, 5, 5, 5, 5, 5, 23, 23, 23, 23, 23, 23, 33, 38, 53] r17_22 k E m Q ↔ Rg Tryd.prog TT S 5 [5, 5, 5, 5, 5, 5, 5, 5, 5, 5, 5, 5, 23, 23, 23, 23, 23, 23, 33, 38, 53] [] [33] (lgo E [4] (lops Tryd.prog (callw Tryd.prog TT S) [(some 34), (some 33)] (L17_22).1 E m)) k E Q := w_plain (by kernel_rfl) (L17_22).2
noncomputable def L17_23 : {l : List Oper // (opsOf r17_23).map strip = l} := by refine ⟨?l, ?h⟩; case h => simp only [r17_23, c17, bodyOf, Tryd.f17, Code.sub, opsOf, List.map_cons, List.map_nil, strip]; rfl
theorem w17_23 : W Tryd.prog TT S 5 [5, 5, 5, 5, 5, 5, 5, 5, 5, 5, 5, 5, 23, 23, 23, 23, 23, 23, 33, 38, 53] r17_23 k E m Q ↔ Rg Tryd.prog TT S 5 [5, 5, 5, 5, 5, 5, 5, 5, 5, 5, 5, 5, 23, 23, 23, 23, 23, 23, 33, 38, 53] [] [38] (lgo E [1] (lops Tryd.prog (callw Tryd.prog TT S) [(some 35), (some 36), (some 37), (some 38)] (L17_23).1 E m)) k E Q := w_plain (by kernel_rfl) (L17_23).2
noncomputable def L17_24 : {l : List Oper // (opsOf r17_24).map strip = l} := by refine ⟨?l, ?h⟩; case h => simp only [r17_24, c17, bodyOf, Tryd.f17, Code.sub, opsOf, List.map_cons, List.map_nil, strip]; rfl
theorem w17_24 : W Tryd.prog TT S 5 [5, 5, 5, 5, 5, 5, 5, 5, 5, 5, 5, 5, 23, 23, 23, 23, 23, 23, 33, 38, 53] r17_24 k E m Q ↔ Rg Tryd.prog TT S 5 [5, 5, 5, 5, 5, 5, 5, 5, 5, 5, 5, 5, 23, 23, 23, 23, 23, 23, 33, 38, 53] [2] [] (lgo E [1] (lops Tryd.prog (callw Tryd.prog TT S) [(some 39), (some 40), (some 41), (some 42), (some 43), (some 2)] (L17_24).1 E m)) k E Q := w_plain (by kernel_rfl) (L17_24).2
theorem can17_25 : canonOps (opsOf r17_25) = List.filterMap (fun i => ((opsOf r17_25)[i]?).map (renum [0, 1, 2, 3, 4, 5, 6, 7, 8, 9])) [0, 1, 2, 3, 4, 5, 6, 7, 8, 9] := by kernel_rfl
noncomputable def L17_25 : {l : List Oper // (canonOps (opsOf r17_25)).map strip = l} := by refine ⟨?l, (congrArg (List.map strip) can17_25).trans ?h⟩; case h => simp only [r17_25, c17, bodyOf, Tryd.f17, Code.sub, opsOf, List.filterMap_cons, List.filterMap_nil, List.getElem?_cons_succ, List.getElem?_cons_zero, Option.map_some, renum, List.map_cons, List.map_nil, strip]; rfl
theorem w17_25 : W Tryd.prog TT S 5 [5, 5, 5, 5, 5, 5, 5, 5, 5, 5, 5, 5, 23, 23, 23, 23, 23, 23, 33, 38, 53] r17_25 k E m Q ↔ Rg Tryd.prog TT S 5 [5, 5, 5, 5, 5, 5, 5, 5, 5, 5, 5, 5, 23, 23, 23, 23, 23, 23, 33, 38, 53] [2] [] (lgo E [1] (lloud Tryd.prog (callw Tryd.prog TT S) [(some 44), (some 45), (some 46), (some 47), (some 48), (some 49), (some 50), (some 51), (some 52), (some 2)] (L17_25).1 [(1, [8]), (3, [8]), (5, [8]), (7, [8])] (lstates Tryd.prog (callw Tryd.prog TT S) [(some 44), (some 45), (some 46), (some 47), (some 48), (some 49), (some 50), (some 51), (some 52), (some 2)] (L17_25).1 E m))) k E Q := w_loud (by kernel_rfl) (L17_25).2
noncomputable def L17_26 : {l : List Oper // (opsOf r17_26).map strip = l} := by refine ⟨?l, ?h⟩; case h => simp only [r17_26, c17, bodyOf, Tryd.f17, Code.sub, opsOf, List.map_cons, List.map_nil, strip]; rfl
theorem w17_26 : W Tryd.prog TT S 5 [5, 5, 5, 5, 5, 5, 5, 5, 5, 5, 5, 5, 23, 23, 23, 23, 23, 23, 33, 38, 53] r17_26 k E m Q ↔ Rg Tryd.prog TT S 5 [5, 5, 5, 5, 5, 5, 5, 5, 5, 5, 5, 5, 23, 23, 23, 23, 23, 23, 33, 38, 53] [] [53] (lgo E [4] (lops Tryd.prog (callw Tryd.prog TT S) [(some 54), (some 53)] (L17_26).1 E m)) k E Q := w_plain (by kernel_rfl) (L17_26).2
noncomputable def L17_27 : {l : List Oper // (opsOf r17_27).map strip = l} := by refine ⟨?l, ?h⟩; case h => simp only [r17_27, c17, bodyOf, Tryd.f17, Code.sub, opsOf, List.map_cons, List.map_nil, strip]; rfl
theorem w17_27 : W Tryd.prog TT S 5 [5, 5, 5, 5, 5, 5, 5, 5, 5, 5, 5, 5, 23, 23, 23, 23, 23, 23, 33, 38, 53] r17_27 k E m Q ↔ Rg Tryd.prog TT S 5 [5, 5, 5, 5, 5, 5, 5, 5, 5, 5, 5, 5, 23, 23, 23, 23, 23, 23, 33, 38, 53] [2] [] (lgo E [1] (lops Tryd.prog (callw Tryd.prog TT S) [(some 55), (some 56), (some 2)] (L17_27).1 E m)) k E Q := w_plain (by kernel_rfl) (L17_27).2
noncomputable def L17_28 : {l : List Oper // (opsOf r17_28).map strip = l} := by refine ⟨?l, ?h⟩; case h => simp only [r17_28, c17, bodyOf, Tryd.f17, Code.sub, opsOf, List.map_cons, List.map_nil, strip]; rfl
theorem w17_28 : W Tryd.prog TT S 5 [5, 5, 5, 5, 5, 5, 5, 5, 5, 5, 5, 5, 23, 23, 23, 23, 23, 23, 33, 38, 53] r17_28 k E m Q ↔ Rg Tryd.prog TT S 5 [5, 5, 5, 5, 5, 5, 5, 5, 5, 5, 5, 5, 23, 23, 23, 23, 23, 23, 33, 38, 53] [2] [] (lgo E [] (lops Tryd.prog (callw Tryd.prog TT S) [(some 2)] (L17_28).1 E m)) k E Q := w_plain (by kernel_rfl) (L17_28).2
theorem k17 : FnIs TT 17 c17 [.tmp 2] 1 := ⟨Tryd.f17, by kernel_rfl, by simp only [Tryd.f17, c17, bodyOf], by kernel_rfl, of_decide_eq_true (by kernel_rfl)⟩

/- turnstoneref14.Pure -/
noncomputable def c18 : Code := bodyOf Tryd.f18
noncomputable def r18_0 : Code := Code.sub [0] c18
noncomputable def r18_1 : Code := Code.sub [1, 0] c18
theorem body18 : c18 = (.seq r18_0 (.seq r18_1 .ret)) := by kernel_rfl
noncomputable def L18_0 : {l : List Oper // (opsOf r18_0).map strip = l} := by refine ⟨?l, ?h⟩; case h => simp only [r18_0, c18, bodyOf, Tryd.f18, Code.sub, opsOf, List.map_cons, List.map_nil, strip]; rfl
theorem w18_0 : W Tryd.prog TT S 3 [] r18_0 k E m Q ↔ Rg Tryd.prog TT S 3 [] [2] [] (lgo E [] (lops Tryd.prog (callw Tryd.prog TT S) [(some 2)] (L18_0).1 E m)) k E Q := w_plain (by kernel_rfl) (L18_0).2
noncomputable def L18_1 : {l : List Oper // (opsOf r18_1).map strip = l} := by refine ⟨?l, ?h⟩; case h => simp only [r18_1, c18, bodyOf, Tryd.f18, Code.sub, opsOf, List.map_cons, List.map_nil, strip]; rfl
theorem w18_1 : W Tryd.prog TT S 3 [] r18_1 k E m Q ↔ Rg Tryd.prog TT S 3 [] [2] [] (lgo E [0] (lops Tryd.prog (callw Tryd.prog TT S) [(some 3), (some 4), (some 5), (some 6), (some 7), (some 8), (some 2)] (L18_1).1 E m)) k E Q := w_plain (by kernel_rfl) (L18_1).2
theorem k18 : FnIs TT 18 c18 [.tmp 2] 1 := ⟨Tryd.f18, by kernel_rfl, by simp only [Tryd.f18, c18, bodyOf], by kernel_rfl, of_decide_eq_true (by kernel_rfl)⟩

/- ssa.parts -/
noncomputable def c42 : Code := bodyOf Tryd.f42
noncomputable def r42_0 : Code := Code.sub [0] c42
noncomputable def r42_1 : Code := Code.sub [1, 0, 0] c42
noncomputable def r42_2 : Code := Code.sub [1, 0, 1, 0, 0, 0] c42
noncomputable def r42_3 : Code := Code.sub [1, 0, 1, 0, 0, 1, 1, 0] c42
noncomputable def r42_4 : Code := Code.sub [1, 0, 1, 0, 0, 1, 1, 1, 1, 0] c42
noncomputable def r42_5 : Code := Code.sub [1, 0, 1, 0, 0, 1, 1, 1, 1, 1, 1, 0] c42
noncomputable def r42_6 : Code := Code.sub [1, 0, 1, 0, 0, 1, 1, 1, 1, 1, 1, 1, 1, 0] c42
noncomputable def r42_7 : Code := Code.sub [1, 0, 1, 0, 0, 1, 1, 1, 1, 1, 1, 1, 1, 1, 1, 0] c42
noncomputable def r42_8 : Code := Code.sub [1, 0, 1, 0, 0, 1, 1, 1, 1, 1, 1, 1, 1, 1, 1, 1, 1, 0] c42
noncomputable def r42_9 : Code := Code.sub [1, 0, 1, 0, 0, 1, 1, 1, 1, 1, 1, 1, 1, 1, 1, 1, 1, 1, 1, 0] c42
noncomputable def r42_10 : Code := Code.sub [1, 0, 1, 0, 0, 1, 1, 1, 1, 1, 1, 1, 1, 1, 1, 1, 1, 1, 1, 1, 1, 0] c42
noncomputable def r42_11 : Code := Code.sub [1, 0, 1, 0, 0, 1, 1, 1, 1, 1, 1, 1, 1, 1, 1, 1, 1, 1, 1, 1, 1, 1, 1, 0] c42
noncomputable def r42_12 : Code := Code.sub [1, 0, 1, 0, 0, 1, 1, 1, 1, 1, 1, 1, 1, 1, 1, 1, 1, 1, 1, 1, 1, 1, 1, 1, 1, 0] c42
noncomputable def r42_13 : Code := Code.sub [1, 0, 1, 0, 0, 1, 1, 1, 1, 1, 1, 1, 1, 1, 1, 1, 1, 1, 1, 1, 1, 1, 1, 1, 1, 1, 1, 0] c42
noncomputable def r42_14 : Code := Code.sub [1, 0, 1, 0, 0, 1, 1, 1, 1, 1, 1, 1, 1, 1, 1, 1, 1, 1, 1, 1, 1, 1, 1, 1, 1, 1, 1, 1, 1] c42
noncomputable def r42_15 : Code := Code.sub [1, 0, 1, 0, 1, 0, 0] c42
noncomputable def r42_16 : Code := Code.sub [1, 0, 1, 0, 1, 1, 0, 0] c42
noncomputable def r42_17 : Code := Code.sub [1, 0, 1, 0, 1, 1, 0, 1, 1, 0] c42
noncomputable def r42_18 : Code := Code.sub [1, 0, 1, 0, 1, 1, 0, 1, 1, 1, 1, 0] c42
noncomputable def r42_19 : Code := Code.sub [1, 0, 1, 0, 1, 1, 0, 1, 1, 1, 1, 1, 1, 0] c42
noncomputable def r42_20 : Code := Code.sub [1, 0, 1, 0, 1, 1, 0, 1, 1, 1, 1, 1, 1, 1, 1, 0] c42
noncomputable def r42_21 : Code := Code.sub [1, 0, 1, 0, 1, 1, 0, 1, 1, 1, 1, 1, 1, 1, 1, 1, 1] c42
noncomputable def r42_22 : Code := Code.sub [1, 0, 1, 0, 1, 1, 1, 0, 0] c42
noncomputable def r42_23 : Code := Code.sub [1, 1, 0] c42
theorem body42 : c42 = (.seq r42_0 (.seq (.seq r42_1 (.block 0 (.seq (.seq r42_2 (.cond (.tmp 4) .skip (.seq r42_3 (.cond (.tmp 4) .skip (.seq r42_4 (.cond (.tmp 4) .skip (.seq r42_5 (.cond (.tmp 4) .skip (.seq r42_6 (.cond (.tmp 4) .skip (.seq r42_7 (.cond (.tmp 4) .skip (.seq r42_8 (.cond (.tmp 4) .skip (.seq r42_9 (.cond (.tmp 4) .skip (.seq r42_10 (.cond (.tmp 4) .skip (.seq r42_11 (.cond (.tmp 4) .skip (.seq r42_12 (.cond (.tmp 4) .skip (.seq r42_13 (.cond (.tmp 4) .skip r42_14)))))))))))))))))))))))) (.cond (.tmp 4) (.seq r42_15 .ret) (.seq (.seq r42_16 (.cond (.tmp 18) .skip (.seq r42_17 (.cond (.tmp 18) .skip (.seq r42_18 (.cond (.tmp 18) .skip (.seq r42_19 (.cond (.tmp 18) .skip (.seq r42_20 (.cond (.tmp 18) .skip r42_21)))))))))) (.cond (.tmp 18) (.seq r42_22 .ret) .skip)))))) (.seq r42_23 .ret))) := by kernel_rfl
noncomputable def L42_0 : {l : List Oper // (opsOf r42_0).map strip = l} := by refine ⟨?l, ?h⟩; case h => simp only [r42_0, c42, bodyOf, Tryd.f42, Code.sub, opsOf, List.map_cons, List.map_nil, strip]; rfl
theorem w42_0 : W Tryd.prog TT S 4 [4, 4, 4, 4, 4, 4, 4, 4, 4, 4, 4, 4, 4, 18, 18, 18, 18, 18, 18] r42_0 k E m Q ↔ Rg Tryd.prog TT S 4 [4, 4, 4, 4, 4, 4, 4, 4, 4, 4, 4, 4, 4, 18, 18, 18, 18, 18, 18] [2] [] (lgo E [] (lops Tryd.prog (callw Tryd.prog TT S) [(some 2)] (L42_0).1 E m)) k E Q := w_plain (by kernel_rfl) (L42_0).2
noncomputable def L42_1 : {l : List Oper // (opsOf r42_1).map strip = l} := by refine ⟨?l, ?h⟩; case h => simp only [r42_1, c42, bodyOf, Tryd.f42, Code.sub, opsOf, List.map_cons, List.map_nil, strip]; rfl
theorem w42_1 : W Tryd.prog TT S 4 [4, 4, 4, 4, 4, 4, 4, 4, 4, 4, 4, 4, 4, 18, 18, 18, 18, 18, 18] r42_1 k E m Q ↔ Rg Tryd.prog TT S 4 [4, 4, 4, 4, 4, 4, 4, 4, 4, 4, 4, 4, 4, 18, 18, 18, 18, 18, 18] [3] [] (lgo E [0] (lops Tryd.prog (callw Tryd.prog TT S) [(some 3)] (L42_1).1 E m)) k E Q := w_plain (by kernel_rfl) (L42_1).2
noncomputable def L42_2 : {l : List Oper // (opsOf r42_2).map strip = l} := by refine ⟨?l, ?h⟩; case h => simp only [r42_2, c42, bodyOf, Tryd.f42, Code.sub, opsOf, List.map_cons, List.map_nil, strip]; rfl
theorem w42_2 : W Tryd.prog TT S 4 [4, 4, 4, 4, 4, 4, 4, 4, 4, 4, 4, 4, 4, 18, 18, 18, 18, 18, 18] r42_2 k E m Q ↔ Rg Tryd.prog TT S 4 [4, 4, 4, 4, 4, 4, 4, 4, 4, 4, 4, 4, 4, 18, 18, 18, 18, 18, 18] [] [4] (lgo E [3] (lops Tryd.prog (callw Tryd.prog TT S) [(some 5), (some 4)] (L42_2).1 E m)) k E Q := w_plain (by kernel_rfl) (L42_2).2
noncomputable def L42_3 : {l : List Oper // (opsOf r42_3).map strip = l} := by refine ⟨?l, ?h⟩; case h => simp only [r42_3, c42, bodyOf, Tryd.f42, Code.sub, opsOf, List.map_cons, List.map_nil, strip]; rfl
theorem w42_3 : W Tryd.prog TT S 4 [4, 4, 4, 4, 4, 4, 4, 4, 4, 4, 4, 4, 4, 18, 18, 18, 18, 18, 18] r42_3 k E m Q ↔ Rg Tryd.prog TT S 4 [4, 4, 4, 4, 4, 4, 4, 4, 4, 4, 4, 4, 4, 18, 18, 18, 18, 18, 18] [] [4] (lgo E [3] (lops Tryd.prog (callw Tryd.prog TT S) [(some 6), (some 4)] (L42_3).1 E m)) k E Q := w_plain (by kernel_rfl) (L42_3).2
noncomputable def L42_4 : {l : List Oper // (opsOf r42_4).map strip = l} := by refine ⟨?l, ?h⟩; case h => simp only [r42_4, c42, bodyOf, Tryd.f42, Code.sub, opsOf, List.map_cons, List.map_nil, strip]; rfl
theorem w42_4 : W Tryd.prog TT S 4 [4, 4, 4, 4, 4, 4, 4, 4, 4, 4, 4, 4, 4, 18, 18, 18, 18, 18, 18] r42_4 k E m Q ↔ Rg Tryd.prog TT S 4 [4, 4, 4, 4, 4, 4, 4, 4, 4, 4, 4, 4, 4, 18, 18, 18, 18, 18, 18] [] [4] (lgo E [3] (lops Tryd.prog (callw Tryd.prog TT S) [(some 7), (some 4)] (L42_4).1 E m)) k E Q := w_plain (by kernel_rfl) (L42_4).2
noncomputable def L42_5 : {l : List Oper // (opsOf r42_5).map strip = l} := by refine ⟨?l, ?h⟩; case h => simp only [r42_5, c42, bodyOf, Tryd.f42, Code.sub, opsOf, List.map_cons, List.map_nil, strip]; rfl
theorem w42_5 : W Tryd.prog TT S 4 [4, 4, 4, 4, 4, 4, 4, 4, 4, 4, 4, 4, 4, 18, 18, 18, 18, 18, 18] r42_5 k E m Q ↔ Rg Tryd.prog TT S 4 [4, 4, 4, 4, 4, 4, 4, 4, 4, 4, 4, 4, 4, 18, 18, 18, 18, 18, 18] [] [4] (lgo E [3] (lops Tryd.prog (callw Tryd.prog TT S) [(some 8), (some 4)] (L42_5).1 E m)) k E Q := w_plain (by kernel_rfl) (L42_5).2
noncomputable def L42_6 : {l : List Oper // (opsOf r42_6).map strip = l} := by refine ⟨?l, ?h⟩; case h => simp only [r42_6, c42, bodyOf, Tryd.f42, Code.sub, opsOf, List.map_cons, List.map_nil, strip]; rfl
theorem w42_6 : W Tryd.prog TT S 4 [4, 4, 4, 4, 4, 4, 4, 4, 4, 4, 4, 4, 4, 18, 18, 18, 18, 18, 18] r42_6 k E m Q ↔ Rg Tryd.prog TT S 4 [4, 4, 4, 4, 4, 4, 4, 4, 4, 4, 4, 4, 4, 18, 18, 18, 18, 18, 18] [] [4] (lgo E [3] (lops Tryd.prog (callw Tryd.prog TT S) [(some 9), (some 4)] (L42_6).1 E m)) k E Q := w_plain (by kernel_rfl) (L42_6).2
noncomputable def L42_7 : {l : List Oper // (opsOf r42_7).map strip = l} := by refine ⟨?l, ?h⟩; case h => simp only [r42_7, c42, bodyOf, Tryd.f42, Code.sub, opsOf, List.map_cons, List.map_nil, strip]; rfl
theorem w42_7 : W Tryd.prog TT S 4 [4, 4, 4, 4, 4, 4, 4, 4, 4, 4, 4, 4, 4, 18, 18, 18, 18, 18, 18] r42_7 k E m Q ↔ Rg Tryd.prog TT S 4 [4, 4, 4, 4, 4, 4, 4, 4, 4, 4, 4, 4, 4, 18, 18, 18, 18, 18, 18] [] [4] (lgo E [3] (lops Tryd.prog (callw Tryd.prog TT S) [(some 10), (some 4)] (L42_7).1 E m)) k E Q := w_plain (by kernel_rfl) (L42_7).2
noncomputable def L42_8 : {l : List Oper // (opsOf r42_8).map strip = l} := by refine ⟨?l, ?h⟩; case h => simp only [r42_8, c42, bodyOf, Tryd.f42, Code.sub, opsOf, List.map_cons, List.map_nil, strip]; rfl
theorem w42_8 : W Tryd.prog TT S 4 [4, 4, 4, 4, 4, 4, 4, 4, 4, 4, 4, 4, 4, 18, 18, 18, 18, 18, 18] r42_8 k E m Q ↔ Rg Tryd.prog TT S 4 [4, 4, 4, 4, 4, 4, 4, 4, 4, 4, 4, 4, 4, 18, 18, 18, 18, 18, 18] [] [4] (lgo E [3] (lops Tryd.prog (callw Tryd.prog TT S) [(some 11), (some 4)] (L42_8).1 E m)) k E Q := w_plain (by kernel_rfl) (L42_8).2
noncomputable def L42_9 : {l : List Oper // (opsOf r42_9).map strip = l} := by refine ⟨?l, ?h⟩; case h => simp only [r42_9, c42, bodyOf, Tryd.f42, Code.sub, opsOf, List.map_cons, List.map_nil, strip]; rfl
theorem w42_9 : W Tryd.prog TT S 4 [4, 4, 4, 4, 4, 4, 4, 4, 4, 4, 4, 4, 4, 18, 18, 18, 18, 18, 18] r42_9 k E m Q ↔ Rg Tryd.prog TT S 4 [4, 4, 4, 4, 4, 4, 4, 4, 4, 4, 4, 4, 4, 18, 18, 18, 18, 18, 18] [] [4] (lgo E [3] (lops Tryd.prog (callw Tryd.prog TT S) [(some 12), (some 4)] (L42_9).1 E m)) k E Q := w_plain (by kernel_rfl) (L42_9).2
noncomputable def L42_10 : {l : List Oper // (opsOf r42_10).map strip = l} := by refine ⟨?l, ?h⟩; case h => simp only [r42_10, c42, bodyOf, Tryd.f42, Code.sub, opsOf, List.map_cons, List.map_nil, strip]; rfl
theorem w42_10 : W Tryd.prog TT S 4 [4, 4, 4, 4, 4, 4, 4, 4, 4, 4, 4, 4, 4, 18, 18, 18, 18, 18, 18] r42_10 k E m Q ↔ Rg Tryd.prog TT S 4 [4, 4, 4, 4, 4, 4, 4, 4, 4, 4, 4, 4, 4, 18, 18, 18, 18, 18, 18] [] [4] (lgo E [3] (lops Tryd.prog (callw Tryd.prog TT S) [(some 13), (some 4)] (L42_10).1 E m)) k E Q := w_plain (by kernel_rfl) (L42_10).2
noncomputable def L42_11 : {l : List Oper // (opsOf r42_11).map strip = l} := by refine ⟨?l, ?h⟩; case h => simp only [r42_11, c42, bodyOf, Tryd.f42, Code.sub, opsOf, List.map_cons, List.map_nil, strip]; rfl
theorem w42_11 : W Tryd.prog TT S 4 [4, 4, 4, 4, 4, 4, 4, 4, 4, 4, 4, 4, 4, 18, 18, 18, 18, 18, 18] r42_11 k E m Q ↔ Rg Tryd.prog TT S 4 [4, 4, 4, 4, 4, 4, 4, 4, 4, 4, 4, 4, 4, 18, 18, 18, 18, 18, 18] [] [4] (lgo E [3] (lops Tryd.prog (callw Tryd.prog TT S) [(some 14), (some 4)] (L42_11).1 E m)) k E Q := w_plain (by kernel_rfl) (L42_11).2
noncomputable def L42_12 : {l : List Oper // (opsOf r42_12).map strip = l} := by refine ⟨?l, ?h⟩; case h => simp only [r42_12, c42, bodyOf, Tryd.f42, Code.sub, opsOf, List.map_cons, List.map_nil, strip]; rfl
theorem w42_12 : W Tryd.prog TT S 4 [4, 4, 4, 4, 4, 4, 4, 4, 4, 4, 4, 4, 4, 18, 18, 18, 18, 18, 18] r42_12 k E m Q ↔ Rg Tryd.prog TT S 4 [4, 4, 4, 4, 4, 4, 4, 4, 4, 4, 4, 4, 4, 18, 18, 18, 18, 18, 18] [] [4] (lgo E [3] (lops Tryd.prog (callw Tryd.prog TT S) [(some 15), (some 4)] (L42_12).1 E m)) k E Q := w_plain (by kernel_rfl) (L42_12).2
noncomputable def L42_13 : {l : List Oper // (opsOf r42_13).map strip = l} := by refine ⟨?l, ?h⟩; case h => simp only [r42_13, c42, bodyOf, Tryd.f42, Code.sub, opsOf, List.map_cons, List.map_nil, strip]; rfl
theorem w42_13 : W Tryd.prog TT S 4 [4, 4, 4, 4, 4, 4, 4, 4, 4, 4, 4, 4, 4, 18, 18, 18, 18, 18, 18] r42_13 k E m Q ↔ Rg Tryd.prog TT S 4 [4, 4, 4, 4, 4, 4, 4, 4, 4, 4, 4, 4, 4, 18, 18, 18, 18, 18, 18] [] [4] (lgo E [3] (lops Tryd.prog (callw Tryd.prog TT S) [(some 16), (some 4)] (L42_13).1 E m)) k E Q := w_plain (by kernel_rfl) (L42_13).2
noncomputable def L42_14 : {l : List Oper // (opsOf r42_14).map strip = l} := by refine ⟨?l, ?h⟩; case h => simp only [r42_14, c42, bodyOf, Tryd.f42, Code.sub, opsOf, List.map_cons, List.map_nil, strip]; rfl
theorem w42_14 : W Tryd.prog TT S 4 [4, 4, 4, 4, 4, 4, 4, 4, 4, 4, 4, 4, 4, 18, 18, 18, 18, 18, 18] r42_14 k E m Q ↔ Rg Tryd.prog TT S 4 [4, 4, 4, 4, 4, 4, 4, 4, 4, 4, 4, 4, 4, 18, 18, 18, 18, 18, 18] [] [4] (lgo E [3] (lops Tryd.prog (callw Tryd.prog TT S) [(some 17), (some 4)] (L42_14).1 E m)) k E Q := w_plain (by kernel_rfl) (L42_14).2
noncomputable def L42_15 : {l : List Oper // (opsOf r42_15).map strip = l} := by refine ⟨?l, ?h⟩; case h => simp only [r42_15, c42, bodyOf, Tryd.f42, Code.sub, opsOf, List.map_cons, List.map_nil, strip]; rfl
theorem w42_15 : W Tryd.prog TT S 4 [4, 4, 4, 4, 4, 4, 4, 4, 4, 4, 4, 4, 4, 18, 18, 18, 18, 18, 18] r42_15 k E m Q ↔ Rg Tryd.prog TT S 4 [4, 4, 4, 4, 4, 4, 4, 4, 4, 4, 4, 4, 4, 18, 18, 18, 18, 18, 18] [2] [] (lgo E [] (lops Tryd.prog (callw Tryd.prog TT S) [(some 2)] (L42_15).1 E m)) k E Q := w_plain (by kernel_rfl) (L42_15).2
noncomputable def L42_16 : {l : List Oper // (opsOf r42_16).map strip = l} := by refine ⟨?l, ?h⟩; case h => simp only [r42_16, c42, bodyOf, Tryd.f42, Code.sub, opsOf, List.map_cons, List.map_nil, strip]; rfl
theorem w42_16 : W Tryd.prog TT S 4 [4, 4, 4, 4, 4, 4, 4, 4, 4, 4, 4, 4, 4, 18, 18, 18, 18, 18, 18] r42_16 k E m Q ↔ Rg Tryd.prog TT S 4 [4, 4, 4, 4, 4, 4, 4, 4, 4, 4, 4, 4, 4, 18, 18, 18, 18, 18, 18] [] [18] (lgo E [3] (lops Tryd.prog (callw Tryd.prog TT S) [(some 19), (some 18)] (L42_16).1 E m)) k E Q := w_plain (by kernel_rfl) (L42_16).2
noncomputable def L42_17 : {l : List Oper // (opsOf r42_17).map strip = l} := by refine ⟨?l, ?h⟩; case h => simp only [r42_17, c42, bodyOf, Tryd.f42, Code.sub, opsOf, List.map_cons, List.map_nil, strip]; rfl
theorem w42_17 : W Tryd.prog TT S 4 [4, 4, 4, 4, 4, 4, 4, 4, 4, 4, 4, 4, 4, 18, 18, 18, 18, 18, 18] r42_17 k E m Q ↔ Rg Tryd.prog TT S 4 [4, 4, 4, 4, 4, 4, 4, 4, 4, 4, 4, 4, 4, 18, 18, 18, 18, 18, 18] [] [18] (lgo E [3] (lops Tryd.prog (callw Tryd.prog TT S) [(some 20), (some 18)] (L42_17).1 E m)) k E Q := w_plain (by kernel_rfl) (L42_17).2
noncomputable def L42_18 : {l : List Oper // (opsOf r42_18).map strip = l} := by refine ⟨?l, ?h⟩; case h => simp only [r42_18, c42, bodyOf, Tryd.f42, Code.sub, opsOf, List.map_cons, List.map_nil, strip]; rfl
theorem w42_18 : W Tryd.prog TT S 4 [4, 4, 4, 4, 4, 4, 4, 4, 4, 4, 4, 4, 4, 18, 18, 18, 18, 18, 18] r42_18 k E m Q ↔ Rg Tryd.prog TT S 4 [4, 4, 4, 4, 4, 4, 4, 4, 4, 4, 4, 4, 4, 18, 18, 18, 18, 18, 18] [] [18] (lgo E [3] (lops Tryd.prog (callw Tryd.prog TT S) [(some 21), (some 18)] (L42_18).1 E m)) k E Q := w_plain (by kernel_rfl) (L42_18).2
noncomputable def L42_19 : {l : List Oper // (opsOf r42_19).map strip = l} := by refine ⟨?l, ?h⟩; case h => simp only [r42_19, c42, bodyOf, Tryd.f42, Code.sub, opsOf, List.map_cons, List.map_nil, strip]; rfl
theorem w42_19 : W Tryd.prog TT S 4 [4, 4, 4, 4, 4, 4, 4, 4, 4, 4, 4, 4, 4, 18, 18, 18, 18, 18, 18] r42_19 k E m Q ↔ Rg Tryd.prog TT S 4 [4, 4, 4, 4, 4, 4, 4, 4, 4, 4, 4, 4, 4, 18, 18, 18, 18, 18, 18] [] [18] (lgo E [3] (lops Tryd.prog (callw Tryd.prog TT S) [(some 22), (some 18)] (L42_19).1 E m)) k E Q := w_plain (by kernel_rfl) (L42_19).2
noncomputable def L42_20 : {l : List Oper // (opsOf r42_20).map strip = l} := by refine ⟨?l, ?h⟩; case h => simp only [r42_20, c42, bodyOf, Tryd.f42, Code.sub, opsOf, List.map_cons, List.map_nil, strip]; rfl
theorem w42_20 : W Tryd.prog TT S 4 [4, 4, 4, 4, 4, 4, 4, 4, 4, 4, 4, 4, 4, 18, 18, 18, 18, 18, 18] r42_20 k E m Q ↔ Rg Tryd.prog TT S 4 [4, 4, 4, 4, 4, 4, 4, 4, 4, 4, 4, 4, 4, 18, 18, 18, 18, 18, 18] [] [18] (lgo E [3] (lops Tryd.prog (callw Tryd.prog TT S) [(some 23), (some 18)] (L42_20).1 E m)) k E Q := w_plain (by kernel_rfl) (L42_20).2
noncomputable def L42_21 : {l : List Oper // (opsOf r42_21).map strip = l} := by refine ⟨?l, ?h⟩; case h => simp only [r42_21, c42, bodyOf, Tryd.f42, Code.sub, opsOf, List.map_cons, List.map_nil, strip]; rfl
theorem w42_21 : W Tryd.prog TT S 4 [4, 4, 4, 4, 4, 4, 4, 4, 4, 4, 4, 4, 4, 18, 18, 18, 18, 18, 18] r42_21 k E m Q ↔ Rg Tryd.prog TT S 4 [4, 4, 4, 4, 4, 4, 4, 4, 4, 4, 4, 4, 4, 18, 18, 18, 18, 18, 18] [] [18] (lgo E [3] (lops Tryd.prog (callw Tryd.prog TT S) [(some 24), (some 18)] (L42_21).1 E m)) k E Q := w_plain (by kernel_rfl) (L42_21).2
noncomputable def L42_22 : {l : List Oper // (opsOf r42_22).map strip = l} := by refine ⟨?l, ?h⟩; case h => simp only [r42_22, c42, bodyOf, Tryd.f42, Code.sub, opsOf, List.map_cons, List.map_nil, strip]; rfl
theorem w42_22 : W Tryd.prog TT S 4 [4, 4, 4, 4, 4, 4, 4, 4, 4, 4, 4, 4, 4, 18, 18, 18, 18, 18, 18] r42_22 k E m Q ↔ Rg Tryd.prog TT S 4 [4, 4, 4, 4, 4, 4, 4, 4, 4, 4, 4, 4, 4, 18, 18, 18, 18, 18, 18] [2] [] (lgo E [] (lops Tryd.prog (callw Tryd.prog TT S) [(some 2)] (L42_22).1 E m)) k E Q := w_plain (by kernel_rfl) (L42_22).2
noncomputable def L42_23 : {l : List Oper // (opsOf r42_23).map strip = l} := by refine ⟨?l, ?h⟩; case h => simp only [r42_23, c42, bodyOf, Tryd.f42, Code.sub, opsOf, List.map_cons, List.map_nil, strip]; rfl
theorem w42_23 : W Tryd.prog TT S 4 [4, 4, 4, 4, 4, 4, 4, 4, 4, 4, 4, 4, 4, 18, 18, 18, 18, 18, 18] r42_23 k E m Q ↔ Rg Tryd.prog TT S 4 [4, 4, 4, 4, 4, 4, 4, 4, 4, 4, 4, 4, 4, 18, 18, 18, 18, 18, 18] [2] [] (lgo E [] (lops Tryd.prog (callw Tryd.prog TT S) [(some 2)] (L42_23).1 E m)) k E Q := w_plain (by kernel_rfl) (L42_23).2
theorem k42 : FnIs TT 42 c42 [.tmp 2] 1 := ⟨Tryd.f42, by kernel_rfl, by simp only [Tryd.f42, c42, bodyOf], by kernel_rfl, of_decide_eq_true (by kernel_rfl)⟩

/- what rewriting uses in the walks -/
attribute [simp] w_seq w_cond_tmp w_ret w_skip w_exit w_block w_loop r_nil r_seq r_seq_ret r_seq_exit r_block
attribute [simp] r_block_ret r_block_exit r_loop r_loop_ret r_loop_exit cnd_t cnd_f rg_some lgo_n lgo_c lops_nil lops_cons
attribute [simp] lk_some lop1_plain lop1_guard gdv_b gdv_u gd_tt gd_ff gd_tf gd_ft lput_s lput_n lev_t
attribute [simp] lev_c lev_g lev_f lget_n lget_c lset_n lset_c lkeep_n lkeep_c lsets_n lsets_c lconds_n
attribute [simp] lconds_c lfill qf_d okx lresults lresultsL lres_tmp o_move o_assign o_bin o_pick o_nilCheck
attribute [simp] o_fieldAddr o_load o_len o_store o_conv o_un o_extract o_append o_call2 o_callv o_buildSlice o_box
attribute [simp] o_alloc o_build o_indexAddr o_slice o_index o_field o_makeFunc o_makeSlice o_min o_max loOf_none loOf_some
attribute [simp] hiOf_none hiOf_some natOf_int sliceS_some strOp sz_str cat_str list_str s_binOp fastBin s_unOp fastUn
attribute [simp] boolEq int_beq int_bne txt_beq one_int one_slice one_ptr one_bool one_str cells_int cells_slice cells_ptr
attribute [simp] cells_bool cells_str cells_agg flatEq_n flatEq_c ba_beq closedA_l closedL_n closedL_c closedV_int closedV_str closedV_bool
attribute [simp] loadRow_new window over Instr.fill repl lst_nil lst_cons lks_some lkc_some lloud_some lreads_n lreads_c
attribute [simp] lsame_d eqV_int eqV_slice eqV_ptr eqV_agg eqL_n eqL_c eqV_str eqV_bool eqV_undef
attribute [simp] body6 w6_0 L6_0 w6_1 L6_1 w6_2 L6_2 w6_3 L6_3 w6_4 L6_4 w6_5 L6_5 w6_6 L6_6 w6_7 L6_7 w6_8 L6_8 w6_9 L6_9 w6_10 L6_10 w6_11 L6_11 w6_12 L6_12 w6_13 L6_13 w6_14 L6_14
attribute [simp] body13 w13_0 L13_0 w13_1 L13_1 w13_2 L13_2 w13_3 L13_3 w13_4 L13_4 w13_5 L13_5 w13_6 L13_6 w13_7 L13_7
attribute [simp] body14 w14_0 L14_0 w14_1 L14_1
attribute [simp] body15 w15_0 L15_0 w15_1 L15_1 w15_2 L15_2 w15_3 L15_3
attribute [simp] body16 w16_0 L16_0 w16_1 L16_1 w16_2 L16_2 w16_3 L16_3 w16_4 L16_4
attribute [simp] body17 w17_0 L17_0 w17_1 L17_1 w17_2 L17_2 w17_3 L17_3 w17_4 L17_4 w17_5 L17_5 w17_6 L17_6 w17_7 L17_7 w17_8 L17_8 w17_9 L17_9 w17_10 L17_10 w17_11 L17_11 w17_12 L17_12 w17_13 L17_13 w17_14 L17_14 w17_15 L17_15 w17_16 L17_16 w17_17 L17_17 w17_18 L17_18 w17_19 L17_19 w17_20 L17_20 w17_21 L17_21 w17_22 L17_22 w17_23 L17_23 w17_24 L17_24 w17_25 L17_25 w17_26 L17_26 w17_27 L17_27 w17_28 L17_28
attribute [simp] body18 w18_0 L18_0 w18_1 L18_1
attribute [simp] body42 w42_0 L42_0 w42_1 L42_1 w42_2 L42_2 w42_3 L42_3 w42_4 L42_4 w42_5 L42_5 w42_6 L42_6 w42_7 L42_7 w42_8 L42_8 w42_9 L42_9 w42_10 L42_10 w42_11 L42_11 w42_12 L42_12 w42_13 L42_13 w42_14 L42_14 w42_15 L42_15 w42_16 L42_16 w42_17 L42_17 w42_18 L42_18 w42_19 L42_19 w42_20 L42_20 w42_21 L42_21 w42_22 L42_22 w42_23 L42_23
end Go.Proofs.YtcgmchechmbmeaaDoor.gen

