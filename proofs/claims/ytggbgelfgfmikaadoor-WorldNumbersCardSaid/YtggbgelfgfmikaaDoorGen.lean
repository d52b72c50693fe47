/-
  This text names the regions of the functions that are walked, with the slots that they read and set, and the facts of the types.
  No condition.
-/
import Derived.Test.YtggbgelfgfmikaaDoorProg
import Derived.Test.YtggbgelfgfmikaaDoorShD
set_option maxRecDepth 100000
set_option linter.unusedSimpArgs false
set_option linter.unusedVariables false
namespace Go.Proofs.YtggbgelfgfmikaaDoor.gen
open Go.Sh
def fns : List FuncId := [3, 4, 5, 8, 9, 10, 11, 12, 13, 14, 15, 16, 17, 18, 19, 20, 21, 37, 40, 41, 42, 43, 44, 45, 46, 47, 48, 55, 56, 57, 58, 59, 60, 63, 64, 65, 66, 68, 69, 70, 72, 73, 74]
noncomputable def TT : FuncId → Option Func := Sh.tabOf Tryd.prog fns
variable {S : Sums} {m : Mem} {k : List Fr} {E : LEnv} {Q : Post}
theorem ap2 : apOk Tryd.prog 2 1 8 = true := by kernel_rfl
theorem ap22 : apOk Tryd.prog 22 1 8 = true := by kernel_rfl
theorem ap5 : apOk Tryd.prog 5 1 1 = true := by kernel_rfl
theorem ap78 : apOk Tryd.prog 78 5 80 = true := by kernel_rfl
theorem ap82 : apOk Tryd.prog 82 2 24 = true := by kernel_rfl
theorem ap9 : apOk Tryd.prog 9 1 16 = true := by kernel_rfl
theorem b31 : (Tryd.prog.info? 31).isSome = true := by kernel_rfl
theorem b74 : (Tryd.prog.info? 74).isSome = true := by kernel_rfl
theorem b92 : (Tryd.prog.info? 92).isSome = true := by kernel_rfl
theorem bo31 : buildOk Tryd.prog 31 [.slice none 0 0, .slice none 0 0, .int .i64 0, .slice none 0 0, .slice none 0 0] [(0, 1), (1, 1), (2, 1), (3, 1), (4, 1)] = true := by kernel_rfl
theorem bo74 : buildOk Tryd.prog 74 [.slice none 0 0, .pointer none, .slice none 0 0, .slice none 0 0, .int .i64 0, .slice none 0 0] [(0, 1), (1, 1), (2, 1), (3, 1), (4, 1), (5, 1)] = true := by kernel_rfl
theorem bo78 : buildOk Tryd.prog 78 [.int .i64 0, .string ⟨#[]⟩, .int .i64 0, .slice none 0 0, .slice none 0 0] [(0, 1), (1, 1), (2, 1), (3, 1), (4, 1)] = true := by kernel_rfl
theorem bo82 : buildOk Tryd.prog 82 [.string ⟨#[]⟩, .int .i64 0] [(0, 1), (1, 1)] = true := by kernel_rfl
theorem bo92 : buildOk Tryd.prog 92 [.slice none 0 0, .int .i64 0] [(0, 1), (1, 1)] = true := by kernel_rfl
theorem bs2 : bsOk Tryd.prog 2 [.int .i64 0] = true := by kernel_rfl
theorem bs22 : bsOk Tryd.prog 22 [.int .u64 0] = true := by kernel_rfl
theorem bs5 : bsOk Tryd.prog 5 [.int .u8 0] = true := by kernel_rfl
theorem bs78 : bsOk Tryd.prog 78 [.int .i64 0, .string ⟨#[]⟩, .int .i64 0, .slice none 0 0, .slice none 0 0] = true := by kernel_rfl
theorem bs82 : bsOk Tryd.prog 82 [.string ⟨#[]⟩, .int .i64 0] = true := by kernel_rfl
theorem bs9 : bsOk Tryd.prog 9 [.string ⟨#[]⟩] = true := by kernel_rfl
theorem fa31_0 : faOk Tryd.prog 31 0 0 = true := by kernel_rfl
theorem fa31_3 : faOk Tryd.prog 31 3 3 = true := by kernel_rfl
theorem fa74_0 : faOk Tryd.prog 74 0 0 = true := by kernel_rfl
theorem fa74_1 : faOk Tryd.prog 74 1 1 = true := by kernel_rfl
theorem fa74_2 : faOk Tryd.prog 74 2 2 = true := by kernel_rfl
theorem fa74_5 : faOk Tryd.prog 74 5 5 = true := by kernel_rfl
theorem fa78_0 : faOk Tryd.prog 78 0 0 = true := by kernel_rfl
theorem fa78_3 : faOk Tryd.prog 78 3 3 = true := by kernel_rfl
theorem fa92_0 : faOk Tryd.prog 92 0 0 = true := by kernel_rfl
theorem fa92_1 : faOk Tryd.prog 92 1 1 = true := by kernel_rfl
theorem ld2 : ldOk Tryd.prog 2 = true := by kernel_rfl
theorem ld22 : ldOk Tryd.prog 22 = true := by kernel_rfl
theorem ld26 : ldOk Tryd.prog 26 = true := by kernel_rfl
theorem ld28 : ldOk Tryd.prog 28 = true := by kernel_rfl
theorem ld3 : ldOk Tryd.prog 3 = true := by kernel_rfl
theorem ld31 : agOk Tryd.prog 31 5 = true := by kernel_rfl
theorem ld44 : ldOk Tryd.prog 44 = true := by kernel_rfl
theorem ld56 : ldOk Tryd.prog 56 = true := by kernel_rfl
theorem ld75 : ldOk Tryd.prog 75 = true := by kernel_rfl
theorem ld78 : agOk Tryd.prog 78 5 = true := by kernel_rfl
theorem ld9 : ldOk Tryd.prog 9 = true := by kernel_rfl
theorem sz10 : sizeOfT Tryd.prog 10 = some 1 := by kernel_rfl
theorem sz104 : sizeOfT Tryd.prog 104 = some 1 := by kernel_rfl
theorem sz11 : sizeOfT Tryd.prog 11 = some 1 := by kernel_rfl
theorem sz117 : sizeOfT Tryd.prog 117 = some 1 := by kernel_rfl
theorem sz118 : sizeOfT Tryd.prog 118 = some 1 := by kernel_rfl
theorem sz12 : sizeOfT Tryd.prog 12 = some 1 := by kernel_rfl
theorem sz121 : sizeOfT Tryd.prog 121 = some 1 := by kernel_rfl
theorem sz122 : sizeOfT Tryd.prog 122 = some 1 := by kernel_rfl
theorem sz125 : sizeOfT Tryd.prog 125 = some 1 := by kernel_rfl
theorem sz126 : sizeOfT Tryd.prog 126 = some 1 := by kernel_rfl
theorem sz2 : sizeOfT Tryd.prog 2 = some 1 := by kernel_rfl
theorem sz21 : sizeOfT Tryd.prog 21 = some 1 := by kernel_rfl
theorem sz22 : sizeOfT Tryd.prog 22 = some 1 := by kernel_rfl
theorem sz26 : sizeOfT Tryd.prog 26 = some 1 := by kernel_rfl
theorem sz27 : sizeOfT Tryd.prog 27 = some 1 := by kernel_rfl
theorem sz28 : sizeOfT Tryd.prog 28 = some 1 := by kernel_rfl
theorem sz29 : sizeOfT Tryd.prog 29 = some 1 := by kernel_rfl
theorem sz3 : sizeOfT Tryd.prog 3 = some 1 := by kernel_rfl
theorem sz31 : sizeOfT Tryd.prog 31 = some 5 := by kernel_rfl
theorem sz4 : sizeOfT Tryd.prog 4 = some 1 := by kernel_rfl
theorem sz5 : sizeOfT Tryd.prog 5 = some 1 := by kernel_rfl
theorem sz52 : sizeOfT Tryd.prog 52 = some 1 := by kernel_rfl
theorem sz56 : sizeOfT Tryd.prog 56 = some 1 := by kernel_rfl
theorem sz6 : sizeOfT Tryd.prog 6 = some 1 := by kernel_rfl
theorem sz70 : sizeOfT Tryd.prog 70 = some 1 := by kernel_rfl
theorem sz75 : sizeOfT Tryd.prog 75 = some 1 := by kernel_rfl
theorem sz76 : sizeOfT Tryd.prog 76 = some 1 := by kernel_rfl
theorem sz78 : sizeOfT Tryd.prog 78 = some 5 := by kernel_rfl
theorem sz82 : sizeOfT Tryd.prog 82 = some 2 := by kernel_rfl
theorem sz89 : sizeOfT Tryd.prog 89 = some 1 := by kernel_rfl
theorem sz9 : sizeOfT Tryd.prog 9 = some 1 := by kernel_rfl
theorem sz96 : sizeOfT Tryd.prog 96 = some 1 := by kernel_rfl
theorem u10 : Tryd.prog.underlying 10 = some .string := by kernel_rfl
theorem u103 : Tryd.prog.underlying 103 = some (.array 20 22) := by kernel_rfl
theorem u104 : Tryd.prog.underlying 104 = some (.int .u32) := by kernel_rfl
theorem u11 : Tryd.prog.underlying 11 = some .string := by kernel_rfl
theorem u117 : Tryd.prog.underlying 117 = some (.int .u8) := by kernel_rfl
theorem u118 : Tryd.prog.underlying 118 = some (.int .u8) := by kernel_rfl
theorem u12 : Tryd.prog.underlying 12 = some (.int .u64) := by kernel_rfl
theorem u121 : Tryd.prog.underlying 121 = some (.int .i32) := by kernel_rfl
theorem u122 : Tryd.prog.underlying 122 = some (.int .i32) := by kernel_rfl
theorem u125 : Tryd.prog.underlying 125 = some (.slice 3) := by kernel_rfl
theorem u126 : Tryd.prog.underlying 126 = some (.slice 133) := by kernel_rfl
theorem u2 : Tryd.prog.underlying 2 = some (.int .i64) := by kernel_rfl
theorem u21 : Tryd.prog.underlying 21 = some (.int .i32) := by kernel_rfl
theorem u22 : Tryd.prog.underlying 22 = some (.int .u64) := by kernel_rfl
theorem u23 : Tryd.prog.underlying 23 = some (.pointer 74) := by kernel_rfl
theorem u26 : Tryd.prog.underlying 26 = some (.slice 78) := by kernel_rfl
theorem u27 : Tryd.prog.underlying 27 = some (.slice 128) := by kernel_rfl
theorem u28 : Tryd.prog.underlying 28 = some (.slice 9) := by kernel_rfl
theorem u29 : Tryd.prog.underlying 29 = some (.slice 2) := by kernel_rfl
theorem u3 : Tryd.prog.underlying 3 = some (.int .i64) := by kernel_rfl
theorem u4 : Tryd.prog.underlying 4 = some .bool := by kernel_rfl
theorem u44 : Tryd.prog.underlying 44 = some (.pointer 92) := by kernel_rfl
theorem u5 : Tryd.prog.underlying 5 = some (.int .u8) := by kernel_rfl
theorem u52 : Tryd.prog.underlying 52 = some (.slice 58) := by kernel_rfl
theorem u56 : Tryd.prog.underlying 56 = some (.slice 22) := by kernel_rfl
theorem u6 : Tryd.prog.underlying 6 = some (.int .u8) := by kernel_rfl
theorem u70 : Tryd.prog.underlying 70 = some (.int .i64) := by kernel_rfl
theorem u75 : Tryd.prog.underlying 75 = some (.slice 82) := by kernel_rfl
theorem u76 : Tryd.prog.underlying 76 = some (.slice 130) := by kernel_rfl
theorem u89 : Tryd.prog.underlying 89 = some (.slice 5) := by kernel_rfl
theorem u9 : Tryd.prog.underlying 9 = some .string := by kernel_rfl
theorem u96 : Tryd.prog.underlying 96 = some (.int .u64) := by kernel_rfl
theorem u98 : Tryd.prog.underlying 98 = some (.array 24 5) := by kernel_rfl
theorem zo31 : zeroOk Tryd.prog 31 [.slice none 0 0, .slice none 0 0, .int .i64 0, .slice none 0 0, .slice none 0 0] = true := by kernel_rfl
theorem zo78 : zeroOk Tryd.prog 78 [.int .i64 0, .string ⟨#[]⟩, .int .i64 0, .slice none 0 0, .slice none 0 0] = true := by kernel_rfl
theorem zo98 : zeroOk Tryd.prog 98 [.int .u8 0, .int .u8 0, .int .u8 0, .int .u8 0, .int .u8 0, .int .u8 0, .int .u8 0, .int .u8 0, .int .u8 0, .int .u8 0, .int .u8 0, .int .u8 0, .int .u8 0, .int .u8 0, .int .u8 0, .int .u8 0, .int .u8 0, .int .u8 0, .int .u8 0, .int .u8 0, .int .u8 0, .int .u8 0, .int .u8 0, .int .u8 0] = true := by kernel_rfl

/- turnstonelaw10.WorldFull -/
noncomputable def c3 : Code := bodyOf Tryd.f3
noncomputable def r3_0 : Code := Code.sub [0] c3
noncomputable def r3_1 : Code := Code.sub [1, 0] c3
noncomputable def r3_2 : Code := Code.sub [1, 1, 0, 0] c3
noncomputable def r3_3 : Code := Code.sub [1, 1, 0, 1, 0, 0] c3
noncomputable def r3_4 : Code := Code.sub [1, 1, 1, 0] c3
noncomputable def r3_5 : Code := Code.sub [1, 1, 1, 1, 0, 0] c3
noncomputable def r3_6 : Code := Code.sub [1, 1, 1, 1, 0, 1, 0, 0, 0, 0] c3
noncomputable def r3_7 : Code := Code.sub [1, 1, 1, 1, 0, 1, 0, 0, 1, 0, 0] c3
noncomputable def r3_8 : Code := Code.sub [1, 1, 1, 1, 0, 1, 0, 0, 1, 1] c3
noncomputable def r3_9 : Code := Code.sub [1, 1, 1, 1, 1, 0] c3
noncomputable def r3_10 : Code := Code.sub [1, 1, 1, 1, 1, 1, 0] c3
theorem body3 : c3 = (.seq r3_0 (.seq r3_1 (.seq (.seq r3_2 (.cond (.tmp 23) (.seq r3_3 .ret) .skip)) (.seq r3_4 (.seq (.seq r3_5 (.block 0 (.loop (.seq (.seq r3_6 (.cond (.tmp 29) .skip (.exit 0))) (.seq (.block 1 r3_7) r3_8))))) (.seq r3_9 (.seq r3_10 .ret))))))) := by kernel_rfl
noncomputable def L3_0 : {l : List Oper // (opsOf r3_0).map strip = l} := by refine ⟨?l, ?h⟩; case h => simp only [r3_0, c3, bodyOf, Tryd.f3, Code.sub, opsOf, List.map_cons, List.map_nil, strip]; rfl
theorem w3_0 : W Tryd.prog TT S 9 [23, 29] r3_0 k E m Q ↔ Rg Tryd.prog TT S 9 [23, 29] [4] [] (lgo E [] (lops Tryd.prog (callw Tryd.prog TT S) [(some 4)] (L3_0).1 E m)) k E Q := w_plain (by kernel_rfl) (L3_0).2
noncomputable def L3_1 : {l : List Oper // (opsOf r3_1).map strip = l} := by refine ⟨?l, ?h⟩; case h => simp only [r3_1, c3, bodyOf, Tryd.f3, Code.sub, opsOf, List.map_cons, List.map_nil, strip]; rfl
theorem w3_1 : W Tryd.prog TT S 9 [23, 29] r3_1 k E m Q ↔ Rg Tryd.prog TT S 9 [23, 29] [5, 6] [] (lgo E [] (lops Tryd.prog (callw Tryd.prog TT S) [(some 10), (some 11), (some 9), (some 12), (some 13), (some 5), (some 6)] (L3_1).1 E m)) k E Q := w_plain (by kernel_rfl) (L3_1).2
noncomputable def L3_2 : {l : List Oper // (opsOf r3_2).map strip = l} := by refine ⟨?l, ?h⟩; case h => simp only [r3_2, c3, bodyOf, Tryd.f3, Code.sub, opsOf, List.map_cons, List.map_nil, strip]; rfl
theorem w3_2 : W Tryd.prog TT S 9 [23, 29] r3_2 k E m Q ↔ Rg Tryd.prog TT S 9 [23, 29] [] [23] (lgo E [6, 5] (lops Tryd.prog (callw Tryd.prog TT S) [(some 14), (some 15), (some 16), (some 17), (some 18), (some 19), (some 20), (some 21), (some 22), (some 23)] (L3_2).1 E m)) k E Q := w_plain (by kernel_rfl) (L3_2).2
noncomputable def L3_3 : {l : List Oper // (opsOf r3_3).map strip = l} := by refine ⟨?l, ?h⟩; case h => simp only [r3_3, c3, bodyOf, Tryd.f3, Code.sub, opsOf, List.map_cons, List.map_nil, strip]; rfl
theorem w3_3 : W Tryd.prog TT S 9 [23, 29] r3_3 k E m Q ↔ Rg Tryd.prog TT S 9 [23, 29] [4] [] (lgo E [] (lops Tryd.prog (callw Tryd.prog TT S) [(some 4)] (L3_3).1 E m)) k E Q := w_plain (by kernel_rfl) (L3_3).2
noncomputable def L3_4 : {l : List Oper // (opsOf r3_4).map strip = l} := by refine ⟨?l, ?h⟩; case h => simp only [r3_4, c3, bodyOf, Tryd.f3, Code.sub, opsOf, List.map_cons, List.map_nil, strip]; rfl
theorem w3_4 : W Tryd.prog TT S 9 [23, 29] r3_4 k E m Q ↔ Rg Tryd.prog TT S 9 [23, 29] [0] [] (lgo E [0] (lops Tryd.prog (callw Tryd.prog TT S) [(some 24), (some 25), (some 26), (some 0)] (L3_4).1 E m)) k E Q := w_plain (by kernel_rfl) (L3_4).2
noncomputable def L3_5 : {l : List Oper // (opsOf r3_5).map strip = l} := by refine ⟨?l, ?h⟩; case h => simp only [r3_5, c3, bodyOf, Tryd.f3, Code.sub, opsOf, List.map_cons, List.map_nil, strip]; rfl
theorem w3_5 : W Tryd.prog TT S 9 [23, 29] r3_5 k E m Q ↔ Rg Tryd.prog TT S 9 [23, 29] [7] [] (lgo E [] (lops Tryd.prog (callw Tryd.prog TT S) [(some 7)] (L3_5).1 E m)) k E Q := w_plain (by kernel_rfl) (L3_5).2
noncomputable def L3_6 : {l : List Oper // (opsOf r3_6).map strip = l} := by refine ⟨?l, ?h⟩; case h => simp only [r3_6, c3, bodyOf, Tryd.f3, Code.sub, opsOf, List.map_cons, List.map_nil, strip]; rfl
theorem w3_6 : W Tryd.prog TT S 9 [23, 29] r3_6 k E m Q ↔ Rg Tryd.prog TT S 9 [23, 29] [] [29] (lgo E [7, 0] (lops Tryd.prog (callw Tryd.prog TT S) [(some 27), (some 28), (some 29)] (L3_6).1 E m)) k E Q := w_plain (by kernel_rfl) (L3_6).2
noncomputable def L3_7 : {l : List Oper // (opsOf r3_7).map strip = l} := by refine ⟨?l, ?h⟩; case h => simp only [r3_7, c3, bodyOf, Tryd.f3, Code.sub, opsOf, List.map_cons, List.map_nil, strip]; rfl
theorem w3_7 : W Tryd.prog TT S 9 [23, 29] r3_7 k E m Q ↔ Rg Tryd.prog TT S 9 [23, 29] [] [] (lgo E [5, 1, 7] (lops Tryd.prog (callw Tryd.prog TT S) [(some 32), (some 33), (some 34), (some 35), (some 36), (some 37)] (L3_7).1 E m)) k E Q := w_plain (by kernel_rfl) (L3_7).2
noncomputable def L3_8 : {l : List Oper // (opsOf r3_8).map strip = l} := by refine ⟨?l, ?h⟩; case h => simp only [r3_8, c3, bodyOf, Tryd.f3, Code.sub, opsOf, List.map_cons, List.map_nil, strip]; rfl
theorem w3_8 : W Tryd.prog TT S 9 [23, 29] r3_8 k E m Q ↔ Rg Tryd.prog TT S 9 [23, 29] [7] [] (lgo E [7] (lops Tryd.prog (callw Tryd.prog TT S) [(some 30), (some 31), (some 7)] (L3_8).1 E m)) k E Q := w_plain (by kernel_rfl) (L3_8).2
noncomputable def L3_9 : {l : List Oper // (opsOf r3_9).map strip = l} := by refine ⟨?l, ?h⟩; case h => simp only [r3_9, c3, bodyOf, Tryd.f3, Code.sub, opsOf, List.map_cons, List.map_nil, strip]; rfl
theorem w3_9 : W Tryd.prog TT S 9 [23, 29] r3_9 k E m Q ↔ Rg Tryd.prog TT S 9 [23, 29] [8] [] (lgo E [5] (lops Tryd.prog (callw Tryd.prog TT S) [(some 38), (some 39), (some 8)] (L3_9).1 E m)) k E Q := w_plain (by kernel_rfl) (L3_9).2
theorem can3_10 : canonOps (opsOf r3_10) = opsOf r3_10 := by kernel_rfl
noncomputable def L3_10 : {l : List Oper // (canonOps (opsOf r3_10)).map strip = l} := by refine ⟨?l, (congrArg (List.map strip) can3_10).trans ?h⟩; case h => simp only [r3_10, c3, bodyOf, Tryd.f3, Code.sub, opsOf, List.map_cons, List.map_nil, strip]; rfl
theorem w3_10 : W Tryd.prog TT S 9 [23, 29] r3_10 k E m Q ↔ Rg Tryd.prog TT S 9 [23, 29] [4] [] (lgo E [5, 0, 8, 1] (lloud Tryd.prog (callw Tryd.prog TT S) [(some 40), (some 41), (some 42), (some 43), (some 44), (some 45), (some 46), (some 47), (some 48), (some 49), (some 50), (some 51), (some 52), (some 53), (some 54), (some 55), (some 56), (some 57), (some 58), (some 59), (some 60), (some 4)] (L3_10).1 [(1, [7]), (15, [18, 22]), (17, [18])] (lstates Tryd.prog (callw Tryd.prog TT S) [(some 40), (some 41), (some 42), (some 43), (some 44), (some 45), (some 46), (some 47), (some 48), (some 49), (some 50), (some 51), (some 52), (some 53), (some 54), (some 55), (some 56), (some 57), (some 58), (some 59), (some 60), (some 4)] (L3_10).1 E m))) k E Q := w_loud (by kernel_rfl) (L3_10).2
theorem k3 : FnIs TT 3 c3 [.tmp 4] 2 := ⟨Tryd.f3, by kernel_rfl, by simp only [Tryd.f3, c3, bodyOf], by kernel_rfl, of_decide_eq_true (by kernel_rfl)⟩

/- turnstonelaw10.WorldNumbers -/
noncomputable def c4 : Code := bodyOf Tryd.f4
noncomputable def r4_0 : Code := Code.sub [0] c4
noncomputable def r4_1 : Code := Code.sub [1, 0] c4
noncomputable def r4_2 : Code := Code.sub [1, 1, 0, 0] c4
noncomputable def r4_3 : Code := Code.sub [1, 1, 0, 1, 0, 0] c4
noncomputable def r4_4 : Code := Code.sub [1, 1, 1, 0] c4
noncomputable def r4_5 : Code := Code.sub [1, 1, 1, 1, 0, 0] c4
noncomputable def r4_6 : Code := Code.sub [1, 1, 1, 1, 0, 1, 0, 0, 0, 0] c4
noncomputable def r4_7 : Code := Code.sub [1, 1, 1, 1, 0, 1, 0, 0, 1, 0, 0, 0] c4
noncomputable def r4_8 : Code := Code.sub [1, 1, 1, 1, 0, 1, 0, 0, 1, 0, 0, 1] c4
noncomputable def r4_9 : Code := Code.sub [1, 1, 1, 1, 0, 1, 0, 0, 1, 1] c4
noncomputable def r4_10 : Code := Code.sub [1, 1, 1, 1, 1, 0] c4
noncomputable def r4_11 : Code := Code.sub [1, 1, 1, 1, 1, 1, 0, 0] c4
noncomputable def r4_12 : Code := Code.sub [1, 1, 1, 1, 1, 1, 0, 1, 0, 0] c4
noncomputable def r4_13 : Code := Code.sub [1, 1, 1, 1, 1, 1, 1, 0, 0] c4
noncomputable def r4_14 : Code := Code.sub [1, 1, 1, 1, 1, 1, 1, 0, 1, 0, 0, 0, 0] c4
noncomputable def r4_15 : Code := Code.sub [1, 1, 1, 1, 1, 1, 1, 0, 1, 0, 0, 1, 0, 0, 0] c4
noncomputable def r4_16 : Code := Code.sub [1, 1, 1, 1, 1, 1, 1, 0, 1, 0, 0, 1, 0, 0, 1, 0, 0] c4
noncomputable def r4_17 : Code := Code.sub [1, 1, 1, 1, 1, 1, 1, 0, 1, 0, 0, 1, 0, 0, 1, 0, 1, 0] c4
noncomputable def r4_18 : Code := Code.sub [1, 1, 1, 1, 1, 1, 1, 0, 1, 0, 0, 1, 0, 0, 1, 1, 0] c4
noncomputable def r4_19 : Code := Code.sub [1, 1, 1, 1, 1, 1, 1, 0, 1, 0, 0, 1, 0, 0, 1, 1, 1, 0, 0] c4
noncomputable def r4_20 : Code := Code.sub [1, 1, 1, 1, 1, 1, 1, 0, 1, 0, 0, 1, 1] c4
noncomputable def r4_21 : Code := Code.sub [1, 1, 1, 1, 1, 1, 1, 1, 0] c4
theorem body4 : c4 = (.seq r4_0 (.seq r4_1 (.seq (.seq r4_2 (.cond (.tmp 24) (.seq r4_3 .ret) .skip)) (.seq r4_4 (.seq (.seq r4_5 (.block 0 (.loop (.seq (.seq r4_6 (.cond (.tmp 30) .skip (.exit 0))) (.seq (.block 1 (.seq r4_7 r4_8)) r4_9))))) (.seq r4_10 (.seq (.seq r4_11 (.cond (.tmp 54) (.seq r4_12 .ret) .skip)) (.seq (.seq r4_13 (.block 2 (.loop (.seq (.seq r4_14 (.cond (.tmp 57) .skip (.exit 2))) (.seq (.block 3 (.seq r4_15 (.seq (.seq r4_16 (.cond (.tmp 66) r4_17 .skip)) (.seq r4_18 (.cond (.tmp 87) (.seq r4_19 .ret) .skip))))) r4_20))))) (.seq r4_21 .ret))))))))) := by kernel_rfl
noncomputable def L4_0 : {l : List Oper // (opsOf r4_0).map strip = l} := by refine ⟨?l, ?h⟩; case h => simp only [r4_0, c4, bodyOf, Tryd.f4, Code.sub, opsOf, List.map_cons, List.map_nil, strip]; rfl
theorem w4_0 : W Tryd.prog TT S 10 [24, 30, 54, 57, 66, 87] r4_0 k E m Q ↔ Rg Tryd.prog TT S 10 [24, 30, 54, 57, 66, 87] [2] [] (lgo E [] (lops Tryd.prog (callw Tryd.prog TT S) [(some 2)] (L4_0).1 E m)) k E Q := w_plain (by kernel_rfl) (L4_0).2
noncomputable def L4_1 : {l : List Oper // (opsOf r4_1).map strip = l} := by refine ⟨?l, ?h⟩; case h => simp only [r4_1, c4, bodyOf, Tryd.f4, Code.sub, opsOf, List.map_cons, List.map_nil, strip]; rfl
theorem w4_1 : W Tryd.prog TT S 10 [24, 30, 54, 57, 66, 87] r4_1 k E m Q ↔ Rg Tryd.prog TT S 10 [24, 30, 54, 57, 66, 87] [3, 4] [] (lgo E [] (lops Tryd.prog (callw Tryd.prog TT S) [(some 11), (some 12), (some 10), (some 13), (some 14), (some 3), (some 4)] (L4_1).1 E m)) k E Q := w_plain (by kernel_rfl) (L4_1).2
noncomputable def L4_2 : {l : List Oper // (opsOf r4_2).map strip = l} := by refine ⟨?l, ?h⟩; case h => simp only [r4_2, c4, bodyOf, Tryd.f4, Code.sub, opsOf, List.map_cons, List.map_nil, strip]; rfl
theorem w4_2 : W Tryd.prog TT S 10 [24, 30, 54, 57, 66, 87] r4_2 k E m Q ↔ Rg Tryd.prog TT S 10 [24, 30, 54, 57, 66, 87] [] [24] (lgo E [4, 3] (lops Tryd.prog (callw Tryd.prog TT S) [(some 15), (some 16), (some 17), (some 18), (some 19), (some 20), (some 21), (some 22), (some 23), (some 24)] (L4_2).1 E m)) k E Q := w_plain (by kernel_rfl) (L4_2).2
noncomputable def L4_3 : {l : List Oper // (opsOf r4_3).map strip = l} := by refine ⟨?l, ?h⟩; case h => simp only [r4_3, c4, bodyOf, Tryd.f4, Code.sub, opsOf, List.map_cons, List.map_nil, strip]; rfl
theorem w4_3 : W Tryd.prog TT S 10 [24, 30, 54, 57, 66, 87] r4_3 k E m Q ↔ Rg Tryd.prog TT S 10 [24, 30, 54, 57, 66, 87] [2] [] (lgo E [] (lops Tryd.prog (callw Tryd.prog TT S) [(some 2)] (L4_3).1 E m)) k E Q := w_plain (by kernel_rfl) (L4_3).2
noncomputable def L4_4 : {l : List Oper // (opsOf r4_4).map strip = l} := by refine ⟨?l, ?h⟩; case h => simp only [r4_4, c4, bodyOf, Tryd.f4, Code.sub, opsOf, List.map_cons, List.map_nil, strip]; rfl
theorem w4_4 : W Tryd.prog TT S 10 [24, 30, 54, 57, 66, 87] r4_4 k E m Q ↔ Rg Tryd.prog TT S 10 [24, 30, 54, 57, 66, 87] [5] [] (lgo E [0] (lops Tryd.prog (callw Tryd.prog TT S) [(some 25), (some 26), (some 27), (some 5)] (L4_4).1 E m)) k E Q := w_plain (by kernel_rfl) (L4_4).2
noncomputable def L4_5 : {l : List Oper // (opsOf r4_5).map strip = l} := by refine ⟨?l, ?h⟩; case h => simp only [r4_5, c4, bodyOf, Tryd.f4, Code.sub, opsOf, List.map_cons, List.map_nil, strip]; rfl
theorem w4_5 : W Tryd.prog TT S 10 [24, 30, 54, 57, 66, 87] r4_5 k E m Q ↔ Rg Tryd.prog TT S 10 [24, 30, 54, 57, 66, 87] [6] [] (lgo E [] (lops Tryd.prog (callw Tryd.prog TT S) [(some 6)] (L4_5).1 E m)) k E Q := w_plain (by kernel_rfl) (L4_5).2
noncomputable def L4_6 : {l : List Oper // (opsOf r4_6).map strip = l} := by refine ⟨?l, ?h⟩; case h => simp only [r4_6, c4, bodyOf, Tryd.f4, Code.sub, opsOf, List.map_cons, List.map_nil, strip]; rfl
theorem w4_6 : W Tryd.prog TT S 10 [24, 30, 54, 57, 66, 87] r4_6 k E m Q ↔ Rg Tryd.prog TT S 10 [24, 30, 54, 57, 66, 87] [] [30] (lgo E [6, 5] (lops Tryd.prog (callw Tryd.prog TT S) [(some 28), (some 29), (some 30)] (L4_6).1 E m)) k E Q := w_plain (by kernel_rfl) (L4_6).2
noncomputable def L4_7 : {l : List Oper // (opsOf r4_7).map strip = l} := by refine ⟨?l, ?h⟩; case h => simp only [r4_7, c4, bodyOf, Tryd.f4, Code.sub, opsOf, List.map_cons, List.map_nil, strip]; rfl
theorem w4_7 : W Tryd.prog TT S 10 [24, 30, 54, 57, 66, 87] r4_7 k E m Q ↔ Rg Tryd.prog TT S 10 [24, 30, 54, 57, 66, 87] [] [] (lgo E [3, 0, 6] (lops Tryd.prog (callw Tryd.prog TT S) [(some 33), (some 34), (some 35), (some 36), (some 37), (some 38), (some 39)] (L4_7).1 E m)) k E Q := w_plain (by kernel_rfl) (L4_7).2
noncomputable def L4_8 : {l : List Oper // (opsOf r4_8).map strip = l} := by refine ⟨?l, ?h⟩; case h => simp only [r4_8, c4, bodyOf, Tryd.f4, Code.sub, opsOf, List.map_cons, List.map_nil, strip]; rfl
theorem w4_8 : W Tryd.prog TT S 10 [24, 30, 54, 57, 66, 87] r4_8 k E m Q ↔ Rg Tryd.prog TT S 10 [24, 30, 54, 57, 66, 87] [] [] (lgo E [3, 0, 6] (lops Tryd.prog (callw Tryd.prog TT S) [(some 40), (some 41), (some 42), (some 43), (some 44), (some 45), (some 46), (some 47)] (L4_8).1 E m)) k E Q := w_plain (by kernel_rfl) (L4_8).2
noncomputable def L4_9 : {l : List Oper // (opsOf r4_9).map strip = l} := by refine ⟨?l, ?h⟩; case h => simp only [r4_9, c4, bodyOf, Tryd.f4, Code.sub, opsOf, List.map_cons, List.map_nil, strip]; rfl
theorem w4_9 : W Tryd.prog TT S 10 [24, 30, 54, 57, 66, 87] r4_9 k E m Q ↔ Rg Tryd.prog TT S 10 [24, 30, 54, 57, 66, 87] [6] [] (lgo E [6] (lops Tryd.prog (callw Tryd.prog TT S) [(some 31), (some 32), (some 6)] (L4_9).1 E m)) k E Q := w_plain (by kernel_rfl) (L4_9).2
noncomputable def L4_10 : {l : List Oper // (opsOf r4_10).map strip = l} := by refine ⟨?l, ?h⟩; case h => simp only [r4_10, c4, bodyOf, Tryd.f4, Code.sub, opsOf, List.map_cons, List.map_nil, strip]; rfl
theorem w4_10 : W Tryd.prog TT S 10 [24, 30, 54, 57, 66, 87] r4_10 k E m Q ↔ Rg Tryd.prog TT S 10 [24, 30, 54, 57, 66, 87] [7] [] (lgo E [3] (lops Tryd.prog (callw Tryd.prog TT S) [(some 48), (some 49), (some 7)] (L4_10).1 E m)) k E Q := w_plain (by kernel_rfl) (L4_10).2
noncomputable def L4_11 : {l : List Oper // (opsOf r4_11).map strip = l} := by refine ⟨?l, ?h⟩; case h => simp only [r4_11, c4, bodyOf, Tryd.f4, Code.sub, opsOf, List.map_cons, List.map_nil, strip]; rfl
theorem w4_11 : W Tryd.prog TT S 10 [24, 30, 54, 57, 66, 87] r4_11 k E m Q ↔ Rg Tryd.prog TT S 10 [24, 30, 54, 57, 66, 87] [] [54] (lgo E [7, 5] (lops Tryd.prog (callw Tryd.prog TT S) [(some 50), (some 51), (some 52), (some 53), (some 54)] (L4_11).1 E m)) k E Q := w_plain (by kernel_rfl) (L4_11).2
noncomputable def L4_12 : {l : List Oper // (opsOf r4_12).map strip = l} := by refine ⟨?l, ?h⟩; case h => simp only [r4_12, c4, bodyOf, Tryd.f4, Code.sub, opsOf, List.map_cons, List.map_nil, strip]; rfl
theorem w4_12 : W Tryd.prog TT S 10 [24, 30, 54, 57, 66, 87] r4_12 k E m Q ↔ Rg Tryd.prog TT S 10 [24, 30, 54, 57, 66, 87] [2] [] (lgo E [] (lops Tryd.prog (callw Tryd.prog TT S) [(some 2)] (L4_12).1 E m)) k E Q := w_plain (by kernel_rfl) (L4_12).2
noncomputable def L4_13 : {l : List Oper // (opsOf r4_13).map strip = l} := by refine ⟨?l, ?h⟩; case h => simp only [r4_13, c4, bodyOf, Tryd.f4, Code.sub, opsOf, List.map_cons, List.map_nil, strip]; rfl
theorem w4_13 : W Tryd.prog TT S 10 [24, 30, 54, 57, 66, 87] r4_13 k E m Q ↔ Rg Tryd.prog TT S 10 [24, 30, 54, 57, 66, 87] [8] [] (lgo E [] (lops Tryd.prog (callw Tryd.prog TT S) [(some 8)] (L4_13).1 E m)) k E Q := w_plain (by kernel_rfl) (L4_13).2
noncomputable def L4_14 : {l : List Oper // (opsOf r4_14).map strip = l} := by refine ⟨?l, ?h⟩; case h => simp only [r4_14, c4, bodyOf, Tryd.f4, Code.sub, opsOf, List.map_cons, List.map_nil, strip]; rfl
theorem w4_14 : W Tryd.prog TT S 10 [24, 30, 54, 57, 66, 87] r4_14 k E m Q ↔ Rg Tryd.prog TT S 10 [24, 30, 54, 57, 66, 87] [] [57] (lgo E [8, 5] (lops Tryd.prog (callw Tryd.prog TT S) [(some 55), (some 56), (some 57)] (L4_14).1 E m)) k E Q := w_plain (by kernel_rfl) (L4_14).2
noncomputable def L4_15 : {l : List Oper // (opsOf r4_15).map strip = l} := by refine ⟨?l, ?h⟩; case h => simp only [r4_15, c4, bodyOf, Tryd.f4, Code.sub, opsOf, List.map_cons, List.map_nil, strip]; rfl
theorem w4_15 : W Tryd.prog TT S 10 [24, 30, 54, 57, 66, 87] r4_15 k E m Q ↔ Rg Tryd.prog TT S 10 [24, 30, 54, 57, 66, 87] [9] [] (lgo E [] (lops Tryd.prog (callw Tryd.prog TT S) [(some 9)] (L4_15).1 E m)) k E Q := w_plain (by kernel_rfl) (L4_15).2
noncomputable def L4_16 : {l : List Oper // (opsOf r4_16).map strip = l} := by refine ⟨?l, ?h⟩; case h => simp only [r4_16, c4, bodyOf, Tryd.f4, Code.sub, opsOf, List.map_cons, List.map_nil, strip]; rfl
theorem w4_16 : W Tryd.prog TT S 10 [24, 30, 54, 57, 66, 87] r4_16 k E m Q ↔ Rg Tryd.prog TT S 10 [24, 30, 54, 57, 66, 87] [] [66] (lgo E [0, 8] (lops Tryd.prog (callw Tryd.prog TT S) [(some 60), (some 61), (some 62), (some 63), (some 64), (some 65), (some 66)] (L4_16).1 E m)) k E Q := w_plain (by kernel_rfl) (L4_16).2
noncomputable def L4_17 : {l : List Oper // (opsOf r4_17).map strip = l} := by refine ⟨?l, ?h⟩; case h => simp only [r4_17, c4, bodyOf, Tryd.f4, Code.sub, opsOf, List.map_cons, List.map_nil, strip]; rfl
theorem w4_17 : W Tryd.prog TT S 10 [24, 30, 54, 57, 66, 87] r4_17 k E m Q ↔ Rg Tryd.prog TT S 10 [24, 30, 54, 57, 66, 87] [9] [] (lgo E [] (lops Tryd.prog (callw Tryd.prog TT S) [(some 9)] (L4_17).1 E m)) k E Q := w_plain (by kernel_rfl) (L4_17).2
theorem can4_18 : canonOps (opsOf r4_18) = opsOf r4_18 := by kernel_rfl
noncomputable def L4_18 : {l : List Oper // (canonOps (opsOf r4_18)).map strip = l} := by refine ⟨?l, (congrArg (List.map strip) can4_18).trans ?h⟩; case h => simp only [r4_18, c4, bodyOf, Tryd.f4, Code.sub, opsOf, List.map_cons, List.map_nil, strip]; rfl
theorem w4_18 : W Tryd.prog TT S 10 [24, 30, 54, 57, 66, 87] r4_18 k E m Q ↔ Rg Tryd.prog TT S 10 [24, 30, 54, 57, 66, 87] [] [87] (lgo E [0, 7, 8, 9] (lloud Tryd.prog (callw Tryd.prog TT S) [(some 67), (some 68), (some 69), (some 70), (some 71), (some 72), (some 73), (some 74), (some 75), (some 76), (some 77), (some 78), (some 79), (some 80), (some 81), (some 82), (some 83), (some 84), (some 85), (some 86), (some 87)] (L4_18).1 [(4, [9, 21]), (8, [9]), (17, [21])] (lstates Tryd.prog (callw Tryd.prog TT S) [(some 67), (some 68), (some 69), (some 70), (some 71), (some 72), (some 73), (some 74), (some 75), (some 76), (some 77), (some 78), (some 79), (some 80), (some 81), (some 82), (some 83), (some 84), (some 85), (some 86), (some 87)] (L4_18).1 E m))) k E Q := w_loud (by kernel_rfl) (L4_18).2
noncomputable def L4_19 : {l : List Oper // (opsOf r4_19).map strip = l} := by refine ⟨?l, ?h⟩; case h => simp only [r4_19, c4, bodyOf, Tryd.f4, Code.sub, opsOf, List.map_cons, List.map_nil, strip]; rfl
theorem w4_19 : W Tryd.prog TT S 10 [24, 30, 54, 57, 66, 87] r4_19 k E m Q ↔ Rg Tryd.prog TT S 10 [24, 30, 54, 57, 66, 87] [2] [] (lgo E [] (lops Tryd.prog (callw Tryd.prog TT S) [(some 2)] (L4_19).1 E m)) k E Q := w_plain (by kernel_rfl) (L4_19).2
noncomputable def L4_20 : {l : List Oper // (opsOf r4_20).map strip = l} := by refine ⟨?l, ?h⟩; case h => simp only [r4_20, c4, bodyOf, Tryd.f4, Code.sub, opsOf, List.map_cons, List.map_nil, strip]; rfl
theorem w4_20 : W Tryd.prog TT S 10 [24, 30, 54, 57, 66, 87] r4_20 k E m Q ↔ Rg Tryd.prog TT S 10 [24, 30, 54, 57, 66, 87] [8] [] (lgo E [8] (lops Tryd.prog (callw Tryd.prog TT S) [(some 58), (some 59), (some 8)] (L4_20).1 E m)) k E Q := w_plain (by kernel_rfl) (L4_20).2
noncomputable def L4_21 : {l : List Oper // (opsOf r4_21).map strip = l} := by refine ⟨?l, ?h⟩; case h => simp only [r4_21, c4, bodyOf, Tryd.f4, Code.sub, opsOf, List.map_cons, List.map_nil, strip]; rfl
theorem w4_21 : W Tryd.prog TT S 10 [24, 30, 54, 57, 66, 87] r4_21 k E m Q ↔ Rg Tryd.prog TT S 10 [24, 30, 54, 57, 66, 87] [2] [] (lgo E [] (lops Tryd.prog (callw Tryd.prog TT S) [(some 2)] (L4_21).1 E m)) k E Q := w_plain (by kernel_rfl) (L4_21).2
theorem k4 : FnIs TT 4 c4 [.tmp 2] 1 := ⟨Tryd.f4, by kernel_rfl, by simp only [Tryd.f4, c4, bodyOf], by kernel_rfl, of_decide_eq_true (by kernel_rfl)⟩

/- turnstonelaw10.WorldTexts -/
noncomputable def c5 : Code := bodyOf Tryd.f5
noncomputable def r5_0 : Code := Code.sub [0] c5
noncomputable def r5_1 : Code := Code.sub [1, 0] c5
noncomputable def r5_2 : Code := Code.sub [1, 1, 0] c5
noncomputable def r5_3 : Code := Code.sub [1, 1, 1, 0] c5
noncomputable def r5_4 : Code := Code.sub [1, 1, 1, 1, 0, 0] c5
noncomputable def r5_5 : Code := Code.sub [1, 1, 1, 1, 0, 1, 0, 0] c5
noncomputable def r5_6 : Code := Code.sub [1, 1, 1, 1, 1, 0] c5
noncomputable def r5_7 : Code := Code.sub [1, 1, 1, 1, 1, 1, 0] c5
noncomputable def r5_8 : Code := Code.sub [1, 1, 1, 1, 1, 1, 1, 0] c5
noncomputable def r5_9 : Code := Code.sub [1, 1, 1, 1, 1, 1, 1, 1, 0] c5
theorem body5 : c5 = (.seq r5_0 (.seq r5_1 (.seq r5_2 (.seq r5_3 (.seq (.seq r5_4 (.cond (.tmp 40) (.seq r5_5 .ret) .skip)) (.seq r5_6 (.seq r5_7 (.seq r5_8 (.seq r5_9 .ret))))))))) := by kernel_rfl
noncomputable def L5_0 : {l : List Oper // (opsOf r5_0).map strip = l} := by refine ⟨?l, ?h⟩; case h => simp only [r5_0, c5, bodyOf, Tryd.f5, Code.sub, opsOf, List.map_cons, List.map_nil, strip]; rfl
theorem w5_0 : W Tryd.prog TT S 10 [40] r5_0 k E m Q ↔ Rg Tryd.prog TT S 10 [40] [4] [] (lgo E [] (lops Tryd.prog (callw Tryd.prog TT S) [(some 4)] (L5_0).1 E m)) k E Q := w_plain (by kernel_rfl) (L5_0).2
noncomputable def L5_1 : {l : List Oper // (opsOf r5_1).map strip = l} := by refine ⟨?l, ?h⟩; case h => simp only [r5_1, c5, bodyOf, Tryd.f5, Code.sub, opsOf, List.map_cons, List.map_nil, strip]; rfl
theorem w5_1 : W Tryd.prog TT S 10 [40] r5_1 k E m Q ↔ Rg Tryd.prog TT S 10 [40] [0] [] (lgo E [0] (lops Tryd.prog (callw Tryd.prog TT S) [(some 10), (some 11), (some 12), (some 13), (some 14), (some 0)] (L5_1).1 E m)) k E Q := w_plain (by kernel_rfl) (L5_1).2
noncomputable def L5_2 : {l : List Oper // (opsOf r5_2).map strip = l} := by refine ⟨?l, ?h⟩; case h => simp only [r5_2, c5, bodyOf, Tryd.f5, Code.sub, opsOf, List.map_cons, List.map_nil, strip]; rfl
theorem w5_2 : W Tryd.prog TT S 10 [40] r5_2 k E m Q ↔ Rg Tryd.prog TT S 10 [40] [1] [] (lgo E [1] (lops Tryd.prog (callw Tryd.prog TT S) [(some 15), (some 16), (some 17), (some 18), (some 19), (some 1)] (L5_2).1 E m)) k E Q := w_plain (by kernel_rfl) (L5_2).2
noncomputable def L5_3 : {l : List Oper // (opsOf r5_3).map strip = l} := by refine ⟨?l, ?h⟩; case h => simp only [r5_3, c5, bodyOf, Tryd.f5, Code.sub, opsOf, List.map_cons, List.map_nil, strip]; rfl
theorem w5_3 : W Tryd.prog TT S 10 [40] r5_3 k E m Q ↔ Rg Tryd.prog TT S 10 [40] [5, 6] [] (lgo E [0, 1] (lops Tryd.prog (callw Tryd.prog TT S) [(some 21), (some 22), (some 23), (some 24), (some 25), (some 26), (some 27), (some 28), (some 20), (some 29), (some 30), (some 5), (some 6)] (L5_3).1 E m)) k E Q := w_plain (by kernel_rfl) (L5_3).2
noncomputable def L5_4 : {l : List Oper // (opsOf r5_4).map strip = l} := by refine ⟨?l, ?h⟩; case h => simp only [r5_4, c5, bodyOf, Tryd.f5, Code.sub, opsOf, List.map_cons, List.map_nil, strip]; rfl
theorem w5_4 : W Tryd.prog TT S 10 [40] r5_4 k E m Q ↔ Rg Tryd.prog TT S 10 [40] [] [40] (lgo E [6, 5] (lops Tryd.prog (callw Tryd.prog TT S) [(some 31), (some 32), (some 33), (some 34), (some 35), (some 36), (some 37), (some 38), (some 39), (some 40)] (L5_4).1 E m)) k E Q := w_plain (by kernel_rfl) (L5_4).2
noncomputable def L5_5 : {l : List Oper // (opsOf r5_5).map strip = l} := by refine ⟨?l, ?h⟩; case h => simp only [r5_5, c5, bodyOf, Tryd.f5, Code.sub, opsOf, List.map_cons, List.map_nil, strip]; rfl
theorem w5_5 : W Tryd.prog TT S 10 [40] r5_5 k E m Q ↔ Rg Tryd.prog TT S 10 [40] [4] [] (lgo E [] (lops Tryd.prog (callw Tryd.prog TT S) [(some 4)] (L5_5).1 E m)) k E Q := w_plain (by kernel_rfl) (L5_5).2
noncomputable def L5_6 : {l : List Oper // (opsOf r5_6).map strip = l} := by refine ⟨?l, ?h⟩; case h => simp only [r5_6, c5, bodyOf, Tryd.f5, Code.sub, opsOf, List.map_cons, List.map_nil, strip]; rfl
theorem w5_6 : W Tryd.prog TT S 10 [40] r5_6 k E m Q ↔ Rg Tryd.prog TT S 10 [40] [7, 8] [] (lgo E [5] (lops Tryd.prog (callw Tryd.prog TT S) [(some 42), (some 43), (some 44), (some 45), (some 46), (some 47), (some 41), (some 48), (some 49), (some 7), (some 8)] (L5_6).1 E m)) k E Q := w_plain (by kernel_rfl) (L5_6).2
noncomputable def L5_7 : {l : List Oper // (opsOf r5_7).map strip = l} := by refine ⟨?l, ?h⟩; case h => simp only [r5_7, c5, bodyOf, Tryd.f5, Code.sub, opsOf, List.map_cons, List.map_nil, strip]; rfl
theorem w5_7 : W Tryd.prog TT S 10 [40] r5_7 k E m Q ↔ Rg Tryd.prog TT S 10 [40] [] [] (lgo E [5, 7] (lops Tryd.prog (callw Tryd.prog TT S) [(some 50), (some 51), (some 52)] (L5_7).1 E m)) k E Q := w_plain (by kernel_rfl) (L5_7).2
noncomputable def L5_8 : {l : List Oper // (opsOf r5_8).map strip = l} := by refine ⟨?l, ?h⟩; case h => simp only [r5_8, c5, bodyOf, Tryd.f5, Code.sub, opsOf, List.map_cons, List.map_nil, strip]; rfl
theorem w5_8 : W Tryd.prog TT S 10 [40] r5_8 k E m Q ↔ Rg Tryd.prog TT S 10 [40] [9] [] (lgo E [5] (lops Tryd.prog (callw Tryd.prog TT S) [(some 53), (some 54), (some 9)] (L5_8).1 E m)) k E Q := w_plain (by kernel_rfl) (L5_8).2
noncomputable def L5_9 : {l : List Oper // (opsOf r5_9).map strip = l} := by refine ⟨?l, ?h⟩; case h => simp only [r5_9, c5, bodyOf, Tryd.f5, Code.sub, opsOf, List.map_cons, List.map_nil, strip]; rfl
theorem w5_9 : W Tryd.prog TT S 10 [40] r5_9 k E m Q ↔ Rg Tryd.prog TT S 10 [40] [4] [] (lgo E [8, 7, 9, 5, 0, 1] (lops Tryd.prog (callw Tryd.prog TT S) [(some 55), (some 56), (some 57), (some 58), (some 59), (some 60), (some 61), (some 62), (some 63), (some 64), (some 65), (some 66), (some 67), (some 68), (some 69), (some 70), (some 71), (some 72), (some 73), (some 74), (some 75), (some 76), (some 77), (some 78), (some 79), (some 80), (some 81), (some 82), (some 83), (some 84), (some 85), (some 86), (some 87), (some 88), (some 89), (some 90), (some 91), (some 92), (some 93), (some 94), (some 95), (some 96), (some 97), (some 98), (some 99), (some 100), (some 101), (some 102), (some 103), (some 104), (some 105), (some 106), (some 107), (some 108), (some 109), (some 110), (some 111), (some 112), (some 4)] (L5_9).1 E m)) k E Q := w_plain (by kernel_rfl) (L5_9).2
theorem k5 : FnIs TT 5 c5 [.tmp 4] 2 := ⟨Tryd.f5, by kernel_rfl, by simp only [Tryd.f5, c5, bodyOf], by kernel_rfl, of_decide_eq_true (by kernel_rfl)⟩

/- world.New -/
noncomputable def c8 : Code := bodyOf Tryd.f8
noncomputable def r8_0 : Code := Code.sub [0] c8
noncomputable def r8_1 : Code := Code.sub [1, 0] c8
noncomputable def r8_2 : Code := Code.sub [1, 1, 0, 0] c8
noncomputable def r8_3 : Code := Code.sub [1, 1, 0, 1, 0, 0] c8
noncomputable def r8_4 : Code := Code.sub [1, 1, 1, 0] c8
noncomputable def r8_5 : Code := Code.sub [1, 1, 1, 1, 0, 0] c8
noncomputable def r8_6 : Code := Code.sub [1, 1, 1, 1, 0, 1, 0, 0, 0] c8
noncomputable def r8_7 : Code := Code.sub [1, 1, 1, 1, 0, 1, 0, 0, 1, 1, 0, 0, 0] c8
noncomputable def r8_8 : Code := Code.sub [1, 1, 1, 1, 0, 1, 0, 0, 1, 1, 0, 0, 1] c8
noncomputable def r8_9 : Code := Code.sub [1, 1, 1, 1, 0, 1, 0, 0, 1, 1, 1] c8
noncomputable def r8_10 : Code := Code.sub [1, 1, 1, 1, 1, 0, 0] c8
noncomputable def r8_11 : Code := Code.sub [1, 1, 1, 1, 1, 0, 1, 0, 0, 0] c8
noncomputable def r8_12 : Code := Code.sub [1, 1, 1, 1, 1, 0, 1, 0, 0, 1, 1, 0, 0, 0] c8
noncomputable def r8_13 : Code := Code.sub [1, 1, 1, 1, 1, 0, 1, 0, 0, 1, 1, 0, 0, 1, 0] c8
noncomputable def r8_14 : Code := Code.sub [1, 1, 1, 1, 1, 0, 1, 0, 0, 1, 1, 0, 0, 1, 1, 0, 0] c8
noncomputable def r8_15 : Code := Code.sub [1, 1, 1, 1, 1, 0, 1, 0, 0, 1, 1, 0, 0, 1, 1, 0, 1, 0, 0] c8
noncomputable def r8_16 : Code := Code.sub [1, 1, 1, 1, 1, 0, 1, 0, 0, 1, 1, 0, 0, 1, 1, 1] c8
noncomputable def r8_17 : Code := Code.sub [1, 1, 1, 1, 1, 0, 1, 0, 0, 1, 1, 1] c8
noncomputable def r8_18 : Code := Code.sub [1, 1, 1, 1, 1, 1, 0] c8
theorem body8 : c8 = (.seq r8_0 (.seq r8_1 (.seq (.seq r8_2 (.cond (.tmp 25) (.seq r8_3 .ret) .skip)) (.seq r8_4 (.seq (.seq r8_5 (.block 0 (.loop (.seq r8_6 (.seq (.cond (.tmp 36) .skip (.exit 0)) (.seq (.block 1 (.seq r8_7 r8_8)) r8_9)))))) (.seq (.seq r8_10 (.block 2 (.loop (.seq r8_11 (.seq (.cond (.tmp 60) .skip (.exit 2)) (.seq (.block 3 (.seq r8_12 (.seq r8_13 (.seq (.seq r8_14 (.cond (.tmp 70) (.seq r8_15 .ret) .skip)) r8_16)))) r8_17)))))) (.seq r8_18 .ret))))))) := by kernel_rfl
noncomputable def L8_0 : {l : List Oper // (opsOf r8_0).map strip = l} := by refine ⟨?l, ?h⟩; case h => simp only [r8_0, c8, bodyOf, Tryd.f8, Code.sub, opsOf, List.map_cons, List.map_nil, strip]; rfl
theorem w8_0 : W Tryd.prog TT S 60 [60, 70] r8_0 k E m Q ↔ Rg Tryd.prog TT S 60 [60, 70] [3, 6, 7] [] (lgo E [0] (lops Tryd.prog (callw Tryd.prog TT S) [(some 3), (some 6), (some 7)] (L8_0).1 E m)) k E Q := w_plain (by kernel_rfl) (L8_0).2
noncomputable def L8_1 : {l : List Oper // (opsOf r8_1).map strip = l} := by refine ⟨?l, ?h⟩; case h => simp only [r8_1, c8, bodyOf, Tryd.f8, Code.sub, opsOf, List.map_cons, List.map_nil, strip]; rfl
theorem w8_1 : W Tryd.prog TT S 60 [60, 70] r8_1 k E m Q ↔ Rg Tryd.prog TT S 60 [60, 70] [18, 19, 20, 21, 17, 22, 23, 8, 9] [] (lgo E [1] (lops Tryd.prog (callw Tryd.prog TT S) [(some 18), (some 19), (some 20), (some 21), (some 17), (some 22), (some 23), (some 8), (some 9)] (L8_1).1 E m)) k E Q := w_plain (by kernel_rfl) (L8_1).2
noncomputable def L8_2 : {l : List Oper // (opsOf r8_2).map strip = l} := by refine ⟨?l, ?h⟩; case h => simp only [r8_2, c8, bodyOf, Tryd.f8, Code.sub, opsOf, List.map_cons, List.map_nil, strip]; rfl
theorem w8_2 : W Tryd.prog TT S 60 [60, 70] r8_2 k E m Q ↔ Rg Tryd.prog TT S 60 [60, 70] [24, 25] [] (lgo E [9] (lops Tryd.prog (callw Tryd.prog TT S) [(some 24), (some 25)] (L8_2).1 E m)) k E Q := w_plain (by kernel_rfl) (L8_2).2
noncomputable def L8_3 : {l : List Oper // (opsOf r8_3).map strip = l} := by refine ⟨?l, ?h⟩; case h => simp only [r8_3, c8, bodyOf, Tryd.f8, Code.sub, opsOf, List.map_cons, List.map_nil, strip]; rfl
theorem w8_3 : W Tryd.prog TT S 60 [60, 70] r8_3 k E m Q ↔ Rg Tryd.prog TT S 60 [60, 70] [6, 7] [] (lgo E [] (lops Tryd.prog (callw Tryd.prog TT S) [(some 6), (some 7)] (L8_3).1 E m)) k E Q := w_plain (by kernel_rfl) (L8_3).2
noncomputable def L8_4 : {l : List Oper // (opsOf r8_4).map strip = l} := by refine ⟨?l, ?h⟩; case h => simp only [r8_4, c8, bodyOf, Tryd.f8, Code.sub, opsOf, List.map_cons, List.map_nil, strip]; rfl
theorem w8_4 : W Tryd.prog TT S 60 [60, 70] r8_4 k E m Q ↔ Rg Tryd.prog TT S 60 [60, 70] [26, 27, 28, 29, 30, 31, 10] [] (lgo E [8, 2] (lops Tryd.prog (callw Tryd.prog TT S) [(some 26), (some 27), (some 28), (some 29), (some 30), (some 31), (some 10)] (L8_4).1 E m)) k E Q := w_plain (by kernel_rfl) (L8_4).2
noncomputable def L8_5 : {l : List Oper // (opsOf r8_5).map strip = l} := by refine ⟨?l, ?h⟩; case h => simp only [r8_5, c8, bodyOf, Tryd.f8, Code.sub, opsOf, List.map_cons, List.map_nil, strip]; rfl
theorem w8_5 : W Tryd.prog TT S 60 [60, 70] r8_5 k E m Q ↔ Rg Tryd.prog TT S 60 [60, 70] [32, 33, 34, 35] [] (lgo E [3] (lops Tryd.prog (callw Tryd.prog TT S) [(some 32), (some 33), (some 34), (some 35)] (L8_5).1 E m)) k E Q := w_plain (by kernel_rfl) (L8_5).2
noncomputable def L8_6 : {l : List Oper // (opsOf r8_6).map strip = l} := by refine ⟨?l, ?h⟩; case h => simp only [r8_6, c8, bodyOf, Tryd.f8, Code.sub, opsOf, List.map_cons, List.map_nil, strip]; rfl
theorem w8_6 : W Tryd.prog TT S 60 [60, 70] r8_6 k E m Q ↔ Rg Tryd.prog TT S 60 [60, 70] [36] [] (lgo E [35, 34] (lops Tryd.prog (callw Tryd.prog TT S) [(some 36)] (L8_6).1 E m)) k E Q := w_plain (by kernel_rfl) (L8_6).2
noncomputable def L8_7 : {l : List Oper // (opsOf r8_7).map strip = l} := by refine ⟨?l, ?h⟩; case h => simp only [r8_7, c8, bodyOf, Tryd.f8, Code.sub, opsOf, List.map_cons, List.map_nil, strip]; rfl
theorem w8_7 : W Tryd.prog TT S 60 [60, 70] r8_7 k E m Q ↔ Rg Tryd.prog TT S 60 [60, 70] [37, 38, 12] [] (lgo E [33, 35] (lops Tryd.prog (callw Tryd.prog TT S) [(some 37), (some 38), (some 12), none] (L8_7).1 E m)) k E Q := w_plain (by kernel_rfl) (L8_7).2
theorem can8_8 : canonOps (opsOf r8_8) = List.filterMap (fun i => ((opsOf r8_8)[i]?).map (renum [0, 1, 2, 3, 4, 5, 6, 8, 9, 7, 10, 11, 12, 13, 14, 15, 16])) [0, 1, 2, 3, 4, 5, 6, 8, 9, 7, 10, 11, 12, 13, 14, 15, 16] := by kernel_rfl
noncomputable def L8_8 : {l : List Oper // (canonOps (opsOf r8_8)).map strip = l} := by refine ⟨?l, (congrArg (List.map strip) can8_8).trans ?h⟩; case h => simp only [r8_8, c8, bodyOf, Tryd.f8, Code.sub, opsOf, List.filterMap_cons, List.filterMap_nil, List.getElem?_cons_succ, List.getElem?_cons_zero, Option.map_some, renum, List.map_cons, List.map_nil, strip]; rfl
theorem w8_8 : W Tryd.prog TT S 60 [60, 70] r8_8 k E m Q ↔ Rg Tryd.prog TT S 60 [60, 70] [39, 40, 41, 42, 43, 44, 45, 47, 48, 46, 49, 50, 51, 52, 53, 54] [] (lgo E [10, 12] (lloud Tryd.prog (callw Tryd.prog TT S) [(some 39), (some 40), (some 41), (some 42), (some 43), (some 44), (some 45), (some 47), (some 48), (some 46), (some 49), (some 50), (some 51), (some 52), (some 53), (some 54), none] (L8_8).1 [(4, [9, 10, 12, 13]), (6, [9, 10, 12]), (8, [9, 10])] (lstates Tryd.prog (callw Tryd.prog TT S) [(some 39), (some 40), (some 41), (some 42), (some 43), (some 44), (some 45), (some 47), (some 48), (some 46), (some 49), (some 50), (some 51), (some 52), (some 53), (some 54), none] (L8_8).1 E m))) k E Q := w_loud (by kernel_rfl) (L8_8).2
noncomputable def L8_9 : {l : List Oper // (opsOf r8_9).map strip = l} := by refine ⟨?l, ?h⟩; case h => simp only [r8_9, c8, bodyOf, Tryd.f8, Code.sub, opsOf, List.map_cons, List.map_nil, strip]; rfl
theorem w8_9 : W Tryd.prog TT S 60 [60, 70] r8_9 k E m Q ↔ Rg Tryd.prog TT S 60 [60, 70] [55, 35] [] (lgo E [35] (lops Tryd.prog (callw Tryd.prog TT S) [(some 55), (some 35)] (L8_9).1 E m)) k E Q := w_plain (by kernel_rfl) (L8_9).2
noncomputable def L8_10 : {l : List Oper // (opsOf r8_10).map strip = l} := by refine ⟨?l, ?h⟩; case h => simp only [r8_10, c8, bodyOf, Tryd.f8, Code.sub, opsOf, List.map_cons, List.map_nil, strip]; rfl
theorem w8_10 : W Tryd.prog TT S 60 [60, 70] r8_10 k E m Q ↔ Rg Tryd.prog TT S 60 [60, 70] [56, 57, 58, 59] [] (lgo E [3] (lops Tryd.prog (callw Tryd.prog TT S) [(some 56), (some 57), (some 58), (some 59)] (L8_10).1 E m)) k E Q := w_plain (by kernel_rfl) (L8_10).2
noncomputable def L8_11 : {l : List Oper // (opsOf r8_11).map strip = l} := by refine ⟨?l, ?h⟩; case h => simp only [r8_11, c8, bodyOf, Tryd.f8, Code.sub, opsOf, List.map_cons, List.map_nil, strip]; rfl
theorem w8_11 : W Tryd.prog TT S 60 [60, 70] r8_11 k E m Q ↔ Rg Tryd.prog TT S 60 [60, 70] [] [60] (lgo E [59, 58] (lops Tryd.prog (callw Tryd.prog TT S) [(some 60)] (L8_11).1 E m)) k E Q := w_plain (by kernel_rfl) (L8_11).2
noncomputable def L8_12 : {l : List Oper // (opsOf r8_12).map strip = l} := by refine ⟨?l, ?h⟩; case h => simp only [r8_12, c8, bodyOf, Tryd.f8, Code.sub, opsOf, List.map_cons, List.map_nil, strip]; rfl
theorem w8_12 : W Tryd.prog TT S 60 [60, 70] r8_12 k E m Q ↔ Rg Tryd.prog TT S 60 [60, 70] [14] [] (lgo E [57, 59] (lops Tryd.prog (callw Tryd.prog TT S) [(some 61), (some 62), (some 14)] (L8_12).1 E m)) k E Q := w_plain (by kernel_rfl) (L8_12).2
noncomputable def L8_13 : {l : List Oper // (opsOf r8_13).map strip = l} := by refine ⟨?l, ?h⟩; case h => simp only [r8_13, c8, bodyOf, Tryd.f8, Code.sub, opsOf, List.map_cons, List.map_nil, strip]; rfl
theorem w8_13 : W Tryd.prog TT S 60 [60, 70] r8_13 k E m Q ↔ Rg Tryd.prog TT S 60 [60, 70] [15, 16] [] (lgo E [8, 14] (lops Tryd.prog (callw Tryd.prog TT S) [(some 64), (some 65), (some 66), (some 63), (some 67), (some 68), (some 15), (some 16)] (L8_13).1 E m)) k E Q := w_plain (by kernel_rfl) (L8_13).2
noncomputable def L8_14 : {l : List Oper // (opsOf r8_14).map strip = l} := by refine ⟨?l, ?h⟩; case h => simp only [r8_14, c8, bodyOf, Tryd.f8, Code.sub, opsOf, List.map_cons, List.map_nil, strip]; rfl
theorem w8_14 : W Tryd.prog TT S 60 [60, 70] r8_14 k E m Q ↔ Rg Tryd.prog TT S 60 [60, 70] [] [70] (lgo E [16] (lops Tryd.prog (callw Tryd.prog TT S) [(some 69), (some 70)] (L8_14).1 E m)) k E Q := w_plain (by kernel_rfl) (L8_14).2
noncomputable def L8_15 : {l : List Oper // (opsOf r8_15).map strip = l} := by refine ⟨?l, ?h⟩; case h => simp only [r8_15, c8, bodyOf, Tryd.f8, Code.sub, opsOf, List.map_cons, List.map_nil, strip]; rfl
theorem w8_15 : W Tryd.prog TT S 60 [60, 70] r8_15 k E m Q ↔ Rg Tryd.prog TT S 60 [60, 70] [6, 7] [] (lgo E [] (lops Tryd.prog (callw Tryd.prog TT S) [(some 6), (some 7)] (L8_15).1 E m)) k E Q := w_plain (by kernel_rfl) (L8_15).2
noncomputable def L8_16 : {l : List Oper // (opsOf r8_16).map strip = l} := by refine ⟨?l, ?h⟩; case h => simp only [r8_16, c8, bodyOf, Tryd.f8, Code.sub, opsOf, List.map_cons, List.map_nil, strip]; rfl
theorem w8_16 : W Tryd.prog TT S 60 [60, 70] r8_16 k E m Q ↔ Rg Tryd.prog TT S 60 [60, 70] [] [] (lgo E [10, 15] (lops Tryd.prog (callw Tryd.prog TT S) [(some 71), (some 72), (some 73), (some 74), (some 75), (some 76), (some 77), (some 78), (some 79), (some 80), none] (L8_16).1 E m)) k E Q := w_plain (by kernel_rfl) (L8_16).2
noncomputable def L8_17 : {l : List Oper // (opsOf r8_17).map strip = l} := by refine ⟨?l, ?h⟩; case h => simp only [r8_17, c8, bodyOf, Tryd.f8, Code.sub, opsOf, List.map_cons, List.map_nil, strip]; rfl
theorem w8_17 : W Tryd.prog TT S 60 [60, 70] r8_17 k E m Q ↔ Rg Tryd.prog TT S 60 [60, 70] [59] [] (lgo E [59] (lops Tryd.prog (callw Tryd.prog TT S) [(some 81), (some 59)] (L8_17).1 E m)) k E Q := w_plain (by kernel_rfl) (L8_17).2
noncomputable def L8_18 : {l : List Oper // (opsOf r8_18).map strip = l} := by refine ⟨?l, ?h⟩; case h => simp only [r8_18, c8, bodyOf, Tryd.f8, Code.sub, opsOf, List.map_cons, List.map_nil, strip]; rfl
theorem w8_18 : W Tryd.prog TT S 60 [60, 70] r8_18 k E m Q ↔ Rg Tryd.prog TT S 60 [60, 70] [6, 7] [] (lgo E [10] (lops Tryd.prog (callw Tryd.prog TT S) [(some 82), (some 6), (some 7)] (L8_18).1 E m)) k E Q := w_plain (by kernel_rfl) (L8_18).2
theorem k8 : FnIs TT 8 c8 [.tmp 6, .tmp 7] 3 := ⟨Tryd.f8, by kernel_rfl, by simp only [Tryd.f8, c8, bodyOf], by kernel_rfl, of_decide_eq_true (by kernel_rfl)⟩

/- turnstonelaw10.prog -/
noncomputable def c9 : Code := bodyOf Tryd.f9
noncomputable def r9_0 : Code := Code.sub [0] c9
noncomputable def r9_1 : Code := Code.sub [1, 0] c9
theorem body9 : c9 = (.seq r9_0 (.seq r9_1 .ret)) := by kernel_rfl
noncomputable def L9_0 : {l : List Oper // (opsOf r9_0).map strip = l} := by refine ⟨?l, ?h⟩; case h => simp only [r9_0, c9, bodyOf, Tryd.f9, Code.sub, opsOf, List.map_cons, List.map_nil, strip]; rfl
theorem w9_0 : W Tryd.prog TT S 3 [] r9_0 k E m Q ↔ Rg Tryd.prog TT S 3 [] [2] [] (lgo E [] (lops Tryd.prog (callw Tryd.prog TT S) [(some 2)] (L9_0).1 E m)) k E Q := w_plain (by kernel_rfl) (L9_0).2
noncomputable def L9_1 : {l : List Oper // (opsOf r9_1).map strip = l} := by refine ⟨?l, ?h⟩; case h => simp only [r9_1, c9, bodyOf, Tryd.f9, Code.sub, opsOf, List.map_cons, List.map_nil, strip]; rfl
theorem w9_1 : W Tryd.prog TT S 3 [] r9_1 k E m Q ↔ Rg Tryd.prog TT S 3 [] [] [] (lgo E [0, 2] (lops Tryd.prog (callw Tryd.prog TT S) [(some 3), (some 4), (some 5), (some 6), (some 7), (some 8), (some 9), (some 10), (some 11), (some 12), none] (L9_1).1 E m)) k E Q := w_plain (by kernel_rfl) (L9_1).2
theorem k9 : FnIs TT 9 c9 [.cell 2 31] 1 := ⟨Tryd.f9, by kernel_rfl, by simp only [Tryd.f9, c9, bodyOf], by kernel_rfl, of_decide_eq_true (by kernel_rfl)⟩

/- turnstonelaw10.known -/
noncomputable def c10 : Code := bodyOf Tryd.f10
noncomputable def r10_0 : Code := Code.sub [0] c10
noncomputable def r10_1 : Code := Code.sub [1, 0] c10
noncomputable def r10_2 : Code := Code.sub [1, 1, 0, 0] c10
noncomputable def r10_3 : Code := Code.sub [1, 1, 0, 1, 0, 0] c10
noncomputable def r10_4 : Code := Code.sub [1, 1, 1, 0] c10
noncomputable def r10_5 : Code := Code.sub [1, 1, 1, 1, 0] c10
noncomputable def r10_6 : Code := Code.sub [1, 1, 1, 1, 1, 0] c10
theorem body10 : c10 = (.seq r10_0 (.seq r10_1 (.seq (.seq r10_2 (.cond (.tmp 20) (.seq r10_3 .ret) .skip)) (.seq r10_4 (.seq r10_5 (.seq r10_6 .ret)))))) := by kernel_rfl
noncomputable def L10_0 : {l : List Oper // (opsOf r10_0).map strip = l} := by refine ⟨?l, ?h⟩; case h => simp only [r10_0, c10, bodyOf, Tryd.f10, Code.sub, opsOf, List.map_cons, List.map_nil, strip]; rfl
theorem w10_0 : W Tryd.prog TT S 4 [20] r10_0 k E m Q ↔ Rg Tryd.prog TT S 4 [20] [0] [] (lgo E [] (lops Tryd.prog (callw Tryd.prog TT S) [(some 0)] (L10_0).1 E m)) k E Q := w_plain (by kernel_rfl) (L10_0).2
noncomputable def L10_1 : {l : List Oper // (opsOf r10_1).map strip = l} := by refine ⟨?l, ?h⟩; case h => simp only [r10_1, c10, bodyOf, Tryd.f10, Code.sub, opsOf, List.map_cons, List.map_nil, strip]; rfl
theorem w10_1 : W Tryd.prog TT S 4 [20] r10_1 k E m Q ↔ Rg Tryd.prog TT S 4 [20] [1, 2] [] (lgo E [] (lops Tryd.prog (callw Tryd.prog TT S) [(some 5), (some 6), (some 7), (some 4), (some 8), (some 9), (some 1), (some 2)] (L10_1).1 E m)) k E Q := w_plain (by kernel_rfl) (L10_1).2
noncomputable def L10_2 : {l : List Oper // (opsOf r10_2).map strip = l} := by refine ⟨?l, ?h⟩; case h => simp only [r10_2, c10, bodyOf, Tryd.f10, Code.sub, opsOf, List.map_cons, List.map_nil, strip]; rfl
theorem w10_2 : W Tryd.prog TT S 4 [20] r10_2 k E m Q ↔ Rg Tryd.prog TT S 4 [20] [] [20] (lgo E [2, 1] (lops Tryd.prog (callw Tryd.prog TT S) [(some 10), (some 11), (some 12), (some 13), (some 14), (some 15), (some 16), (some 17), (some 18), (some 19), (some 20)] (L10_2).1 E m)) k E Q := w_plain (by kernel_rfl) (L10_2).2
noncomputable def L10_3 : {l : List Oper // (opsOf r10_3).map strip = l} := by refine ⟨?l, ?h⟩; case h => simp only [r10_3, c10, bodyOf, Tryd.f10, Code.sub, opsOf, List.map_cons, List.map_nil, strip]; rfl
theorem w10_3 : W Tryd.prog TT S 4 [20] r10_3 k E m Q ↔ Rg Tryd.prog TT S 4 [20] [0] [] (lgo E [] (lops Tryd.prog (callw Tryd.prog TT S) [(some 0)] (L10_3).1 E m)) k E Q := w_plain (by kernel_rfl) (L10_3).2
noncomputable def L10_4 : {l : List Oper // (opsOf r10_4).map strip = l} := by refine ⟨?l, ?h⟩; case h => simp only [r10_4, c10, bodyOf, Tryd.f10, Code.sub, opsOf, List.map_cons, List.map_nil, strip]; rfl
theorem w10_4 : W Tryd.prog TT S 4 [20] r10_4 k E m Q ↔ Rg Tryd.prog TT S 4 [20] [] [] (lgo E [1] (lops Tryd.prog (callw Tryd.prog TT S) [(some 21), (some 22)] (L10_4).1 E m)) k E Q := w_plain (by kernel_rfl) (L10_4).2
noncomputable def L10_5 : {l : List Oper // (opsOf r10_5).map strip = l} := by refine ⟨?l, ?h⟩; case h => simp only [r10_5, c10, bodyOf, Tryd.f10, Code.sub, opsOf, List.map_cons, List.map_nil, strip]; rfl
theorem w10_5 : W Tryd.prog TT S 4 [20] r10_5 k E m Q ↔ Rg Tryd.prog TT S 4 [20] [3] [] (lgo E [1] (lops Tryd.prog (callw Tryd.prog TT S) [(some 23), (some 24), (some 3)] (L10_5).1 E m)) k E Q := w_plain (by kernel_rfl) (L10_5).2
noncomputable def L10_6 : {l : List Oper // (opsOf r10_6).map strip = l} := by refine ⟨?l, ?h⟩; case h => simp only [r10_6, c10, bodyOf, Tryd.f10, Code.sub, opsOf, List.map_cons, List.map_nil, strip]; rfl
theorem w10_6 : W Tryd.prog TT S 4 [20] r10_6 k E m Q ↔ Rg Tryd.prog TT S 4 [20] [0] [] (lgo E [1, 3] (lops Tryd.prog (callw Tryd.prog TT S) [(some 25), (some 26), (some 27), (some 28), (some 29), (some 30), (some 31), (some 32), (some 33), (some 34), (some 35), (some 36), (some 37), (some 38), (some 39), (some 40), (some 41), (some 42), (some 43), (some 44), (some 45), (some 46), (some 47), (some 48), (some 49), (some 0)] (L10_6).1 E m)) k E Q := w_plain (by kernel_rfl) (L10_6).2
theorem k10 : FnIs TT 10 c10 [.tmp 0] 0 := ⟨Tryd.f10, by kernel_rfl, by simp only [Tryd.f10, c10, bodyOf], by kernel_rfl, of_decide_eq_true (by kernel_rfl)⟩

/- turnstonehand.Pick -/
noncomputable def c11 : Code := bodyOf Tryd.f11
noncomputable def r11_0 : Code := Code.sub [0] c11
noncomputable def r11_1 : Code := Code.sub [1, 0] c11
noncomputable def r11_2 : Code := Code.sub [1, 1, 0, 0] c11
noncomputable def r11_3 : Code := Code.sub [1, 1, 0, 1, 0] c11
noncomputable def r11_4 : Code := Code.sub [1, 1, 1, 0] c11
theorem body11 : c11 = (.seq r11_0 (.seq r11_1 (.seq (.seq r11_2 (.cond (.tmp 9) r11_3 .skip)) (.seq r11_4 .ret)))) := by kernel_rfl
noncomputable def L11_0 : {l : List Oper // (opsOf r11_0).map strip = l} := by refine ⟨?l, ?h⟩; case h => simp only [r11_0, c11, bodyOf, Tryd.f11, Code.sub, opsOf, List.map_cons, List.map_nil, strip]; rfl
theorem w11_0 : W Tryd.prog TT S 5 [9] r11_0 k E m Q ↔ Rg Tryd.prog TT S 5 [9] [4] [] (lgo E [] (lops Tryd.prog (callw Tryd.prog TT S) [(some 4)] (L11_0).1 E m)) k E Q := w_plain (by kernel_rfl) (L11_0).2
noncomputable def L11_1 : {l : List Oper // (opsOf r11_1).map strip = l} := by refine ⟨?l, ?h⟩; case h => simp only [r11_1, c11, bodyOf, Tryd.f11, Code.sub, opsOf, List.map_cons, List.map_nil, strip]; rfl
theorem w11_1 : W Tryd.prog TT S 5 [9] r11_1 k E m Q ↔ Rg Tryd.prog TT S 5 [9] [0] [] (lgo E [0, 1] (lops Tryd.prog (callw Tryd.prog TT S) [(some 5), (some 6), (some 7), (some 0)] (L11_1).1 E m)) k E Q := w_plain (by kernel_rfl) (L11_1).2
noncomputable def L11_2 : {l : List Oper // (opsOf r11_2).map strip = l} := by refine ⟨?l, ?h⟩; case h => simp only [r11_2, c11, bodyOf, Tryd.f11, Code.sub, opsOf, List.map_cons, List.map_nil, strip]; rfl
theorem w11_2 : W Tryd.prog TT S 5 [9] r11_2 k E m Q ↔ Rg Tryd.prog TT S 5 [9] [] [9] (lgo E [0] (lops Tryd.prog (callw Tryd.prog TT S) [(some 8), (some 9)] (L11_2).1 E m)) k E Q := w_plain (by kernel_rfl) (L11_2).2
noncomputable def L11_3 : {l : List Oper // (opsOf r11_3).map strip = l} := by refine ⟨?l, ?h⟩; case h => simp only [r11_3, c11, bodyOf, Tryd.f11, Code.sub, opsOf, List.map_cons, List.map_nil, strip]; rfl
theorem w11_3 : W Tryd.prog TT S 5 [9] r11_3 k E m Q ↔ Rg Tryd.prog TT S 5 [9] [0] [] (lgo E [0, 1] (lops Tryd.prog (callw Tryd.prog TT S) [(some 10), (some 11), (some 12), (some 0)] (L11_3).1 E m)) k E Q := w_plain (by kernel_rfl) (L11_3).2
noncomputable def L11_4 : {l : List Oper // (opsOf r11_4).map strip = l} := by refine ⟨?l, ?h⟩; case h => simp only [r11_4, c11, bodyOf, Tryd.f11, Code.sub, opsOf, List.map_cons, List.map_nil, strip]; rfl
theorem w11_4 : W Tryd.prog TT S 5 [9] r11_4 k E m Q ↔ Rg Tryd.prog TT S 5 [9] [4] [] (lgo E [0] (lops Tryd.prog (callw Tryd.prog TT S) [(some 13), (some 4)] (L11_4).1 E m)) k E Q := w_plain (by kernel_rfl) (L11_4).2
theorem k11 : FnIs TT 11 c11 [.tmp 4] 2 := ⟨Tryd.f11, by kernel_rfl, by simp only [Tryd.f11, c11, bodyOf], by kernel_rfl, of_decide_eq_true (by kernel_rfl)⟩

/- (*world.World).Print -/
noncomputable def c12 : Code := bodyOf Tryd.f12
noncomputable def r12_0 : Code := Code.sub [0] c12
noncomputable def r12_1 : Code := Code.sub [1, 0, 0] c12
noncomputable def r12_2 : Code := Code.sub [1, 0, 1, 1, 0] c12
noncomputable def r12_3 : Code := Code.sub [1, 0, 1, 1, 1, 1] c12
theorem body12 : c12 = (.seq r12_0 (.block 0 (.seq r12_1 (.cond (.tmp 25) .skip (.seq r12_2 (.cond (.tmp 28) .skip r12_3)))))) := by kernel_rfl
noncomputable def L12_0 : {l : List Oper // (opsOf r12_0).map strip = l} := by refine ⟨?l, ?h⟩; case h => simp only [r12_0, c12, bodyOf, Tryd.f12, Code.sub, opsOf, List.map_cons, List.map_nil, strip]; rfl
theorem w12_0 : W Tryd.prog TT S 8 [25, 28] r12_0 k E m Q ↔ Rg Tryd.prog TT S 8 [25, 28] [6, 7] [] (lgo E [0, 1, 2] (lops Tryd.prog (callw Tryd.prog TT S) [(some 9), (some 10), (some 11), (some 12), (some 8), (some 13), (some 14), (some 6), (some 7)] (L12_0).1 E m)) k E Q := w_plain (by kernel_rfl) (L12_0).2
noncomputable def L12_1 : {l : List Oper // (opsOf r12_1).map strip = l} := by refine ⟨?l, ?h⟩; case h => simp only [r12_1, c12, bodyOf, Tryd.f12, Code.sub, opsOf, List.map_cons, List.map_nil, strip]; rfl
theorem w12_1 : W Tryd.prog TT S 8 [25, 28] r12_1 k E m Q ↔ Rg Tryd.prog TT S 8 [25, 28] [] [25] (lgo E [7] (lops Tryd.prog (callw Tryd.prog TT S) [(some 26), (some 27), (some 25)] (L12_1).1 E m)) k E Q := w_plain (by kernel_rfl) (L12_1).2
noncomputable def L12_2 : {l : List Oper // (opsOf r12_2).map strip = l} := by refine ⟨?l, ?h⟩; case h => simp only [r12_2, c12, bodyOf, Tryd.f12, Code.sub, opsOf, List.map_cons, List.map_nil, strip]; rfl
theorem w12_2 : W Tryd.prog TT S 8 [25, 28] r12_2 k E m Q ↔ Rg Tryd.prog TT S 8 [25, 28] [] [28] (lgo E [0] (lops Tryd.prog (callw Tryd.prog TT S) [(some 29), (some 30), (some 28)] (L12_2).1 E m)) k E Q := w_plain (by kernel_rfl) (L12_2).2
noncomputable def L12_3 : {l : List Oper // (opsOf r12_3).map strip = l} := by refine ⟨?l, ?h⟩; case h => simp only [r12_3, c12, bodyOf, Tryd.f12, Code.sub, opsOf, List.map_cons, List.map_nil, strip]; rfl
theorem w12_3 : W Tryd.prog TT S 8 [25, 28] r12_3 k E m Q ↔ Rg Tryd.prog TT S 8 [25, 28] [] [] (lgo E [0, 6] (lops Tryd.prog (callw Tryd.prog TT S) [(some 15), (some 16), (some 17), (some 18), (some 19), (some 20), (some 21), (some 22), (some 23), (some 24), none] (L12_3).1 E m)) k E Q := w_plain (by kernel_rfl) (L12_3).2
theorem k12 : FnIs TT 12 c12 [] 3 := ⟨Tryd.f12, by kernel_rfl, by simp only [Tryd.f12, c12, bodyOf], by kernel_rfl, of_decide_eq_true (by kernel_rfl)⟩

/- (*world.World).Trace -/
noncomputable def c13 : Code := bodyOf Tryd.f13
noncomputable def r13_0 : Code := Code.sub [0] c13
noncomputable def r13_1 : Code := Code.sub [1, 0] c13
theorem body13 : c13 = (.seq r13_0 (.seq r13_1 .ret)) := by kernel_rfl
noncomputable def L13_0 : {l : List Oper // (opsOf r13_0).map strip = l} := by refine ⟨?l, ?h⟩; case h => simp only [r13_0, c13, bodyOf, Tryd.f13, Code.sub, opsOf, List.map_cons, List.map_nil, strip]; rfl
theorem w13_0 : W Tryd.prog TT S 3 [] r13_0 k E m Q ↔ Rg Tryd.prog TT S 3 [] [2] [] (lgo E [] (lops Tryd.prog (callw Tryd.prog TT S) [(some 2)] (L13_0).1 E m)) k E Q := w_plain (by kernel_rfl) (L13_0).2
noncomputable def L13_1 : {l : List Oper // (opsOf r13_1).map strip = l} := by refine ⟨?l, ?h⟩; case h => simp only [r13_1, c13, bodyOf, Tryd.f13, Code.sub, opsOf, List.map_cons, List.map_nil, strip]; rfl
theorem w13_1 : W Tryd.prog TT S 3 [] r13_1 k E m Q ↔ Rg Tryd.prog TT S 3 [] [2] [] (lgo E [0] (lops Tryd.prog (callw Tryd.prog TT S) [(some 3), (some 4), (some 5), (some 6), (some 7), (some 8), (some 2)] (L13_1).1 E m)) k E Q := w_plain (by kernel_rfl) (L13_1).2
theorem k13 : FnIs TT 13 c13 [.tmp 2] 1 := ⟨Tryd.f13, by kernel_rfl, by simp only [Tryd.f13, c13, bodyOf], by kernel_rfl, of_decide_eq_true (by kernel_rfl)⟩

/- (*world.World).Full -/
noncomputable def c14 : Code := bodyOf Tryd.f14
noncomputable def r14_0 : Code := Code.sub [0] c14
noncomputable def r14_1 : Code := Code.sub [1, 0] c14
theorem body14 : c14 = (.seq r14_0 (.seq r14_1 .ret)) := by kernel_rfl
noncomputable def L14_0 : {l : List Oper // (opsOf r14_0).map strip = l} := by refine ⟨?l, ?h⟩; case h => simp only [r14_0, c14, bodyOf, Tryd.f14, Code.sub, opsOf, List.map_cons, List.map_nil, strip]; rfl
theorem w14_0 : W Tryd.prog TT S 3 [] r14_0 k E m Q ↔ Rg Tryd.prog TT S 3 [] [2] [] (lgo E [] (lops Tryd.prog (callw Tryd.prog TT S) [(some 2)] (L14_0).1 E m)) k E Q := w_plain (by kernel_rfl) (L14_0).2
noncomputable def L14_1 : {l : List Oper // (opsOf r14_1).map strip = l} := by refine ⟨?l, ?h⟩; case h => simp only [r14_1, c14, bodyOf, Tryd.f14, Code.sub, opsOf, List.map_cons, List.map_nil, strip]; rfl
theorem w14_1 : W Tryd.prog TT S 3 [] r14_1 k E m Q ↔ Rg Tryd.prog TT S 3 [] [2] [] (lgo E [0] (lops Tryd.prog (callw Tryd.prog TT S) [(some 3), (some 4), (some 5), (some 6), (some 7), (some 8), (some 2)] (L14_1).1 E m)) k E Q := w_plain (by kernel_rfl) (L14_1).2
theorem k14 : FnIs TT 14 c14 [.tmp 2] 1 := ⟨Tryd.f14, by kernel_rfl, by simp only [Tryd.f14, c14, bodyOf], by kernel_rfl, of_decide_eq_true (by kernel_rfl)⟩

/- turnstoneref10.Digits -/
noncomputable def c15 : Code := bodyOf Tryd.f15
noncomputable def r15_0 : Code := Code.sub [0] c15
noncomputable def r15_1 : Code := Code.sub [1, 0, 0] c15
noncomputable def r15_2 : Code := Code.sub [1, 0, 1, 0, 0] c15
noncomputable def r15_3 : Code := Code.sub [1, 1, 0] c15
theorem body15 : c15 = (.seq r15_0 (.seq (.seq r15_1 (.cond (.tmp 4) (.seq r15_2 .ret) .skip)) (.seq r15_3 .ret))) := by kernel_rfl
noncomputable def L15_0 : {l : List Oper // (opsOf r15_0).map strip = l} := by refine ⟨?l, ?h⟩; case h => simp only [r15_0, c15, bodyOf, Tryd.f15, Code.sub, opsOf, List.map_cons, List.map_nil, strip]; rfl
theorem w15_0 : W Tryd.prog TT S 3 [4] r15_0 k E m Q ↔ Rg Tryd.prog TT S 3 [4] [2] [] (lgo E [] (lops Tryd.prog (callw Tryd.prog TT S) [(some 2)] (L15_0).1 E m)) k E Q := w_plain (by kernel_rfl) (L15_0).2
noncomputable def L15_1 : {l : List Oper // (opsOf r15_1).map strip = l} := by refine ⟨?l, ?h⟩; case h => simp only [r15_1, c15, bodyOf, Tryd.f15, Code.sub, opsOf, List.map_cons, List.map_nil, strip]; rfl
theorem w15_1 : W Tryd.prog TT S 3 [4] r15_1 k E m Q ↔ Rg Tryd.prog TT S 3 [4] [] [4] (lgo E [0] (lops Tryd.prog (callw Tryd.prog TT S) [(some 3), (some 4)] (L15_1).1 E m)) k E Q := w_plain (by kernel_rfl) (L15_1).2
noncomputable def L15_2 : {l : List Oper // (opsOf r15_2).map strip = l} := by refine ⟨?l, ?h⟩; case h => simp only [r15_2, c15, bodyOf, Tryd.f15, Code.sub, opsOf, List.map_cons, List.map_nil, strip]; rfl
theorem w15_2 : W Tryd.prog TT S 3 [4] r15_2 k E m Q ↔ Rg Tryd.prog TT S 3 [4] [2] [] (lgo E [0] (lops Tryd.prog (callw Tryd.prog TT S) [(some 5), (some 6), (some 7), (some 2)] (L15_2).1 E m)) k E Q := w_plain (by kernel_rfl) (L15_2).2
noncomputable def L15_3 : {l : List Oper // (opsOf r15_3).map strip = l} := by refine ⟨?l, ?h⟩; case h => simp only [r15_3, c15, bodyOf, Tryd.f15, Code.sub, opsOf, List.map_cons, List.map_nil, strip]; rfl
theorem w15_3 : W Tryd.prog TT S 3 [4] r15_3 k E m Q ↔ Rg Tryd.prog TT S 3 [4] [2] [] (lgo E [0] (lops Tryd.prog (callw Tryd.prog TT S) [(some 8), (some 9), (some 10), (some 2)] (L15_3).1 E m)) k E Q := w_plain (by kernel_rfl) (L15_3).2
theorem k15 : FnIs TT 15 c15 [.tmp 2] 1 := ⟨Tryd.f15, by kernel_rfl, by simp only [Tryd.f15, c15, bodyOf], by kernel_rfl, of_decide_eq_true (by kernel_rfl)⟩

/- (*world.World).Cat -/
noncomputable def c16 : Code := bodyOf Tryd.f16
noncomputable def r16_0 : Code := Code.sub [0] c16
noncomputable def r16_1 : Code := Code.sub [1, 0] c16
noncomputable def r16_2 : Code := Code.sub [1, 1, 0, 0] c16
noncomputable def r16_3 : Code := Code.sub [1, 1, 0, 1, 0, 0] c16
noncomputable def r16_4 : Code := Code.sub [1, 1, 1, 0] c16
theorem body16 : c16 = (.seq r16_0 (.seq r16_1 (.seq (.seq r16_2 (.cond (.tmp 24) (.seq r16_3 .ret) .skip)) (.seq r16_4 .ret)))) := by kernel_rfl
noncomputable def L16_0 : {l : List Oper // (opsOf r16_0).map strip = l} := by refine ⟨?l, ?h⟩; case h => simp only [r16_0, c16, bodyOf, Tryd.f16, Code.sub, opsOf, List.map_cons, List.map_nil, strip]; rfl
theorem w16_0 : W Tryd.prog TT S 9 [24] r16_0 k E m Q ↔ Rg Tryd.prog TT S 9 [24] [6, 7] [] (lgo E [] (lops Tryd.prog (callw Tryd.prog TT S) [(some 6), (some 7)] (L16_0).1 E m)) k E Q := w_plain (by kernel_rfl) (L16_0).2
theorem can16_1 : canonOps (opsOf r16_1) = opsOf r16_1 := by kernel_rfl
noncomputable def L16_1 : {l : List Oper // (canonOps (opsOf r16_1)).map strip = l} := by refine ⟨?l, (congrArg (List.map strip) can16_1).trans ?h⟩; case h => simp only [r16_1, c16, bodyOf, Tryd.f16, Code.sub, opsOf, List.map_cons, List.map_nil, strip]; rfl
theorem w16_1 : W Tryd.prog TT S 9 [24] r16_1 k E m Q ↔ Rg Tryd.prog TT S 9 [24] [8] [] (lgo E [1, 0, 2] (lloud Tryd.prog (callw Tryd.prog TT S) [(some 9), (some 10), (some 11), (some 12), (some 13), (some 14), (some 15), (some 16), (some 17), (some 18), (some 19), (some 20), (some 21), (some 8)] (L16_1).1 [(3, [5]), (9, [5, 11])] (lstates Tryd.prog (callw Tryd.prog TT S) [(some 9), (some 10), (some 11), (some 12), (some 13), (some 14), (some 15), (some 16), (some 17), (some 18), (some 19), (some 20), (some 21), (some 8)] (L16_1).1 E m))) k E Q := w_loud (by kernel_rfl) (L16_1).2
noncomputable def L16_2 : {l : List Oper // (opsOf r16_2).map strip = l} := by refine ⟨?l, ?h⟩; case h => simp only [r16_2, c16, bodyOf, Tryd.f16, Code.sub, opsOf, List.map_cons, List.map_nil, strip]; rfl
theorem w16_2 : W Tryd.prog TT S 9 [24] r16_2 k E m Q ↔ Rg Tryd.prog TT S 9 [24] [] [24] (lgo E [8] (lops Tryd.prog (callw Tryd.prog TT S) [(some 22), (some 23), (some 24)] (L16_2).1 E m)) k E Q := w_plain (by kernel_rfl) (L16_2).2
noncomputable def L16_3 : {l : List Oper // (opsOf r16_3).map strip = l} := by refine ⟨?l, ?h⟩; case h => simp only [r16_3, c16, bodyOf, Tryd.f16, Code.sub, opsOf, List.map_cons, List.map_nil, strip]; rfl
theorem w16_3 : W Tryd.prog TT S 9 [24] r16_3 k E m Q ↔ Rg Tryd.prog TT S 9 [24] [6, 7] [] (lgo E [] (lops Tryd.prog (callw Tryd.prog TT S) [(some 6), (some 7)] (L16_3).1 E m)) k E Q := w_plain (by kernel_rfl) (L16_3).2
noncomputable def L16_4 : {l : List Oper // (opsOf r16_4).map strip = l} := by refine ⟨?l, ?h⟩; case h => simp only [r16_4, c16, bodyOf, Tryd.f16, Code.sub, opsOf, List.map_cons, List.map_nil, strip]; rfl
theorem w16_4 : W Tryd.prog TT S 9 [24] r16_4 k E m Q ↔ Rg Tryd.prog TT S 9 [24] [6, 7] [] (lgo E [0, 8] (lops Tryd.prog (callw Tryd.prog TT S) [(some 25), (some 26), (some 27), (some 28), (some 29), (some 30), (some 31), (some 32), (some 6), (some 7)] (L16_4).1 E m)) k E Q := w_plain (by kernel_rfl) (L16_4).2
theorem k16 : FnIs TT 16 c16 [.tmp 6, .tmp 7] 3 := ⟨Tryd.f16, by kernel_rfl, by simp only [Tryd.f16, c16, bodyOf], by kernel_rfl, of_decide_eq_true (by kernel_rfl)⟩

/- (*world.World).Lit -/
noncomputable def c17 : Code := bodyOf Tryd.f17
noncomputable def r17_0 : Code := Code.sub [0] c17
noncomputable def r17_1 : Code := Code.sub [1, 0, 0] c17
noncomputable def r17_2 : Code := Code.sub [1, 0, 1, 0, 0] c17
noncomputable def r17_3 : Code := Code.sub [1, 1, 0] c17
theorem body17 : c17 = (.seq r17_0 (.seq (.seq r17_1 (.cond (.tmp 15) (.seq r17_2 .ret) .skip)) (.seq r17_3 .ret))) := by kernel_rfl
noncomputable def L17_0 : {l : List Oper // (opsOf r17_0).map strip = l} := by refine ⟨?l, ?h⟩; case h => simp only [r17_0, c17, bodyOf, Tryd.f17, Code.sub, opsOf, List.map_cons, List.map_nil, strip]; rfl
theorem w17_0 : W Tryd.prog TT S 5 [15] r17_0 k E m Q ↔ Rg Tryd.prog TT S 5 [15] [4] [] (lgo E [] (lops Tryd.prog (callw Tryd.prog TT S) [(some 4)] (L17_0).1 E m)) k E Q := w_plain (by kernel_rfl) (L17_0).2
noncomputable def L17_1 : {l : List Oper // (opsOf r17_1).map strip = l} := by refine ⟨?l, ?h⟩; case h => simp only [r17_1, c17, bodyOf, Tryd.f17, Code.sub, opsOf, List.map_cons, List.map_nil, strip]; rfl
theorem w17_1 : W Tryd.prog TT S 5 [15] r17_1 k E m Q ↔ Rg Tryd.prog TT S 5 [15] [] [15] (lgo E [1, 0] (lops Tryd.prog (callw Tryd.prog TT S) [(some 5), (some 6), (some 7), (some 8), (some 9), (some 10), (some 11), (some 12), (some 13), (some 14), (some 15)] (L17_1).1 E m)) k E Q := w_plain (by kernel_rfl) (L17_1).2
noncomputable def L17_2 : {l : List Oper // (opsOf r17_2).map strip = l} := by refine ⟨?l, ?h⟩; case h => simp only [r17_2, c17, bodyOf, Tryd.f17, Code.sub, opsOf, List.map_cons, List.map_nil, strip]; rfl
theorem w17_2 : W Tryd.prog TT S 5 [15] r17_2 k E m Q ↔ Rg Tryd.prog TT S 5 [15] [4] [] (lgo E [] (lops Tryd.prog (callw Tryd.prog TT S) [(some 4)] (L17_2).1 E m)) k E Q := w_plain (by kernel_rfl) (L17_2).2
noncomputable def L17_3 : {l : List Oper // (opsOf r17_3).map strip = l} := by refine ⟨?l, ?h⟩; case h => simp only [r17_3, c17, bodyOf, Tryd.f17, Code.sub, opsOf, List.map_cons, List.map_nil, strip]; rfl
theorem w17_3 : W Tryd.prog TT S 5 [15] r17_3 k E m Q ↔ Rg Tryd.prog TT S 5 [15] [4] [] (lgo E [0, 1] (lops Tryd.prog (callw Tryd.prog TT S) [(some 16), (some 17), (some 18), (some 19), (some 20), (some 21), (some 22), (some 4)] (L17_3).1 E m)) k E Q := w_plain (by kernel_rfl) (L17_3).2
theorem k17 : FnIs TT 17 c17 [.tmp 4] 2 := ⟨Tryd.f17, by kernel_rfl, by simp only [Tryd.f17, c17, bodyOf], by kernel_rfl, of_decide_eq_true (by kernel_rfl)⟩

/- (*world.World).Equal -/
noncomputable def c18 : Code := bodyOf Tryd.f18
noncomputable def r18_0 : Code := Code.sub [0] c18
noncomputable def r18_1 : Code := Code.sub [1, 0] c18
theorem body18 : c18 = (.seq r18_0 (.seq r18_1 .ret)) := by kernel_rfl
noncomputable def L18_0 : {l : List Oper // (opsOf r18_0).map strip = l} := by refine ⟨?l, ?h⟩; case h => simp only [r18_0, c18, bodyOf, Tryd.f18, Code.sub, opsOf, List.map_cons, List.map_nil, strip]; rfl
theorem w18_0 : W Tryd.prog TT S 7 [] r18_0 k E m Q ↔ Rg Tryd.prog TT S 7 [] [6] [] (lgo E [] (lops Tryd.prog (callw Tryd.prog TT S) [(some 6)] (L18_0).1 E m)) k E Q := w_plain (by kernel_rfl) (L18_0).2
theorem can18_1 : canonOps (opsOf r18_1) = opsOf r18_1 := by kernel_rfl
noncomputable def L18_1 : {l : List Oper // (canonOps (opsOf r18_1)).map strip = l} := by refine ⟨?l, (congrArg (List.map strip) can18_1).trans ?h⟩; case h => simp only [r18_1, c18, bodyOf, Tryd.f18, Code.sub, opsOf, List.map_cons, List.map_nil, strip]; rfl
theorem w18_1 : W Tryd.prog TT S 7 [] r18_1 k E m Q ↔ Rg Tryd.prog TT S 7 [] [6] [] (lgo E [1, 0, 2] (lloud Tryd.prog (callw Tryd.prog TT S) [(some 7), (some 8), (some 9), (some 10), (some 11), (some 12), (some 13), (some 14), (some 15), (some 16), (some 17), (some 18), (some 19), (some 6)] (L18_1).1 [(3, [5]), (9, [5, 11])] (lstates Tryd.prog (callw Tryd.prog TT S) [(some 7), (some 8), (some 9), (some 10), (some 11), (some 12), (some 13), (some 14), (some 15), (some 16), (some 17), (some 18), (some 19), (some 6)] (L18_1).1 E m))) k E Q := w_loud (by kernel_rfl) (L18_1).2
theorem k18 : FnIs TT 18 c18 [.tmp 6] 3 := ⟨Tryd.f18, by kernel_rfl, by simp only [Tryd.f18, c18, bodyOf], by kernel_rfl, of_decide_eq_true (by kernel_rfl)⟩

/- (*world.World).Heap -/
noncomputable def c19 : Code := bodyOf Tryd.f19
noncomputable def r19_0 : Code := Code.sub [0] c19
noncomputable def r19_1 : Code := Code.sub [1, 0] c19
theorem body19 : c19 = (.seq r19_0 (.seq r19_1 .ret)) := by kernel_rfl
noncomputable def L19_0 : {l : List Oper // (opsOf r19_0).map strip = l} := by refine ⟨?l, ?h⟩; case h => simp only [r19_0, c19, bodyOf, Tryd.f19, Code.sub, opsOf, List.map_cons, List.map_nil, strip]; rfl
theorem w19_0 : W Tryd.prog TT S 3 [] r19_0 k E m Q ↔ Rg Tryd.prog TT S 3 [] [2] [] (lgo E [] (lops Tryd.prog (callw Tryd.prog TT S) [(some 2)] (L19_0).1 E m)) k E Q := w_plain (by kernel_rfl) (L19_0).2
noncomputable def L19_1 : {l : List Oper // (opsOf r19_1).map strip = l} := by refine ⟨?l, ?h⟩; case h => simp only [r19_1, c19, bodyOf, Tryd.f19, Code.sub, opsOf, List.map_cons, List.map_nil, strip]; rfl
theorem w19_1 : W Tryd.prog TT S 3 [] r19_1 k E m Q ↔ Rg Tryd.prog TT S 3 [] [2] [] (lgo E [0] (lops Tryd.prog (callw Tryd.prog TT S) [(some 3), (some 4), (some 5), (some 6), (some 2)] (L19_1).1 E m)) k E Q := w_plain (by kernel_rfl) (L19_1).2
theorem k19 : FnIs TT 19 c19 [.tmp 2] 1 := ⟨Tryd.f19, by kernel_rfl, by simp only [Tryd.f19, c19, bodyOf], by kernel_rfl, of_decide_eq_true (by kernel_rfl)⟩

/- (*heap.Heap).Len -/
noncomputable def c20 : Code := bodyOf Tryd.f20
noncomputable def r20_0 : Code := Code.sub [0] c20
noncomputable def r20_1 : Code := Code.sub [1, 0] c20
theorem body20 : c20 = (.seq r20_0 (.seq r20_1 .ret)) := by kernel_rfl
noncomputable def L20_0 : {l : List Oper // (opsOf r20_0).map strip = l} := by refine ⟨?l, ?h⟩; case h => simp only [r20_0, c20, bodyOf, Tryd.f20, Code.sub, opsOf, List.map_cons, List.map_nil, strip]; rfl
theorem w20_0 : W Tryd.prog TT S 5 [] r20_0 k E m Q ↔ Rg Tryd.prog TT S 5 [] [4] [] (lgo E [] (lops Tryd.prog (callw Tryd.prog TT S) [(some 4)] (L20_0).1 E m)) k E Q := w_plain (by kernel_rfl) (L20_0).2
noncomputable def L20_1 : {l : List Oper // (opsOf r20_1).map strip = l} := by refine ⟨?l, ?h⟩; case h => simp only [r20_1, c20, bodyOf, Tryd.f20, Code.sub, opsOf, List.map_cons, List.map_nil, strip]; rfl
theorem w20_1 : W Tryd.prog TT S 5 [] r20_1 k E m Q ↔ Rg Tryd.prog TT S 5 [] [4] [] (lgo E [0, 1] (lops Tryd.prog (callw Tryd.prog TT S) [(some 5), (some 6), (some 7), (some 8), (some 9), (some 4)] (L20_1).1 E m)) k E Q := w_plain (by kernel_rfl) (L20_1).2
theorem k20 : FnIs TT 20 c20 [.tmp 4] 2 := ⟨Tryd.f20, by kernel_rfl, by simp only [Tryd.f20, c20, bodyOf], by kernel_rfl, of_decide_eq_true (by kernel_rfl)⟩

/- (*world.World).Less -/
noncomputable def c21 : Code := bodyOf Tryd.f21
noncomputable def r21_0 : Code := Code.sub [0] c21
noncomputable def r21_1 : Code := Code.sub [1, 0] c21
theorem body21 : c21 = (.seq r21_0 (.seq r21_1 .ret)) := by kernel_rfl
noncomputable def L21_0 : {l : List Oper // (opsOf r21_0).map strip = l} := by refine ⟨?l, ?h⟩; case h => simp only [r21_0, c21, bodyOf, Tryd.f21, Code.sub, opsOf, List.map_cons, List.map_nil, strip]; rfl
theorem w21_0 : W Tryd.prog TT S 7 [] r21_0 k E m Q ↔ Rg Tryd.prog TT S 7 [] [6] [] (lgo E [] (lops Tryd.prog (callw Tryd.prog TT S) [(some 6)] (L21_0).1 E m)) k E Q := w_plain (by kernel_rfl) (L21_0).2
theorem can21_1 : canonOps (opsOf r21_1) = opsOf r21_1 := by kernel_rfl
noncomputable def L21_1 : {l : List Oper // (canonOps (opsOf r21_1)).map strip = l} := by refine ⟨?l, (congrArg (List.map strip) can21_1).trans ?h⟩; case h => simp only [r21_1, c21, bodyOf, Tryd.f21, Code.sub, opsOf, List.map_cons, List.map_nil, strip]; rfl
theorem w21_1 : W Tryd.prog TT S 7 [] r21_1 k E m Q ↔ Rg Tryd.prog TT S 7 [] [6] [] (lgo E [1, 0, 2] (lloud Tryd.prog (callw Tryd.prog TT S) [(some 7), (some 8), (some 9), (some 10), (some 11), (some 12), (some 13), (some 14), (some 15), (some 16), (some 17), (some 18), (some 19), (some 6)] (L21_1).1 [(3, [5]), (9, [5, 11])] (lstates Tryd.prog (callw Tryd.prog TT S) [(some 7), (some 8), (some 9), (some 10), (some 11), (some 12), (some 13), (some 14), (some 15), (some 16), (some 17), (some 18), (some 19), (some 6)] (L21_1).1 E m))) k E Q := w_loud (by kernel_rfl) (L21_1).2
theorem k21 : FnIs TT 21 c21 [.tmp 6] 3 := ⟨Tryd.f21, by kernel_rfl, by simp only [Tryd.f21, c21, bodyOf], by kernel_rfl, of_decide_eq_true (by kernel_rfl)⟩

/- (*heap.Heap).Words -/
noncomputable def c37 : Code := bodyOf Tryd.f37
noncomputable def r37_0 : Code := Code.sub [0] c37
noncomputable def r37_1 : Code := Code.sub [1, 0] c37
theorem body37 : c37 = (.seq r37_0 (.seq r37_1 .ret)) := by kernel_rfl
noncomputable def L37_0 : {l : List Oper // (opsOf r37_0).map strip = l} := by refine ⟨?l, ?h⟩; case h => simp only [r37_0, c37, bodyOf, Tryd.f37, Code.sub, opsOf, List.map_cons, List.map_nil, strip]; rfl
theorem w37_0 : W Tryd.prog TT S 3 [] r37_0 k E m Q ↔ Rg Tryd.prog TT S 3 [] [2] [] (lgo E [] (lops Tryd.prog (callw Tryd.prog TT S) [(some 2)] (L37_0).1 E m)) k E Q := w_plain (by kernel_rfl) (L37_0).2
noncomputable def L37_1 : {l : List Oper // (opsOf r37_1).map strip = l} := by refine ⟨?l, ?h⟩; case h => simp only [r37_1, c37, bodyOf, Tryd.f37, Code.sub, opsOf, List.map_cons, List.map_nil, strip]; rfl
theorem w37_1 : W Tryd.prog TT S 3 [] r37_1 k E m Q ↔ Rg Tryd.prog TT S 3 [] [2] [] (lgo E [0] (lops Tryd.prog (callw Tryd.prog TT S) [(some 3), (some 4), (some 5), (some 6), (some 7), (some 8), (some 2)] (L37_1).1 E m)) k E Q := w_plain (by kernel_rfl) (L37_1).2
theorem k37 : FnIs TT 37 c37 [.tmp 2] 1 := ⟨Tryd.f37, by kernel_rfl, by simp only [Tryd.f37, c37, bodyOf], by kernel_rfl, of_decide_eq_true (by kernel_rfl)⟩

/- heap.New -/
noncomputable def c40 : Code := bodyOf Tryd.f40
noncomputable def r40_0 : Code := Code.sub [0] c40
noncomputable def r40_1 : Code := Code.sub [1, 0, 0] c40
noncomputable def r40_2 : Code := Code.sub [1, 0, 1, 0, 0] c40
noncomputable def r40_3 : Code := Code.sub [1, 1, 0] c40
theorem body40 : c40 = (.seq r40_0 (.seq (.seq r40_1 (.cond (.tmp 9) (.seq r40_2 .ret) .skip)) (.seq r40_3 .ret))) := by kernel_rfl
noncomputable def L40_0 : {l : List Oper // (opsOf r40_0).map strip = l} := by refine ⟨?l, ?h⟩; case h => simp only [r40_0, c40, bodyOf, Tryd.f40, Code.sub, opsOf, List.map_cons, List.map_nil, strip]; rfl
theorem w40_0 : W Tryd.prog TT S 4 [9] r40_0 k E m Q ↔ Rg Tryd.prog TT S 4 [9] [2, 3] [] (lgo E [] (lops Tryd.prog (callw Tryd.prog TT S) [(some 2), (some 3)] (L40_0).1 E m)) k E Q := w_plain (by kernel_rfl) (L40_0).2
noncomputable def L40_1 : {l : List Oper // (opsOf r40_1).map strip = l} := by refine ⟨?l, ?h⟩; case h => simp only [r40_1, c40, bodyOf, Tryd.f40, Code.sub, opsOf, List.map_cons, List.map_nil, strip]; rfl
theorem w40_1 : W Tryd.prog TT S 4 [9] r40_1 k E m Q ↔ Rg Tryd.prog TT S 4 [9] [] [9] (lgo E [0] (lops Tryd.prog (callw Tryd.prog TT S) [(some 4), (some 5), (some 6), (some 7), (some 8), (some 9)] (L40_1).1 E m)) k E Q := w_plain (by kernel_rfl) (L40_1).2
noncomputable def L40_2 : {l : List Oper // (opsOf r40_2).map strip = l} := by refine ⟨?l, ?h⟩; case h => simp only [r40_2, c40, bodyOf, Tryd.f40, Code.sub, opsOf, List.map_cons, List.map_nil, strip]; rfl
theorem w40_2 : W Tryd.prog TT S 4 [9] r40_2 k E m Q ↔ Rg Tryd.prog TT S 4 [9] [2, 3] [] (lgo E [] (lops Tryd.prog (callw Tryd.prog TT S) [(some 2), (some 3)] (L40_2).1 E m)) k E Q := w_plain (by kernel_rfl) (L40_2).2
noncomputable def L40_3 : {l : List Oper // (opsOf r40_3).map strip = l} := by refine ⟨?l, ?h⟩; case h => simp only [r40_3, c40, bodyOf, Tryd.f40, Code.sub, opsOf, List.map_cons, List.map_nil, strip]; rfl
theorem w40_3 : W Tryd.prog TT S 4 [9] r40_3 k E m Q ↔ Rg Tryd.prog TT S 4 [9] [2, 3] [] (lgo E [0] (lops Tryd.prog (callw Tryd.prog TT S) [(some 10), (some 11), (some 12), (some 13), (some 2), (some 3)] (L40_3).1 E m)) k E Q := w_plain (by kernel_rfl) (L40_3).2
theorem k40 : FnIs TT 40 c40 [.tmp 2, .tmp 3] 1 := ⟨Tryd.f40, by kernel_rfl, by simp only [Tryd.f40, c40, bodyOf], by kernel_rfl, of_decide_eq_true (by kernel_rfl)⟩

/- (*heap.Heap).Text -/
noncomputable def c41 : Code := bodyOf Tryd.f41
noncomputable def r41_0 : Code := Code.sub [0] c41
noncomputable def r41_1 : Code := Code.sub [1, 0, 0] c41
noncomputable def r41_2 : Code := Code.sub [1, 0, 1, 0, 0] c41
noncomputable def r41_3 : Code := Code.sub [1, 1, 0] c41
noncomputable def r41_4 : Code := Code.sub [1, 1, 1, 0, 0] c41
noncomputable def r41_5 : Code := Code.sub [1, 1, 1, 0, 1, 0, 0, 0, 0] c41
noncomputable def r41_6 : Code := Code.sub [1, 1, 1, 0, 1, 0, 0, 1, 0, 0] c41
noncomputable def r41_7 : Code := Code.sub [1, 1, 1, 0, 1, 0, 0, 1, 1] c41
noncomputable def r41_8 : Code := Code.sub [1, 1, 1, 1, 0] c41
theorem body41 : c41 = (.seq r41_0 (.seq (.seq r41_1 (.cond (.tmp 10) (.seq r41_2 .ret) .skip)) (.seq r41_3 (.seq (.seq r41_4 (.block 0 (.loop (.seq (.seq r41_5 (.cond (.tmp 24) .skip (.exit 0))) (.seq (.block 1 r41_6) r41_7))))) (.seq r41_8 .ret))))) := by kernel_rfl
noncomputable def L41_0 : {l : List Oper // (opsOf r41_0).map strip = l} := by refine ⟨?l, ?h⟩; case h => simp only [r41_0, c41, bodyOf, Tryd.f41, Code.sub, opsOf, List.map_cons, List.map_nil, strip]; rfl
theorem w41_0 : W Tryd.prog TT S 9 [10, 24] r41_0 k E m Q ↔ Rg Tryd.prog TT S 9 [10, 24] [4, 5] [] (lgo E [] (lops Tryd.prog (callw Tryd.prog TT S) [(some 4), (some 5)] (L41_0).1 E m)) k E Q := w_plain (by kernel_rfl) (L41_0).2
noncomputable def L41_1 : {l : List Oper // (opsOf r41_1).map strip = l} := by refine ⟨?l, ?h⟩; case h => simp only [r41_1, c41, bodyOf, Tryd.f41, Code.sub, opsOf, List.map_cons, List.map_nil, strip]; rfl
theorem w41_1 : W Tryd.prog TT S 9 [10, 24] r41_1 k E m Q ↔ Rg Tryd.prog TT S 9 [10, 24] [] [10] (lgo E [1] (lops Tryd.prog (callw Tryd.prog TT S) [(some 9), (some 10)] (L41_1).1 E m)) k E Q := w_plain (by kernel_rfl) (L41_1).2
noncomputable def L41_2 : {l : List Oper // (opsOf r41_2).map strip = l} := by refine ⟨?l, ?h⟩; case h => simp only [r41_2, c41, bodyOf, Tryd.f41, Code.sub, opsOf, List.map_cons, List.map_nil, strip]; rfl
theorem w41_2 : W Tryd.prog TT S 9 [10, 24] r41_2 k E m Q ↔ Rg Tryd.prog TT S 9 [10, 24] [4, 5] [] (lgo E [] (lops Tryd.prog (callw Tryd.prog TT S) [(some 4), (some 5)] (L41_2).1 E m)) k E Q := w_plain (by kernel_rfl) (L41_2).2
noncomputable def L41_3 : {l : List Oper // (opsOf r41_3).map strip = l} := by refine ⟨?l, ?h⟩; case h => simp only [r41_3, c41, bodyOf, Tryd.f41, Code.sub, opsOf, List.map_cons, List.map_nil, strip]; rfl
theorem w41_3 : W Tryd.prog TT S 9 [10, 24] r41_3 k E m Q ↔ Rg Tryd.prog TT S 9 [10, 24] [6, 7] [] (lgo E [0, 1] (lops Tryd.prog (callw Tryd.prog TT S) [(some 12), (some 13), (some 14), (some 15), (some 11), (some 16), (some 17), (some 6), (some 7)] (L41_3).1 E m)) k E Q := w_plain (by kernel_rfl) (L41_3).2
noncomputable def L41_4 : {l : List Oper // (opsOf r41_4).map strip = l} := by refine ⟨?l, ?h⟩; case h => simp only [r41_4, c41, bodyOf, Tryd.f41, Code.sub, opsOf, List.map_cons, List.map_nil, strip]; rfl
theorem w41_4 : W Tryd.prog TT S 9 [10, 24] r41_4 k E m Q ↔ Rg Tryd.prog TT S 9 [10, 24] [8] [] (lgo E [] (lops Tryd.prog (callw Tryd.prog TT S) [(some 8)] (L41_4).1 E m)) k E Q := w_plain (by kernel_rfl) (L41_4).2
noncomputable def L41_5 : {l : List Oper // (opsOf r41_5).map strip = l} := by refine ⟨?l, ?h⟩; case h => simp only [r41_5, c41, bodyOf, Tryd.f41, Code.sub, opsOf, List.map_cons, List.map_nil, strip]; rfl
theorem w41_5 : W Tryd.prog TT S 9 [10, 24] r41_5 k E m Q ↔ Rg Tryd.prog TT S 9 [10, 24] [] [24] (lgo E [7, 8, 1] (lops Tryd.prog (callw Tryd.prog TT S) [(some 18), (some 19), (some 20), (some 21), (some 22), (some 23), (some 24)] (L41_5).1 E m)) k E Q := w_plain (by kernel_rfl) (L41_5).2
noncomputable def L41_6 : {l : List Oper // (opsOf r41_6).map strip = l} := by refine ⟨?l, ?h⟩; case h => simp only [r41_6, c41, bodyOf, Tryd.f41, Code.sub, opsOf, List.map_cons, List.map_nil, strip]; rfl
theorem w41_6 : W Tryd.prog TT S 9 [10, 24] r41_6 k E m Q ↔ Rg Tryd.prog TT S 9 [10, 24] [] [] (lgo E [0, 6, 1, 8] (lops Tryd.prog (callw Tryd.prog TT S) [(some 27), (some 28), (some 29), (some 30), (some 31), (some 32), (some 33), (some 34)] (L41_6).1 E m)) k E Q := w_plain (by kernel_rfl) (L41_6).2
noncomputable def L41_7 : {l : List Oper // (opsOf r41_7).map strip = l} := by refine ⟨?l, ?h⟩; case h => simp only [r41_7, c41, bodyOf, Tryd.f41, Code.sub, opsOf, List.map_cons, List.map_nil, strip]; rfl
theorem w41_7 : W Tryd.prog TT S 9 [10, 24] r41_7 k E m Q ↔ Rg Tryd.prog TT S 9 [10, 24] [8] [] (lgo E [8] (lops Tryd.prog (callw Tryd.prog TT S) [(some 25), (some 26), (some 8)] (L41_7).1 E m)) k E Q := w_plain (by kernel_rfl) (L41_7).2
noncomputable def L41_8 : {l : List Oper // (opsOf r41_8).map strip = l} := by refine ⟨?l, ?h⟩; case h => simp only [r41_8, c41, bodyOf, Tryd.f41, Code.sub, opsOf, List.map_cons, List.map_nil, strip]; rfl
theorem w41_8 : W Tryd.prog TT S 9 [10, 24] r41_8 k E m Q ↔ Rg Tryd.prog TT S 9 [10, 24] [4, 5] [] (lgo E [6, 7] (lops Tryd.prog (callw Tryd.prog TT S) [(some 35), (some 36), (some 4), (some 5)] (L41_8).1 E m)) k E Q := w_plain (by kernel_rfl) (L41_8).2
theorem k41 : FnIs TT 41 c41 [.tmp 4, .tmp 5] 2 := ⟨Tryd.f41, by kernel_rfl, by simp only [Tryd.f41, c41, bodyOf], by kernel_rfl, of_decide_eq_true (by kernel_rfl)⟩

/- turnstoneref1.Base -/
noncomputable def c42 : Code := bodyOf Tryd.f42
noncomputable def r42_0 : Code := Code.sub [0] c42
noncomputable def r42_1 : Code := Code.sub [1, 0] c42
theorem body42 : c42 = (.seq r42_0 (.seq r42_1 .ret)) := by kernel_rfl
noncomputable def L42_0 : {l : List Oper // (opsOf r42_0).map strip = l} := by refine ⟨?l, ?h⟩; case h => simp only [r42_0, c42, bodyOf, Tryd.f42, Code.sub, opsOf, List.map_cons, List.map_nil, strip]; rfl
theorem w42_0 : W Tryd.prog TT S 1 [] r42_0 k E m Q ↔ Rg Tryd.prog TT S 1 [] [0] [] (lgo E [] (lops Tryd.prog (callw Tryd.prog TT S) [(some 0)] (L42_0).1 E m)) k E Q := w_plain (by kernel_rfl) (L42_0).2
noncomputable def L42_1 : {l : List Oper // (opsOf r42_1).map strip = l} := by refine ⟨?l, ?h⟩; case h => simp only [r42_1, c42, bodyOf, Tryd.f42, Code.sub, opsOf, List.map_cons, List.map_nil, strip]; rfl
theorem w42_1 : W Tryd.prog TT S 1 [] r42_1 k E m Q ↔ Rg Tryd.prog TT S 1 [] [0] [] (lgo E [] (lops Tryd.prog (callw Tryd.prog TT S) [(some 1), (some 2), (some 3), (some 4), (some 5), (some 6), (some 0)] (L42_1).1 E m)) k E Q := w_plain (by kernel_rfl) (L42_1).2
theorem k42 : FnIs TT 42 c42 [.tmp 0] 0 := ⟨Tryd.f42, by kernel_rfl, by simp only [Tryd.f42, c42, bodyOf], by kernel_rfl, of_decide_eq_true (by kernel_rfl)⟩

/- (*heap.Heap).Used -/
noncomputable def c43 : Code := bodyOf Tryd.f43
noncomputable def r43_0 : Code := Code.sub [0] c43
noncomputable def r43_1 : Code := Code.sub [1, 0] c43
theorem body43 : c43 = (.seq r43_0 (.seq r43_1 .ret)) := by kernel_rfl
noncomputable def L43_0 : {l : List Oper // (opsOf r43_0).map strip = l} := by refine ⟨?l, ?h⟩; case h => simp only [r43_0, c43, bodyOf, Tryd.f43, Code.sub, opsOf, List.map_cons, List.map_nil, strip]; rfl
theorem w43_0 : W Tryd.prog TT S 3 [] r43_0 k E m Q ↔ Rg Tryd.prog TT S 3 [] [2] [] (lgo E [] (lops Tryd.prog (callw Tryd.prog TT S) [(some 2)] (L43_0).1 E m)) k E Q := w_plain (by kernel_rfl) (L43_0).2
noncomputable def L43_1 : {l : List Oper // (opsOf r43_1).map strip = l} := by refine ⟨?l, ?h⟩; case h => simp only [r43_1, c43, bodyOf, Tryd.f43, Code.sub, opsOf, List.map_cons, List.map_nil, strip]; rfl
theorem w43_1 : W Tryd.prog TT S 3 [] r43_1 k E m Q ↔ Rg Tryd.prog TT S 3 [] [2] [] (lgo E [0] (lops Tryd.prog (callw Tryd.prog TT S) [(some 3), (some 4), (some 5), (some 6), (some 7), (some 2)] (L43_1).1 E m)) k E Q := w_plain (by kernel_rfl) (L43_1).2
theorem k43 : FnIs TT 43 c43 [.tmp 2] 1 := ⟨Tryd.f43, by kernel_rfl, by simp only [Tryd.f43, c43, bodyOf], by kernel_rfl, of_decide_eq_true (by kernel_rfl)⟩

/- (*world.World).say -/
noncomputable def c44 : Code := bodyOf Tryd.f44
noncomputable def r44_0 : Code := Code.sub [0] c44
noncomputable def r44_1 : Code := Code.sub [1, 0, 0] c44
noncomputable def r44_2 : Code := Code.sub [1, 0, 1, 0, 0] c44
noncomputable def r44_3 : Code := Code.sub [1, 0, 1, 0, 1, 0, 0] c44
noncomputable def r44_4 : Code := Code.sub [1, 0, 1, 0, 1, 1, 0] c44
noncomputable def r44_5 : Code := Code.sub [1, 0, 1, 0, 1, 1, 1, 0, 0] c44
noncomputable def r44_6 : Code := Code.sub [1, 0, 1, 0, 1, 1, 1, 1, 0] c44
noncomputable def r44_7 : Code := Code.sub [1, 0, 1, 0, 1, 1, 1, 1, 1, 0, 0] c44
noncomputable def r44_8 : Code := Code.sub [1, 1, 0] c44
theorem body44 : c44 = (.seq r44_0 (.seq (.seq r44_1 (.block 0 (.seq r44_2 (.cond (.tmp 9) (.seq r44_3 .ret) (.seq r44_4 (.cond (.tmp 14) (.seq r44_5 .ret) (.seq r44_6 (.cond (.tmp 19) (.seq r44_7 .ret) .skip)))))))) (.seq r44_8 .ret))) := by kernel_rfl
noncomputable def L44_0 : {l : List Oper // (opsOf r44_0).map strip = l} := by refine ⟨?l, ?h⟩; case h => simp only [r44_0, c44, bodyOf, Tryd.f44, Code.sub, opsOf, List.map_cons, List.map_nil, strip]; rfl
theorem w44_0 : W Tryd.prog TT S 9 [9, 14, 19] r44_0 k E m Q ↔ Rg Tryd.prog TT S 9 [9, 14, 19] [6, 7] [] (lgo E [] (lops Tryd.prog (callw Tryd.prog TT S) [(some 6), (some 7)] (L44_0).1 E m)) k E Q := w_plain (by kernel_rfl) (L44_0).2
noncomputable def L44_1 : {l : List Oper // (opsOf r44_1).map strip = l} := by refine ⟨?l, ?h⟩; case h => simp only [r44_1, c44, bodyOf, Tryd.f44, Code.sub, opsOf, List.map_cons, List.map_nil, strip]; rfl
theorem w44_1 : W Tryd.prog TT S 9 [9, 14, 19] r44_1 k E m Q ↔ Rg Tryd.prog TT S 9 [9, 14, 19] [8] [] (lgo E [1] (lops Tryd.prog (callw Tryd.prog TT S) [(some 8)] (L44_1).1 E m)) k E Q := w_plain (by kernel_rfl) (L44_1).2
noncomputable def L44_2 : {l : List Oper // (opsOf r44_2).map strip = l} := by refine ⟨?l, ?h⟩; case h => simp only [r44_2, c44, bodyOf, Tryd.f44, Code.sub, opsOf, List.map_cons, List.map_nil, strip]; rfl
theorem w44_2 : W Tryd.prog TT S 9 [9, 14, 19] r44_2 k E m Q ↔ Rg Tryd.prog TT S 9 [9, 14, 19] [] [9] (lgo E [8] (lops Tryd.prog (callw Tryd.prog TT S) [(some 10), (some 9)] (L44_2).1 E m)) k E Q := w_plain (by kernel_rfl) (L44_2).2
noncomputable def L44_3 : {l : List Oper // (opsOf r44_3).map strip = l} := by refine ⟨?l, ?h⟩; case h => simp only [r44_3, c44, bodyOf, Tryd.f44, Code.sub, opsOf, List.map_cons, List.map_nil, strip]; rfl
theorem w44_3 : W Tryd.prog TT S 9 [9, 14, 19] r44_3 k E m Q ↔ Rg Tryd.prog TT S 9 [9, 14, 19] [6, 7] [] (lgo E [2] (lops Tryd.prog (callw Tryd.prog TT S) [(some 11), (some 12), (some 13), (some 6), (some 7)] (L44_3).1 E m)) k E Q := w_plain (by kernel_rfl) (L44_3).2
noncomputable def L44_4 : {l : List Oper // (opsOf r44_4).map strip = l} := by refine ⟨?l, ?h⟩; case h => simp only [r44_4, c44, bodyOf, Tryd.f44, Code.sub, opsOf, List.map_cons, List.map_nil, strip]; rfl
theorem w44_4 : W Tryd.prog TT S 9 [9, 14, 19] r44_4 k E m Q ↔ Rg Tryd.prog TT S 9 [9, 14, 19] [] [14] (lgo E [8] (lops Tryd.prog (callw Tryd.prog TT S) [(some 15), (some 14)] (L44_4).1 E m)) k E Q := w_plain (by kernel_rfl) (L44_4).2
noncomputable def L44_5 : {l : List Oper // (opsOf r44_5).map strip = l} := by refine ⟨?l, ?h⟩; case h => simp only [r44_5, c44, bodyOf, Tryd.f44, Code.sub, opsOf, List.map_cons, List.map_nil, strip]; rfl
theorem w44_5 : W Tryd.prog TT S 9 [9, 14, 19] r44_5 k E m Q ↔ Rg Tryd.prog TT S 9 [9, 14, 19] [6, 7] [] (lgo E [2] (lops Tryd.prog (callw Tryd.prog TT S) [(some 16), (some 17), (some 18), (some 6), (some 7)] (L44_5).1 E m)) k E Q := w_plain (by kernel_rfl) (L44_5).2
noncomputable def L44_6 : {l : List Oper // (opsOf r44_6).map strip = l} := by refine ⟨?l, ?h⟩; case h => simp only [r44_6, c44, bodyOf, Tryd.f44, Code.sub, opsOf, List.map_cons, List.map_nil, strip]; rfl
theorem w44_6 : W Tryd.prog TT S 9 [9, 14, 19] r44_6 k E m Q ↔ Rg Tryd.prog TT S 9 [9, 14, 19] [] [19] (lgo E [8] (lops Tryd.prog (callw Tryd.prog TT S) [(some 20), (some 19)] (L44_6).1 E m)) k E Q := w_plain (by kernel_rfl) (L44_6).2
noncomputable def L44_7 : {l : List Oper // (opsOf r44_7).map strip = l} := by refine ⟨?l, ?h⟩; case h => simp only [r44_7, c44, bodyOf, Tryd.f44, Code.sub, opsOf, List.map_cons, List.map_nil, strip]; rfl
theorem w44_7 : W Tryd.prog TT S 9 [9, 14, 19] r44_7 k E m Q ↔ Rg Tryd.prog TT S 9 [9, 14, 19] [6, 7] [] (lgo E [0, 2] (lops Tryd.prog (callw Tryd.prog TT S) [(some 21), (some 22), (some 23), (some 24), (some 25), (some 26), (some 6), (some 7)] (L44_7).1 E m)) k E Q := w_plain (by kernel_rfl) (L44_7).2
noncomputable def L44_8 : {l : List Oper // (opsOf r44_8).map strip = l} := by refine ⟨?l, ?h⟩; case h => simp only [r44_8, c44, bodyOf, Tryd.f44, Code.sub, opsOf, List.map_cons, List.map_nil, strip]; rfl
theorem w44_8 : W Tryd.prog TT S 9 [9, 14, 19] r44_8 k E m Q ↔ Rg Tryd.prog TT S 9 [9, 14, 19] [6, 7] [] (lgo E [] (lops Tryd.prog (callw Tryd.prog TT S) [(some 6), (some 7)] (L44_8).1 E m)) k E Q := w_plain (by kernel_rfl) (L44_8).2
theorem k44 : FnIs TT 44 c44 [.tmp 6, .tmp 7] 3 := ⟨Tryd.f44, by kernel_rfl, by simp only [Tryd.f44, c44, bodyOf], by kernel_rfl, of_decide_eq_true (by kernel_rfl)⟩

/- turnstoneref10.below -/
noncomputable def c45 : Code := bodyOf Tryd.f45
noncomputable def r45_0 : Code := Code.sub [0] c45
noncomputable def r45_1 : Code := Code.sub [1, 0, 0] c45
noncomputable def r45_2 : Code := Code.sub [1, 0, 1, 0, 0] c45
noncomputable def r45_3 : Code := Code.sub [1, 1, 0] c45
theorem body45 : c45 = (.seq r45_0 (.seq (.seq r45_1 (.cond (.tmp 4) (.seq r45_2 .ret) .skip)) (.seq r45_3 .ret))) := by kernel_rfl
noncomputable def L45_0 : {l : List Oper // (opsOf r45_0).map strip = l} := by refine ⟨?l, ?h⟩; case h => simp only [r45_0, c45, bodyOf, Tryd.f45, Code.sub, opsOf, List.map_cons, List.map_nil, strip]; rfl
theorem w45_0 : W Tryd.prog TT S 3 [4] r45_0 k E m Q ↔ Rg Tryd.prog TT S 3 [4] [2] [] (lgo E [] (lops Tryd.prog (callw Tryd.prog TT S) [(some 2)] (L45_0).1 E m)) k E Q := w_plain (by kernel_rfl) (L45_0).2
noncomputable def L45_1 : {l : List Oper // (opsOf r45_1).map strip = l} := by refine ⟨?l, ?h⟩; case h => simp only [r45_1, c45, bodyOf, Tryd.f45, Code.sub, opsOf, List.map_cons, List.map_nil, strip]; rfl
theorem w45_1 : W Tryd.prog TT S 3 [4] r45_1 k E m Q ↔ Rg Tryd.prog TT S 3 [4] [] [4] (lgo E [0] (lops Tryd.prog (callw Tryd.prog TT S) [(some 3), (some 4)] (L45_1).1 E m)) k E Q := w_plain (by kernel_rfl) (L45_1).2
noncomputable def L45_2 : {l : List Oper // (opsOf r45_2).map strip = l} := by refine ⟨?l, ?h⟩; case h => simp only [r45_2, c45, bodyOf, Tryd.f45, Code.sub, opsOf, List.map_cons, List.map_nil, strip]; rfl
theorem w45_2 : W Tryd.prog TT S 3 [4] r45_2 k E m Q ↔ Rg Tryd.prog TT S 3 [4] [2] [] (lgo E [0] (lops Tryd.prog (callw Tryd.prog TT S) [(some 5), (some 6), (some 7), (some 8), (some 9), (some 2)] (L45_2).1 E m)) k E Q := w_plain (by kernel_rfl) (L45_2).2
theorem can45_3 : canonOps (opsOf r45_3) = List.filterMap (fun i => ((opsOf r45_3)[i]?).map (renum [0, 1, 2, 3, 4, 5, 6, 7, 8, 9, 10])) [0, 1, 2, 3, 4, 5, 6, 7, 8, 9, 10] := by kernel_rfl
noncomputable def L45_3 : {l : List Oper // (canonOps (opsOf r45_3)).map strip = l} := by refine ⟨?l, (congrArg (List.map strip) can45_3).trans ?h⟩; case h => simp only [r45_3, c45, bodyOf, Tryd.f45, Code.sub, opsOf, List.filterMap_cons, List.filterMap_nil, List.getElem?_cons_succ, List.getElem?_cons_zero, Option.map_some, renum, List.map_cons, List.map_nil, strip]; rfl
theorem w45_3 : W Tryd.prog TT S 3 [4] r45_3 k E m Q ↔ Rg Tryd.prog TT S 3 [4] [2] [] (lgo E [0] (lloud Tryd.prog (callw Tryd.prog TT S) [(some 10), (some 11), (some 12), (some 13), (some 14), (some 15), (some 16), (some 17), (some 18), (some 19), (some 2)] (L45_3).1 [(6, [2, 7]), (8, [11])] (lstates Tryd.prog (callw Tryd.prog TT S) [(some 10), (some 11), (some 12), (some 13), (some 14), (some 15), (some 16), (some 17), (some 18), (some 19), (some 2)] (L45_3).1 E m))) k E Q := w_loud (by kernel_rfl) (L45_3).2
theorem k45 : FnIs TT 45 c45 [.tmp 2] 1 := ⟨Tryd.f45, by kernel_rfl, by simp only [Tryd.f45, c45, bodyOf], by kernel_rfl, of_decide_eq_true (by kernel_rfl)⟩

/- (*heap.Heap).String -/
noncomputable def c46 : Code := bodyOf Tryd.f46
noncomputable def r46_0 : Code := Code.sub [0] c46
noncomputable def r46_1 : Code := Code.sub [1, 0] c46
noncomputable def r46_2 : Code := Code.sub [1, 1, 0] c46
noncomputable def r46_3 : Code := Code.sub [1, 1, 1, 0, 0] c46
noncomputable def r46_4 : Code := Code.sub [1, 1, 1, 0, 1, 0, 0, 0, 0] c46
noncomputable def r46_5 : Code := Code.sub [1, 1, 1, 0, 1, 0, 0, 1, 0, 0] c46
noncomputable def r46_6 : Code := Code.sub [1, 1, 1, 0, 1, 0, 0, 1, 1] c46
noncomputable def r46_7 : Code := Code.sub [1, 1, 1, 1, 0] c46
theorem body46 : c46 = (.seq r46_0 (.seq r46_1 (.seq r46_2 (.seq (.seq r46_3 (.block 0 (.loop (.seq (.seq r46_4 (.cond (.tmp 20) .skip (.exit 0))) (.seq (.block 1 r46_5) r46_6))))) (.seq r46_7 .ret))))) := by kernel_rfl
noncomputable def L46_0 : {l : List Oper // (opsOf r46_0).map strip = l} := by refine ⟨?l, ?h⟩; case h => simp only [r46_0, c46, bodyOf, Tryd.f46, Code.sub, opsOf, List.map_cons, List.map_nil, strip]; rfl
theorem w46_0 : W Tryd.prog TT S 8 [20] r46_0 k E m Q ↔ Rg Tryd.prog TT S 8 [20] [4] [] (lgo E [] (lops Tryd.prog (callw Tryd.prog TT S) [(some 4)] (L46_0).1 E m)) k E Q := w_plain (by kernel_rfl) (L46_0).2
noncomputable def L46_1 : {l : List Oper // (opsOf r46_1).map strip = l} := by refine ⟨?l, ?h⟩; case h => simp only [r46_1, c46, bodyOf, Tryd.f46, Code.sub, opsOf, List.map_cons, List.map_nil, strip]; rfl
theorem w46_1 : W Tryd.prog TT S 8 [20] r46_1 k E m Q ↔ Rg Tryd.prog TT S 8 [20] [5] [] (lgo E [] (lops Tryd.prog (callw Tryd.prog TT S) [(some 5)] (L46_1).1 E m)) k E Q := w_plain (by kernel_rfl) (L46_1).2
noncomputable def L46_2 : {l : List Oper // (opsOf r46_2).map strip = l} := by refine ⟨?l, ?h⟩; case h => simp only [r46_2, c46, bodyOf, Tryd.f46, Code.sub, opsOf, List.map_cons, List.map_nil, strip]; rfl
theorem w46_2 : W Tryd.prog TT S 8 [20] r46_2 k E m Q ↔ Rg Tryd.prog TT S 8 [20] [6] [] (lgo E [0] (lops Tryd.prog (callw Tryd.prog TT S) [(some 8), (some 9), (some 6)] (L46_2).1 E m)) k E Q := w_plain (by kernel_rfl) (L46_2).2
noncomputable def L46_3 : {l : List Oper // (opsOf r46_3).map strip = l} := by refine ⟨?l, ?h⟩; case h => simp only [r46_3, c46, bodyOf, Tryd.f46, Code.sub, opsOf, List.map_cons, List.map_nil, strip]; rfl
theorem w46_3 : W Tryd.prog TT S 8 [20] r46_3 k E m Q ↔ Rg Tryd.prog TT S 8 [20] [7] [] (lgo E [] (lops Tryd.prog (callw Tryd.prog TT S) [(some 7)] (L46_3).1 E m)) k E Q := w_plain (by kernel_rfl) (L46_3).2
theorem can46_4 : canonOps (opsOf r46_4) = opsOf r46_4 := by kernel_rfl
noncomputable def L46_4 : {l : List Oper // (canonOps (opsOf r46_4)).map strip = l} := by refine ⟨?l, (congrArg (List.map strip) can46_4).trans ?h⟩; case h => simp only [r46_4, c46, bodyOf, Tryd.f46, Code.sub, opsOf, List.map_cons, List.map_nil, strip]; rfl
theorem w46_4 : W Tryd.prog TT S 8 [20] r46_4 k E m Q ↔ Rg Tryd.prog TT S 8 [20] [] [20] (lgo E [7, 1, 0] (lloud Tryd.prog (callw Tryd.prog TT S) [(some 10), (some 11), (some 12), (some 13), (some 14), (some 15), (some 16), (some 17), (some 18), (some 19), (some 20)] (L46_4).1 [(7, [3, 11]), (8, [3, 11])] (lstates Tryd.prog (callw Tryd.prog TT S) [(some 10), (some 11), (some 12), (some 13), (some 14), (some 15), (some 16), (some 17), (some 18), (some 19), (some 20)] (L46_4).1 E m))) k E Q := w_loud (by kernel_rfl) (L46_4).2
noncomputable def L46_5 : {l : List Oper // (opsOf r46_5).map strip = l} := by refine ⟨?l, ?h⟩; case h => simp only [r46_5, c46, bodyOf, Tryd.f46, Code.sub, opsOf, List.map_cons, List.map_nil, strip]; rfl
theorem w46_5 : W Tryd.prog TT S 8 [20] r46_5 k E m Q ↔ Rg Tryd.prog TT S 8 [20] [5] [] (lgo E [5, 6, 1, 7] (lops Tryd.prog (callw Tryd.prog TT S) [(some 23), (some 24), (some 25), (some 26), (some 27), (some 28), (some 29), (some 30), (some 5)] (L46_5).1 E m)) k E Q := w_plain (by kernel_rfl) (L46_5).2
noncomputable def L46_6 : {l : List Oper // (opsOf r46_6).map strip = l} := by refine ⟨?l, ?h⟩; case h => simp only [r46_6, c46, bodyOf, Tryd.f46, Code.sub, opsOf, List.map_cons, List.map_nil, strip]; rfl
theorem w46_6 : W Tryd.prog TT S 8 [20] r46_6 k E m Q ↔ Rg Tryd.prog TT S 8 [20] [7] [] (lgo E [7] (lops Tryd.prog (callw Tryd.prog TT S) [(some 21), (some 22), (some 7)] (L46_6).1 E m)) k E Q := w_plain (by kernel_rfl) (L46_6).2
noncomputable def L46_7 : {l : List Oper // (opsOf r46_7).map strip = l} := by refine ⟨?l, ?h⟩; case h => simp only [r46_7, c46, bodyOf, Tryd.f46, Code.sub, opsOf, List.map_cons, List.map_nil, strip]; rfl
theorem w46_7 : W Tryd.prog TT S 8 [20] r46_7 k E m Q ↔ Rg Tryd.prog TT S 8 [20] [4] [] (lgo E [5] (lops Tryd.prog (callw Tryd.prog TT S) [(some 31), (some 32), (some 4)] (L46_7).1 E m)) k E Q := w_plain (by kernel_rfl) (L46_7).2
theorem k46 : FnIs TT 46 c46 [.tmp 4] 2 := ⟨Tryd.f46, by kernel_rfl, by simp only [Tryd.f46, c46, bodyOf], by kernel_rfl, of_decide_eq_true (by kernel_rfl)⟩

/- (*heap.Heap).head -/
noncomputable def c47 : Code := bodyOf Tryd.f47
noncomputable def r47_0 : Code := Code.sub [0] c47
noncomputable def r47_1 : Code := Code.sub [1, 0] c47
theorem body47 : c47 = (.seq r47_0 (.seq r47_1 .ret)) := by kernel_rfl
noncomputable def L47_0 : {l : List Oper // (opsOf r47_0).map strip = l} := by refine ⟨?l, ?h⟩; case h => simp only [r47_0, c47, bodyOf, Tryd.f47, Code.sub, opsOf, List.map_cons, List.map_nil, strip]; rfl
theorem w47_0 : W Tryd.prog TT S 5 [] r47_0 k E m Q ↔ Rg Tryd.prog TT S 5 [] [4] [] (lgo E [] (lops Tryd.prog (callw Tryd.prog TT S) [(some 4)] (L47_0).1 E m)) k E Q := w_plain (by kernel_rfl) (L47_0).2
noncomputable def L47_1 : {l : List Oper // (opsOf r47_1).map strip = l} := by refine ⟨?l, ?h⟩; case h => simp only [r47_1, c47, bodyOf, Tryd.f47, Code.sub, opsOf, List.map_cons, List.map_nil, strip]; rfl
theorem w47_1 : W Tryd.prog TT S 5 [] r47_1 k E m Q ↔ Rg Tryd.prog TT S 5 [] [4] [] (lgo E [0, 1] (lops Tryd.prog (callw Tryd.prog TT S) [(some 5), (some 6), (some 7), (some 4)] (L47_1).1 E m)) k E Q := w_plain (by kernel_rfl) (L47_1).2
theorem k47 : FnIs TT 47 c47 [.tmp 4] 2 := ⟨Tryd.f47, by kernel_rfl, by simp only [Tryd.f47, c47, bodyOf], by kernel_rfl, of_decide_eq_true (by kernel_rfl)⟩

/- (*heap.Heap).Alloc -/
noncomputable def c48 : Code := bodyOf Tryd.f48
noncomputable def r48_0 : Code := Code.sub [0] c48
noncomputable def r48_1 : Code := Code.sub [1, 0, 0] c48
noncomputable def r48_2 : Code := Code.sub [1, 0, 1, 0, 0] c48
noncomputable def r48_3 : Code := Code.sub [1, 1, 0] c48
noncomputable def r48_4 : Code := Code.sub [1, 1, 1, 0] c48
noncomputable def r48_5 : Code := Code.sub [1, 1, 1, 1, 0] c48
noncomputable def r48_6 : Code := Code.sub [1, 1, 1, 1, 1, 0] c48
theorem body48 : c48 = (.seq r48_0 (.seq (.seq r48_1 (.cond (.tmp 36) (.seq r48_2 .ret) .skip)) (.seq r48_3 (.seq r48_4 (.seq r48_5 (.seq r48_6 .ret)))))) := by kernel_rfl
noncomputable def L48_0 : {l : List Oper // (opsOf r48_0).map strip = l} := by refine ⟨?l, ?h⟩; case h => simp only [r48_0, c48, bodyOf, Tryd.f48, Code.sub, opsOf, List.map_cons, List.map_nil, strip]; rfl
theorem w48_0 : W Tryd.prog TT S 9 [36] r48_0 k E m Q ↔ Rg Tryd.prog TT S 9 [36] [6, 7] [] (lgo E [] (lops Tryd.prog (callw Tryd.prog TT S) [(some 6), (some 7)] (L48_0).1 E m)) k E Q := w_plain (by kernel_rfl) (L48_0).2
noncomputable def L48_1 : {l : List Oper // (opsOf r48_1).map strip = l} := by refine ⟨?l, ?h⟩; case h => simp only [r48_1, c48, bodyOf, Tryd.f48, Code.sub, opsOf, List.map_cons, List.map_nil, strip]; rfl
theorem w48_1 : W Tryd.prog TT S 9 [36] r48_1 k E m Q ↔ Rg Tryd.prog TT S 9 [36] [] [36] (lgo E [1, 2, 0] (lops Tryd.prog (callw Tryd.prog TT S) [(some 9), (some 10), (some 11), (some 12), (some 13), (some 14), (some 15), (some 16), (some 17), (some 18), (some 19), (some 20), (some 21), (some 22), (some 23), (some 24), (some 25), (some 26), (some 27), (some 28), (some 29), (some 30), (some 31), (some 32), (some 33), (some 34), (some 35), (some 36)] (L48_1).1 E m)) k E Q := w_plain (by kernel_rfl) (L48_1).2
noncomputable def L48_2 : {l : List Oper // (opsOf r48_2).map strip = l} := by refine ⟨?l, ?h⟩; case h => simp only [r48_2, c48, bodyOf, Tryd.f48, Code.sub, opsOf, List.map_cons, List.map_nil, strip]; rfl
theorem w48_2 : W Tryd.prog TT S 9 [36] r48_2 k E m Q ↔ Rg Tryd.prog TT S 9 [36] [6, 7] [] (lgo E [] (lops Tryd.prog (callw Tryd.prog TT S) [(some 6), (some 7)] (L48_2).1 E m)) k E Q := w_plain (by kernel_rfl) (L48_2).2
noncomputable def L48_3 : {l : List Oper // (opsOf r48_3).map strip = l} := by refine ⟨?l, ?h⟩; case h => simp only [r48_3, c48, bodyOf, Tryd.f48, Code.sub, opsOf, List.map_cons, List.map_nil, strip]; rfl
theorem w48_3 : W Tryd.prog TT S 9 [36] r48_3 k E m Q ↔ Rg Tryd.prog TT S 9 [36] [8] [] (lgo E [0] (lops Tryd.prog (callw Tryd.prog TT S) [(some 37), (some 38), (some 39), (some 40), (some 41), (some 42), (some 8)] (L48_3).1 E m)) k E Q := w_plain (by kernel_rfl) (L48_3).2
noncomputable def L48_4 : {l : List Oper // (opsOf r48_4).map strip = l} := by refine ⟨?l, ?h⟩; case h => simp only [r48_4, c48, bodyOf, Tryd.f48, Code.sub, opsOf, List.map_cons, List.map_nil, strip]; rfl
theorem w48_4 : W Tryd.prog TT S 9 [36] r48_4 k E m Q ↔ Rg Tryd.prog TT S 9 [36] [] [] (lgo E [0, 1, 2] (lops Tryd.prog (callw Tryd.prog TT S) [(some 43), (some 44), (some 45), (some 46), (some 47), (some 48), (some 49), (some 50), (some 51), (some 52), (some 53), (some 54), (some 55), (some 56), (some 57), none] (L48_4).1 E m)) k E Q := w_plain (by kernel_rfl) (L48_4).2
noncomputable def L48_5 : {l : List Oper // (opsOf r48_5).map strip = l} := by refine ⟨?l, ?h⟩; case h => simp only [r48_5, c48, bodyOf, Tryd.f48, Code.sub, opsOf, List.map_cons, List.map_nil, strip]; rfl
theorem w48_5 : W Tryd.prog TT S 9 [36] r48_5 k E m Q ↔ Rg Tryd.prog TT S 9 [36] [] [] (lgo E [0, 2] (lops Tryd.prog (callw Tryd.prog TT S) [(some 58), (some 59), (some 60), (some 61), (some 62), (some 63), (some 64), (some 65), (some 66), none] (L48_5).1 E m)) k E Q := w_plain (by kernel_rfl) (L48_5).2
noncomputable def L48_6 : {l : List Oper // (opsOf r48_6).map strip = l} := by refine ⟨?l, ?h⟩; case h => simp only [r48_6, c48, bodyOf, Tryd.f48, Code.sub, opsOf, List.map_cons, List.map_nil, strip]; rfl
theorem w48_6 : W Tryd.prog TT S 9 [36] r48_6 k E m Q ↔ Rg Tryd.prog TT S 9 [36] [6, 7] [] (lgo E [8] (lops Tryd.prog (callw Tryd.prog TT S) [(some 67), (some 6), (some 7)] (L48_6).1 E m)) k E Q := w_plain (by kernel_rfl) (L48_6).2
theorem k48 : FnIs TT 48 c48 [.tmp 6, .tmp 7] 3 := ⟨Tryd.f48, by kernel_rfl, by simp only [Tryd.f48, c48, bodyOf], by kernel_rfl, of_decide_eq_true (by kernel_rfl)⟩

/- (*heap.Heap).Copy -/
noncomputable def c55 : Code := bodyOf Tryd.f55
noncomputable def r55_0 : Code := Code.sub [0] c55
noncomputable def r55_1 : Code := Code.sub [1, 0] c55
theorem body55 : c55 = (.seq r55_0 (.seq r55_1 .ret)) := by kernel_rfl
noncomputable def L55_0 : {l : List Oper // (opsOf r55_0).map strip = l} := by refine ⟨?l, ?h⟩; case h => simp only [r55_0, c55, bodyOf, Tryd.f55, Code.sub, opsOf, List.map_cons, List.map_nil, strip]; rfl
theorem w55_0 : W Tryd.prog TT S 3 [] r55_0 k E m Q ↔ Rg Tryd.prog TT S 3 [] [2] [] (lgo E [] (lops Tryd.prog (callw Tryd.prog TT S) [(some 2)] (L55_0).1 E m)) k E Q := w_plain (by kernel_rfl) (L55_0).2
theorem can55_1 : canonOps (opsOf r55_1) = List.filterMap (fun i => ((opsOf r55_1)[i]?).map (renum [0, 1, 2, 3, 4, 5, 6, 7, 8])) [0, 1, 2, 3, 4, 5, 6, 7, 8] := by kernel_rfl
noncomputable def L55_1 : {l : List Oper // (canonOps (opsOf r55_1)).map strip = l} := by refine ⟨?l, (congrArg (List.map strip) can55_1).trans ?h⟩; case h => simp only [r55_1, c55, bodyOf, Tryd.f55, Code.sub, opsOf, List.filterMap_cons, List.filterMap_nil, List.getElem?_cons_succ, List.getElem?_cons_zero, Option.map_some, renum, List.map_cons, List.map_nil, strip]; rfl
theorem w55_1 : W Tryd.prog TT S 3 [] r55_1 k E m Q ↔ Rg Tryd.prog TT S 3 [] [2] [] (lgo E [0] (lloud Tryd.prog (callw Tryd.prog TT S) [(some 3), (some 4), (some 5), (some 6), (some 7), (some 8), (some 9), (some 10), (some 2)] (L55_1).1 [(5, [1, 7])] (lstates Tryd.prog (callw Tryd.prog TT S) [(some 3), (some 4), (some 5), (some 6), (some 7), (some 8), (some 9), (some 10), (some 2)] (L55_1).1 E m))) k E Q := w_loud (by kernel_rfl) (L55_1).2
theorem k55 : FnIs TT 55 c55 [.tmp 2] 1 := ⟨Tryd.f55, by kernel_rfl, by simp only [Tryd.f55, c55, bodyOf], by kernel_rfl, of_decide_eq_true (by kernel_rfl)⟩

/- (*heap.Heap).Set -/
noncomputable def c56 : Code := bodyOf Tryd.f56
noncomputable def r56_0 : Code := Code.sub [0] c56
noncomputable def r56_1 : Code := Code.sub [1, 0] c56
theorem body56 : c56 = (.seq r56_0 (.seq r56_1 .ret)) := by kernel_rfl
noncomputable def L56_0 : {l : List Oper // (opsOf r56_0).map strip = l} := by refine ⟨?l, ?h⟩; case h => simp only [r56_0, c56, bodyOf, Tryd.f56, Code.sub, opsOf, List.map_cons, List.map_nil, strip]; rfl
theorem w56_0 : W Tryd.prog TT S 9 [] r56_0 k E m Q ↔ Rg Tryd.prog TT S 9 [] [8] [] (lgo E [] (lops Tryd.prog (callw Tryd.prog TT S) [(some 8)] (L56_0).1 E m)) k E Q := w_plain (by kernel_rfl) (L56_0).2
noncomputable def L56_1 : {l : List Oper // (opsOf r56_1).map strip = l} := by refine ⟨?l, ?h⟩; case h => simp only [r56_1, c56, bodyOf, Tryd.f56, Code.sub, opsOf, List.map_cons, List.map_nil, strip]; rfl
theorem w56_1 : W Tryd.prog TT S 9 [] r56_1 k E m Q ↔ Rg Tryd.prog TT S 9 [] [8] [] (lgo E [0, 1, 2, 3] (lops Tryd.prog (callw Tryd.prog TT S) [(some 9), (some 10), (some 11), (some 12), (some 13), (some 14), (some 15), (some 8)] (L56_1).1 E m)) k E Q := w_plain (by kernel_rfl) (L56_1).2
theorem k56 : FnIs TT 56 c56 [.tmp 8] 4 := ⟨Tryd.f56, by kernel_rfl, by simp only [Tryd.f56, c56, bodyOf], by kernel_rfl, of_decide_eq_true (by kernel_rfl)⟩

/- strconv.FormatInt -/
noncomputable def c57 : Code := bodyOf Tryd.f57
noncomputable def r57_0 : Code := Code.sub [0] c57
noncomputable def r57_1 : Code := Code.sub [1, 0] c57
theorem body57 : c57 = (.seq r57_0 (.seq r57_1 .ret)) := by kernel_rfl
noncomputable def L57_0 : {l : List Oper // (opsOf r57_0).map strip = l} := by refine ⟨?l, ?h⟩; case h => simp only [r57_0, c57, bodyOf, Tryd.f57, Code.sub, opsOf, List.map_cons, List.map_nil, strip]; rfl
theorem w57_0 : W Tryd.prog TT S 5 [] r57_0 k E m Q ↔ Rg Tryd.prog TT S 5 [] [4] [] (lgo E [] (lops Tryd.prog (callw Tryd.prog TT S) [(some 4)] (L57_0).1 E m)) k E Q := w_plain (by kernel_rfl) (L57_0).2
noncomputable def L57_1 : {l : List Oper // (opsOf r57_1).map strip = l} := by refine ⟨?l, ?h⟩; case h => simp only [r57_1, c57, bodyOf, Tryd.f57, Code.sub, opsOf, List.map_cons, List.map_nil, strip]; rfl
theorem w57_1 : W Tryd.prog TT S 5 [] r57_1 k E m Q ↔ Rg Tryd.prog TT S 5 [] [4] [] (lgo E [0, 1] (lops Tryd.prog (callw Tryd.prog TT S) [(some 5), (some 6), (some 7), (some 4)] (L57_1).1 E m)) k E Q := w_plain (by kernel_rfl) (L57_1).2
theorem k57 : FnIs TT 57 c57 [.tmp 4] 2 := ⟨Tryd.f57, by kernel_rfl, by simp only [Tryd.f57, c57, bodyOf], by kernel_rfl, of_decide_eq_true (by kernel_rfl)⟩

/- strconv.FormatBool -/
noncomputable def c58 : Code := bodyOf Tryd.f58
noncomputable def r58_0 : Code := Code.sub [0] c58
noncomputable def r58_1 : Code := Code.sub [1, 0] c58
theorem body58 : c58 = (.seq r58_0 (.seq r58_1 .ret)) := by kernel_rfl
noncomputable def L58_0 : {l : List Oper // (opsOf r58_0).map strip = l} := by refine ⟨?l, ?h⟩; case h => simp only [r58_0, c58, bodyOf, Tryd.f58, Code.sub, opsOf, List.map_cons, List.map_nil, strip]; rfl
theorem w58_0 : W Tryd.prog TT S 3 [] r58_0 k E m Q ↔ Rg Tryd.prog TT S 3 [] [2] [] (lgo E [] (lops Tryd.prog (callw Tryd.prog TT S) [(some 2)] (L58_0).1 E m)) k E Q := w_plain (by kernel_rfl) (L58_0).2
noncomputable def L58_1 : {l : List Oper // (opsOf r58_1).map strip = l} := by refine ⟨?l, ?h⟩; case h => simp only [r58_1, c58, bodyOf, Tryd.f58, Code.sub, opsOf, List.map_cons, List.map_nil, strip]; rfl
theorem w58_1 : W Tryd.prog TT S 3 [] r58_1 k E m Q ↔ Rg Tryd.prog TT S 3 [] [2] [] (lgo E [0] (lops Tryd.prog (callw Tryd.prog TT S) [(some 3), (some 4), (some 2)] (L58_1).1 E m)) k E Q := w_plain (by kernel_rfl) (L58_1).2
theorem k58 : FnIs TT 58 c58 [.tmp 2] 1 := ⟨Tryd.f58, by kernel_rfl, by simp only [Tryd.f58, c58, bodyOf], by kernel_rfl, of_decide_eq_true (by kernel_rfl)⟩

/- (*heap.Heap).Get -/
noncomputable def c59 : Code := bodyOf Tryd.f59
noncomputable def r59_0 : Code := Code.sub [0] c59
noncomputable def r59_1 : Code := Code.sub [1, 0] c59
theorem body59 : c59 = (.seq r59_0 (.seq r59_1 .ret)) := by kernel_rfl
noncomputable def L59_0 : {l : List Oper // (opsOf r59_0).map strip = l} := by refine ⟨?l, ?h⟩; case h => simp only [r59_0, c59, bodyOf, Tryd.f59, Code.sub, opsOf, List.map_cons, List.map_nil, strip]; rfl
theorem w59_0 : W Tryd.prog TT S 7 [] r59_0 k E m Q ↔ Rg Tryd.prog TT S 7 [] [6] [] (lgo E [] (lops Tryd.prog (callw Tryd.prog TT S) [(some 6)] (L59_0).1 E m)) k E Q := w_plain (by kernel_rfl) (L59_0).2
noncomputable def L59_1 : {l : List Oper // (opsOf r59_1).map strip = l} := by refine ⟨?l, ?h⟩; case h => simp only [r59_1, c59, bodyOf, Tryd.f59, Code.sub, opsOf, List.map_cons, List.map_nil, strip]; rfl
theorem w59_1 : W Tryd.prog TT S 7 [] r59_1 k E m Q ↔ Rg Tryd.prog TT S 7 [] [6] [] (lgo E [0, 1, 2] (lops Tryd.prog (callw Tryd.prog TT S) [(some 7), (some 8), (some 9), (some 10), (some 11), (some 12), (some 6)] (L59_1).1 E m)) k E Q := w_plain (by kernel_rfl) (L59_1).2
theorem k59 : FnIs TT 59 c59 [.tmp 6] 3 := ⟨Tryd.f59, by kernel_rfl, by simp only [Tryd.f59, c59, bodyOf], by kernel_rfl, of_decide_eq_true (by kernel_rfl)⟩

/- (*heap.Heap).Word -/
noncomputable def c60 : Code := bodyOf Tryd.f60
noncomputable def r60_0 : Code := Code.sub [0] c60
noncomputable def r60_1 : Code := Code.sub [1, 0, 0] c60
noncomputable def r60_2 : Code := Code.sub [1, 0, 1, 0, 0] c60
noncomputable def r60_3 : Code := Code.sub [1, 1, 0] c60
theorem body60 : c60 = (.seq r60_0 (.seq (.seq r60_1 (.cond (.tmp 12) (.seq r60_2 .ret) .skip)) (.seq r60_3 .ret))) := by kernel_rfl
noncomputable def L60_0 : {l : List Oper // (opsOf r60_0).map strip = l} := by refine ⟨?l, ?h⟩; case h => simp only [r60_0, c60, bodyOf, Tryd.f60, Code.sub, opsOf, List.map_cons, List.map_nil, strip]; rfl
theorem w60_0 : W Tryd.prog TT S 5 [12] r60_0 k E m Q ↔ Rg Tryd.prog TT S 5 [12] [4] [] (lgo E [] (lops Tryd.prog (callw Tryd.prog TT S) [(some 4)] (L60_0).1 E m)) k E Q := w_plain (by kernel_rfl) (L60_0).2
noncomputable def L60_1 : {l : List Oper // (opsOf r60_1).map strip = l} := by refine ⟨?l, ?h⟩; case h => simp only [r60_1, c60, bodyOf, Tryd.f60, Code.sub, opsOf, List.map_cons, List.map_nil, strip]; rfl
theorem w60_1 : W Tryd.prog TT S 5 [12] r60_1 k E m Q ↔ Rg Tryd.prog TT S 5 [12] [] [12] (lgo E [1, 0] (lops Tryd.prog (callw Tryd.prog TT S) [(some 5), (some 6), (some 7), (some 8), (some 9), (some 10), (some 11), (some 12)] (L60_1).1 E m)) k E Q := w_plain (by kernel_rfl) (L60_1).2
noncomputable def L60_2 : {l : List Oper // (opsOf r60_2).map strip = l} := by refine ⟨?l, ?h⟩; case h => simp only [r60_2, c60, bodyOf, Tryd.f60, Code.sub, opsOf, List.map_cons, List.map_nil, strip]; rfl
theorem w60_2 : W Tryd.prog TT S 5 [12] r60_2 k E m Q ↔ Rg Tryd.prog TT S 5 [12] [4] [] (lgo E [] (lops Tryd.prog (callw Tryd.prog TT S) [(some 4)] (L60_2).1 E m)) k E Q := w_plain (by kernel_rfl) (L60_2).2
noncomputable def L60_3 : {l : List Oper // (opsOf r60_3).map strip = l} := by refine ⟨?l, ?h⟩; case h => simp only [r60_3, c60, bodyOf, Tryd.f60, Code.sub, opsOf, List.map_cons, List.map_nil, strip]; rfl
theorem w60_3 : W Tryd.prog TT S 5 [12] r60_3 k E m Q ↔ Rg Tryd.prog TT S 5 [12] [4] [] (lgo E [0, 1] (lops Tryd.prog (callw Tryd.prog TT S) [(some 13), (some 14), (some 15), (some 16), (some 17), (some 18), (some 19), (some 4)] (L60_3).1 E m)) k E Q := w_plain (by kernel_rfl) (L60_3).2
theorem k60 : FnIs TT 60 c60 [.tmp 4] 2 := ⟨Tryd.f60, by kernel_rfl, by simp only [Tryd.f60, c60, bodyOf], by kernel_rfl, of_decide_eq_true (by kernel_rfl)⟩

/- (*heap.Heap).Put -/
noncomputable def c63 : Code := bodyOf Tryd.f63
noncomputable def r63_0 : Code := Code.sub [0] c63
noncomputable def r63_1 : Code := Code.sub [1, 0, 0] c63
noncomputable def r63_2 : Code := Code.sub [1, 0, 1, 0, 0] c63
noncomputable def r63_3 : Code := Code.sub [1, 1, 0] c63
noncomputable def r63_4 : Code := Code.sub [1, 1, 1, 0] c63
theorem body63 : c63 = (.seq r63_0 (.seq (.seq r63_1 (.cond (.tmp 18) (.seq r63_2 .ret) .skip)) (.seq r63_3 (.seq r63_4 .ret)))) := by kernel_rfl
noncomputable def L63_0 : {l : List Oper // (opsOf r63_0).map strip = l} := by refine ⟨?l, ?h⟩; case h => simp only [r63_0, c63, bodyOf, Tryd.f63, Code.sub, opsOf, List.map_cons, List.map_nil, strip]; rfl
theorem w63_0 : W Tryd.prog TT S 7 [18] r63_0 k E m Q ↔ Rg Tryd.prog TT S 7 [18] [6] [] (lgo E [] (lops Tryd.prog (callw Tryd.prog TT S) [(some 6)] (L63_0).1 E m)) k E Q := w_plain (by kernel_rfl) (L63_0).2
noncomputable def L63_1 : {l : List Oper // (opsOf r63_1).map strip = l} := by refine ⟨?l, ?h⟩; case h => simp only [r63_1, c63, bodyOf, Tryd.f63, Code.sub, opsOf, List.map_cons, List.map_nil, strip]; rfl
theorem w63_1 : W Tryd.prog TT S 7 [18] r63_1 k E m Q ↔ Rg Tryd.prog TT S 7 [18] [] [18] (lgo E [1, 0] (lops Tryd.prog (callw Tryd.prog TT S) [(some 7), (some 8), (some 9), (some 10), (some 11), (some 12), (some 13), (some 14), (some 15), (some 16), (some 17), (some 18)] (L63_1).1 E m)) k E Q := w_plain (by kernel_rfl) (L63_1).2
noncomputable def L63_2 : {l : List Oper // (opsOf r63_2).map strip = l} := by refine ⟨?l, ?h⟩; case h => simp only [r63_2, c63, bodyOf, Tryd.f63, Code.sub, opsOf, List.map_cons, List.map_nil, strip]; rfl
theorem w63_2 : W Tryd.prog TT S 7 [18] r63_2 k E m Q ↔ Rg Tryd.prog TT S 7 [18] [6] [] (lgo E [] (lops Tryd.prog (callw Tryd.prog TT S) [(some 6)] (L63_2).1 E m)) k E Q := w_plain (by kernel_rfl) (L63_2).2
noncomputable def L63_3 : {l : List Oper // (opsOf r63_3).map strip = l} := by refine ⟨?l, ?h⟩; case h => simp only [r63_3, c63, bodyOf, Tryd.f63, Code.sub, opsOf, List.map_cons, List.map_nil, strip]; rfl
theorem w63_3 : W Tryd.prog TT S 7 [18] r63_3 k E m Q ↔ Rg Tryd.prog TT S 7 [18] [] [] (lgo E [0, 1, 2] (lops Tryd.prog (callw Tryd.prog TT S) [(some 19), (some 20), (some 21), (some 22), (some 23), (some 24), (some 25), none] (L63_3).1 E m)) k E Q := w_plain (by kernel_rfl) (L63_3).2
noncomputable def L63_4 : {l : List Oper // (opsOf r63_4).map strip = l} := by refine ⟨?l, ?h⟩; case h => simp only [r63_4, c63, bodyOf, Tryd.f63, Code.sub, opsOf, List.map_cons, List.map_nil, strip]; rfl
theorem w63_4 : W Tryd.prog TT S 7 [18] r63_4 k E m Q ↔ Rg Tryd.prog TT S 7 [18] [6] [] (lgo E [] (lops Tryd.prog (callw Tryd.prog TT S) [(some 6)] (L63_4).1 E m)) k E Q := w_plain (by kernel_rfl) (L63_4).2
theorem k63 : FnIs TT 63 c63 [.tmp 6] 3 := ⟨Tryd.f63, by kernel_rfl, by simp only [Tryd.f63, c63, bodyOf], by kernel_rfl, of_decide_eq_true (by kernel_rfl)⟩

/- (*heap.Heap).at -/
noncomputable def c64 : Code := bodyOf Tryd.f64
noncomputable def r64_0 : Code := Code.sub [0] c64
noncomputable def r64_1 : Code := Code.sub [1, 0, 0] c64
noncomputable def r64_2 : Code := Code.sub [1, 0, 1, 0, 0] c64
noncomputable def r64_3 : Code := Code.sub [1, 1, 0] c64
theorem body64 : c64 = (.seq r64_0 (.seq (.seq r64_1 (.cond (.tmp 15) (.seq r64_2 .ret) .skip)) (.seq r64_3 .ret))) := by kernel_rfl
noncomputable def L64_0 : {l : List Oper // (opsOf r64_0).map strip = l} := by refine ⟨?l, ?h⟩; case h => simp only [r64_0, c64, bodyOf, Tryd.f64, Code.sub, opsOf, List.map_cons, List.map_nil, strip]; rfl
theorem w64_0 : W Tryd.prog TT S 7 [15] r64_0 k E m Q ↔ Rg Tryd.prog TT S 7 [15] [6] [] (lgo E [] (lops Tryd.prog (callw Tryd.prog TT S) [(some 6)] (L64_0).1 E m)) k E Q := w_plain (by kernel_rfl) (L64_0).2
noncomputable def L64_1 : {l : List Oper // (opsOf r64_1).map strip = l} := by refine ⟨?l, ?h⟩; case h => simp only [r64_1, c64, bodyOf, Tryd.f64, Code.sub, opsOf, List.map_cons, List.map_nil, strip]; rfl
theorem w64_1 : W Tryd.prog TT S 7 [15] r64_1 k E m Q ↔ Rg Tryd.prog TT S 7 [15] [] [15] (lgo E [2, 0, 1] (lops Tryd.prog (callw Tryd.prog TT S) [(some 7), (some 8), (some 9), (some 10), (some 11), (some 12), (some 13), (some 14), (some 15)] (L64_1).1 E m)) k E Q := w_plain (by kernel_rfl) (L64_1).2
noncomputable def L64_2 : {l : List Oper // (opsOf r64_2).map strip = l} := by refine ⟨?l, ?h⟩; case h => simp only [r64_2, c64, bodyOf, Tryd.f64, Code.sub, opsOf, List.map_cons, List.map_nil, strip]; rfl
theorem w64_2 : W Tryd.prog TT S 7 [15] r64_2 k E m Q ↔ Rg Tryd.prog TT S 7 [15] [6] [] (lgo E [] (lops Tryd.prog (callw Tryd.prog TT S) [(some 6)] (L64_2).1 E m)) k E Q := w_plain (by kernel_rfl) (L64_2).2
noncomputable def L64_3 : {l : List Oper // (opsOf r64_3).map strip = l} := by refine ⟨?l, ?h⟩; case h => simp only [r64_3, c64, bodyOf, Tryd.f64, Code.sub, opsOf, List.map_cons, List.map_nil, strip]; rfl
theorem w64_3 : W Tryd.prog TT S 7 [15] r64_3 k E m Q ↔ Rg Tryd.prog TT S 7 [15] [6] [] (lgo E [1, 2] (lops Tryd.prog (callw Tryd.prog TT S) [(some 16), (some 17), (some 18), (some 19), (some 20), (some 6)] (L64_3).1 E m)) k E Q := w_plain (by kernel_rfl) (L64_3).2
theorem k64 : FnIs TT 64 c64 [.tmp 6] 3 := ⟨Tryd.f64, by kernel_rfl, by simp only [Tryd.f64, c64, bodyOf], by kernel_rfl, of_decide_eq_true (by kernel_rfl)⟩

/- internal/strconv.FormatInt -/
noncomputable def c65 : Code := bodyOf Tryd.f65
noncomputable def r65_0 : Code := Code.sub [0] c65
noncomputable def r65_1 : Code := Code.sub [1, 0, 0] c65
noncomputable def r65_2 : Code := Code.sub [1, 0, 1, 0, 0, 0] c65
noncomputable def r65_3 : Code := Code.sub [1, 0, 1, 0, 0, 1, 0, 0] c65
noncomputable def r65_4 : Code := Code.sub [1, 0, 1, 0, 1, 0] c65
noncomputable def r65_5 : Code := Code.sub [1, 0, 1, 0, 1, 1, 0] c65
noncomputable def r65_6 : Code := Code.sub [1, 0, 1, 0, 1, 1, 1, 0, 0] c65
noncomputable def r65_7 : Code := Code.sub [1, 0, 1, 0, 1, 1, 1, 0, 1, 0] c65
noncomputable def r65_8 : Code := Code.sub [1, 0, 1, 0, 1, 1, 1, 1, 0] c65
noncomputable def r65_9 : Code := Code.sub [1, 0, 1, 0, 1, 1, 1, 1, 1, 0] c65
noncomputable def r65_10 : Code := Code.sub [1, 0, 1, 0, 1, 1, 1, 1, 1, 1, 0, 0] c65
noncomputable def r65_11 : Code := Code.sub [1, 0, 1, 0, 1, 1, 1, 1, 1, 1, 0, 1, 0, 0] c65
noncomputable def r65_12 : Code := Code.sub [1, 0, 1, 0, 1, 1, 1, 1, 1, 1, 0, 1, 0, 1, 0] c65
noncomputable def r65_13 : Code := Code.sub [1, 0, 1, 0, 1, 1, 1, 1, 1, 1, 1, 0] c65
noncomputable def r65_14 : Code := Code.sub [1, 1, 0] c65
noncomputable def r65_15 : Code := Code.sub [1, 1, 1, 0] c65
theorem body65 : c65 = (.seq r65_0 (.seq (.seq r65_1 (.cond (.tmp 11) (.seq (.seq r65_2 (.cond (.tmp 17) (.seq r65_3 .ret) .skip)) (.seq r65_4 (.seq r65_5 (.seq (.seq r65_6 (.cond (.tmp 23) r65_7 .skip)) (.seq r65_8 (.seq r65_9 (.seq (.seq r65_10 (.cond (.tmp 34) (.seq r65_11 (.seq r65_12 .ret)) .skip)) (.seq r65_13 .ret)))))))) .skip)) (.seq r65_14 (.seq r65_15 .ret)))) := by kernel_rfl
noncomputable def L65_0 : {l : List Oper // (opsOf r65_0).map strip = l} := by refine ⟨?l, ?h⟩; case h => simp only [r65_0, c65, bodyOf, Tryd.f65, Code.sub, opsOf, List.map_cons, List.map_nil, strip]; rfl
theorem w65_0 : W Tryd.prog TT S 10 [11, 17, 23, 34] r65_0 k E m Q ↔ Rg Tryd.prog TT S 10 [11, 17, 23, 34] [4] [] (lgo E [] (lops Tryd.prog (callw Tryd.prog TT S) [(some 4)] (L65_0).1 E m)) k E Q := w_plain (by kernel_rfl) (L65_0).2
noncomputable def L65_1 : {l : List Oper // (opsOf r65_1).map strip = l} := by refine ⟨?l, ?h⟩; case h => simp only [r65_1, c65, bodyOf, Tryd.f65, Code.sub, opsOf, List.map_cons, List.map_nil, strip]; rfl
theorem w65_1 : W Tryd.prog TT S 10 [11, 17, 23, 34] r65_1 k E m Q ↔ Rg Tryd.prog TT S 10 [11, 17, 23, 34] [] [11] (lgo E [1] (lops Tryd.prog (callw Tryd.prog TT S) [(some 10), (some 11)] (L65_1).1 E m)) k E Q := w_plain (by kernel_rfl) (L65_1).2
noncomputable def L65_2 : {l : List Oper // (opsOf r65_2).map strip = l} := by refine ⟨?l, ?h⟩; case h => simp only [r65_2, c65, bodyOf, Tryd.f65, Code.sub, opsOf, List.map_cons, List.map_nil, strip]; rfl
theorem w65_2 : W Tryd.prog TT S 10 [11, 17, 23, 34] r65_2 k E m Q ↔ Rg Tryd.prog TT S 10 [11, 17, 23, 34] [] [17] (lgo E [0] (lops Tryd.prog (callw Tryd.prog TT S) [(some 12), (some 13), (some 14), (some 15), (some 16), (some 17)] (L65_2).1 E m)) k E Q := w_plain (by kernel_rfl) (L65_2).2
noncomputable def L65_3 : {l : List Oper // (opsOf r65_3).map strip = l} := by refine ⟨?l, ?h⟩; case h => simp only [r65_3, c65, bodyOf, Tryd.f65, Code.sub, opsOf, List.map_cons, List.map_nil, strip]; rfl
theorem w65_3 : W Tryd.prog TT S 10 [11, 17, 23, 34] r65_3 k E m Q ↔ Rg Tryd.prog TT S 10 [11, 17, 23, 34] [4] [] (lgo E [0] (lops Tryd.prog (callw Tryd.prog TT S) [(some 18), (some 19), (some 4)] (L65_3).1 E m)) k E Q := w_plain (by kernel_rfl) (L65_3).2
noncomputable def L65_4 : {l : List Oper // (opsOf r65_4).map strip = l} := by refine ⟨?l, ?h⟩; case h => simp only [r65_4, c65, bodyOf, Tryd.f65, Code.sub, opsOf, List.map_cons, List.map_nil, strip]; rfl
theorem w65_4 : W Tryd.prog TT S 10 [11, 17, 23, 34] r65_4 k E m Q ↔ Rg Tryd.prog TT S 10 [11, 17, 23, 34] [5] [] (lgo E [] (lops Tryd.prog (callw Tryd.prog TT S) [(some 5)] (L65_4).1 E m)) k E Q := w_plain (by kernel_rfl) (L65_4).2
noncomputable def L65_5 : {l : List Oper // (opsOf r65_5).map strip = l} := by refine ⟨?l, ?h⟩; case h => simp only [r65_5, c65, bodyOf, Tryd.f65, Code.sub, opsOf, List.map_cons, List.map_nil, strip]; rfl
theorem w65_5 : W Tryd.prog TT S 10 [11, 17, 23, 34] r65_5 k E m Q ↔ Rg Tryd.prog TT S 10 [11, 17, 23, 34] [6] [] (lgo E [0] (lops Tryd.prog (callw Tryd.prog TT S) [(some 20), (some 21), (some 6)] (L65_5).1 E m)) k E Q := w_plain (by kernel_rfl) (L65_5).2
noncomputable def L65_6 : {l : List Oper // (opsOf r65_6).map strip = l} := by refine ⟨?l, ?h⟩; case h => simp only [r65_6, c65, bodyOf, Tryd.f65, Code.sub, opsOf, List.map_cons, List.map_nil, strip]; rfl
theorem w65_6 : W Tryd.prog TT S 10 [11, 17, 23, 34] r65_6 k E m Q ↔ Rg Tryd.prog TT S 10 [11, 17, 23, 34] [] [23] (lgo E [0] (lops Tryd.prog (callw Tryd.prog TT S) [(some 22), (some 23)] (L65_6).1 E m)) k E Q := w_plain (by kernel_rfl) (L65_6).2
noncomputable def L65_7 : {l : List Oper // (opsOf r65_7).map strip = l} := by refine ⟨?l, ?h⟩; case h => simp only [r65_7, c65, bodyOf, Tryd.f65, Code.sub, opsOf, List.map_cons, List.map_nil, strip]; rfl
theorem w65_7 : W Tryd.prog TT S 10 [11, 17, 23, 34] r65_7 k E m Q ↔ Rg Tryd.prog TT S 10 [11, 17, 23, 34] [6] [] (lgo E [6] (lops Tryd.prog (callw Tryd.prog TT S) [(some 24), (some 25), (some 6)] (L65_7).1 E m)) k E Q := w_plain (by kernel_rfl) (L65_7).2
noncomputable def L65_8 : {l : List Oper // (opsOf r65_8).map strip = l} := by refine ⟨?l, ?h⟩; case h => simp only [r65_8, c65, bodyOf, Tryd.f65, Code.sub, opsOf, List.map_cons, List.map_nil, strip]; rfl
theorem w65_8 : W Tryd.prog TT S 10 [11, 17, 23, 34] r65_8 k E m Q ↔ Rg Tryd.prog TT S 10 [11, 17, 23, 34] [7] [] (lgo E [6] (lops Tryd.prog (callw Tryd.prog TT S) [(some 26), (some 27), (some 7)] (L65_8).1 E m)) k E Q := w_plain (by kernel_rfl) (L65_8).2
noncomputable def L65_9 : {l : List Oper // (opsOf r65_9).map strip = l} := by refine ⟨?l, ?h⟩; case h => simp only [r65_9, c65, bodyOf, Tryd.f65, Code.sub, opsOf, List.map_cons, List.map_nil, strip]; rfl
theorem w65_9 : W Tryd.prog TT S 10 [11, 17, 23, 34] r65_9 k E m Q ↔ Rg Tryd.prog TT S 10 [11, 17, 23, 34] [] [] (lgo E [7, 5, 6] (lops Tryd.prog (callw Tryd.prog TT S) [(some 28), (some 29), (some 30), (some 31), (some 32)] (L65_9).1 E m)) k E Q := w_plain (by kernel_rfl) (L65_9).2
noncomputable def L65_10 : {l : List Oper // (opsOf r65_10).map strip = l} := by refine ⟨?l, ?h⟩; case h => simp only [r65_10, c65, bodyOf, Tryd.f65, Code.sub, opsOf, List.map_cons, List.map_nil, strip]; rfl
theorem w65_10 : W Tryd.prog TT S 10 [11, 17, 23, 34] r65_10 k E m Q ↔ Rg Tryd.prog TT S 10 [11, 17, 23, 34] [] [34] (lgo E [0] (lops Tryd.prog (callw Tryd.prog TT S) [(some 33), (some 34)] (L65_10).1 E m)) k E Q := w_plain (by kernel_rfl) (L65_10).2
noncomputable def L65_11 : {l : List Oper // (opsOf r65_11).map strip = l} := by refine ⟨?l, ?h⟩; case h => simp only [r65_11, c65, bodyOf, Tryd.f65, Code.sub, opsOf, List.map_cons, List.map_nil, strip]; rfl
theorem w65_11 : W Tryd.prog TT S 10 [11, 17, 23, 34] r65_11 k E m Q ↔ Rg Tryd.prog TT S 10 [11, 17, 23, 34] [] [] (lgo E [5] (lops Tryd.prog (callw Tryd.prog TT S) [(some 35), none] (L65_11).1 E m)) k E Q := w_plain (by kernel_rfl) (L65_11).2
noncomputable def L65_12 : {l : List Oper // (opsOf r65_12).map strip = l} := by refine ⟨?l, ?h⟩; case h => simp only [r65_12, c65, bodyOf, Tryd.f65, Code.sub, opsOf, List.map_cons, List.map_nil, strip]; rfl
theorem w65_12 : W Tryd.prog TT S 10 [11, 17, 23, 34] r65_12 k E m Q ↔ Rg Tryd.prog TT S 10 [11, 17, 23, 34] [4] [] (lgo E [7, 5] (lops Tryd.prog (callw Tryd.prog TT S) [(some 36), (some 37), (some 38), (some 39), (some 4)] (L65_12).1 E m)) k E Q := w_plain (by kernel_rfl) (L65_12).2
noncomputable def L65_13 : {l : List Oper // (opsOf r65_13).map strip = l} := by refine ⟨?l, ?h⟩; case h => simp only [r65_13, c65, bodyOf, Tryd.f65, Code.sub, opsOf, List.map_cons, List.map_nil, strip]; rfl
theorem w65_13 : W Tryd.prog TT S 10 [11, 17, 23, 34] r65_13 k E m Q ↔ Rg Tryd.prog TT S 10 [11, 17, 23, 34] [4] [] (lgo E [7, 5] (lops Tryd.prog (callw Tryd.prog TT S) [(some 40), (some 41), (some 42), (some 43), (some 4)] (L65_13).1 E m)) k E Q := w_plain (by kernel_rfl) (L65_13).2
noncomputable def L65_14 : {l : List Oper // (opsOf r65_14).map strip = l} := by refine ⟨?l, ?h⟩; case h => simp only [r65_14, c65, bodyOf, Tryd.f65, Code.sub, opsOf, List.map_cons, List.map_nil, strip]; rfl
theorem w65_14 : W Tryd.prog TT S 10 [11, 17, 23, 34] r65_14 k E m Q ↔ Rg Tryd.prog TT S 10 [11, 17, 23, 34] [8, 9] [] (lgo E [1, 0] (lops Tryd.prog (callw Tryd.prog TT S) [(some 45), (some 46), (some 47), (some 48), (some 49), (some 50), (some 44), (some 51), (some 52), (some 8), (some 9)] (L65_14).1 E m)) k E Q := w_plain (by kernel_rfl) (L65_14).2
noncomputable def L65_15 : {l : List Oper // (opsOf r65_15).map strip = l} := by refine ⟨?l, ?h⟩; case h => simp only [r65_15, c65, bodyOf, Tryd.f65, Code.sub, opsOf, List.map_cons, List.map_nil, strip]; rfl
theorem w65_15 : W Tryd.prog TT S 10 [11, 17, 23, 34] r65_15 k E m Q ↔ Rg Tryd.prog TT S 10 [11, 17, 23, 34] [4] [] (lgo E [9] (lops Tryd.prog (callw Tryd.prog TT S) [(some 53), (some 4)] (L65_15).1 E m)) k E Q := w_plain (by kernel_rfl) (L65_15).2
theorem k65 : FnIs TT 65 c65 [.tmp 4] 2 := ⟨Tryd.f65, by kernel_rfl, by simp only [Tryd.f65, c65, bodyOf], by kernel_rfl, of_decide_eq_true (by kernel_rfl)⟩

/- internal/strconv.FormatBool -/
noncomputable def c66 : Code := bodyOf Tryd.f66
noncomputable def r66_0 : Code := Code.sub [0] c66
noncomputable def r66_1 : Code := Code.sub [1, 0, 0] c66
noncomputable def r66_2 : Code := Code.sub [1, 0, 1, 0, 0] c66
noncomputable def r66_3 : Code := Code.sub [1, 1, 0] c66
theorem body66 : c66 = (.seq r66_0 (.seq (.seq r66_1 (.cond (.tmp 3) (.seq r66_2 .ret) .skip)) (.seq r66_3 .ret))) := by kernel_rfl
noncomputable def L66_0 : {l : List Oper // (opsOf r66_0).map strip = l} := by refine ⟨?l, ?h⟩; case h => simp only [r66_0, c66, bodyOf, Tryd.f66, Code.sub, opsOf, List.map_cons, List.map_nil, strip]; rfl
theorem w66_0 : W Tryd.prog TT S 3 [3] r66_0 k E m Q ↔ Rg Tryd.prog TT S 3 [3] [2] [] (lgo E [] (lops Tryd.prog (callw Tryd.prog TT S) [(some 2)] (L66_0).1 E m)) k E Q := w_plain (by kernel_rfl) (L66_0).2
noncomputable def L66_1 : {l : List Oper // (opsOf r66_1).map strip = l} := by refine ⟨?l, ?h⟩; case h => simp only [r66_1, c66, bodyOf, Tryd.f66, Code.sub, opsOf, List.map_cons, List.map_nil, strip]; rfl
theorem w66_1 : W Tryd.prog TT S 3 [3] r66_1 k E m Q ↔ Rg Tryd.prog TT S 3 [3] [] [3] (lgo E [0] (lops Tryd.prog (callw Tryd.prog TT S) [(some 3)] (L66_1).1 E m)) k E Q := w_plain (by kernel_rfl) (L66_1).2
noncomputable def L66_2 : {l : List Oper // (opsOf r66_2).map strip = l} := by refine ⟨?l, ?h⟩; case h => simp only [r66_2, c66, bodyOf, Tryd.f66, Code.sub, opsOf, List.map_cons, List.map_nil, strip]; rfl
theorem w66_2 : W Tryd.prog TT S 3 [3] r66_2 k E m Q ↔ Rg Tryd.prog TT S 3 [3] [2] [] (lgo E [] (lops Tryd.prog (callw Tryd.prog TT S) [(some 2)] (L66_2).1 E m)) k E Q := w_plain (by kernel_rfl) (L66_2).2
noncomputable def L66_3 : {l : List Oper // (opsOf r66_3).map strip = l} := by refine ⟨?l, ?h⟩; case h => simp only [r66_3, c66, bodyOf, Tryd.f66, Code.sub, opsOf, List.map_cons, List.map_nil, strip]; rfl
theorem w66_3 : W Tryd.prog TT S 3 [3] r66_3 k E m Q ↔ Rg Tryd.prog TT S 3 [3] [2] [] (lgo E [] (lops Tryd.prog (callw Tryd.prog TT S) [(some 2)] (L66_3).1 E m)) k E Q := w_plain (by kernel_rfl) (L66_3).2
theorem k66 : FnIs TT 66 c66 [.tmp 2] 1 := ⟨Tryd.f66, by kernel_rfl, by simp only [Tryd.f66, c66, bodyOf], by kernel_rfl, of_decide_eq_true (by kernel_rfl)⟩

/- internal/strconv.small -/
noncomputable def c68 : Code := bodyOf Tryd.f68
noncomputable def r68_0 : Code := Code.sub [0] c68
noncomputable def r68_1 : Code := Code.sub [1, 0, 0] c68
noncomputable def r68_2 : Code := Code.sub [1, 0, 1, 0, 0] c68
noncomputable def r68_3 : Code := Code.sub [1, 1, 0] c68
theorem body68 : c68 = (.seq r68_0 (.seq (.seq r68_1 (.cond (.tmp 4) (.seq r68_2 .ret) .skip)) (.seq r68_3 .ret))) := by kernel_rfl
noncomputable def L68_0 : {l : List Oper // (opsOf r68_0).map strip = l} := by refine ⟨?l, ?h⟩; case h => simp only [r68_0, c68, bodyOf, Tryd.f68, Code.sub, opsOf, List.map_cons, List.map_nil, strip]; rfl
theorem w68_0 : W Tryd.prog TT S 3 [4] r68_0 k E m Q ↔ Rg Tryd.prog TT S 3 [4] [2] [] (lgo E [] (lops Tryd.prog (callw Tryd.prog TT S) [(some 2)] (L68_0).1 E m)) k E Q := w_plain (by kernel_rfl) (L68_0).2
noncomputable def L68_1 : {l : List Oper // (opsOf r68_1).map strip = l} := by refine ⟨?l, ?h⟩; case h => simp only [r68_1, c68, bodyOf, Tryd.f68, Code.sub, opsOf, List.map_cons, List.map_nil, strip]; rfl
theorem w68_1 : W Tryd.prog TT S 3 [4] r68_1 k E m Q ↔ Rg Tryd.prog TT S 3 [4] [] [4] (lgo E [0] (lops Tryd.prog (callw Tryd.prog TT S) [(some 3), (some 4)] (L68_1).1 E m)) k E Q := w_plain (by kernel_rfl) (L68_1).2
noncomputable def L68_2 : {l : List Oper // (opsOf r68_2).map strip = l} := by refine ⟨?l, ?h⟩; case h => simp only [r68_2, c68, bodyOf, Tryd.f68, Code.sub, opsOf, List.map_cons, List.map_nil, strip]; rfl
theorem w68_2 : W Tryd.prog TT S 3 [4] r68_2 k E m Q ↔ Rg Tryd.prog TT S 3 [4] [2] [] (lgo E [0] (lops Tryd.prog (callw Tryd.prog TT S) [(some 5), (some 6), (some 7), (some 8), (some 2)] (L68_2).1 E m)) k E Q := w_plain (by kernel_rfl) (L68_2).2
noncomputable def L68_3 : {l : List Oper // (opsOf r68_3).map strip = l} := by refine ⟨?l, ?h⟩; case h => simp only [r68_3, c68, bodyOf, Tryd.f68, Code.sub, opsOf, List.map_cons, List.map_nil, strip]; rfl
theorem w68_3 : W Tryd.prog TT S 3 [4] r68_3 k E m Q ↔ Rg Tryd.prog TT S 3 [4] [2] [] (lgo E [0] (lops Tryd.prog (callw Tryd.prog TT S) [(some 9), (some 10), (some 11), (some 12), (some 13), (some 14), (some 2)] (L68_3).1 E m)) k E Q := w_plain (by kernel_rfl) (L68_3).2
theorem k68 : FnIs TT 68 c68 [.tmp 2] 1 := ⟨Tryd.f68, by kernel_rfl, by simp only [Tryd.f68, c68, bodyOf], by kernel_rfl, of_decide_eq_true (by kernel_rfl)⟩

/- internal/strconv.numDigits -/
noncomputable def c69 : Code := bodyOf Tryd.f69
noncomputable def r69_0 : Code := Code.sub [0] c69
noncomputable def r69_1 : Code := Code.sub [1, 0] c69
noncomputable def r69_2 : Code := Code.sub [1, 1, 0] c69
theorem body69 : c69 = (.seq r69_0 (.seq r69_1 (.seq r69_2 .ret))) := by kernel_rfl
noncomputable def L69_0 : {l : List Oper // (opsOf r69_0).map strip = l} := by refine ⟨?l, ?h⟩; case h => simp only [r69_0, c69, bodyOf, Tryd.f69, Code.sub, opsOf, List.map_cons, List.map_nil, strip]; rfl
theorem w69_0 : W Tryd.prog TT S 4 [] r69_0 k E m Q ↔ Rg Tryd.prog TT S 4 [] [2] [] (lgo E [] (lops Tryd.prog (callw Tryd.prog TT S) [(some 2)] (L69_0).1 E m)) k E Q := w_plain (by kernel_rfl) (L69_0).2
noncomputable def L69_1 : {l : List Oper // (opsOf r69_1).map strip = l} := by refine ⟨?l, ?h⟩; case h => simp only [r69_1, c69, bodyOf, Tryd.f69, Code.sub, opsOf, List.map_cons, List.map_nil, strip]; rfl
theorem w69_1 : W Tryd.prog TT S 4 [] r69_1 k E m Q ↔ Rg Tryd.prog TT S 4 [] [3] [] (lgo E [0] (lops Tryd.prog (callw Tryd.prog TT S) [(some 4), (some 5), (some 6), (some 3)] (L69_1).1 E m)) k E Q := w_plain (by kernel_rfl) (L69_1).2
noncomputable def L69_2 : {l : List Oper // (opsOf r69_2).map strip = l} := by refine ⟨?l, ?h⟩; case h => simp only [r69_2, c69, bodyOf, Tryd.f69, Code.sub, opsOf, List.map_cons, List.map_nil, strip]; rfl
theorem w69_2 : W Tryd.prog TT S 4 [] r69_2 k E m Q ↔ Rg Tryd.prog TT S 4 [] [2] [] (lgo E [0, 3] (lops Tryd.prog (callw Tryd.prog TT S) [(some 7), (some 8), (some 9), (some 10), (some 11), (some 12), (some 13), (some 14), (some 2)] (L69_2).1 E m)) k E Q := w_plain (by kernel_rfl) (L69_2).2
theorem k69 : FnIs TT 69 c69 [.tmp 2] 1 := ⟨Tryd.f69, by kernel_rfl, by simp only [Tryd.f69, c69, bodyOf], by kernel_rfl, of_decide_eq_true (by kernel_rfl)⟩

/- internal/strconv.formatBase10 -/
noncomputable def c70 : Code := bodyOf Tryd.f70
noncomputable def r70_0 : Code := Code.sub [0] c70
noncomputable def r70_1 : Code := Code.sub [1, 0, 0, 0, 0, 0] c70
noncomputable def r70_2 : Code := Code.sub [1, 0, 0, 0, 1, 0, 0] c70
noncomputable def r70_3 : Code := Code.sub [1, 0, 0, 0, 1, 0, 1, 0] c70
noncomputable def r70_4 : Code := Code.sub [1, 0, 0, 0, 1, 0, 1, 1, 0] c70
noncomputable def r70_5 : Code := Code.sub [1, 0, 0, 0, 1, 0, 1, 1, 1, 0] c70
noncomputable def r70_6 : Code := Code.sub [1, 0, 0, 0, 1, 0, 1, 1, 1, 1, 0] c70
noncomputable def r70_7 : Code := Code.sub [1, 0, 0, 0, 1, 0, 1, 1, 1, 1, 1, 0] c70
noncomputable def r70_8 : Code := Code.sub [1, 0, 0, 0, 1, 0, 1, 1, 1, 1, 1, 1, 0] c70
noncomputable def r70_9 : Code := Code.sub [1, 0, 0, 0, 1, 0, 1, 1, 1, 1, 1, 1, 1, 0] c70
noncomputable def r70_10 : Code := Code.sub [1, 0, 0, 0, 1, 0, 1, 1, 1, 1, 1, 1, 1, 1, 0] c70
noncomputable def r70_11 : Code := Code.sub [1, 0, 0, 0, 1, 0, 1, 1, 1, 1, 1, 1, 1, 1, 1] c70
noncomputable def r70_12 : Code := Code.sub [1, 1, 0] c70
noncomputable def r70_13 : Code := Code.sub [1, 1, 1, 0, 0] c70
noncomputable def r70_14 : Code := Code.sub [1, 1, 1, 0, 1, 0, 0] c70
noncomputable def r70_15 : Code := Code.sub [1, 1, 1, 0, 1, 0, 1, 0] c70
noncomputable def r70_16 : Code := Code.sub [1, 1, 1, 0, 1, 0, 1, 1, 0] c70
noncomputable def r70_17 : Code := Code.sub [1, 1, 1, 0, 1, 0, 1, 1, 1, 0] c70
noncomputable def r70_18 : Code := Code.sub [1, 1, 1, 0, 1, 0, 1, 1, 1, 1, 0] c70
noncomputable def r70_19 : Code := Code.sub [1, 1, 1, 0, 1, 0, 1, 1, 1, 1, 1] c70
noncomputable def r70_20 : Code := Code.sub [1, 1, 1, 1, 0, 0] c70
noncomputable def r70_21 : Code := Code.sub [1, 1, 1, 1, 0, 1, 0, 0] c70
noncomputable def r70_22 : Code := Code.sub [1, 1, 1, 1, 0, 1, 0, 1, 0] c70
noncomputable def r70_23 : Code := Code.sub [1, 1, 1, 1, 0, 1, 0, 1, 1, 0] c70
noncomputable def r70_24 : Code := Code.sub [1, 1, 1, 1, 0, 1, 0, 1, 1, 1] c70
noncomputable def r70_25 : Code := Code.sub [1, 1, 1, 1, 1, 0] c70
noncomputable def r70_26 : Code := Code.sub [1, 1, 1, 1, 1, 1, 0] c70
theorem body70 : c70 = (.seq r70_0 (.seq (.block 0 (.loop (.seq (.seq r70_1 (.cond (.tmp 20) .skip (.exit 0))) (.block 1 (.seq r70_2 (.seq r70_3 (.seq r70_4 (.seq r70_5 (.seq r70_6 (.seq r70_7 (.seq r70_8 (.seq r70_9 (.seq r70_10 r70_11))))))))))))) (.seq r70_12 (.seq (.seq r70_13 (.cond (.tmp 99) (.seq r70_14 (.seq r70_15 (.seq r70_16 (.seq r70_17 (.seq r70_18 r70_19))))) .skip)) (.seq (.seq r70_20 (.cond (.tmp 139) (.seq r70_21 (.seq r70_22 (.seq r70_23 r70_24))) .skip)) (.seq r70_25 (.cond (.tmp 161) r70_26 .skip))))))) := by kernel_rfl
noncomputable def L70_0 : {l : List Oper // (opsOf r70_0).map strip = l} := by refine ⟨?l, ?h⟩; case h => simp only [r70_0, c70, bodyOf, Tryd.f70, Code.sub, opsOf, List.map_cons, List.map_nil, strip]; rfl
theorem w70_0 : W Tryd.prog TT S 17 [20, 99, 139, 161] r70_0 k E m Q ↔ Rg Tryd.prog TT S 17 [20, 99, 139, 161] [4] [] (lgo E [0] (lops Tryd.prog (callw Tryd.prog TT S) [(some 17), (some 18), (some 4)] (L70_0).1 E m)) k E Q := w_plain (by kernel_rfl) (L70_0).2
noncomputable def L70_1 : {l : List Oper // (opsOf r70_1).map strip = l} := by refine ⟨?l, ?h⟩; case h => simp only [r70_1, c70, bodyOf, Tryd.f70, Code.sub, opsOf, List.map_cons, List.map_nil, strip]; rfl
theorem w70_1 : W Tryd.prog TT S 17 [20, 99, 139, 161] r70_1 k E m Q ↔ Rg Tryd.prog TT S 17 [20, 99, 139, 161] [] [20] (lgo E [4] (lops Tryd.prog (callw Tryd.prog TT S) [(some 19), (some 20)] (L70_1).1 E m)) k E Q := w_plain (by kernel_rfl) (L70_1).2
noncomputable def L70_2 : {l : List Oper // (opsOf r70_2).map strip = l} := by refine ⟨?l, ?h⟩; case h => simp only [r70_2, c70, bodyOf, Tryd.f70, Code.sub, opsOf, List.map_cons, List.map_nil, strip]; rfl
theorem w70_2 : W Tryd.prog TT S 17 [20, 99, 139, 161] r70_2 k E m Q ↔ Rg Tryd.prog TT S 17 [20, 99, 139, 161] [5] [] (lgo E [1] (lops Tryd.prog (callw Tryd.prog TT S) [(some 21), (some 22), (some 23), (some 5)] (L70_2).1 E m)) k E Q := w_plain (by kernel_rfl) (L70_2).2
noncomputable def L70_3 : {l : List Oper // (opsOf r70_3).map strip = l} := by refine ⟨?l, ?h⟩; case h => simp only [r70_3, c70, bodyOf, Tryd.f70, Code.sub, opsOf, List.map_cons, List.map_nil, strip]; rfl
theorem w70_3 : W Tryd.prog TT S 17 [20, 99, 139, 161] r70_3 k E m Q ↔ Rg Tryd.prog TT S 17 [20, 99, 139, 161] [1] [] (lgo E [1] (lops Tryd.prog (callw Tryd.prog TT S) [(some 24), (some 25), (some 1)] (L70_3).1 E m)) k E Q := w_plain (by kernel_rfl) (L70_3).2
noncomputable def L70_4 : {l : List Oper // (opsOf r70_4).map strip = l} := by refine ⟨?l, ?h⟩; case h => simp only [r70_4, c70, bodyOf, Tryd.f70, Code.sub, opsOf, List.map_cons, List.map_nil, strip]; rfl
theorem w70_4 : W Tryd.prog TT S 17 [20, 99, 139, 161] r70_4 k E m Q ↔ Rg Tryd.prog TT S 17 [20, 99, 139, 161] [6, 7] [] (lgo E [5] (lops Tryd.prog (callw Tryd.prog TT S) [(some 26), (some 27), (some 28), (some 29), (some 6), (some 7)] (L70_4).1 E m)) k E Q := w_plain (by kernel_rfl) (L70_4).2
noncomputable def L70_5 : {l : List Oper // (opsOf r70_5).map strip = l} := by refine ⟨?l, ?h⟩; case h => simp only [r70_5, c70, bodyOf, Tryd.f70, Code.sub, opsOf, List.map_cons, List.map_nil, strip]; rfl
theorem w70_5 : W Tryd.prog TT S 17 [20, 99, 139, 161] r70_5 k E m Q ↔ Rg Tryd.prog TT S 17 [20, 99, 139, 161] [8, 9] [] (lgo E [7] (lops Tryd.prog (callw Tryd.prog TT S) [(some 30), (some 31), (some 32), (some 33), (some 34), (some 35), (some 8), (some 9)] (L70_5).1 E m)) k E Q := w_plain (by kernel_rfl) (L70_5).2
noncomputable def L70_6 : {l : List Oper // (opsOf r70_6).map strip = l} := by refine ⟨?l, ?h⟩; case h => simp only [r70_6, c70, bodyOf, Tryd.f70, Code.sub, opsOf, List.map_cons, List.map_nil, strip]; rfl
theorem w70_6 : W Tryd.prog TT S 17 [20, 99, 139, 161] r70_6 k E m Q ↔ Rg Tryd.prog TT S 17 [20, 99, 139, 161] [10, 11] [] (lgo E [6] (lops Tryd.prog (callw Tryd.prog TT S) [(some 36), (some 37), (some 38), (some 39), (some 40), (some 41), (some 10), (some 11)] (L70_6).1 E m)) k E Q := w_plain (by kernel_rfl) (L70_6).2
theorem can70_7 : canonOps (opsOf r70_7) = opsOf r70_7 := by kernel_rfl
noncomputable def L70_7 : {l : List Oper // (canonOps (opsOf r70_7)).map strip = l} := by refine ⟨?l, (congrArg (List.map strip) can70_7).trans ?h⟩; case h => simp only [r70_7, c70, bodyOf, Tryd.f70, Code.sub, opsOf, List.map_cons, List.map_nil, strip]; rfl
theorem w70_7 : W Tryd.prog TT S 17 [20, 99, 139, 161] r70_7 k E m Q ↔ Rg Tryd.prog TT S 17 [20, 99, 139, 161] [] [] (lgo E [0, 4, 9] (lloud Tryd.prog (callw Tryd.prog TT S) [(some 42), (some 43), (some 44), (some 45), (some 46), (some 47), (some 48), (some 49), (some 50), (some 51), (some 52), (some 53), none, (some 54), none] (L70_7).1 [] (lstates Tryd.prog (callw Tryd.prog TT S) [(some 42), (some 43), (some 44), (some 45), (some 46), (some 47), (some 48), (some 49), (some 50), (some 51), (some 52), (some 53), none, (some 54), none] (L70_7).1 E m))) k E Q := w_loud (by kernel_rfl) (L70_7).2
theorem can70_8 : canonOps (opsOf r70_8) = opsOf r70_8 := by kernel_rfl
noncomputable def L70_8 : {l : List Oper // (canonOps (opsOf r70_8)).map strip = l} := by refine ⟨?l, (congrArg (List.map strip) can70_8).trans ?h⟩; case h => simp only [r70_8, c70, bodyOf, Tryd.f70, Code.sub, opsOf, List.map_cons, List.map_nil, strip]; rfl
theorem w70_8 : W Tryd.prog TT S 17 [20, 99, 139, 161] r70_8 k E m Q ↔ Rg Tryd.prog TT S 17 [20, 99, 139, 161] [] [] (lgo E [0, 4, 8] (lloud Tryd.prog (callw Tryd.prog TT S) [(some 55), (some 56), (some 57), (some 58), (some 59), (some 60), (some 61), (some 62), (some 63), (some 64), (some 65), (some 66), none, (some 67), none] (L70_8).1 [] (lstates Tryd.prog (callw Tryd.prog TT S) [(some 55), (some 56), (some 57), (some 58), (some 59), (some 60), (some 61), (some 62), (some 63), (some 64), (some 65), (some 66), none, (some 67), none] (L70_8).1 E m))) k E Q := w_loud (by kernel_rfl) (L70_8).2
theorem can70_9 : canonOps (opsOf r70_9) = opsOf r70_9 := by kernel_rfl
noncomputable def L70_9 : {l : List Oper // (canonOps (opsOf r70_9)).map strip = l} := by refine ⟨?l, (congrArg (List.map strip) can70_9).trans ?h⟩; case h => simp only [r70_9, c70, bodyOf, Tryd.f70, Code.sub, opsOf, List.map_cons, List.map_nil, strip]; rfl
theorem w70_9 : W Tryd.prog TT S 17 [20, 99, 139, 161] r70_9 k E m Q ↔ Rg Tryd.prog TT S 17 [20, 99, 139, 161] [] [] (lgo E [0, 4, 11] (lloud Tryd.prog (callw Tryd.prog TT S) [(some 68), (some 69), (some 70), (some 71), (some 72), (some 73), (some 74), (some 75), (some 76), (some 77), (some 78), (some 79), none, (some 80), none] (L70_9).1 [] (lstates Tryd.prog (callw Tryd.prog TT S) [(some 68), (some 69), (some 70), (some 71), (some 72), (some 73), (some 74), (some 75), (some 76), (some 77), (some 78), (some 79), none, (some 80), none] (L70_9).1 E m))) k E Q := w_loud (by kernel_rfl) (L70_9).2
theorem can70_10 : canonOps (opsOf r70_10) = opsOf r70_10 := by kernel_rfl
noncomputable def L70_10 : {l : List Oper // (canonOps (opsOf r70_10)).map strip = l} := by refine ⟨?l, (congrArg (List.map strip) can70_10).trans ?h⟩; case h => simp only [r70_10, c70, bodyOf, Tryd.f70, Code.sub, opsOf, List.map_cons, List.map_nil, strip]; rfl
theorem w70_10 : W Tryd.prog TT S 17 [20, 99, 139, 161] r70_10 k E m Q ↔ Rg Tryd.prog TT S 17 [20, 99, 139, 161] [] [] (lgo E [0, 4, 10] (lloud Tryd.prog (callw Tryd.prog TT S) [(some 81), (some 82), (some 83), (some 84), (some 85), (some 86), (some 87), (some 88), (some 89), (some 90), (some 91), (some 92), none, (some 93), none] (L70_10).1 [] (lstates Tryd.prog (callw Tryd.prog TT S) [(some 81), (some 82), (some 83), (some 84), (some 85), (some 86), (some 87), (some 88), (some 89), (some 90), (some 91), (some 92), none, (some 93), none] (L70_10).1 E m))) k E Q := w_loud (by kernel_rfl) (L70_10).2
noncomputable def L70_11 : {l : List Oper // (opsOf r70_11).map strip = l} := by refine ⟨?l, ?h⟩; case h => simp only [r70_11, c70, bodyOf, Tryd.f70, Code.sub, opsOf, List.map_cons, List.map_nil, strip]; rfl
theorem w70_11 : W Tryd.prog TT S 17 [20, 99, 139, 161] r70_11 k E m Q ↔ Rg Tryd.prog TT S 17 [20, 99, 139, 161] [4] [] (lgo E [4] (lops Tryd.prog (callw Tryd.prog TT S) [(some 94), (some 95), (some 4)] (L70_11).1 E m)) k E Q := w_plain (by kernel_rfl) (L70_11).2
noncomputable def L70_12 : {l : List Oper // (opsOf r70_12).map strip = l} := by refine ⟨?l, ?h⟩; case h => simp only [r70_12, c70, bodyOf, Tryd.f70, Code.sub, opsOf, List.map_cons, List.map_nil, strip]; rfl
theorem w70_12 : W Tryd.prog TT S 17 [20, 99, 139, 161] r70_12 k E m Q ↔ Rg Tryd.prog TT S 17 [20, 99, 139, 161] [12] [] (lgo E [1] (lops Tryd.prog (callw Tryd.prog TT S) [(some 96), (some 97), (some 12)] (L70_12).1 E m)) k E Q := w_plain (by kernel_rfl) (L70_12).2
noncomputable def L70_13 : {l : List Oper // (opsOf r70_13).map strip = l} := by refine ⟨?l, ?h⟩; case h => simp only [r70_13, c70, bodyOf, Tryd.f70, Code.sub, opsOf, List.map_cons, List.map_nil, strip]; rfl
theorem w70_13 : W Tryd.prog TT S 17 [20, 99, 139, 161] r70_13 k E m Q ↔ Rg Tryd.prog TT S 17 [20, 99, 139, 161] [] [99] (lgo E [4] (lops Tryd.prog (callw Tryd.prog TT S) [(some 98), (some 99)] (L70_13).1 E m)) k E Q := w_plain (by kernel_rfl) (L70_13).2
noncomputable def L70_14 : {l : List Oper // (opsOf r70_14).map strip = l} := by refine ⟨?l, ?h⟩; case h => simp only [r70_14, c70, bodyOf, Tryd.f70, Code.sub, opsOf, List.map_cons, List.map_nil, strip]; rfl
theorem w70_14 : W Tryd.prog TT S 17 [20, 99, 139, 161] r70_14 k E m Q ↔ Rg Tryd.prog TT S 17 [20, 99, 139, 161] [13] [] (lgo E [12] (lops Tryd.prog (callw Tryd.prog TT S) [(some 100), (some 101), (some 13)] (L70_14).1 E m)) k E Q := w_plain (by kernel_rfl) (L70_14).2
noncomputable def L70_15 : {l : List Oper // (opsOf r70_15).map strip = l} := by refine ⟨?l, ?h⟩; case h => simp only [r70_15, c70, bodyOf, Tryd.f70, Code.sub, opsOf, List.map_cons, List.map_nil, strip]; rfl
theorem w70_15 : W Tryd.prog TT S 17 [20, 99, 139, 161] r70_15 k E m Q ↔ Rg Tryd.prog TT S 17 [20, 99, 139, 161] [12] [] (lgo E [12] (lops Tryd.prog (callw Tryd.prog TT S) [(some 102), (some 103), (some 12)] (L70_15).1 E m)) k E Q := w_plain (by kernel_rfl) (L70_15).2
noncomputable def L70_16 : {l : List Oper // (opsOf r70_16).map strip = l} := by refine ⟨?l, ?h⟩; case h => simp only [r70_16, c70, bodyOf, Tryd.f70, Code.sub, opsOf, List.map_cons, List.map_nil, strip]; rfl
theorem w70_16 : W Tryd.prog TT S 17 [20, 99, 139, 161] r70_16 k E m Q ↔ Rg Tryd.prog TT S 17 [20, 99, 139, 161] [14, 15] [] (lgo E [13] (lops Tryd.prog (callw Tryd.prog TT S) [(some 104), (some 105), (some 106), (some 107), (some 108), (some 109), (some 14), (some 15)] (L70_16).1 E m)) k E Q := w_plain (by kernel_rfl) (L70_16).2
theorem can70_17 : canonOps (opsOf r70_17) = opsOf r70_17 := by kernel_rfl
noncomputable def L70_17 : {l : List Oper // (canonOps (opsOf r70_17)).map strip = l} := by refine ⟨?l, (congrArg (List.map strip) can70_17).trans ?h⟩; case h => simp only [r70_17, c70, bodyOf, Tryd.f70, Code.sub, opsOf, List.map_cons, List.map_nil, strip]; rfl
theorem w70_17 : W Tryd.prog TT S 17 [20, 99, 139, 161] r70_17 k E m Q ↔ Rg Tryd.prog TT S 17 [20, 99, 139, 161] [] [] (lgo E [0, 4, 15] (lloud Tryd.prog (callw Tryd.prog TT S) [(some 110), (some 111), (some 112), (some 113), (some 114), (some 115), (some 116), (some 117), (some 118), (some 119), (some 120), (some 121), none, (some 122), none] (L70_17).1 [] (lstates Tryd.prog (callw Tryd.prog TT S) [(some 110), (some 111), (some 112), (some 113), (some 114), (some 115), (some 116), (some 117), (some 118), (some 119), (some 120), (some 121), none, (some 122), none] (L70_17).1 E m))) k E Q := w_loud (by kernel_rfl) (L70_17).2
theorem can70_18 : canonOps (opsOf r70_18) = opsOf r70_18 := by kernel_rfl
noncomputable def L70_18 : {l : List Oper // (canonOps (opsOf r70_18)).map strip = l} := by refine ⟨?l, (congrArg (List.map strip) can70_18).trans ?h⟩; case h => simp only [r70_18, c70, bodyOf, Tryd.f70, Code.sub, opsOf, List.map_cons, List.map_nil, strip]; rfl
theorem w70_18 : W Tryd.prog TT S 17 [20, 99, 139, 161] r70_18 k E m Q ↔ Rg Tryd.prog TT S 17 [20, 99, 139, 161] [] [] (lgo E [0, 4, 14] (lloud Tryd.prog (callw Tryd.prog TT S) [(some 123), (some 124), (some 125), (some 126), (some 127), (some 128), (some 129), (some 130), (some 131), (some 132), (some 133), (some 134), none, (some 135), none] (L70_18).1 [] (lstates Tryd.prog (callw Tryd.prog TT S) [(some 123), (some 124), (some 125), (some 126), (some 127), (some 128), (some 129), (some 130), (some 131), (some 132), (some 133), (some 134), none, (some 135), none] (L70_18).1 E m))) k E Q := w_loud (by kernel_rfl) (L70_18).2
noncomputable def L70_19 : {l : List Oper // (opsOf r70_19).map strip = l} := by refine ⟨?l, ?h⟩; case h => simp only [r70_19, c70, bodyOf, Tryd.f70, Code.sub, opsOf, List.map_cons, List.map_nil, strip]; rfl
theorem w70_19 : W Tryd.prog TT S 17 [20, 99, 139, 161] r70_19 k E m Q ↔ Rg Tryd.prog TT S 17 [20, 99, 139, 161] [4] [] (lgo E [4] (lops Tryd.prog (callw Tryd.prog TT S) [(some 136), (some 137), (some 4)] (L70_19).1 E m)) k E Q := w_plain (by kernel_rfl) (L70_19).2
noncomputable def L70_20 : {l : List Oper // (opsOf r70_20).map strip = l} := by refine ⟨?l, ?h⟩; case h => simp only [r70_20, c70, bodyOf, Tryd.f70, Code.sub, opsOf, List.map_cons, List.map_nil, strip]; rfl
theorem w70_20 : W Tryd.prog TT S 17 [20, 99, 139, 161] r70_20 k E m Q ↔ Rg Tryd.prog TT S 17 [20, 99, 139, 161] [] [139] (lgo E [4] (lops Tryd.prog (callw Tryd.prog TT S) [(some 138), (some 139)] (L70_20).1 E m)) k E Q := w_plain (by kernel_rfl) (L70_20).2
noncomputable def L70_21 : {l : List Oper // (opsOf r70_21).map strip = l} := by refine ⟨?l, ?h⟩; case h => simp only [r70_21, c70, bodyOf, Tryd.f70, Code.sub, opsOf, List.map_cons, List.map_nil, strip]; rfl
theorem w70_21 : W Tryd.prog TT S 17 [20, 99, 139, 161] r70_21 k E m Q ↔ Rg Tryd.prog TT S 17 [20, 99, 139, 161] [16] [] (lgo E [12] (lops Tryd.prog (callw Tryd.prog TT S) [(some 140), (some 141), (some 142), (some 16)] (L70_21).1 E m)) k E Q := w_plain (by kernel_rfl) (L70_21).2
noncomputable def L70_22 : {l : List Oper // (opsOf r70_22).map strip = l} := by refine ⟨?l, ?h⟩; case h => simp only [r70_22, c70, bodyOf, Tryd.f70, Code.sub, opsOf, List.map_cons, List.map_nil, strip]; rfl
theorem w70_22 : W Tryd.prog TT S 17 [20, 99, 139, 161] r70_22 k E m Q ↔ Rg Tryd.prog TT S 17 [20, 99, 139, 161] [12] [] (lgo E [12] (lops Tryd.prog (callw Tryd.prog TT S) [(some 143), (some 144), (some 12)] (L70_22).1 E m)) k E Q := w_plain (by kernel_rfl) (L70_22).2
theorem can70_23 : canonOps (opsOf r70_23) = opsOf r70_23 := by kernel_rfl
noncomputable def L70_23 : {l : List Oper // (canonOps (opsOf r70_23)).map strip = l} := by refine ⟨?l, (congrArg (List.map strip) can70_23).trans ?h⟩; case h => simp only [r70_23, c70, bodyOf, Tryd.f70, Code.sub, opsOf, List.map_cons, List.map_nil, strip]; rfl
theorem w70_23 : W Tryd.prog TT S 17 [20, 99, 139, 161] r70_23 k E m Q ↔ Rg Tryd.prog TT S 17 [20, 99, 139, 161] [] [] (lgo E [0, 4, 16] (lloud Tryd.prog (callw Tryd.prog TT S) [(some 145), (some 146), (some 147), (some 148), (some 149), (some 150), (some 151), (some 152), (some 153), (some 154), (some 155), (some 156), none, (some 157), none] (L70_23).1 [] (lstates Tryd.prog (callw Tryd.prog TT S) [(some 145), (some 146), (some 147), (some 148), (some 149), (some 150), (some 151), (some 152), (some 153), (some 154), (some 155), (some 156), none, (some 157), none] (L70_23).1 E m))) k E Q := w_loud (by kernel_rfl) (L70_23).2
noncomputable def L70_24 : {l : List Oper // (opsOf r70_24).map strip = l} := by refine ⟨?l, ?h⟩; case h => simp only [r70_24, c70, bodyOf, Tryd.f70, Code.sub, opsOf, List.map_cons, List.map_nil, strip]; rfl
theorem w70_24 : W Tryd.prog TT S 17 [20, 99, 139, 161] r70_24 k E m Q ↔ Rg Tryd.prog TT S 17 [20, 99, 139, 161] [4] [] (lgo E [4] (lops Tryd.prog (callw Tryd.prog TT S) [(some 158), (some 159), (some 4)] (L70_24).1 E m)) k E Q := w_plain (by kernel_rfl) (L70_24).2
noncomputable def L70_25 : {l : List Oper // (opsOf r70_25).map strip = l} := by refine ⟨?l, ?h⟩; case h => simp only [r70_25, c70, bodyOf, Tryd.f70, Code.sub, opsOf, List.map_cons, List.map_nil, strip]; rfl
theorem w70_25 : W Tryd.prog TT S 17 [20, 99, 139, 161] r70_25 k E m Q ↔ Rg Tryd.prog TT S 17 [20, 99, 139, 161] [] [161] (lgo E [4] (lops Tryd.prog (callw Tryd.prog TT S) [(some 160), (some 161)] (L70_25).1 E m)) k E Q := w_plain (by kernel_rfl) (L70_25).2
noncomputable def L70_26 : {l : List Oper // (opsOf r70_26).map strip = l} := by refine ⟨?l, ?h⟩; case h => simp only [r70_26, c70, bodyOf, Tryd.f70, Code.sub, opsOf, List.map_cons, List.map_nil, strip]; rfl
theorem w70_26 : W Tryd.prog TT S 17 [20, 99, 139, 161] r70_26 k E m Q ↔ Rg Tryd.prog TT S 17 [20, 99, 139, 161] [] [] (lgo E [0, 12] (lops Tryd.prog (callw Tryd.prog TT S) [(some 162), (some 163), (some 164), (some 165), (some 166), none] (L70_26).1 E m)) k E Q := w_plain (by kernel_rfl) (L70_26).2
theorem k70 : FnIs TT 70 c70 [] 2 := ⟨Tryd.f70, by kernel_rfl, by simp only [Tryd.f70, c70, bodyOf], by kernel_rfl, of_decide_eq_true (by kernel_rfl)⟩

/- internal/strconv.log10Pow2 -/
noncomputable def c72 : Code := bodyOf Tryd.f72
noncomputable def r72_0 : Code := Code.sub [0] c72
noncomputable def r72_1 : Code := Code.sub [1, 0] c72
theorem body72 : c72 = (.seq r72_0 (.seq r72_1 .ret)) := by kernel_rfl
noncomputable def L72_0 : {l : List Oper // (opsOf r72_0).map strip = l} := by refine ⟨?l, ?h⟩; case h => simp only [r72_0, c72, bodyOf, Tryd.f72, Code.sub, opsOf, List.map_cons, List.map_nil, strip]; rfl
theorem w72_0 : W Tryd.prog TT S 3 [] r72_0 k E m Q ↔ Rg Tryd.prog TT S 3 [] [2] [] (lgo E [] (lops Tryd.prog (callw Tryd.prog TT S) [(some 2)] (L72_0).1 E m)) k E Q := w_plain (by kernel_rfl) (L72_0).2
noncomputable def L72_1 : {l : List Oper // (opsOf r72_1).map strip = l} := by refine ⟨?l, ?h⟩; case h => simp only [r72_1, c72, bodyOf, Tryd.f72, Code.sub, opsOf, List.map_cons, List.map_nil, strip]; rfl
theorem w72_1 : W Tryd.prog TT S 3 [] r72_1 k E m Q ↔ Rg Tryd.prog TT S 3 [] [2] [] (lgo E [0] (lops Tryd.prog (callw Tryd.prog TT S) [(some 3), (some 4), (some 5), (some 2)] (L72_1).1 E m)) k E Q := w_plain (by kernel_rfl) (L72_1).2
theorem k72 : FnIs TT 72 c72 [.tmp 2] 1 := ⟨Tryd.f72, by kernel_rfl, by simp only [Tryd.f72, c72, bodyOf], by kernel_rfl, of_decide_eq_true (by kernel_rfl)⟩

/- math/bits.Len64 -/
noncomputable def c73 : Code := bodyOf Tryd.f73
noncomputable def r73_0 : Code := Code.sub [0] c73
noncomputable def r73_1 : Code := Code.sub [1, 0, 0] c73
noncomputable def r73_2 : Code := Code.sub [1, 0, 1, 0, 0] c73
noncomputable def r73_3 : Code := Code.sub [1, 0, 1, 0, 1] c73
noncomputable def r73_4 : Code := Code.sub [1, 1, 0, 0] c73
noncomputable def r73_5 : Code := Code.sub [1, 1, 0, 1, 0, 0] c73
noncomputable def r73_6 : Code := Code.sub [1, 1, 0, 1, 0, 1] c73
noncomputable def r73_7 : Code := Code.sub [1, 1, 1, 0, 0] c73
noncomputable def r73_8 : Code := Code.sub [1, 1, 1, 0, 1, 0, 0] c73
noncomputable def r73_9 : Code := Code.sub [1, 1, 1, 0, 1, 0, 1] c73
noncomputable def r73_10 : Code := Code.sub [1, 1, 1, 1, 0] c73
theorem body73 : c73 = (.seq r73_0 (.seq (.seq r73_1 (.cond (.tmp 4) (.seq r73_2 r73_3) .skip)) (.seq (.seq r73_4 (.cond (.tmp 8) (.seq r73_5 r73_6) .skip)) (.seq (.seq r73_7 (.cond (.tmp 14) (.seq r73_8 r73_9) .skip)) (.seq r73_10 .ret))))) := by kernel_rfl
noncomputable def L73_0 : {l : List Oper // (opsOf r73_0).map strip = l} := by refine ⟨?l, ?h⟩; case h => simp only [r73_0, c73, bodyOf, Tryd.f73, Code.sub, opsOf, List.map_cons, List.map_nil, strip]; rfl
theorem w73_0 : W Tryd.prog TT S 3 [4, 8, 14] r73_0 k E m Q ↔ Rg Tryd.prog TT S 3 [4, 8, 14] [2] [] (lgo E [] (lops Tryd.prog (callw Tryd.prog TT S) [(some 2)] (L73_0).1 E m)) k E Q := w_plain (by kernel_rfl) (L73_0).2
noncomputable def L73_1 : {l : List Oper // (opsOf r73_1).map strip = l} := by refine ⟨?l, ?h⟩; case h => simp only [r73_1, c73, bodyOf, Tryd.f73, Code.sub, opsOf, List.map_cons, List.map_nil, strip]; rfl
theorem w73_1 : W Tryd.prog TT S 3 [4, 8, 14] r73_1 k E m Q ↔ Rg Tryd.prog TT S 3 [4, 8, 14] [] [4] (lgo E [0] (lops Tryd.prog (callw Tryd.prog TT S) [(some 3), (some 4)] (L73_1).1 E m)) k E Q := w_plain (by kernel_rfl) (L73_1).2
noncomputable def L73_2 : {l : List Oper // (opsOf r73_2).map strip = l} := by refine ⟨?l, ?h⟩; case h => simp only [r73_2, c73, bodyOf, Tryd.f73, Code.sub, opsOf, List.map_cons, List.map_nil, strip]; rfl
theorem w73_2 : W Tryd.prog TT S 3 [4, 8, 14] r73_2 k E m Q ↔ Rg Tryd.prog TT S 3 [4, 8, 14] [0] [] (lgo E [0] (lops Tryd.prog (callw Tryd.prog TT S) [(some 5), (some 6), (some 0)] (L73_2).1 E m)) k E Q := w_plain (by kernel_rfl) (L73_2).2
noncomputable def L73_3 : {l : List Oper // (opsOf r73_3).map strip = l} := by refine ⟨?l, ?h⟩; case h => simp only [r73_3, c73, bodyOf, Tryd.f73, Code.sub, opsOf, List.map_cons, List.map_nil, strip]; rfl
theorem w73_3 : W Tryd.prog TT S 3 [4, 8, 14] r73_3 k E m Q ↔ Rg Tryd.prog TT S 3 [4, 8, 14] [2] [] (lgo E [] (lops Tryd.prog (callw Tryd.prog TT S) [(some 2)] (L73_3).1 E m)) k E Q := w_plain (by kernel_rfl) (L73_3).2
noncomputable def L73_4 : {l : List Oper // (opsOf r73_4).map strip = l} := by refine ⟨?l, ?h⟩; case h => simp only [r73_4, c73, bodyOf, Tryd.f73, Code.sub, opsOf, List.map_cons, List.map_nil, strip]; rfl
theorem w73_4 : W Tryd.prog TT S 3 [4, 8, 14] r73_4 k E m Q ↔ Rg Tryd.prog TT S 3 [4, 8, 14] [] [8] (lgo E [0] (lops Tryd.prog (callw Tryd.prog TT S) [(some 7), (some 8)] (L73_4).1 E m)) k E Q := w_plain (by kernel_rfl) (L73_4).2
noncomputable def L73_5 : {l : List Oper // (opsOf r73_5).map strip = l} := by refine ⟨?l, ?h⟩; case h => simp only [r73_5, c73, bodyOf, Tryd.f73, Code.sub, opsOf, List.map_cons, List.map_nil, strip]; rfl
theorem w73_5 : W Tryd.prog TT S 3 [4, 8, 14] r73_5 k E m Q ↔ Rg Tryd.prog TT S 3 [4, 8, 14] [0] [] (lgo E [0] (lops Tryd.prog (callw Tryd.prog TT S) [(some 9), (some 10), (some 0)] (L73_5).1 E m)) k E Q := w_plain (by kernel_rfl) (L73_5).2
noncomputable def L73_6 : {l : List Oper // (opsOf r73_6).map strip = l} := by refine ⟨?l, ?h⟩; case h => simp only [r73_6, c73, bodyOf, Tryd.f73, Code.sub, opsOf, List.map_cons, List.map_nil, strip]; rfl
theorem w73_6 : W Tryd.prog TT S 3 [4, 8, 14] r73_6 k E m Q ↔ Rg Tryd.prog TT S 3 [4, 8, 14] [2] [] (lgo E [2] (lops Tryd.prog (callw Tryd.prog TT S) [(some 11), (some 12), (some 2)] (L73_6).1 E m)) k E Q := w_plain (by kernel_rfl) (L73_6).2
noncomputable def L73_7 : {l : List Oper // (opsOf r73_7).map strip = l} := by refine ⟨?l, ?h⟩; case h => simp only [r73_7, c73, bodyOf, Tryd.f73, Code.sub, opsOf, List.map_cons, List.map_nil, strip]; rfl
theorem w73_7 : W Tryd.prog TT S 3 [4, 8, 14] r73_7 k E m Q ↔ Rg Tryd.prog TT S 3 [4, 8, 14] [] [14] (lgo E [0] (lops Tryd.prog (callw Tryd.prog TT S) [(some 13), (some 14)] (L73_7).1 E m)) k E Q := w_plain (by kernel_rfl) (L73_7).2
noncomputable def L73_8 : {l : List Oper // (opsOf r73_8).map strip = l} := by refine ⟨?l, ?h⟩; case h => simp only [r73_8, c73, bodyOf, Tryd.f73, Code.sub, opsOf, List.map_cons, List.map_nil, strip]; rfl
theorem w73_8 : W Tryd.prog TT S 3 [4, 8, 14] r73_8 k E m Q ↔ Rg Tryd.prog TT S 3 [4, 8, 14] [0] [] (lgo E [0] (lops Tryd.prog (callw Tryd.prog TT S) [(some 15), (some 16), (some 0)] (L73_8).1 E m)) k E Q := w_plain (by kernel_rfl) (L73_8).2
noncomputable def L73_9 : {l : List Oper // (opsOf r73_9).map strip = l} := by refine ⟨?l, ?h⟩; case h => simp only [r73_9, c73, bodyOf, Tryd.f73, Code.sub, opsOf, List.map_cons, List.map_nil, strip]; rfl
theorem w73_9 : W Tryd.prog TT S 3 [4, 8, 14] r73_9 k E m Q ↔ Rg Tryd.prog TT S 3 [4, 8, 14] [2] [] (lgo E [2] (lops Tryd.prog (callw Tryd.prog TT S) [(some 17), (some 18), (some 2)] (L73_9).1 E m)) k E Q := w_plain (by kernel_rfl) (L73_9).2
noncomputable def L73_10 : {l : List Oper // (opsOf r73_10).map strip = l} := by refine ⟨?l, ?h⟩; case h => simp only [r73_10, c73, bodyOf, Tryd.f73, Code.sub, opsOf, List.map_cons, List.map_nil, strip]; rfl
theorem w73_10 : W Tryd.prog TT S 3 [4, 8, 14] r73_10 k E m Q ↔ Rg Tryd.prog TT S 3 [4, 8, 14] [2] [] (lgo E [2, 0] (lops Tryd.prog (callw Tryd.prog TT S) [(some 19), (some 20), (some 21), (some 22), (some 23), (some 24), (some 2)] (L73_10).1 E m)) k E Q := w_plain (by kernel_rfl) (L73_10).2
theorem k73 : FnIs TT 73 c73 [.tmp 2] 1 := ⟨Tryd.f73, by kernel_rfl, by simp only [Tryd.f73, c73, bodyOf], by kernel_rfl, of_decide_eq_true (by kernel_rfl)⟩

/- internal/strconv.bool2[int] -/
noncomputable def c74 : Code := bodyOf Tryd.f74
noncomputable def r74_0 : Code := Code.sub [0] c74
noncomputable def r74_1 : Code := Code.sub [1, 0, 0] c74
noncomputable def r74_2 : Code := Code.sub [1, 0, 1, 0, 0] c74
noncomputable def r74_3 : Code := Code.sub [1, 1, 0] c74
theorem body74 : c74 = (.seq r74_0 (.seq (.seq r74_1 (.cond (.tmp 3) (.seq r74_2 .ret) .skip)) (.seq r74_3 .ret))) := by kernel_rfl
noncomputable def L74_0 : {l : List Oper // (opsOf r74_0).map strip = l} := by refine ⟨?l, ?h⟩; case h => simp only [r74_0, c74, bodyOf, Tryd.f74, Code.sub, opsOf, List.map_cons, List.map_nil, strip]; rfl
theorem w74_0 : W Tryd.prog TT S 3 [3] r74_0 k E m Q ↔ Rg Tryd.prog TT S 3 [3] [2] [] (lgo E [] (lops Tryd.prog (callw Tryd.prog TT S) [(some 2)] (L74_0).1 E m)) k E Q := w_plain (by kernel_rfl) (L74_0).2
noncomputable def L74_1 : {l : List Oper // (opsOf r74_1).map strip = l} := by refine ⟨?l, ?h⟩; case h => simp only [r74_1, c74, bodyOf, Tryd.f74, Code.sub, opsOf, List.map_cons, List.map_nil, strip]; rfl
theorem w74_1 : W Tryd.prog TT S 3 [3] r74_1 k E m Q ↔ Rg Tryd.prog TT S 3 [3] [] [3] (lgo E [0] (lops Tryd.prog (callw Tryd.prog TT S) [(some 3)] (L74_1).1 E m)) k E Q := w_plain (by kernel_rfl) (L74_1).2
noncomputable def L74_2 : {l : List Oper // (opsOf r74_2).map strip = l} := by refine ⟨?l, ?h⟩; case h => simp only [r74_2, c74, bodyOf, Tryd.f74, Code.sub, opsOf, List.map_cons, List.map_nil, strip]; rfl
theorem w74_2 : W Tryd.prog TT S 3 [3] r74_2 k E m Q ↔ Rg Tryd.prog TT S 3 [3] [2] [] (lgo E [] (lops Tryd.prog (callw Tryd.prog TT S) [(some 2)] (L74_2).1 E m)) k E Q := w_plain (by kernel_rfl) (L74_2).2
noncomputable def L74_3 : {l : List Oper // (opsOf r74_3).map strip = l} := by refine ⟨?l, ?h⟩; case h => simp only [r74_3, c74, bodyOf, Tryd.f74, Code.sub, opsOf, List.map_cons, List.map_nil, strip]; rfl
theorem w74_3 : W Tryd.prog TT S 3 [3] r74_3 k E m Q ↔ Rg Tryd.prog TT S 3 [3] [2] [] (lgo E [] (lops Tryd.prog (callw Tryd.prog TT S) [(some 2)] (L74_3).1 E m)) k E Q := w_plain (by kernel_rfl) (L74_3).2
theorem k74 : FnIs TT 74 c74 [.tmp 2] 1 := ⟨Tryd.f74, by kernel_rfl, by simp only [Tryd.f74, c74, bodyOf], by kernel_rfl, of_decide_eq_true (by kernel_rfl)⟩

/- what rewriting uses in the walks -/
attribute [simp] w_seq w_cond_tmp w_ret w_skip w_exit w_block w_loop r_nil r_seq r_seq_ret r_seq_exit r_block
attribute [simp] r_block_ret r_block_exit r_loop r_loop_ret r_loop_exit cnd_t cnd_f rg_some lgo_n lgo_c lops_nil lops_cons
attribute [simp] lk_some lop1_plain lop1_guard gdv_b gdv_u gd_tt gd_ff gd_tf gd_ft lput_s lput_n lev_t
attribute [simp] lev_c lev_g lev_f lget_n lget_c lset_n lset_c lkeep_n lkeep_c lsets_n lsets_c lconds_n
attribute [simp] lconds_c lfill qf_d okx lresults lresultsL lres_tmp o_move o_assign o_bin o_pick o_nilCheck
attribute [simp] o_fieldAddr o_load o_len o_store o_conv o_un o_extract o_append o_call2 o_callv o_buildSlice o_box
attribute [simp] o_alloc o_build o_indexAddr o_slice o_index o_field o_makeFunc o_makeSlice o_min o_max loOf_none loOf_some
attribute [simp] hiOf_none hiOf_some natOf_int sliceS_some sliceA_some strOp sz_str cat_str list_str s_binOp fastBin s_unOp
attribute [simp] fastUn boolEq int_beq int_bne txt_beq one_int one_slice one_ptr one_bool one_str cells_int cells_slice
attribute [simp] cells_ptr cells_bool cells_str cells_agg flatEq_n flatEq_c ba_beq closedA_l closedL_n closedL_c closedV_int closedV_str
attribute [simp] closedV_bool loadRow_new window over Instr.fill repl lst_nil lst_cons lks_some lkc_some lloud_some lreads_n
attribute [simp] lreads_c lsame_d eqV_int eqV_slice eqV_ptr eqV_agg eqL_n eqL_c eqV_str eqV_bool eqV_undef
attribute [simp] body3 w3_0 L3_0 w3_1 L3_1 w3_2 L3_2 w3_3 L3_3 w3_4 L3_4 w3_5 L3_5 w3_6 L3_6 w3_7 L3_7 w3_8 L3_8 w3_9 L3_9 w3_10 L3_10
attribute [simp] body4 w4_0 L4_0 w4_1 L4_1 w4_2 L4_2 w4_3 L4_3 w4_4 L4_4 w4_5 L4_5 w4_6 L4_6 w4_7 L4_7 w4_8 L4_8 w4_9 L4_9 w4_10 L4_10 w4_11 L4_11 w4_12 L4_12 w4_13 L4_13 w4_14 L4_14 w4_15 L4_15 w4_16 L4_16 w4_17 L4_17 w4_18 L4_18 w4_19 L4_19 w4_20 L4_20 w4_21 L4_21
attribute [simp] body5 w5_0 L5_0 w5_1 L5_1 w5_2 L5_2 w5_3 L5_3 w5_4 L5_4 w5_5 L5_5 w5_6 L5_6 w5_7 L5_7 w5_8 L5_8 w5_9 L5_9
attribute [simp] body8 w8_0 L8_0 w8_1 L8_1 w8_2 L8_2 w8_3 L8_3 w8_4 L8_4 w8_5 L8_5 w8_6 L8_6 w8_7 L8_7 w8_8 L8_8 w8_9 L8_9 w8_10 L8_10 w8_11 L8_11 w8_12 L8_12 w8_13 L8_13 w8_14 L8_14 w8_15 L8_15 w8_16 L8_16 w8_17 L8_17 w8_18 L8_18
attribute [simp] body9 w9_0 L9_0 w9_1 L9_1
attribute [simp] body10 w10_0 L10_0 w10_1 L10_1 w10_2 L10_2 w10_3 L10_3 w10_4 L10_4 w10_5 L10_5 w10_6 L10_6
attribute [simp] body11 w11_0 L11_0 w11_1 L11_1 w11_2 L11_2 w11_3 L11_3 w11_4 L11_4
attribute [simp] body12 w12_0 L12_0 w12_1 L12_1 w12_2 L12_2 w12_3 L12_3
attribute [simp] body13 w13_0 L13_0 w13_1 L13_1
attribute [simp] body14 w14_0 L14_0 w14_1 L14_1
attribute [simp] body15 w15_0 L15_0 w15_1 L15_1 w15_2 L15_2 w15_3 L15_3
attribute [simp] body16 w16_0 L16_0 w16_1 L16_1 w16_2 L16_2 w16_3 L16_3 w16_4 L16_4
attribute [simp] body17 w17_0 L17_0 w17_1 L17_1 w17_2 L17_2 w17_3 L17_3
attribute [simp] body18 w18_0 L18_0 w18_1 L18_1
attribute [simp] body19 w19_0 L19_0 w19_1 L19_1
attribute [simp] body20 w20_0 L20_0 w20_1 L20_1
attribute [simp] body21 w21_0 L21_0 w21_1 L21_1
attribute [simp] body37 w37_0 L37_0 w37_1 L37_1
attribute [simp] body40 w40_0 L40_0 w40_1 L40_1 w40_2 L40_2 w40_3 L40_3
attribute [simp] body41 w41_0 L41_0 w41_1 L41_1 w41_2 L41_2 w41_3 L41_3 w41_4 L41_4 w41_5 L41_5 w41_6 L41_6 w41_7 L41_7 w41_8 L41_8
attribute [simp] body42 w42_0 L42_0 w42_1 L42_1
attribute [simp] body43 w43_0 L43_0 w43_1 L43_1
attribute [simp] body44 w44_0 L44_0 w44_1 L44_1 w44_2 L44_2 w44_3 L44_3 w44_4 L44_4 w44_5 L44_5 w44_6 L44_6 w44_7 L44_7 w44_8 L44_8
attribute [simp] body45 w45_0 L45_0 w45_1 L45_1 w45_2 L45_2 w45_3 L45_3
attribute [simp] body46 w46_0 L46_0 w46_1 L46_1 w46_2 L46_2 w46_3 L46_3 w46_4 L46_4 w46_5 L46_5 w46_6 L46_6 w46_7 L46_7
attribute [simp] body47 w47_0 L47_0 w47_1 L47_1
attribute [simp] body48 w48_0 L48_0 w48_1 L48_1 w48_2 L48_2 w48_3 L48_3 w48_4 L48_4 w48_5 L48_5 w48_6 L48_6
attribute [simp] body55 w55_0 L55_0 w55_1 L55_1
attribute [simp] body56 w56_0 L56_0 w56_1 L56_1
attribute [simp] body57 w57_0 L57_0 w57_1 L57_1
attribute [simp] body58 w58_0 L58_0 w58_1 L58_1
attribute [simp] body59 w59_0 L59_0 w59_1 L59_1
attribute [simp] body60 w60_0 L60_0 w60_1 L60_1 w60_2 L60_2 w60_3 L60_3
attribute [simp] body63 w63_0 L63_0 w63_1 L63_1 w63_2 L63_2 w63_3 L63_3 w63_4 L63_4
attribute [simp] body64 w64_0 L64_0 w64_1 L64_1 w64_2 L64_2 w64_3 L64_3
attribute [simp] body65 w65_0 L65_0 w65_1 L65_1 w65_2 L65_2 w65_3 L65_3 w65_4 L65_4 w65_5 L65_5 w65_6 L65_6 w65_7 L65_7 w65_8 L65_8 w65_9 L65_9 w65_10 L65_10 w65_11 L65_11 w65_12 L65_12 w65_13 L65_13 w65_14 L65_14 w65_15 L65_15
attribute [simp] body66 w66_0 L66_0 w66_1 L66_1 w66_2 L66_2 w66_3 L66_3
attribute [simp] body68 w68_0 L68_0 w68_1 L68_1 w68_2 L68_2 w68_3 L68_3
attribute [simp] body69 w69_0 L69_0 w69_1 L69_1 w69_2 L69_2
attribute [simp] body70 w70_0 L70_0 w70_1 L70_1 w70_2 L70_2 w70_3 L70_3 w70_4 L70_4 w70_5 L70_5 w70_6 L70_6 w70_7 L70_7 w70_8 L70_8 w70_9 L70_9 w70_10 L70_10 w70_11 L70_11 w70_12 L70_12 w70_13 L70_13 w70_14 L70_14 w70_15 L70_15 w70_16 L70_16 w70_17 L70_17 w70_18 L70_18 w70_19 L70_19 w70_20 L70_20 w70_21 L70_21 w70_22 L70_22 w70_23 L70_23 w70_24 L70_24 w70_25 L70_25 w70_26 L70_26
attribute [simp] body72 w72_0 L72_0 w72_1 L72_1
attribute [simp] body73 w73_0 L73_0 w73_1 L73_1 w73_2 L73_2 w73_3 L73_3 w73_4 L73_4 w73_5 L73_5 w73_6 L73_6 w73_7 L73_7 w73_8 L73_8 w73_9 L73_9 w73_10 L73_10
attribute [simp] body74 w74_0 L74_0 w74_1 L74_1 w74_2 L74_2 w74_3 L74_3
end Go.Proofs.YtggbgelfgfmikaaDoor.gen

