/-
  This text names the regions of the functions that are walked, with the slots that they read and set, and the facts of the types.
  No condition.
-/
import Derived.Test.YtllhpkhbcgfeeaaDoorProg
import Derived.Test.YtllhpkhbcgfeeaaDoorShD
set_option maxRecDepth 100000
set_option linter.unusedSimpArgs false
set_option linter.unusedVariables false
namespace Go.Proofs.YtllhpkhbcgfeeaaDoor.gen
open Go.Sh
def fns : List FuncId := [3, 4, 5, 6, 7, 8, 9, 10, 11, 12, 13, 14, 15, 16, 17, 18, 19, 20, 21, 22, 23, 24, 25, 26, 27, 28, 29, 30, 31, 32, 33, 34, 35]
noncomputable def TT : FuncId → Option Func := Sh.tabOf Tryd.prog fns
variable {S : Sums} {m : Mem} {k : List Fr} {E : LEnv} {Q : Post}
theorem ag49 : aggOk Tryd.prog 49 [(9, 0), (3, 1)] = true := by kernel_rfl
theorem ap25 : apOk Tryd.prog 25 5 80 = true := by kernel_rfl
theorem ap3 : apOk Tryd.prog 3 1 8 = true := by kernel_rfl
theorem ap38 : apOk Tryd.prog 38 4 56 = true := by kernel_rfl
theorem ap49 : apOk Tryd.prog 49 2 24 = true := by kernel_rfl
theorem ap9 : apOk Tryd.prog 9 1 16 = true := by kernel_rfl
theorem b25 : (Tryd.prog.info? 25).isSome = true := by kernel_rfl
theorem b38 : (Tryd.prog.info? 38).isSome = true := by kernel_rfl
theorem b9 : (Tryd.prog.info? 9).isSome = true := by kernel_rfl
theorem bo25 : buildOk Tryd.prog 25 [.int .i64 0, .string ⟨#[]⟩, .int .i64 0, .slice none 0 0, .slice none 0 0] [(0, 1), (1, 1), (2, 1), (3, 1), (4, 1)] = true := by kernel_rfl
theorem bo38 : buildOk Tryd.prog 38 [.string ⟨#[]⟩, .slice none 0 0, .int .i64 0, .int .i64 0] [(0, 1), (1, 1), (2, 1), (3, 1)] = true := by kernel_rfl
theorem bo49 : buildOk Tryd.prog 49 [.string ⟨#[]⟩, .int .i64 0] [(0, 1), (1, 1)] = true := by kernel_rfl
theorem bs25 : bsOk Tryd.prog 25 [.int .i64 0, .string ⟨#[]⟩, .int .i64 0, .slice none 0 0, .slice none 0 0] = true := by kernel_rfl
theorem bs3 : bsOk Tryd.prog 3 [.int .i64 0] = true := by kernel_rfl
theorem bs38 : bsOk Tryd.prog 38 [.string ⟨#[]⟩, .slice none 0 0, .int .i64 0, .int .i64 0] = true := by kernel_rfl
theorem bs49 : bsOk Tryd.prog 49 [.string ⟨#[]⟩, .int .i64 0] = true := by kernel_rfl
theorem bs9 : bsOk Tryd.prog 9 [.string ⟨#[]⟩] = true := by kernel_rfl
theorem fa25_0 : faOk Tryd.prog 25 0 0 = true := by kernel_rfl
theorem fa25_1 : faOk Tryd.prog 25 1 1 = true := by kernel_rfl
theorem fa25_2 : faOk Tryd.prog 25 2 2 = true := by kernel_rfl
theorem fa25_3 : faOk Tryd.prog 25 3 3 = true := by kernel_rfl
theorem fa25_4 : faOk Tryd.prog 25 4 4 = true := by kernel_rfl
theorem fa38_0 : faOk Tryd.prog 38 0 0 = true := by kernel_rfl
theorem fa38_1 : faOk Tryd.prog 38 1 1 = true := by kernel_rfl
theorem fa38_2 : faOk Tryd.prog 38 2 2 = true := by kernel_rfl
theorem fa38_3 : faOk Tryd.prog 38 3 3 = true := by kernel_rfl
theorem fa46_0 : faOk Tryd.prog 46 0 0 = true := by kernel_rfl
theorem fa46_1 : faOk Tryd.prog 46 1 1 = true := by kernel_rfl
theorem fa46_2 : faOk Tryd.prog 46 2 2 = true := by kernel_rfl
theorem fa46_3 : faOk Tryd.prog 46 3 3 = true := by kernel_rfl
theorem fa46_4 : faOk Tryd.prog 46 4 4 = true := by kernel_rfl
theorem fa46_5 : faOk Tryd.prog 46 5 5 = true := by kernel_rfl
theorem fa49_0 : faOk Tryd.prog 49 0 0 = true := by kernel_rfl
theorem fa49_1 : faOk Tryd.prog 49 1 1 = true := by kernel_rfl
theorem ld22 : ldOk Tryd.prog 22 = true := by kernel_rfl
theorem ld23 : ldOk Tryd.prog 23 = true := by kernel_rfl
theorem ld25 : agOk Tryd.prog 25 5 = true := by kernel_rfl
theorem ld3 : ldOk Tryd.prog 3 = true := by kernel_rfl
theorem ld36 : ldOk Tryd.prog 36 = true := by kernel_rfl
theorem ld38 : agOk Tryd.prog 38 4 = true := by kernel_rfl
theorem ld44 : ldOk Tryd.prog 44 = true := by kernel_rfl
theorem ld46 : agOk Tryd.prog 46 6 = true := by kernel_rfl
theorem ld49 : agOk Tryd.prog 49 2 = true := by kernel_rfl
theorem ld9 : ldOk Tryd.prog 9 = true := by kernel_rfl
theorem sz10 : sizeOfT Tryd.prog 10 = some 1 := by kernel_rfl
theorem sz11 : sizeOfT Tryd.prog 11 = some 1 := by kernel_rfl
theorem sz12 : sizeOfT Tryd.prog 12 = some 1 := by kernel_rfl
theorem sz2 : sizeOfT Tryd.prog 2 = some 1 := by kernel_rfl
theorem sz21 : sizeOfT Tryd.prog 21 = some 1 := by kernel_rfl
theorem sz22 : sizeOfT Tryd.prog 22 = some 1 := by kernel_rfl
theorem sz23 : sizeOfT Tryd.prog 23 = some 1 := by kernel_rfl
theorem sz25 : sizeOfT Tryd.prog 25 = some 5 := by kernel_rfl
theorem sz26 : sizeOfT Tryd.prog 26 = some 1 := by kernel_rfl
theorem sz27 : sizeOfT Tryd.prog 27 = some 1 := by kernel_rfl
theorem sz3 : sizeOfT Tryd.prog 3 = some 1 := by kernel_rfl
theorem sz36 : sizeOfT Tryd.prog 36 = some 1 := by kernel_rfl
theorem sz38 : sizeOfT Tryd.prog 38 = some 4 := by kernel_rfl
theorem sz4 : sizeOfT Tryd.prog 4 = some 1 := by kernel_rfl
theorem sz44 : sizeOfT Tryd.prog 44 = some 1 := by kernel_rfl
theorem sz46 : sizeOfT Tryd.prog 46 = some 6 := by kernel_rfl
theorem sz49 : sizeOfT Tryd.prog 49 = some 2 := by kernel_rfl
theorem sz5 : sizeOfT Tryd.prog 5 = some 1 := by kernel_rfl
theorem sz6 : sizeOfT Tryd.prog 6 = some 1 := by kernel_rfl
theorem sz63 : sizeOfT Tryd.prog 63 = some 1 := by kernel_rfl
theorem sz75 : sizeOfT Tryd.prog 75 = some 1 := by kernel_rfl
theorem sz76 : sizeOfT Tryd.prog 76 = some 1 := by kernel_rfl
theorem sz77 : sizeOfT Tryd.prog 77 = some 1 := by kernel_rfl
theorem sz80 : sizeOfT Tryd.prog 80 = some 1 := by kernel_rfl
theorem sz81 : sizeOfT Tryd.prog 81 = some 1 := by kernel_rfl
theorem sz9 : sizeOfT Tryd.prog 9 = some 1 := by kernel_rfl
theorem u10 : Tryd.prog.underlying 10 = some .string := by kernel_rfl
theorem u11 : Tryd.prog.underlying 11 = some .string := by kernel_rfl
theorem u12 : Tryd.prog.underlying 12 = some (.int .u64) := by kernel_rfl
theorem u2 : Tryd.prog.underlying 2 = some (.int .i64) := by kernel_rfl
theorem u21 : Tryd.prog.underlying 21 = some (.int .i32) := by kernel_rfl
theorem u22 : Tryd.prog.underlying 22 = some (.slice 49) := by kernel_rfl
theorem u23 : Tryd.prog.underlying 23 = some (.slice 38) := by kernel_rfl
theorem u26 : Tryd.prog.underlying 26 = some (.slice 46) := by kernel_rfl
theorem u27 : Tryd.prog.underlying 27 = some (.slice 25) := by kernel_rfl
theorem u3 : Tryd.prog.underlying 3 = some (.int .i64) := by kernel_rfl
theorem u36 : Tryd.prog.underlying 36 = some (.slice 3) := by kernel_rfl
theorem u4 : Tryd.prog.underlying 4 = some .bool := by kernel_rfl
theorem u42 : Tryd.prog.underlying 42 = some (.array 11 3) := by kernel_rfl
theorem u44 : Tryd.prog.underlying 44 = some (.slice 36) := by kernel_rfl
theorem u47 : Tryd.prog.underlying 47 = some (.array 8 9) := by kernel_rfl
theorem u5 : Tryd.prog.underlying 5 = some (.int .u8) := by kernel_rfl
theorem u50 : Tryd.prog.underlying 50 = some (.array 2 3) := by kernel_rfl
theorem u6 : Tryd.prog.underlying 6 = some (.int .u8) := by kernel_rfl
theorem u63 : Tryd.prog.underlying 63 = some (.slice 9) := by kernel_rfl
theorem u75 : Tryd.prog.underlying 75 = some (.int .u32) := by kernel_rfl
theorem u76 : Tryd.prog.underlying 76 = some (.int .u8) := by kernel_rfl
theorem u77 : Tryd.prog.underlying 77 = some (.int .u8) := by kernel_rfl
theorem u80 : Tryd.prog.underlying 80 = some (.int .i32) := by kernel_rfl
theorem u81 : Tryd.prog.underlying 81 = some (.int .i32) := by kernel_rfl
theorem u9 : Tryd.prog.underlying 9 = some .string := by kernel_rfl
theorem zo25 : zeroOk Tryd.prog 25 [.int .i64 0, .string ⟨#[]⟩, .int .i64 0, .slice none 0 0, .slice none 0 0] = true := by kernel_rfl
theorem zo3 : zeroOk Tryd.prog 3 [.int .i64 0] = true := by kernel_rfl
theorem zo38 : zeroOk Tryd.prog 38 [.string ⟨#[]⟩, .slice none 0 0, .int .i64 0, .int .i64 0] = true := by kernel_rfl
theorem zo42 : zeroOk Tryd.prog 42 (repl [.int .i64 0] 11) = true := by kernel_rfl
theorem zo46 : zeroOk Tryd.prog 46 [.int .i64 0, .int .i64 0, .int .i64 0, .slice none 0 0, .slice none 0 0, .int .i64 0] = true := by kernel_rfl
theorem zo49 : zeroOk Tryd.prog 49 [.string ⟨#[]⟩, .int .i64 0] = true := by kernel_rfl
theorem zo50 : zeroOk Tryd.prog 50 (repl [.int .i64 0] 2) = true := by kernel_rfl

/- turnstonelaw2.KindsSame -/
noncomputable def c3 : Code := bodyOf Tryd.f3
noncomputable def r3_0 : Code := Code.sub [0] c3
noncomputable def r3_1 : Code := Code.sub [1, 0, 0] c3
noncomputable def r3_2 : Code := Code.sub [1, 0, 1, 0, 0] c3
noncomputable def r3_3 : Code := Code.sub [1, 0, 1, 0, 1, 0] c3
noncomputable def r3_4 : Code := Code.sub [1, 0, 1, 0, 1, 1] c3
noncomputable def r3_5 : Code := Code.sub [1, 1, 0] c3
theorem body3 : c3 = (.seq r3_0 (.seq (.seq r3_1 (.cond (.tmp 14) (.seq r3_2 (.seq r3_3 r3_4)) .skip)) (.seq r3_5 .ret))) := by kernel_rfl
noncomputable def L3_0 : {l : List Oper // (opsOf r3_0).map strip = l} := by refine ⟨?l, ?h⟩; case h => simp only [r3_0, c3, bodyOf, Tryd.f3, Code.sub, opsOf, List.map_cons, List.map_nil, strip]; rfl
theorem w3_0 : W Tryd.prog TT S 14 [14] r3_0 k E m Q ↔ Rg Tryd.prog TT S 14 [14] [6, 7, 12] [] (lgo E [0, 1] (lops Tryd.prog (callw Tryd.prog TT S) [(some 6), (some 7), (some 12)] (L3_0).1 E m)) k E Q := w_plain (by kernel_rfl) (L3_0).2
noncomputable def L3_1 : {l : List Oper // (opsOf r3_1).map strip = l} := by refine ⟨?l, ?h⟩; case h => simp only [r3_1, c3, bodyOf, Tryd.f3, Code.sub, opsOf, List.map_cons, List.map_nil, strip]; rfl
theorem w3_1 : W Tryd.prog TT S 14 [14] r3_1 k E m Q ↔ Rg Tryd.prog TT S 14 [14] [] [14] (lgo E [5] (lops Tryd.prog (callw Tryd.prog TT S) [(some 14)] (L3_1).1 E m)) k E Q := w_plain (by kernel_rfl) (L3_1).2
noncomputable def L3_2 : {l : List Oper // (opsOf r3_2).map strip = l} := by refine ⟨?l, ?h⟩; case h => simp only [r3_2, c3, bodyOf, Tryd.f3, Code.sub, opsOf, List.map_cons, List.map_nil, strip]; rfl
theorem w3_2 : W Tryd.prog TT S 14 [14] r3_2 k E m Q ↔ Rg Tryd.prog TT S 14 [14] [13] [] (lgo E [2] (lops Tryd.prog (callw Tryd.prog TT S) [(some 15), (some 16), (some 13)] (L3_2).1 E m)) k E Q := w_plain (by kernel_rfl) (L3_2).2
noncomputable def L3_3 : {l : List Oper // (opsOf r3_3).map strip = l} := by refine ⟨?l, ?h⟩; case h => simp only [r3_3, c3, bodyOf, Tryd.f3, Code.sub, opsOf, List.map_cons, List.map_nil, strip]; rfl
theorem w3_3 : W Tryd.prog TT S 14 [14] r3_3 k E m Q ↔ Rg Tryd.prog TT S 14 [14] [] [] (lgo E [3, 13, 6] (lops Tryd.prog (callw Tryd.prog TT S) [(some 17), (some 18), (some 19), (some 20), (some 21), (some 22), (some 23), none] (L3_3).1 E m)) k E Q := w_plain (by kernel_rfl) (L3_3).2
noncomputable def L3_4 : {l : List Oper // (opsOf r3_4).map strip = l} := by refine ⟨?l, ?h⟩; case h => simp only [r3_4, c3, bodyOf, Tryd.f3, Code.sub, opsOf, List.map_cons, List.map_nil, strip]; rfl
theorem w3_4 : W Tryd.prog TT S 14 [14] r3_4 k E m Q ↔ Rg Tryd.prog TT S 14 [14] [] [] (lgo E [4, 13, 7] (lops Tryd.prog (callw Tryd.prog TT S) [(some 24), (some 25), (some 26), (some 27), (some 28), (some 29), (some 30), none] (L3_4).1 E m)) k E Q := w_plain (by kernel_rfl) (L3_4).2
theorem can3_5 : canonOps (opsOf r3_5) = opsOf r3_5 := by kernel_rfl
noncomputable def L3_5 : {l : List Oper // (canonOps (opsOf r3_5)).map strip = l} := by refine ⟨?l, (congrArg (List.map strip) can3_5).trans ?h⟩; case h => simp only [r3_5, c3, bodyOf, Tryd.f3, Code.sub, opsOf, List.map_cons, List.map_nil, strip]; rfl
theorem w3_5 : W Tryd.prog TT S 14 [14] r3_5 k E m Q ↔ Rg Tryd.prog TT S 14 [14] [12] [] (lgo E [6, 7] (lloud Tryd.prog (callw Tryd.prog TT S) [(some 31), (some 32), (some 33), (some 34), (some 35), (some 36), (some 37), (some 38), (some 39), (some 40), (some 41), (some 42), (some 43), (some 44), (some 45), (some 46), (some 47), (some 48), (some 49), (some 50), (some 51), (some 52), (some 53), (some 54), (some 12)] (L3_5).1 [(2, [4]), (3, [4]), (5, [4, 7]), (6, [4, 7]), (11, [13]), (12, [13]), (16, [18]), (17, [18]), (19, [18, 21]), (20, [18, 21])] (lstates Tryd.prog (callw Tryd.prog TT S) [(some 31), (some 32), (some 33), (some 34), (some 35), (some 36), (some 37), (some 38), (some 39), (some 40), (some 41), (some 42), (some 43), (some 44), (some 45), (some 46), (some 47), (some 48), (some 49), (some 50), (some 51), (some 52), (some 53), (some 54), (some 12)] (L3_5).1 E m))) k E Q := w_loud (by kernel_rfl) (L3_5).2
theorem k3 : FnIs TT 3 c3 [.tmp 12] 6 := ⟨Tryd.f3, by kernel_rfl, by simp only [Tryd.f3, c3, bodyOf], by kernel_rfl, of_decide_eq_true (by kernel_rfl)⟩

/- turnstonelaw2.KindsFits -/
noncomputable def c4 : Code := bodyOf Tryd.f4
noncomputable def r4_0 : Code := Code.sub [0] c4
noncomputable def r4_1 : Code := Code.sub [1, 0] c4
noncomputable def r4_2 : Code := Code.sub [1, 1, 0, 0] c4
noncomputable def r4_3 : Code := Code.sub [1, 1, 0, 1, 0, 0] c4
noncomputable def r4_4 : Code := Code.sub [1, 1, 1, 0] c4
noncomputable def r4_5 : Code := Code.sub [1, 1, 1, 1, 0] c4
noncomputable def r4_6 : Code := Code.sub [1, 1, 1, 1, 1, 0] c4
noncomputable def r4_7 : Code := Code.sub [1, 1, 1, 1, 1, 1, 0] c4
noncomputable def r4_8 : Code := Code.sub [1, 1, 1, 1, 1, 1, 1, 0, 0] c4
noncomputable def r4_9 : Code := Code.sub [1, 1, 1, 1, 1, 1, 1, 0, 1, 0] c4
noncomputable def r4_10 : Code := Code.sub [1, 1, 1, 1, 1, 1, 1, 1, 0, 0] c4
noncomputable def r4_11 : Code := Code.sub [1, 1, 1, 1, 1, 1, 1, 1, 0, 1, 0, 0] c4
noncomputable def r4_12 : Code := Code.sub [1, 1, 1, 1, 1, 1, 1, 1, 0, 1, 0, 1, 0] c4
noncomputable def r4_13 : Code := Code.sub [1, 1, 1, 1, 1, 1, 1, 1, 0, 1, 0, 1, 1, 0, 0, 0, 0] c4
noncomputable def r4_14 : Code := Code.sub [1, 1, 1, 1, 1, 1, 1, 1, 0, 1, 0, 1, 1, 0, 0, 1, 0, 0, 0] c4
noncomputable def r4_15 : Code := Code.sub [1, 1, 1, 1, 1, 1, 1, 1, 0, 1, 0, 1, 1, 0, 0, 1, 0, 0, 1, 0, 0] c4
noncomputable def r4_16 : Code := Code.sub [1, 1, 1, 1, 1, 1, 1, 1, 0, 1, 0, 1, 1, 0, 0, 1, 0, 0, 1, 0, 1, 0, 0] c4
noncomputable def r4_17 : Code := Code.sub [1, 1, 1, 1, 1, 1, 1, 1, 0, 1, 0, 1, 1, 0, 0, 1, 0, 0, 1, 1, 0] c4
noncomputable def r4_18 : Code := Code.sub [1, 1, 1, 1, 1, 1, 1, 1, 0, 1, 0, 1, 1, 0, 0, 1, 0, 0, 1, 1, 1, 0, 0, 0, 0] c4
noncomputable def r4_19 : Code := Code.sub [1, 1, 1, 1, 1, 1, 1, 1, 0, 1, 0, 1, 1, 0, 0, 1, 0, 0, 1, 1, 1, 0, 0, 1, 0, 0] c4
noncomputable def r4_20 : Code := Code.sub [1, 1, 1, 1, 1, 1, 1, 1, 0, 1, 0, 1, 1, 0, 0, 1, 0, 0, 1, 1, 1, 0, 0, 1, 1] c4
noncomputable def r4_21 : Code := Code.sub [1, 1, 1, 1, 1, 1, 1, 1, 0, 1, 0, 1, 1, 0, 0, 1, 1] c4
noncomputable def r4_22 : Code := Code.sub [1, 1, 1, 1, 1, 1, 1, 1, 1, 0] c4
theorem body4 : c4 = (.seq r4_0 (.seq r4_1 (.seq (.seq r4_2 (.cond (.tmp 22) (.seq r4_3 .ret) .skip)) (.seq r4_4 (.seq r4_5 (.seq r4_6 (.seq r4_7 (.seq (.seq r4_8 (.cond (.tmp 49) r4_9 .skip)) (.seq (.seq r4_10 (.cond (.tmp 69) (.seq r4_11 (.seq r4_12 (.block 0 (.loop (.seq (.seq r4_13 (.cond (.tmp 77) .skip (.exit 0))) (.seq (.block 1 (.seq r4_14 (.seq (.seq r4_15 (.cond (.tmp 140) (.seq r4_16 (.exit 0)) .skip)) (.seq r4_17 (.block 2 (.loop (.seq (.seq r4_18 (.cond (.tmp 152) .skip (.exit 2))) (.seq (.block 3 r4_19) r4_20)))))))) r4_21)))))) .skip)) (.seq r4_22 .ret)))))))))) := by kernel_rfl
noncomputable def L4_0 : {l : List Oper // (opsOf r4_0).map strip = l} := by refine ⟨?l, ?h⟩; case h => simp only [r4_0, c4, bodyOf, Tryd.f4, Code.sub, opsOf, List.map_cons, List.map_nil, strip]; rfl
theorem w4_0 : W Tryd.prog TT S 14 [22, 49, 69, 77, 140, 152] r4_0 k E m Q ↔ Rg Tryd.prog TT S 14 [22, 49, 69, 77, 140, 152] [6] [] (lgo E [] (lops Tryd.prog (callw Tryd.prog TT S) [(some 6)] (L4_0).1 E m)) k E Q := w_plain (by kernel_rfl) (L4_0).2
noncomputable def L4_1 : {l : List Oper // (opsOf r4_1).map strip = l} := by refine ⟨?l, ?h⟩; case h => simp only [r4_1, c4, bodyOf, Tryd.f4, Code.sub, opsOf, List.map_cons, List.map_nil, strip]; rfl
theorem w4_1 : W Tryd.prog TT S 14 [22, 49, 69, 77, 140, 152] r4_1 k E m Q ↔ Rg Tryd.prog TT S 14 [22, 49, 69, 77, 140, 152] [7] [] (lgo E [0] (lops Tryd.prog (callw Tryd.prog TT S) [(some 14), (some 15), (some 7)] (L4_1).1 E m)) k E Q := w_plain (by kernel_rfl) (L4_1).2
noncomputable def L4_2 : {l : List Oper // (opsOf r4_2).map strip = l} := by refine ⟨?l, ?h⟩; case h => simp only [r4_2, c4, bodyOf, Tryd.f4, Code.sub, opsOf, List.map_cons, List.map_nil, strip]; rfl
theorem w4_2 : W Tryd.prog TT S 14 [22, 49, 69, 77, 140, 152] r4_2 k E m Q ↔ Rg Tryd.prog TT S 14 [22, 49, 69, 77, 140, 152] [] [22] (lgo E [7] (lops Tryd.prog (callw Tryd.prog TT S) [(some 16), (some 17), (some 18), (some 19), (some 20), (some 21), (some 22)] (L4_2).1 E m)) k E Q := w_plain (by kernel_rfl) (L4_2).2
noncomputable def L4_3 : {l : List Oper // (opsOf r4_3).map strip = l} := by refine ⟨?l, ?h⟩; case h => simp only [r4_3, c4, bodyOf, Tryd.f4, Code.sub, opsOf, List.map_cons, List.map_nil, strip]; rfl
theorem w4_3 : W Tryd.prog TT S 14 [22, 49, 69, 77, 140, 152] r4_3 k E m Q ↔ Rg Tryd.prog TT S 14 [22, 49, 69, 77, 140, 152] [6] [] (lgo E [] (lops Tryd.prog (callw Tryd.prog TT S) [(some 23), (some 6)] (L4_3).1 E m)) k E Q := w_plain (by kernel_rfl) (L4_3).2
noncomputable def L4_4 : {l : List Oper // (opsOf r4_4).map strip = l} := by refine ⟨?l, ?h⟩; case h => simp only [r4_4, c4, bodyOf, Tryd.f4, Code.sub, opsOf, List.map_cons, List.map_nil, strip]; rfl
theorem w4_4 : W Tryd.prog TT S 14 [22, 49, 69, 77, 140, 152] r4_4 k E m Q ↔ Rg Tryd.prog TT S 14 [22, 49, 69, 77, 140, 152] [1] [] (lgo E [1, 7] (lops Tryd.prog (callw Tryd.prog TT S) [(some 24), (some 25), (some 26), (some 27), (some 1)] (L4_4).1 E m)) k E Q := w_plain (by kernel_rfl) (L4_4).2
noncomputable def L4_5 : {l : List Oper // (opsOf r4_5).map strip = l} := by refine ⟨?l, ?h⟩; case h => simp only [r4_5, c4, bodyOf, Tryd.f4, Code.sub, opsOf, List.map_cons, List.map_nil, strip]; rfl
theorem w4_5 : W Tryd.prog TT S 14 [22, 49, 69, 77, 140, 152] r4_5 k E m Q ↔ Rg Tryd.prog TT S 14 [22, 49, 69, 77, 140, 152] [2] [] (lgo E [2, 7] (lops Tryd.prog (callw Tryd.prog TT S) [(some 28), (some 29), (some 30), (some 31), (some 2)] (L4_5).1 E m)) k E Q := w_plain (by kernel_rfl) (L4_5).2
noncomputable def L4_6 : {l : List Oper // (opsOf r4_6).map strip = l} := by refine ⟨?l, ?h⟩; case h => simp only [r4_6, c4, bodyOf, Tryd.f4, Code.sub, opsOf, List.map_cons, List.map_nil, strip]; rfl
theorem w4_6 : W Tryd.prog TT S 14 [22, 49, 69, 77, 140, 152] r4_6 k E m Q ↔ Rg Tryd.prog TT S 14 [22, 49, 69, 77, 140, 152] [8] [] (lgo E [7, 2] (lops Tryd.prog (callw Tryd.prog TT S) [(some 32), (some 33), (some 34), (some 35), (some 36), (some 8)] (L4_6).1 E m)) k E Q := w_plain (by kernel_rfl) (L4_6).2
noncomputable def L4_7 : {l : List Oper // (opsOf r4_7).map strip = l} := by refine ⟨?l, ?h⟩; case h => simp only [r4_7, c4, bodyOf, Tryd.f4, Code.sub, opsOf, List.map_cons, List.map_nil, strip]; rfl
theorem w4_7 : W Tryd.prog TT S 14 [22, 49, 69, 77, 140, 152] r4_7 k E m Q ↔ Rg Tryd.prog TT S 14 [22, 49, 69, 77, 140, 152] [9] [] (lgo E [2, 1] (lops Tryd.prog (callw Tryd.prog TT S) [(some 37), (some 38), (some 39), (some 40), (some 41), (some 42), (some 43), (some 44), (some 45), (some 46), (some 47), (some 9)] (L4_7).1 E m)) k E Q := w_plain (by kernel_rfl) (L4_7).2
noncomputable def L4_8 : {l : List Oper // (opsOf r4_8).map strip = l} := by refine ⟨?l, ?h⟩; case h => simp only [r4_8, c4, bodyOf, Tryd.f4, Code.sub, opsOf, List.map_cons, List.map_nil, strip]; rfl
theorem w4_8 : W Tryd.prog TT S 14 [22, 49, 69, 77, 140, 152] r4_8 k E m Q ↔ Rg Tryd.prog TT S 14 [22, 49, 69, 77, 140, 152] [] [49] (lgo E [1] (lops Tryd.prog (callw Tryd.prog TT S) [(some 48), (some 49)] (L4_8).1 E m)) k E Q := w_plain (by kernel_rfl) (L4_8).2
noncomputable def L4_9 : {l : List Oper // (opsOf r4_9).map strip = l} := by refine ⟨?l, ?h⟩; case h => simp only [r4_9, c4, bodyOf, Tryd.f4, Code.sub, opsOf, List.map_cons, List.map_nil, strip]; rfl
theorem w4_9 : W Tryd.prog TT S 14 [22, 49, 69, 77, 140, 152] r4_9 k E m Q ↔ Rg Tryd.prog TT S 14 [22, 49, 69, 77, 140, 152] [9] [] (lgo E [8] (lops Tryd.prog (callw Tryd.prog TT S) [(some 50), (some 51), (some 52), (some 53), (some 54), (some 55), (some 56), (some 57), (some 58), (some 59), (some 9)] (L4_9).1 E m)) k E Q := w_plain (by kernel_rfl) (L4_9).2
noncomputable def L4_10 : {l : List Oper // (opsOf r4_10).map strip = l} := by refine ⟨?l, ?h⟩; case h => simp only [r4_10, c4, bodyOf, Tryd.f4, Code.sub, opsOf, List.map_cons, List.map_nil, strip]; rfl
theorem w4_10 : W Tryd.prog TT S 14 [22, 49, 69, 77, 140, 152] r4_10 k E m Q ↔ Rg Tryd.prog TT S 14 [22, 49, 69, 77, 140, 152] [] [69] (lgo E [7, 1, 8] (lops Tryd.prog (callw Tryd.prog TT S) [(some 60), (some 61), (some 62), (some 63), (some 64), (some 65), (some 66), (some 67), (some 68), (some 69)] (L4_10).1 E m)) k E Q := w_plain (by kernel_rfl) (L4_10).2
noncomputable def L4_11 : {l : List Oper // (opsOf r4_11).map strip = l} := by refine ⟨?l, ?h⟩; case h => simp only [r4_11, c4, bodyOf, Tryd.f4, Code.sub, opsOf, List.map_cons, List.map_nil, strip]; rfl
theorem w4_11 : W Tryd.prog TT S 14 [22, 49, 69, 77, 140, 152] r4_11 k E m Q ↔ Rg Tryd.prog TT S 14 [22, 49, 69, 77, 140, 152] [9] [] (lgo E [] (lops Tryd.prog (callw Tryd.prog TT S) [(some 9)] (L4_11).1 E m)) k E Q := w_plain (by kernel_rfl) (L4_11).2
noncomputable def L4_12 : {l : List Oper // (opsOf r4_12).map strip = l} := by refine ⟨?l, ?h⟩; case h => simp only [r4_12, c4, bodyOf, Tryd.f4, Code.sub, opsOf, List.map_cons, List.map_nil, strip]; rfl
theorem w4_12 : W Tryd.prog TT S 14 [22, 49, 69, 77, 140, 152] r4_12 k E m Q ↔ Rg Tryd.prog TT S 14 [22, 49, 69, 77, 140, 152] [10] [] (lgo E [] (lops Tryd.prog (callw Tryd.prog TT S) [(some 10)] (L4_12).1 E m)) k E Q := w_plain (by kernel_rfl) (L4_12).2
noncomputable def L4_13 : {l : List Oper // (opsOf r4_13).map strip = l} := by refine ⟨?l, ?h⟩; case h => simp only [r4_13, c4, bodyOf, Tryd.f4, Code.sub, opsOf, List.map_cons, List.map_nil, strip]; rfl
theorem w4_13 : W Tryd.prog TT S 14 [22, 49, 69, 77, 140, 152] r4_13 k E m Q ↔ Rg Tryd.prog TT S 14 [22, 49, 69, 77, 140, 152] [] [77] (lgo E [10, 7, 2] (lops Tryd.prog (callw Tryd.prog TT S) [(some 70), (some 71), (some 72), (some 73), (some 74), (some 75), (some 76), (some 77)] (L4_13).1 E m)) k E Q := w_plain (by kernel_rfl) (L4_13).2
noncomputable def L4_14 : {l : List Oper // (opsOf r4_14).map strip = l} := by refine ⟨?l, ?h⟩; case h => simp only [r4_14, c4, bodyOf, Tryd.f4, Code.sub, opsOf, List.map_cons, List.map_nil, strip]; rfl
theorem w4_14 : W Tryd.prog TT S 14 [22, 49, 69, 77, 140, 152] r4_14 k E m Q ↔ Rg Tryd.prog TT S 14 [22, 49, 69, 77, 140, 152] [11, 12] [] (lgo E [1, 7, 2, 10] (lops Tryd.prog (callw Tryd.prog TT S) [(some 81), (some 82), (some 83), (some 84), (some 85), (some 86), (some 87), (some 88), (some 89), (some 90), (some 91), (some 92), (some 80), (some 93), (some 94), (some 11), (some 12)] (L4_14).1 E m)) k E Q := w_plain (by kernel_rfl) (L4_14).2
noncomputable def L4_15 : {l : List Oper // (opsOf r4_15).map strip = l} := by refine ⟨?l, ?h⟩; case h => simp only [r4_15, c4, bodyOf, Tryd.f4, Code.sub, opsOf, List.map_cons, List.map_nil, strip]; rfl
theorem w4_15 : W Tryd.prog TT S 14 [22, 49, 69, 77, 140, 152] r4_15 k E m Q ↔ Rg Tryd.prog TT S 14 [22, 49, 69, 77, 140, 152] [] [140] (lgo E [12, 1, 11, 7, 2, 10] (lops Tryd.prog (callw Tryd.prog TT S) [(some 95), (some 96), (some 97), (some 98), (some 99), (some 100), (some 101), (some 102), (some 103), (some 104), (some 105), (some 106), (some 107), (some 108), (some 109), (some 110), (some 111), (some 112), (some 113), (some 114), (some 115), (some 116), (some 117), (some 118), (some 119), (some 120), (some 121), (some 122), (some 123), (some 124), (some 125), (some 126), (some 127), (some 128), (some 129), (some 130), (some 131), (some 132), (some 133), (some 134), (some 135), (some 136), (some 137), (some 138), (some 139), (some 140)] (L4_15).1 E m)) k E Q := w_plain (by kernel_rfl) (L4_15).2
noncomputable def L4_16 : {l : List Oper // (opsOf r4_16).map strip = l} := by refine ⟨?l, ?h⟩; case h => simp only [r4_16, c4, bodyOf, Tryd.f4, Code.sub, opsOf, List.map_cons, List.map_nil, strip]; rfl
theorem w4_16 : W Tryd.prog TT S 14 [22, 49, 69, 77, 140, 152] r4_16 k E m Q ↔ Rg Tryd.prog TT S 14 [22, 49, 69, 77, 140, 152] [9] [] (lgo E [] (lops Tryd.prog (callw Tryd.prog TT S) [(some 9)] (L4_16).1 E m)) k E Q := w_plain (by kernel_rfl) (L4_16).2
noncomputable def L4_17 : {l : List Oper // (opsOf r4_17).map strip = l} := by refine ⟨?l, ?h⟩; case h => simp only [r4_17, c4, bodyOf, Tryd.f4, Code.sub, opsOf, List.map_cons, List.map_nil, strip]; rfl
theorem w4_17 : W Tryd.prog TT S 14 [22, 49, 69, 77, 140, 152] r4_17 k E m Q ↔ Rg Tryd.prog TT S 14 [22, 49, 69, 77, 140, 152] [13] [] (lgo E [] (lops Tryd.prog (callw Tryd.prog TT S) [(some 13)] (L4_17).1 E m)) k E Q := w_plain (by kernel_rfl) (L4_17).2
noncomputable def L4_18 : {l : List Oper // (opsOf r4_18).map strip = l} := by refine ⟨?l, ?h⟩; case h => simp only [r4_18, c4, bodyOf, Tryd.f4, Code.sub, opsOf, List.map_cons, List.map_nil, strip]; rfl
theorem w4_18 : W Tryd.prog TT S 14 [22, 49, 69, 77, 140, 152] r4_18 k E m Q ↔ Rg Tryd.prog TT S 14 [22, 49, 69, 77, 140, 152] [] [152] (lgo E [13, 7, 2, 10] (lops Tryd.prog (callw Tryd.prog TT S) [(some 141), (some 142), (some 143), (some 144), (some 145), (some 146), (some 147), (some 148), (some 149), (some 150), (some 151), (some 152)] (L4_18).1 E m)) k E Q := w_plain (by kernel_rfl) (L4_18).2
noncomputable def L4_19 : {l : List Oper // (opsOf r4_19).map strip = l} := by refine ⟨?l, ?h⟩; case h => simp only [r4_19, c4, bodyOf, Tryd.f4, Code.sub, opsOf, List.map_cons, List.map_nil, strip]; rfl
theorem w4_19 : W Tryd.prog TT S 14 [22, 49, 69, 77, 140, 152] r4_19 k E m Q ↔ Rg Tryd.prog TT S 14 [22, 49, 69, 77, 140, 152] [9] [] (lgo E [9, 1, 11, 7, 2, 10, 13] (lops Tryd.prog (callw Tryd.prog TT S) [(some 155), (some 156), (some 157), (some 158), (some 159), (some 160), (some 161), (some 162), (some 163), (some 164), (some 165), (some 166), (some 167), (some 168), (some 169), (some 170), (some 171), (some 172), (some 173), (some 174), (some 175), (some 176), (some 177), (some 178), (some 179), (some 180), (some 181), (some 182), (some 9)] (L4_19).1 E m)) k E Q := w_plain (by kernel_rfl) (L4_19).2
noncomputable def L4_20 : {l : List Oper // (opsOf r4_20).map strip = l} := by refine ⟨?l, ?h⟩; case h => simp only [r4_20, c4, bodyOf, Tryd.f4, Code.sub, opsOf, List.map_cons, List.map_nil, strip]; rfl
theorem w4_20 : W Tryd.prog TT S 14 [22, 49, 69, 77, 140, 152] r4_20 k E m Q ↔ Rg Tryd.prog TT S 14 [22, 49, 69, 77, 140, 152] [13] [] (lgo E [13] (lops Tryd.prog (callw Tryd.prog TT S) [(some 153), (some 154), (some 13)] (L4_20).1 E m)) k E Q := w_plain (by kernel_rfl) (L4_20).2
noncomputable def L4_21 : {l : List Oper // (opsOf r4_21).map strip = l} := by refine ⟨?l, ?h⟩; case h => simp only [r4_21, c4, bodyOf, Tryd.f4, Code.sub, opsOf, List.map_cons, List.map_nil, strip]; rfl
theorem w4_21 : W Tryd.prog TT S 14 [22, 49, 69, 77, 140, 152] r4_21 k E m Q ↔ Rg Tryd.prog TT S 14 [22, 49, 69, 77, 140, 152] [10] [] (lgo E [10] (lops Tryd.prog (callw Tryd.prog TT S) [(some 78), (some 79), (some 10)] (L4_21).1 E m)) k E Q := w_plain (by kernel_rfl) (L4_21).2
noncomputable def L4_22 : {l : List Oper // (opsOf r4_22).map strip = l} := by refine ⟨?l, ?h⟩; case h => simp only [r4_22, c4, bodyOf, Tryd.f4, Code.sub, opsOf, List.map_cons, List.map_nil, strip]; rfl
theorem w4_22 : W Tryd.prog TT S 14 [22, 49, 69, 77, 140, 152] r4_22 k E m Q ↔ Rg Tryd.prog TT S 14 [22, 49, 69, 77, 140, 152] [6] [] (lgo E [7, 1, 2, 9] (lops Tryd.prog (callw Tryd.prog TT S) [(some 183), (some 184), (some 185), (some 186), (some 187), (some 188), (some 6)] (L4_22).1 E m)) k E Q := w_plain (by kernel_rfl) (L4_22).2
theorem k4 : FnIs TT 4 c4 [.tmp 6] 3 := ⟨Tryd.f4, by kernel_rfl, by simp only [Tryd.f4, c4, bodyOf], by kernel_rfl, of_decide_eq_true (by kernel_rfl)⟩

/- turnstonelaw2.types -/
noncomputable def c5 : Code := bodyOf Tryd.f5
noncomputable def r5_0 : Code := Code.sub [0] c5
noncomputable def r5_1 : Code := Code.sub [1, 0] c5
noncomputable def r5_2 : Code := Code.sub [1, 1, 0] c5
noncomputable def r5_3 : Code := Code.sub [1, 1, 1, 0] c5
noncomputable def r5_4 : Code := Code.sub [1, 1, 1, 1, 0, 0] c5
noncomputable def r5_5 : Code := Code.sub [1, 1, 1, 1, 0, 1, 0, 0, 0, 0] c5
noncomputable def r5_6 : Code := Code.sub [1, 1, 1, 1, 0, 1, 0, 0, 1, 0, 0, 0] c5
noncomputable def r5_7 : Code := Code.sub [1, 1, 1, 1, 0, 1, 0, 0, 1, 0, 0, 1, 0] c5
noncomputable def r5_8 : Code := Code.sub [1, 1, 1, 1, 0, 1, 0, 0, 1, 0, 0, 1, 1, 0, 0] c5
noncomputable def r5_9 : Code := Code.sub [1, 1, 1, 1, 0, 1, 0, 0, 1, 0, 0, 1, 1, 0, 1, 0, 0] c5
noncomputable def r5_10 : Code := Code.sub [1, 1, 1, 1, 0, 1, 0, 0, 1, 0, 0, 1, 1, 0, 1, 0, 1] c5
noncomputable def r5_11 : Code := Code.sub [1, 1, 1, 1, 0, 1, 0, 0, 1, 0, 0, 1, 1, 1, 0, 0] c5
noncomputable def r5_12 : Code := Code.sub [1, 1, 1, 1, 0, 1, 0, 0, 1, 0, 0, 1, 1, 1, 0, 1, 0, 0, 0, 0] c5
noncomputable def r5_13 : Code := Code.sub [1, 1, 1, 1, 0, 1, 0, 0, 1, 0, 0, 1, 1, 1, 0, 1, 0, 0, 1, 0, 0] c5
noncomputable def r5_14 : Code := Code.sub [1, 1, 1, 1, 0, 1, 0, 0, 1, 0, 0, 1, 1, 1, 0, 1, 0, 0, 1, 1] c5
noncomputable def r5_15 : Code := Code.sub [1, 1, 1, 1, 0, 1, 0, 0, 1, 0, 0, 1, 1, 1, 1, 0, 0] c5
noncomputable def r5_16 : Code := Code.sub [1, 1, 1, 1, 0, 1, 0, 0, 1, 0, 0, 1, 1, 1, 1, 0, 1, 0, 0, 0, 0] c5
noncomputable def r5_17 : Code := Code.sub [1, 1, 1, 1, 0, 1, 0, 0, 1, 0, 0, 1, 1, 1, 1, 0, 1, 0, 0, 1, 0, 0, 0] c5
noncomputable def r5_18 : Code := Code.sub [1, 1, 1, 1, 0, 1, 0, 0, 1, 0, 0, 1, 1, 1, 1, 0, 1, 0, 0, 1, 0, 0, 1, 0, 0] c5
noncomputable def r5_19 : Code := Code.sub [1, 1, 1, 1, 0, 1, 0, 0, 1, 0, 0, 1, 1, 1, 1, 0, 1, 0, 0, 1, 0, 0, 1, 0, 1, 0] c5
noncomputable def r5_20 : Code := Code.sub [1, 1, 1, 1, 0, 1, 0, 0, 1, 0, 0, 1, 1, 1, 1, 0, 1, 0, 0, 1, 0, 0, 1, 1, 0, 0] c5
noncomputable def r5_21 : Code := Code.sub [1, 1, 1, 1, 0, 1, 0, 0, 1, 0, 0, 1, 1, 1, 1, 0, 1, 0, 0, 1, 0, 0, 1, 1, 0, 1, 0, 0, 0, 0] c5
noncomputable def r5_22 : Code := Code.sub [1, 1, 1, 1, 0, 1, 0, 0, 1, 0, 0, 1, 1, 1, 1, 0, 1, 0, 0, 1, 0, 0, 1, 1, 0, 1, 0, 0, 1, 0, 0, 0] c5
noncomputable def r5_23 : Code := Code.sub [1, 1, 1, 1, 0, 1, 0, 0, 1, 0, 0, 1, 1, 1, 1, 0, 1, 0, 0, 1, 0, 0, 1, 1, 0, 1, 0, 0, 1, 0, 0, 1, 0] c5
noncomputable def r5_24 : Code := Code.sub [1, 1, 1, 1, 0, 1, 0, 0, 1, 0, 0, 1, 1, 1, 1, 0, 1, 0, 0, 1, 0, 0, 1, 1, 0, 1, 0, 0, 1, 0, 0, 1, 1] c5
noncomputable def r5_25 : Code := Code.sub [1, 1, 1, 1, 0, 1, 0, 0, 1, 0, 0, 1, 1, 1, 1, 0, 1, 0, 0, 1, 0, 0, 1, 1, 0, 1, 0, 0, 1, 1] c5
noncomputable def r5_26 : Code := Code.sub [1, 1, 1, 1, 0, 1, 0, 0, 1, 0, 0, 1, 1, 1, 1, 0, 1, 0, 0, 1, 0, 0, 1, 1, 1] c5
noncomputable def r5_27 : Code := Code.sub [1, 1, 1, 1, 0, 1, 0, 0, 1, 0, 0, 1, 1, 1, 1, 0, 1, 0, 0, 1, 1] c5
noncomputable def r5_28 : Code := Code.sub [1, 1, 1, 1, 0, 1, 0, 0, 1, 0, 0, 1, 1, 1, 1, 1, 0, 0] c5
noncomputable def r5_29 : Code := Code.sub [1, 1, 1, 1, 0, 1, 0, 0, 1, 0, 0, 1, 1, 1, 1, 1, 0, 1, 0, 0] c5
noncomputable def r5_30 : Code := Code.sub [1, 1, 1, 1, 0, 1, 0, 0, 1, 0, 0, 1, 1, 1, 1, 1, 0, 1, 0, 1, 0] c5
noncomputable def r5_31 : Code := Code.sub [1, 1, 1, 1, 0, 1, 0, 0, 1, 0, 0, 1, 1, 1, 1, 1, 0, 1, 0, 1, 1, 0] c5
noncomputable def r5_32 : Code := Code.sub [1, 1, 1, 1, 0, 1, 0, 0, 1, 0, 0, 1, 1, 1, 1, 1, 0, 1, 0, 1, 1, 1, 0] c5
noncomputable def r5_33 : Code := Code.sub [1, 1, 1, 1, 0, 1, 0, 0, 1, 0, 0, 1, 1, 1, 1, 1, 0, 1, 0, 1, 1, 1, 1, 0] c5
noncomputable def r5_34 : Code := Code.sub [1, 1, 1, 1, 0, 1, 0, 0, 1, 0, 0, 1, 1, 1, 1, 1, 0, 1, 0, 1, 1, 1, 1, 1, 0] c5
noncomputable def r5_35 : Code := Code.sub [1, 1, 1, 1, 0, 1, 0, 0, 1, 0, 0, 1, 1, 1, 1, 1, 0, 1, 0, 1, 1, 1, 1, 1, 1, 0] c5
noncomputable def r5_36 : Code := Code.sub [1, 1, 1, 1, 0, 1, 0, 0, 1, 0, 0, 1, 1, 1, 1, 1, 0, 1, 0, 1, 1, 1, 1, 1, 1, 1, 0, 0] c5
noncomputable def r5_37 : Code := Code.sub [1, 1, 1, 1, 0, 1, 0, 0, 1, 0, 0, 1, 1, 1, 1, 1, 0, 1, 0, 1, 1, 1, 1, 1, 1, 1, 0, 1, 0] c5
noncomputable def r5_38 : Code := Code.sub [1, 1, 1, 1, 0, 1, 0, 0, 1, 0, 0, 1, 1, 1, 1, 1, 1] c5
noncomputable def r5_39 : Code := Code.sub [1, 1, 1, 1, 0, 1, 0, 0, 1, 1] c5
noncomputable def r5_40 : Code := Code.sub [1, 1, 1, 1, 1, 0] c5
theorem body5 : c5 = (.seq r5_0 (.seq r5_1 (.seq r5_2 (.seq r5_3 (.seq (.seq r5_4 (.block 0 (.loop (.seq (.seq r5_5 (.cond (.tmp 20) .skip (.exit 0))) (.seq (.block 1 (.seq r5_6 (.seq r5_7 (.seq (.seq r5_8 (.cond (.tmp 44) (.seq r5_9 r5_10) .skip)) (.seq (.seq r5_11 (.block 2 (.loop (.seq (.seq r5_12 (.cond (.tmp 64) .skip (.exit 2))) (.seq (.block 3 r5_13) r5_14))))) (.seq (.seq r5_15 (.block 4 (.loop (.seq (.seq r5_16 (.cond (.tmp 108) .skip (.exit 4))) (.seq (.block 5 (.seq r5_17 (.seq (.seq r5_18 (.cond (.tmp 119) r5_19 .skip)) (.seq (.seq r5_20 (.block 6 (.loop (.seq (.seq r5_21 (.cond (.tmp 133) .skip (.exit 6))) (.seq (.block 7 (.seq r5_22 (.cond (.tmp 137) r5_23 r5_24))) r5_25))))) r5_26)))) r5_27))))) (.seq (.seq r5_28 (.block 8 (.seq r5_29 (.cond (.tmp 174) r5_30 (.seq r5_31 (.cond (.tmp 181) r5_32 (.seq r5_33 (.cond (.tmp 186) r5_34 (.seq r5_35 (.cond (.tmp 194) (.seq r5_36 (.cond (.tmp 199) r5_37 .skip)) .skip)))))))))) r5_38))))))) r5_39))))) (.seq r5_40 .ret)))))) := by kernel_rfl
noncomputable def L5_0 : {l : List Oper // (opsOf r5_0).map strip = l} := by refine ⟨?l, ?h⟩; case h => simp only [r5_0, c5, bodyOf, Tryd.f5, Code.sub, opsOf, List.map_cons, List.map_nil, strip]; rfl
theorem w5_0 : W Tryd.prog TT S 174 [174, 181, 186, 194, 199] r5_0 k E m Q ↔ Rg Tryd.prog TT S 174 [174, 181, 186, 194, 199] [2] [] (lgo E [] (lops Tryd.prog (callw Tryd.prog TT S) [(some 2)] (L5_0).1 E m)) k E Q := w_plain (by kernel_rfl) (L5_0).2
noncomputable def L5_1 : {l : List Oper // (opsOf r5_1).map strip = l} := by refine ⟨?l, ?h⟩; case h => simp only [r5_1, c5, bodyOf, Tryd.f5, Code.sub, opsOf, List.map_cons, List.map_nil, strip]; rfl
theorem w5_1 : W Tryd.prog TT S 174 [174, 181, 186, 194, 199] r5_1 k E m Q ↔ Rg Tryd.prog TT S 174 [174, 181, 186, 194, 199] [13, 3] [] (lgo E [] (lops Tryd.prog (callw Tryd.prog TT S) [(some 13), (some 3)] (L5_1).1 E m)) k E Q := w_plain (by kernel_rfl) (L5_1).2
noncomputable def L5_2 : {l : List Oper // (opsOf r5_2).map strip = l} := by refine ⟨?l, ?h⟩; case h => simp only [r5_2, c5, bodyOf, Tryd.f5, Code.sub, opsOf, List.map_cons, List.map_nil, strip]; rfl
theorem w5_2 : W Tryd.prog TT S 174 [174, 181, 186, 194, 199] r5_2 k E m Q ↔ Rg Tryd.prog TT S 174 [174, 181, 186, 194, 199] [14, 15, 16, 4] [] (lgo E [0] (lops Tryd.prog (callw Tryd.prog TT S) [(some 14), (some 15), (some 16), (some 4), none] (L5_2).1 E m)) k E Q := w_plain (by kernel_rfl) (L5_2).2
noncomputable def L5_3 : {l : List Oper // (opsOf r5_3).map strip = l} := by refine ⟨?l, ?h⟩; case h => simp only [r5_3, c5, bodyOf, Tryd.f5, Code.sub, opsOf, List.map_cons, List.map_nil, strip]; rfl
theorem w5_3 : W Tryd.prog TT S 174 [174, 181, 186, 194, 199] r5_3 k E m Q ↔ Rg Tryd.prog TT S 174 [174, 181, 186, 194, 199] [17, 5] [] (lgo E [4] (lops Tryd.prog (callw Tryd.prog TT S) [(some 17), (some 5)] (L5_3).1 E m)) k E Q := w_plain (by kernel_rfl) (L5_3).2
noncomputable def L5_4 : {l : List Oper // (opsOf r5_4).map strip = l} := by refine ⟨?l, ?h⟩; case h => simp only [r5_4, c5, bodyOf, Tryd.f5, Code.sub, opsOf, List.map_cons, List.map_nil, strip]; rfl
theorem w5_4 : W Tryd.prog TT S 174 [174, 181, 186, 194, 199] r5_4 k E m Q ↔ Rg Tryd.prog TT S 174 [174, 181, 186, 194, 199] [6] [] (lgo E [] (lops Tryd.prog (callw Tryd.prog TT S) [(some 6)] (L5_4).1 E m)) k E Q := w_plain (by kernel_rfl) (L5_4).2
noncomputable def L5_5 : {l : List Oper // (opsOf r5_5).map strip = l} := by refine ⟨?l, ?h⟩; case h => simp only [r5_5, c5, bodyOf, Tryd.f5, Code.sub, opsOf, List.map_cons, List.map_nil, strip]; rfl
theorem w5_5 : W Tryd.prog TT S 174 [174, 181, 186, 194, 199] r5_5 k E m Q ↔ Rg Tryd.prog TT S 174 [174, 181, 186, 194, 199] [18, 19, 20] [] (lgo E [6, 4] (lops Tryd.prog (callw Tryd.prog TT S) [(some 18), (some 19), (some 20)] (L5_5).1 E m)) k E Q := w_plain (by kernel_rfl) (L5_5).2
noncomputable def L5_6 : {l : List Oper // (opsOf r5_6).map strip = l} := by refine ⟨?l, ?h⟩; case h => simp only [r5_6, c5, bodyOf, Tryd.f5, Code.sub, opsOf, List.map_cons, List.map_nil, strip]; rfl
theorem w5_6 : W Tryd.prog TT S 174 [174, 181, 186, 194, 199] r5_6 k E m Q ↔ Rg Tryd.prog TT S 174 [174, 181, 186, 194, 199] [23, 24, 25, 26, 7] [] (lgo E [0, 6] (lops Tryd.prog (callw Tryd.prog TT S) [(some 23), (some 24), (some 25), (some 26), (some 7), none] (L5_6).1 E m)) k E Q := w_plain (by kernel_rfl) (L5_6).2
theorem can5_7 : canonOps (opsOf r5_7) = List.filterMap (fun i => ((opsOf r5_7)[i]?).map (renum [0, 1, 2, 3, 4, 5, 6, 7, 8, 9, 10, 11, 12, 13, 14, 15, 16])) [0, 1, 2, 3, 4, 5, 6, 7, 8, 9, 10, 11, 12, 13, 14, 15, 16] := by kernel_rfl
noncomputable def L5_7 : {l : List Oper // (canonOps (opsOf r5_7)).map strip = l} := by refine ⟨?l, (congrArg (List.map strip) can5_7).trans ?h⟩; case h => simp only [r5_7, c5, bodyOf, Tryd.f5, Code.sub, opsOf, List.filterMap_cons, List.filterMap_nil, List.getElem?_cons_succ, List.getElem?_cons_zero, Option.map_some, renum, List.map_cons, List.map_nil, strip]; rfl
theorem w5_7 : W Tryd.prog TT S 174 [174, 181, 186, 194, 199] r5_7 k E m Q ↔ Rg Tryd.prog TT S 174 [174, 181, 186, 194, 199] [27, 28, 29, 30, 31, 32, 33, 34, 35, 36, 37, 38, 39, 40, 41, 8] [] (lgo E [7, 6] (lloud Tryd.prog (callw Tryd.prog TT S) [(some 27), (some 28), (some 29), (some 30), (some 31), (some 32), (some 33), (some 34), (some 35), (some 36), (some 37), (some 38), (some 39), (some 40), (some 41), (some 8), none] (L5_7).1 [(1, [2]), (5, [2, 6]), (8, [10, 15, 16]), (12, [15, 16])] (lstates Tryd.prog (callw Tryd.prog TT S) [(some 27), (some 28), (some 29), (some 30), (some 31), (some 32), (some 33), (some 34), (some 35), (some 36), (some 37), (some 38), (some 39), (some 40), (some 41), (some 8), none] (L5_7).1 E m))) k E Q := w_loud (by kernel_rfl) (L5_7).2
noncomputable def L5_8 : {l : List Oper // (opsOf r5_8).map strip = l} := by refine ⟨?l, ?h⟩; case h => simp only [r5_8, c5, bodyOf, Tryd.f5, Code.sub, opsOf, List.map_cons, List.map_nil, strip]; rfl
theorem w5_8 : W Tryd.prog TT S 174 [174, 181, 186, 194, 199] r5_8 k E m Q ↔ Rg Tryd.prog TT S 174 [174, 181, 186, 194, 199] [42, 43, 44] [] (lgo E [8] (lops Tryd.prog (callw Tryd.prog TT S) [(some 42), (some 43), (some 44)] (L5_8).1 E m)) k E Q := w_plain (by kernel_rfl) (L5_8).2
noncomputable def L5_9 : {l : List Oper // (opsOf r5_9).map strip = l} := by refine ⟨?l, ?h⟩; case h => simp only [r5_9, c5, bodyOf, Tryd.f5, Code.sub, opsOf, List.map_cons, List.map_nil, strip]; rfl
theorem w5_9 : W Tryd.prog TT S 174 [174, 181, 186, 194, 199] r5_9 k E m Q ↔ Rg Tryd.prog TT S 174 [174, 181, 186, 194, 199] [45] [] (lgo E [8] (lops Tryd.prog (callw Tryd.prog TT S) [(some 45), none] (L5_9).1 E m)) k E Q := w_plain (by kernel_rfl) (L5_9).2
noncomputable def L5_10 : {l : List Oper // (opsOf r5_10).map strip = l} := by refine ⟨?l, ?h⟩; case h => simp only [r5_10, c5, bodyOf, Tryd.f5, Code.sub, opsOf, List.map_cons, List.map_nil, strip]; rfl
theorem w5_10 : W Tryd.prog TT S 174 [174, 181, 186, 194, 199] r5_10 k E m Q ↔ Rg Tryd.prog TT S 174 [174, 181, 186, 194, 199] [46, 47, 48, 49, 50] [] (lgo E [5, 7, 8] (lops Tryd.prog (callw Tryd.prog TT S) [(some 46), (some 47), (some 48), (some 49), (some 50), none] (L5_10).1 E m)) k E Q := w_plain (by kernel_rfl) (L5_10).2
noncomputable def L5_11 : {l : List Oper // (opsOf r5_11).map strip = l} := by refine ⟨?l, ?h⟩; case h => simp only [r5_11, c5, bodyOf, Tryd.f5, Code.sub, opsOf, List.map_cons, List.map_nil, strip]; rfl
theorem w5_11 : W Tryd.prog TT S 174 [174, 181, 186, 194, 199] r5_11 k E m Q ↔ Rg Tryd.prog TT S 174 [174, 181, 186, 194, 199] [9] [] (lgo E [] (lops Tryd.prog (callw Tryd.prog TT S) [(some 9)] (L5_11).1 E m)) k E Q := w_plain (by kernel_rfl) (L5_11).2
noncomputable def L5_12 : {l : List Oper // (opsOf r5_12).map strip = l} := by refine ⟨?l, ?h⟩; case h => simp only [r5_12, c5, bodyOf, Tryd.f5, Code.sub, opsOf, List.map_cons, List.map_nil, strip]; rfl
theorem w5_12 : W Tryd.prog TT S 174 [174, 181, 186, 194, 199] r5_12 k E m Q ↔ Rg Tryd.prog TT S 174 [174, 181, 186, 194, 199] [51, 52, 53, 54, 55, 56, 57, 58, 59, 60, 61, 62, 63, 64] [] (lgo E [7, 9, 8] (lops Tryd.prog (callw Tryd.prog TT S) [(some 51), (some 52), (some 53), (some 54), (some 55), (some 56), (some 57), (some 58), (some 59), (some 60), (some 61), (some 62), (some 63), (some 64)] (L5_12).1 E m)) k E Q := w_plain (by kernel_rfl) (L5_12).2
theorem can5_13 : canonOps (opsOf r5_13) = List.filterMap (fun i => ((opsOf r5_13)[i]?).map (renum [0, 1, 2, 3, 4, 5, 6, 7, 8, 9, 10, 11, 12, 13, 14, 15, 16, 17, 18, 19, 20, 21, 22, 23, 24, 25, 26, 27, 28])) [0, 1, 2, 3, 4, 5, 6, 7, 8, 9, 10, 11, 12, 13, 14, 15, 16, 17, 18, 19, 20, 21, 22, 23, 24, 25, 26, 27, 28] := by kernel_rfl
noncomputable def L5_13 : {l : List Oper // (canonOps (opsOf r5_13)).map strip = l} := by refine ⟨?l, (congrArg (List.map strip) can5_13).trans ?h⟩; case h => simp only [r5_13, c5, bodyOf, Tryd.f5, Code.sub, opsOf, List.filterMap_cons, List.filterMap_nil, List.getElem?_cons_succ, List.getElem?_cons_zero, Option.map_some, renum, List.map_cons, List.map_nil, strip]; rfl
theorem w5_13 : W Tryd.prog TT S 174 [174, 181, 186, 194, 199] r5_13 k E m Q ↔ Rg Tryd.prog TT S 174 [174, 181, 186, 194, 199] [67, 68, 69, 70, 71, 72, 73, 74, 75, 76, 77, 78, 79, 80, 81, 82, 83, 84, 85, 86, 87, 88, 89, 90, 91, 92, 93, 94] [] (lgo E [5, 7, 9, 8] (lloud Tryd.prog (callw Tryd.prog TT S) [(some 67), (some 68), (some 69), (some 70), (some 71), (some 72), (some 73), (some 74), (some 75), (some 76), (some 77), (some 78), (some 79), (some 80), (some 81), (some 82), (some 83), (some 84), (some 85), (some 86), (some 87), (some 88), (some 89), (some 90), (some 91), (some 92), (some 93), (some 94), none] (L5_13).1 [(1, [7, 12, 23, 25, 26]), (3, [7]), (6, [7]), (10, [12, 23, 25]), (14, [23, 25]), (18, [7, 12, 23]), (21, [7, 12, 23])] (lstates Tryd.prog (callw Tryd.prog TT S) [(some 67), (some 68), (some 69), (some 70), (some 71), (some 72), (some 73), (some 74), (some 75), (some 76), (some 77), (some 78), (some 79), (some 80), (some 81), (some 82), (some 83), (some 84), (some 85), (some 86), (some 87), (some 88), (some 89), (some 90), (some 91), (some 92), (some 93), (some 94), none] (L5_13).1 E m))) k E Q := w_loud (by kernel_rfl) (L5_13).2
noncomputable def L5_14 : {l : List Oper // (opsOf r5_14).map strip = l} := by refine ⟨?l, ?h⟩; case h => simp only [r5_14, c5, bodyOf, Tryd.f5, Code.sub, opsOf, List.map_cons, List.map_nil, strip]; rfl
theorem w5_14 : W Tryd.prog TT S 174 [174, 181, 186, 194, 199] r5_14 k E m Q ↔ Rg Tryd.prog TT S 174 [174, 181, 186, 194, 199] [65, 66, 9] [] (lgo E [9] (lops Tryd.prog (callw Tryd.prog TT S) [(some 65), (some 66), (some 9)] (L5_14).1 E m)) k E Q := w_plain (by kernel_rfl) (L5_14).2
noncomputable def L5_15 : {l : List Oper // (opsOf r5_15).map strip = l} := by refine ⟨?l, ?h⟩; case h => simp only [r5_15, c5, bodyOf, Tryd.f5, Code.sub, opsOf, List.map_cons, List.map_nil, strip]; rfl
theorem w5_15 : W Tryd.prog TT S 174 [174, 181, 186, 194, 199] r5_15 k E m Q ↔ Rg Tryd.prog TT S 174 [174, 181, 186, 194, 199] [10] [] (lgo E [] (lops Tryd.prog (callw Tryd.prog TT S) [(some 10)] (L5_15).1 E m)) k E Q := w_plain (by kernel_rfl) (L5_15).2
noncomputable def L5_16 : {l : List Oper // (opsOf r5_16).map strip = l} := by refine ⟨?l, ?h⟩; case h => simp only [r5_16, c5, bodyOf, Tryd.f5, Code.sub, opsOf, List.map_cons, List.map_nil, strip]; rfl
theorem w5_16 : W Tryd.prog TT S 174 [174, 181, 186, 194, 199] r5_16 k E m Q ↔ Rg Tryd.prog TT S 174 [174, 181, 186, 194, 199] [95, 96, 97, 98, 99, 100, 101, 102, 103, 104, 105, 106, 107, 108] [] (lgo E [7, 10, 8] (lops Tryd.prog (callw Tryd.prog TT S) [(some 95), (some 96), (some 97), (some 98), (some 99), (some 100), (some 101), (some 102), (some 103), (some 104), (some 105), (some 106), (some 107), (some 108)] (L5_16).1 E m)) k E Q := w_plain (by kernel_rfl) (L5_16).2
noncomputable def L5_17 : {l : List Oper // (opsOf r5_17).map strip = l} := by refine ⟨?l, ?h⟩; case h => simp only [r5_17, c5, bodyOf, Tryd.f5, Code.sub, opsOf, List.map_cons, List.map_nil, strip]; rfl
theorem w5_17 : W Tryd.prog TT S 174 [174, 181, 186, 194, 199] r5_17 k E m Q ↔ Rg Tryd.prog TT S 174 [174, 181, 186, 194, 199] [111, 112, 113, 114, 115, 116, 11] [] (lgo E [10] (lops Tryd.prog (callw Tryd.prog TT S) [(some 111), (some 112), (some 113), (some 114), (some 115), (some 116), (some 11), none] (L5_17).1 E m)) k E Q := w_plain (by kernel_rfl) (L5_17).2
noncomputable def L5_18 : {l : List Oper // (opsOf r5_18).map strip = l} := by refine ⟨?l, ?h⟩; case h => simp only [r5_18, c5, bodyOf, Tryd.f5, Code.sub, opsOf, List.map_cons, List.map_nil, strip]; rfl
theorem w5_18 : W Tryd.prog TT S 174 [174, 181, 186, 194, 199] r5_18 k E m Q ↔ Rg Tryd.prog TT S 174 [174, 181, 186, 194, 199] [117, 118, 119] [] (lgo E [8] (lops Tryd.prog (callw Tryd.prog TT S) [(some 117), (some 118), (some 119)] (L5_18).1 E m)) k E Q := w_plain (by kernel_rfl) (L5_18).2
noncomputable def L5_19 : {l : List Oper // (opsOf r5_19).map strip = l} := by refine ⟨?l, ?h⟩; case h => simp only [r5_19, c5, bodyOf, Tryd.f5, Code.sub, opsOf, List.map_cons, List.map_nil, strip]; rfl
theorem w5_19 : W Tryd.prog TT S 174 [174, 181, 186, 194, 199] r5_19 k E m Q ↔ Rg Tryd.prog TT S 174 [174, 181, 186, 194, 199] [120, 121] [] (lgo E [10, 11] (lops Tryd.prog (callw Tryd.prog TT S) [(some 120), (some 121), none] (L5_19).1 E m)) k E Q := w_plain (by kernel_rfl) (L5_19).2
noncomputable def L5_20 : {l : List Oper // (opsOf r5_20).map strip = l} := by refine ⟨?l, ?h⟩; case h => simp only [r5_20, c5, bodyOf, Tryd.f5, Code.sub, opsOf, List.map_cons, List.map_nil, strip]; rfl
theorem w5_20 : W Tryd.prog TT S 174 [174, 181, 186, 194, 199] r5_20 k E m Q ↔ Rg Tryd.prog TT S 174 [174, 181, 186, 194, 199] [12] [] (lgo E [] (lops Tryd.prog (callw Tryd.prog TT S) [(some 12)] (L5_20).1 E m)) k E Q := w_plain (by kernel_rfl) (L5_20).2
noncomputable def L5_21 : {l : List Oper // (opsOf r5_21).map strip = l} := by refine ⟨?l, ?h⟩; case h => simp only [r5_21, c5, bodyOf, Tryd.f5, Code.sub, opsOf, List.map_cons, List.map_nil, strip]; rfl
theorem w5_21 : W Tryd.prog TT S 174 [174, 181, 186, 194, 199] r5_21 k E m Q ↔ Rg Tryd.prog TT S 174 [174, 181, 186, 194, 199] [122, 123, 124, 125, 126, 127, 128, 129, 130, 131, 132, 133] [] (lgo E [7, 10, 12] (lops Tryd.prog (callw Tryd.prog TT S) [(some 122), (some 123), (some 124), (some 125), (some 126), (some 127), (some 128), (some 129), (some 130), (some 131), (some 132), (some 133)] (L5_21).1 E m)) k E Q := w_plain (by kernel_rfl) (L5_21).2
noncomputable def L5_22 : {l : List Oper // (opsOf r5_22).map strip = l} := by refine ⟨?l, ?h⟩; case h => simp only [r5_22, c5, bodyOf, Tryd.f5, Code.sub, opsOf, List.map_cons, List.map_nil, strip]; rfl
theorem w5_22 : W Tryd.prog TT S 174 [174, 181, 186, 194, 199] r5_22 k E m Q ↔ Rg Tryd.prog TT S 174 [174, 181, 186, 194, 199] [136, 137] [] (lgo E [12] (lops Tryd.prog (callw Tryd.prog TT S) [(some 136), (some 137)] (L5_22).1 E m)) k E Q := w_plain (by kernel_rfl) (L5_22).2
noncomputable def L5_23 : {l : List Oper // (opsOf r5_23).map strip = l} := by refine ⟨?l, ?h⟩; case h => simp only [r5_23, c5, bodyOf, Tryd.f5, Code.sub, opsOf, List.map_cons, List.map_nil, strip]; rfl
theorem w5_23 : W Tryd.prog TT S 174 [174, 181, 186, 194, 199] r5_23 k E m Q ↔ Rg Tryd.prog TT S 174 [174, 181, 186, 194, 199] [138, 139, 140, 141, 142, 143, 144, 145, 146, 147, 148, 149] [] (lgo E [7, 10, 12, 11] (lops Tryd.prog (callw Tryd.prog TT S) [(some 138), (some 139), (some 140), (some 141), (some 142), (some 143), (some 144), (some 145), (some 146), (some 147), (some 148), (some 149), none] (L5_23).1 E m)) k E Q := w_plain (by kernel_rfl) (L5_23).2
theorem can5_24 : canonOps (opsOf r5_24) = List.filterMap (fun i => ((opsOf r5_24)[i]?).map (renum [0, 1, 2, 3, 4, 5, 6, 7, 8, 9, 10, 11, 12, 13, 14, 15])) [0, 1, 2, 3, 4, 5, 6, 7, 8, 9, 10, 11, 12, 13, 14, 15] := by kernel_rfl
noncomputable def L5_24 : {l : List Oper // (canonOps (opsOf r5_24)).map strip = l} := by refine ⟨?l, (congrArg (List.map strip) can5_24).trans ?h⟩; case h => simp only [r5_24, c5, bodyOf, Tryd.f5, Code.sub, opsOf, List.filterMap_cons, List.filterMap_nil, List.getElem?_cons_succ, List.getElem?_cons_zero, Option.map_some, renum, List.map_cons, List.map_nil, strip]; rfl
theorem w5_24 : W Tryd.prog TT S 174 [174, 181, 186, 194, 199] r5_24 k E m Q ↔ Rg Tryd.prog TT S 174 [174, 181, 186, 194, 199] [150, 151, 152, 153, 154, 155, 156, 157, 158, 159, 160, 161, 162, 163, 164] [] (lgo E [5, 7, 10, 12, 11] (lloud Tryd.prog (callw Tryd.prog TT S) [(some 150), (some 151), (some 152), (some 153), (some 154), (some 155), (some 156), (some 157), (some 158), (some 159), (some 160), (some 161), (some 162), (some 163), (some 164), none] (L5_24).1 [(1, [11, 12, 13]), (4, [11]), (7, [11]), (10, [11])] (lstates Tryd.prog (callw Tryd.prog TT S) [(some 150), (some 151), (some 152), (some 153), (some 154), (some 155), (some 156), (some 157), (some 158), (some 159), (some 160), (some 161), (some 162), (some 163), (some 164), none] (L5_24).1 E m))) k E Q := w_loud (by kernel_rfl) (L5_24).2
noncomputable def L5_25 : {l : List Oper // (opsOf r5_25).map strip = l} := by refine ⟨?l, ?h⟩; case h => simp only [r5_25, c5, bodyOf, Tryd.f5, Code.sub, opsOf, List.map_cons, List.map_nil, strip]; rfl
theorem w5_25 : W Tryd.prog TT S 174 [174, 181, 186, 194, 199] r5_25 k E m Q ↔ Rg Tryd.prog TT S 174 [174, 181, 186, 194, 199] [134, 135, 12] [] (lgo E [12] (lops Tryd.prog (callw Tryd.prog TT S) [(some 134), (some 135), (some 12)] (L5_25).1 E m)) k E Q := w_plain (by kernel_rfl) (L5_25).2
noncomputable def L5_26 : {l : List Oper // (opsOf r5_26).map strip = l} := by refine ⟨?l, ?h⟩; case h => simp only [r5_26, c5, bodyOf, Tryd.f5, Code.sub, opsOf, List.map_cons, List.map_nil, strip]; rfl
theorem w5_26 : W Tryd.prog TT S 174 [174, 181, 186, 194, 199] r5_26 k E m Q ↔ Rg Tryd.prog TT S 174 [174, 181, 186, 194, 199] [165, 166, 167, 168, 169, 170] [] (lgo E [11, 8] (lops Tryd.prog (callw Tryd.prog TT S) [(some 165), (some 166), (some 167), (some 168), (some 169), (some 170), none] (L5_26).1 E m)) k E Q := w_plain (by kernel_rfl) (L5_26).2
noncomputable def L5_27 : {l : List Oper // (opsOf r5_27).map strip = l} := by refine ⟨?l, ?h⟩; case h => simp only [r5_27, c5, bodyOf, Tryd.f5, Code.sub, opsOf, List.map_cons, List.map_nil, strip]; rfl
theorem w5_27 : W Tryd.prog TT S 174 [174, 181, 186, 194, 199] r5_27 k E m Q ↔ Rg Tryd.prog TT S 174 [174, 181, 186, 194, 199] [109, 110, 10] [] (lgo E [10] (lops Tryd.prog (callw Tryd.prog TT S) [(some 109), (some 110), (some 10)] (L5_27).1 E m)) k E Q := w_plain (by kernel_rfl) (L5_27).2
noncomputable def L5_28 : {l : List Oper // (opsOf r5_28).map strip = l} := by refine ⟨?l, ?h⟩; case h => simp only [r5_28, c5, bodyOf, Tryd.f5, Code.sub, opsOf, List.map_cons, List.map_nil, strip]; rfl
theorem w5_28 : W Tryd.prog TT S 174 [174, 181, 186, 194, 199] r5_28 k E m Q ↔ Rg Tryd.prog TT S 174 [174, 181, 186, 194, 199] [171, 172, 173] [] (lgo E [7] (lops Tryd.prog (callw Tryd.prog TT S) [(some 171), (some 172), (some 173)] (L5_28).1 E m)) k E Q := w_plain (by kernel_rfl) (L5_28).2
noncomputable def L5_29 : {l : List Oper // (opsOf r5_29).map strip = l} := by refine ⟨?l, ?h⟩; case h => simp only [r5_29, c5, bodyOf, Tryd.f5, Code.sub, opsOf, List.map_cons, List.map_nil, strip]; rfl
theorem w5_29 : W Tryd.prog TT S 174 [174, 181, 186, 194, 199] r5_29 k E m Q ↔ Rg Tryd.prog TT S 174 [174, 181, 186, 194, 199] [] [174] (lgo E [173] (lops Tryd.prog (callw Tryd.prog TT S) [(some 175), (some 174)] (L5_29).1 E m)) k E Q := w_plain (by kernel_rfl) (L5_29).2
noncomputable def L5_30 : {l : List Oper // (opsOf r5_30).map strip = l} := by refine ⟨?l, ?h⟩; case h => simp only [r5_30, c5, bodyOf, Tryd.f5, Code.sub, opsOf, List.map_cons, List.map_nil, strip]; rfl
theorem w5_30 : W Tryd.prog TT S 174 [174, 181, 186, 194, 199] r5_30 k E m Q ↔ Rg Tryd.prog TT S 174 [174, 181, 186, 194, 199] [] [] (lgo E [7, 8] (lops Tryd.prog (callw Tryd.prog TT S) [(some 176), (some 177), (some 178), (some 179), (some 180), none] (L5_30).1 E m)) k E Q := w_plain (by kernel_rfl) (L5_30).2
noncomputable def L5_31 : {l : List Oper // (opsOf r5_31).map strip = l} := by refine ⟨?l, ?h⟩; case h => simp only [r5_31, c5, bodyOf, Tryd.f5, Code.sub, opsOf, List.map_cons, List.map_nil, strip]; rfl
theorem w5_31 : W Tryd.prog TT S 174 [174, 181, 186, 194, 199] r5_31 k E m Q ↔ Rg Tryd.prog TT S 174 [174, 181, 186, 194, 199] [] [181] (lgo E [173] (lops Tryd.prog (callw Tryd.prog TT S) [(some 182), (some 181)] (L5_31).1 E m)) k E Q := w_plain (by kernel_rfl) (L5_31).2
noncomputable def L5_32 : {l : List Oper // (opsOf r5_32).map strip = l} := by refine ⟨?l, ?h⟩; case h => simp only [r5_32, c5, bodyOf, Tryd.f5, Code.sub, opsOf, List.map_cons, List.map_nil, strip]; rfl
theorem w5_32 : W Tryd.prog TT S 174 [174, 181, 186, 194, 199] r5_32 k E m Q ↔ Rg Tryd.prog TT S 174 [174, 181, 186, 194, 199] [] [] (lgo E [7, 8] (lops Tryd.prog (callw Tryd.prog TT S) [(some 183), (some 184), (some 185), none] (L5_32).1 E m)) k E Q := w_plain (by kernel_rfl) (L5_32).2
noncomputable def L5_33 : {l : List Oper // (opsOf r5_33).map strip = l} := by refine ⟨?l, ?h⟩; case h => simp only [r5_33, c5, bodyOf, Tryd.f5, Code.sub, opsOf, List.map_cons, List.map_nil, strip]; rfl
theorem w5_33 : W Tryd.prog TT S 174 [174, 181, 186, 194, 199] r5_33 k E m Q ↔ Rg Tryd.prog TT S 174 [174, 181, 186, 194, 199] [] [186] (lgo E [173] (lops Tryd.prog (callw Tryd.prog TT S) [(some 187), (some 186)] (L5_33).1 E m)) k E Q := w_plain (by kernel_rfl) (L5_33).2
noncomputable def L5_34 : {l : List Oper // (opsOf r5_34).map strip = l} := by refine ⟨?l, ?h⟩; case h => simp only [r5_34, c5, bodyOf, Tryd.f5, Code.sub, opsOf, List.map_cons, List.map_nil, strip]; rfl
theorem w5_34 : W Tryd.prog TT S 174 [174, 181, 186, 194, 199] r5_34 k E m Q ↔ Rg Tryd.prog TT S 174 [174, 181, 186, 194, 199] [] [] (lgo E [7, 8] (lops Tryd.prog (callw Tryd.prog TT S) [(some 188), (some 189), (some 190), (some 191), (some 192), (some 193), none] (L5_34).1 E m)) k E Q := w_plain (by kernel_rfl) (L5_34).2
noncomputable def L5_35 : {l : List Oper // (opsOf r5_35).map strip = l} := by refine ⟨?l, ?h⟩; case h => simp only [r5_35, c5, bodyOf, Tryd.f5, Code.sub, opsOf, List.map_cons, List.map_nil, strip]; rfl
theorem w5_35 : W Tryd.prog TT S 174 [174, 181, 186, 194, 199] r5_35 k E m Q ↔ Rg Tryd.prog TT S 174 [174, 181, 186, 194, 199] [] [194] (lgo E [173] (lops Tryd.prog (callw Tryd.prog TT S) [(some 195), (some 194)] (L5_35).1 E m)) k E Q := w_plain (by kernel_rfl) (L5_35).2
noncomputable def L5_36 : {l : List Oper // (opsOf r5_36).map strip = l} := by refine ⟨?l, ?h⟩; case h => simp only [r5_36, c5, bodyOf, Tryd.f5, Code.sub, opsOf, List.map_cons, List.map_nil, strip]; rfl
theorem w5_36 : W Tryd.prog TT S 174 [174, 181, 186, 194, 199] r5_36 k E m Q ↔ Rg Tryd.prog TT S 174 [174, 181, 186, 194, 199] [] [199] (lgo E [8] (lops Tryd.prog (callw Tryd.prog TT S) [(some 196), (some 197), (some 198), (some 199)] (L5_36).1 E m)) k E Q := w_plain (by kernel_rfl) (L5_36).2
theorem can5_37 : canonOps (opsOf r5_37) = opsOf r5_37 := by kernel_rfl
noncomputable def L5_37 : {l : List Oper // (canonOps (opsOf r5_37)).map strip = l} := by refine ⟨?l, (congrArg (List.map strip) can5_37).trans ?h⟩; case h => simp only [r5_37, c5, bodyOf, Tryd.f5, Code.sub, opsOf, List.map_cons, List.map_nil, strip]; rfl
theorem w5_37 : W Tryd.prog TT S 174 [174, 181, 186, 194, 199] r5_37 k E m Q ↔ Rg Tryd.prog TT S 174 [174, 181, 186, 194, 199] [] [] (lgo E [8, 7] (lloud Tryd.prog (callw Tryd.prog TT S) [(some 200), (some 201), (some 202), (some 203), (some 204), (some 205), (some 206), (some 207), none] (L5_37).1 [(1, [4, 8]), (3, [4])] (lstates Tryd.prog (callw Tryd.prog TT S) [(some 200), (some 201), (some 202), (some 203), (some 204), (some 205), (some 206), (some 207), none] (L5_37).1 E m))) k E Q := w_loud (by kernel_rfl) (L5_37).2
noncomputable def L5_38 : {l : List Oper // (opsOf r5_38).map strip = l} := by refine ⟨?l, ?h⟩; case h => simp only [r5_38, c5, bodyOf, Tryd.f5, Code.sub, opsOf, List.map_cons, List.map_nil, strip]; rfl
theorem w5_38 : W Tryd.prog TT S 174 [174, 181, 186, 194, 199] r5_38 k E m Q ↔ Rg Tryd.prog TT S 174 [174, 181, 186, 194, 199] [3] [] (lgo E [3, 8] (lops Tryd.prog (callw Tryd.prog TT S) [(some 208), (some 209), (some 210), (some 211), (some 3)] (L5_38).1 E m)) k E Q := w_plain (by kernel_rfl) (L5_38).2
noncomputable def L5_39 : {l : List Oper // (opsOf r5_39).map strip = l} := by refine ⟨?l, ?h⟩; case h => simp only [r5_39, c5, bodyOf, Tryd.f5, Code.sub, opsOf, List.map_cons, List.map_nil, strip]; rfl
theorem w5_39 : W Tryd.prog TT S 174 [174, 181, 186, 194, 199] r5_39 k E m Q ↔ Rg Tryd.prog TT S 174 [174, 181, 186, 194, 199] [21, 22, 6] [] (lgo E [6] (lops Tryd.prog (callw Tryd.prog TT S) [(some 21), (some 22), (some 6)] (L5_39).1 E m)) k E Q := w_plain (by kernel_rfl) (L5_39).2
noncomputable def L5_40 : {l : List Oper // (opsOf r5_40).map strip = l} := by refine ⟨?l, ?h⟩; case h => simp only [r5_40, c5, bodyOf, Tryd.f5, Code.sub, opsOf, List.map_cons, List.map_nil, strip]; rfl
theorem w5_40 : W Tryd.prog TT S 174 [174, 181, 186, 194, 199] r5_40 k E m Q ↔ Rg Tryd.prog TT S 174 [174, 181, 186, 194, 199] [2] [] (lgo E [3] (lops Tryd.prog (callw Tryd.prog TT S) [(some 212), (some 2)] (L5_40).1 E m)) k E Q := w_plain (by kernel_rfl) (L5_40).2
theorem k5 : FnIs TT 5 c5 [.tmp 2] 1 := ⟨Tryd.f5, by kernel_rfl, by simp only [Tryd.f5, c5, bodyOf], by kernel_rfl, of_decide_eq_true (by kernel_rfl)⟩

/- turnstonehand.Pick -/
noncomputable def c6 : Code := bodyOf Tryd.f6
noncomputable def r6_0 : Code := Code.sub [0] c6
noncomputable def r6_1 : Code := Code.sub [1, 0] c6
noncomputable def r6_2 : Code := Code.sub [1, 1, 0, 0] c6
noncomputable def r6_3 : Code := Code.sub [1, 1, 0, 1, 0] c6
noncomputable def r6_4 : Code := Code.sub [1, 1, 1, 0] c6
theorem body6 : c6 = (.seq r6_0 (.seq r6_1 (.seq (.seq r6_2 (.cond (.tmp 9) r6_3 .skip)) (.seq r6_4 .ret)))) := by kernel_rfl
noncomputable def L6_0 : {l : List Oper // (opsOf r6_0).map strip = l} := by refine ⟨?l, ?h⟩; case h => simp only [r6_0, c6, bodyOf, Tryd.f6, Code.sub, opsOf, List.map_cons, List.map_nil, strip]; rfl
theorem w6_0 : W Tryd.prog TT S 5 [9] r6_0 k E m Q ↔ Rg Tryd.prog TT S 5 [9] [4] [] (lgo E [] (lops Tryd.prog (callw Tryd.prog TT S) [(some 4)] (L6_0).1 E m)) k E Q := w_plain (by kernel_rfl) (L6_0).2
noncomputable def L6_1 : {l : List Oper // (opsOf r6_1).map strip = l} := by refine ⟨?l, ?h⟩; case h => simp only [r6_1, c6, bodyOf, Tryd.f6, Code.sub, opsOf, List.map_cons, List.map_nil, strip]; rfl
theorem w6_1 : W Tryd.prog TT S 5 [9] r6_1 k E m Q ↔ Rg Tryd.prog TT S 5 [9] [0] [] (lgo E [0, 1] (lops Tryd.prog (callw Tryd.prog TT S) [(some 5), (some 6), (some 7), (some 0)] (L6_1).1 E m)) k E Q := w_plain (by kernel_rfl) (L6_1).2
noncomputable def L6_2 : {l : List Oper // (opsOf r6_2).map strip = l} := by refine ⟨?l, ?h⟩; case h => simp only [r6_2, c6, bodyOf, Tryd.f6, Code.sub, opsOf, List.map_cons, List.map_nil, strip]; rfl
theorem w6_2 : W Tryd.prog TT S 5 [9] r6_2 k E m Q ↔ Rg Tryd.prog TT S 5 [9] [] [9] (lgo E [0] (lops Tryd.prog (callw Tryd.prog TT S) [(some 8), (some 9)] (L6_2).1 E m)) k E Q := w_plain (by kernel_rfl) (L6_2).2
noncomputable def L6_3 : {l : List Oper // (opsOf r6_3).map strip = l} := by refine ⟨?l, ?h⟩; case h => simp only [r6_3, c6, bodyOf, Tryd.f6, Code.sub, opsOf, List.map_cons, List.map_nil, strip]; rfl
theorem w6_3 : W Tryd.prog TT S 5 [9] r6_3 k E m Q ↔ Rg Tryd.prog TT S 5 [9] [0] [] (lgo E [0, 1] (lops Tryd.prog (callw Tryd.prog TT S) [(some 10), (some 11), (some 12), (some 0)] (L6_3).1 E m)) k E Q := w_plain (by kernel_rfl) (L6_3).2
noncomputable def L6_4 : {l : List Oper // (opsOf r6_4).map strip = l} := by refine ⟨?l, ?h⟩; case h => simp only [r6_4, c6, bodyOf, Tryd.f6, Code.sub, opsOf, List.map_cons, List.map_nil, strip]; rfl
theorem w6_4 : W Tryd.prog TT S 5 [9] r6_4 k E m Q ↔ Rg Tryd.prog TT S 5 [9] [4] [] (lgo E [0] (lops Tryd.prog (callw Tryd.prog TT S) [(some 13), (some 4)] (L6_4).1 E m)) k E Q := w_plain (by kernel_rfl) (L6_4).2
theorem k6 : FnIs TT 6 c6 [.tmp 4] 2 := ⟨Tryd.f6, by kernel_rfl, by simp only [Tryd.f6, c6, bodyOf], by kernel_rfl, of_decide_eq_true (by kernel_rfl)⟩

/- kinds.Same -/
noncomputable def c8 : Code := bodyOf Tryd.f8
noncomputable def r8_0 : Code := Code.sub [0] c8
noncomputable def r8_1 : Code := Code.sub [1, 0, 0] c8
noncomputable def r8_2 : Code := Code.sub [1, 0, 1, 0, 0] c8
noncomputable def r8_3 : Code := Code.sub [1, 1, 0, 0] c8
noncomputable def r8_4 : Code := Code.sub [1, 1, 0, 1, 0, 0, 0] c8
noncomputable def r8_5 : Code := Code.sub [1, 1, 0, 1, 0, 0, 1, 1, 0, 0, 0] c8
noncomputable def r8_6 : Code := Code.sub [1, 1, 0, 1, 0, 0, 1, 1, 0, 0, 1, 0] c8
noncomputable def r8_7 : Code := Code.sub [1, 1, 0, 1, 0, 0, 1, 1, 0, 0, 1, 1, 0] c8
noncomputable def r8_8 : Code := Code.sub [1, 1, 0, 1, 0, 0, 1, 1, 0, 0, 1, 1, 1, 0, 0] c8
noncomputable def r8_9 : Code := Code.sub [1, 1, 0, 1, 0, 0, 1, 1, 1] c8
noncomputable def r8_10 : Code := Code.sub [1, 1, 1, 0] c8
theorem body8 : c8 = (.seq r8_0 (.seq (.seq r8_1 (.cond (.tmp 43) (.seq r8_2 .ret) .skip)) (.seq (.seq r8_3 (.block 0 (.loop (.seq r8_4 (.seq (.cond (.tmp 48) .skip (.exit 0)) (.seq (.block 1 (.seq r8_5 (.seq r8_6 (.seq r8_7 (.cond (.tmp 83) (.seq r8_8 .ret) .skip))))) r8_9)))))) (.seq r8_10 .ret)))) := by kernel_rfl
noncomputable def L8_0 : {l : List Oper // (opsOf r8_0).map strip = l} := by refine ⟨?l, ?h⟩; case h => simp only [r8_0, c8, bodyOf, Tryd.f8, Code.sub, opsOf, List.map_cons, List.map_nil, strip]; rfl
theorem w8_0 : W Tryd.prog TT S 48 [48, 83] r8_0 k E m Q ↔ Rg Tryd.prog TT S 48 [48, 83] [2, 3, 4] [] (lgo E [0, 1] (lops Tryd.prog (callw Tryd.prog TT S) [(some 2), (some 3), (some 4)] (L8_0).1 E m)) k E Q := w_plain (by kernel_rfl) (L8_0).2
noncomputable def L8_1 : {l : List Oper // (opsOf r8_1).map strip = l} := by refine ⟨?l, ?h⟩; case h => simp only [r8_1, c8, bodyOf, Tryd.f8, Code.sub, opsOf, List.map_cons, List.map_nil, strip]; rfl
theorem w8_1 : W Tryd.prog TT S 48 [48, 83] r8_1 k E m Q ↔ Rg Tryd.prog TT S 48 [48, 83] [8, 9, 10, 11, 12, 13, 14, 15, 16, 17, 18, 19, 20, 21, 22, 23, 24, 25, 26, 27, 28, 29, 30, 31, 32, 33, 34, 35, 36, 37, 38, 39, 40, 41, 42, 43] [] (lgo E [2, 3] (lops Tryd.prog (callw Tryd.prog TT S) [(some 8), (some 9), (some 10), (some 11), (some 12), (some 13), (some 14), (some 15), (some 16), (some 17), (some 18), (some 19), (some 20), (some 21), (some 22), (some 23), (some 24), (some 25), (some 26), (some 27), (some 28), (some 29), (some 30), (some 31), (some 32), (some 33), (some 34), (some 35), (some 36), (some 37), (some 38), (some 39), (some 40), (some 41), (some 42), (some 43)] (L8_1).1 E m)) k E Q := w_plain (by kernel_rfl) (L8_1).2
noncomputable def L8_2 : {l : List Oper // (opsOf r8_2).map strip = l} := by refine ⟨?l, ?h⟩; case h => simp only [r8_2, c8, bodyOf, Tryd.f8, Code.sub, opsOf, List.map_cons, List.map_nil, strip]; rfl
theorem w8_2 : W Tryd.prog TT S 48 [48, 83] r8_2 k E m Q ↔ Rg Tryd.prog TT S 48 [48, 83] [4] [] (lgo E [] (lops Tryd.prog (callw Tryd.prog TT S) [(some 4)] (L8_2).1 E m)) k E Q := w_plain (by kernel_rfl) (L8_2).2
noncomputable def L8_3 : {l : List Oper // (opsOf r8_3).map strip = l} := by refine ⟨?l, ?h⟩; case h => simp only [r8_3, c8, bodyOf, Tryd.f8, Code.sub, opsOf, List.map_cons, List.map_nil, strip]; rfl
theorem w8_3 : W Tryd.prog TT S 48 [48, 83] r8_3 k E m Q ↔ Rg Tryd.prog TT S 48 [48, 83] [44, 45, 46, 47] [] (lgo E [2] (lops Tryd.prog (callw Tryd.prog TT S) [(some 44), (some 45), (some 46), (some 47)] (L8_3).1 E m)) k E Q := w_plain (by kernel_rfl) (L8_3).2
noncomputable def L8_4 : {l : List Oper // (opsOf r8_4).map strip = l} := by refine ⟨?l, ?h⟩; case h => simp only [r8_4, c8, bodyOf, Tryd.f8, Code.sub, opsOf, List.map_cons, List.map_nil, strip]; rfl
theorem w8_4 : W Tryd.prog TT S 48 [48, 83] r8_4 k E m Q ↔ Rg Tryd.prog TT S 48 [48, 83] [] [48] (lgo E [47, 46] (lops Tryd.prog (callw Tryd.prog TT S) [(some 48)] (L8_4).1 E m)) k E Q := w_plain (by kernel_rfl) (L8_4).2
noncomputable def L8_5 : {l : List Oper // (opsOf r8_5).map strip = l} := by refine ⟨?l, ?h⟩; case h => simp only [r8_5, c8, bodyOf, Tryd.f8, Code.sub, opsOf, List.map_cons, List.map_nil, strip]; rfl
theorem w8_5 : W Tryd.prog TT S 48 [48, 83] r8_5 k E m Q ↔ Rg Tryd.prog TT S 48 [48, 83] [6, 5] [] (lgo E [45, 47] (lops Tryd.prog (callw Tryd.prog TT S) [(some 49), (some 50), (some 51), (some 6), (some 5), none] (L8_5).1 E m)) k E Q := w_plain (by kernel_rfl) (L8_5).2
noncomputable def L8_6 : {l : List Oper // (opsOf r8_6).map strip = l} := by refine ⟨?l, ?h⟩; case h => simp only [r8_6, c8, bodyOf, Tryd.f8, Code.sub, opsOf, List.map_cons, List.map_nil, strip]; rfl
theorem w8_6 : W Tryd.prog TT S 48 [48, 83] r8_6 k E m Q ↔ Rg Tryd.prog TT S 48 [48, 83] [7] [] (lgo E [3, 5] (lops Tryd.prog (callw Tryd.prog TT S) [(some 52), (some 53), (some 54), (some 55), (some 56), (some 7), none] (L8_6).1 E m)) k E Q := w_plain (by kernel_rfl) (L8_6).2
noncomputable def L8_7 : {l : List Oper // (opsOf r8_7).map strip = l} := by refine ⟨?l, ?h⟩; case h => simp only [r8_7, c8, bodyOf, Tryd.f8, Code.sub, opsOf, List.map_cons, List.map_nil, strip]; rfl
theorem w8_7 : W Tryd.prog TT S 48 [48, 83] r8_7 k E m Q ↔ Rg Tryd.prog TT S 48 [48, 83] [] [83] (lgo E [6, 7] (lops Tryd.prog (callw Tryd.prog TT S) [(some 57), (some 58), (some 59), (some 60), (some 61), (some 62), (some 63), (some 64), (some 65), (some 66), (some 67), (some 68), (some 69), (some 70), (some 71), (some 72), (some 73), (some 74), (some 75), (some 76), (some 77), (some 78), (some 79), (some 80), (some 81), (some 82), (some 83)] (L8_7).1 E m)) k E Q := w_plain (by kernel_rfl) (L8_7).2
noncomputable def L8_8 : {l : List Oper // (opsOf r8_8).map strip = l} := by refine ⟨?l, ?h⟩; case h => simp only [r8_8, c8, bodyOf, Tryd.f8, Code.sub, opsOf, List.map_cons, List.map_nil, strip]; rfl
theorem w8_8 : W Tryd.prog TT S 48 [48, 83] r8_8 k E m Q ↔ Rg Tryd.prog TT S 48 [48, 83] [4] [] (lgo E [] (lops Tryd.prog (callw Tryd.prog TT S) [(some 4)] (L8_8).1 E m)) k E Q := w_plain (by kernel_rfl) (L8_8).2
noncomputable def L8_9 : {l : List Oper // (opsOf r8_9).map strip = l} := by refine ⟨?l, ?h⟩; case h => simp only [r8_9, c8, bodyOf, Tryd.f8, Code.sub, opsOf, List.map_cons, List.map_nil, strip]; rfl
theorem w8_9 : W Tryd.prog TT S 48 [48, 83] r8_9 k E m Q ↔ Rg Tryd.prog TT S 48 [48, 83] [47] [] (lgo E [47] (lops Tryd.prog (callw Tryd.prog TT S) [(some 84), (some 47)] (L8_9).1 E m)) k E Q := w_plain (by kernel_rfl) (L8_9).2
noncomputable def L8_10 : {l : List Oper // (opsOf r8_10).map strip = l} := by refine ⟨?l, ?h⟩; case h => simp only [r8_10, c8, bodyOf, Tryd.f8, Code.sub, opsOf, List.map_cons, List.map_nil, strip]; rfl
theorem w8_10 : W Tryd.prog TT S 48 [48, 83] r8_10 k E m Q ↔ Rg Tryd.prog TT S 48 [48, 83] [4] [] (lgo E [] (lops Tryd.prog (callw Tryd.prog TT S) [(some 4)] (L8_10).1 E m)) k E Q := w_plain (by kernel_rfl) (L8_10).2
theorem k8 : FnIs TT 8 c8 [.tmp 4] 2 := ⟨Tryd.f8, by kernel_rfl, by simp only [Tryd.f8, c8, bodyOf], by kernel_rfl, of_decide_eq_true (by kernel_rfl)⟩

/- turnstoneref1.Same -/
noncomputable def c9 : Code := bodyOf Tryd.f9
noncomputable def r9_0 : Code := Code.sub [0] c9
noncomputable def r9_1 : Code := Code.sub [1, 0, 0] c9
noncomputable def r9_2 : Code := Code.sub [1, 0, 1, 0, 0] c9
noncomputable def r9_3 : Code := Code.sub [1, 1, 0, 0] c9
noncomputable def r9_4 : Code := Code.sub [1, 1, 0, 1, 0, 0, 0, 0] c9
noncomputable def r9_5 : Code := Code.sub [1, 1, 0, 1, 0, 0, 1, 0, 0, 0] c9
noncomputable def r9_6 : Code := Code.sub [1, 1, 0, 1, 0, 0, 1, 0, 0, 1, 0, 0] c9
noncomputable def r9_7 : Code := Code.sub [1, 1, 0, 1, 0, 0, 1, 1] c9
noncomputable def r9_8 : Code := Code.sub [1, 1, 1, 0, 0] c9
noncomputable def r9_9 : Code := Code.sub [1, 1, 1, 0, 1, 0, 0, 0, 0] c9
noncomputable def r9_10 : Code := Code.sub [1, 1, 1, 0, 1, 0, 0, 1, 0, 0, 0] c9
noncomputable def r9_11 : Code := Code.sub [1, 1, 1, 0, 1, 0, 0, 1, 0, 0, 1, 0] c9
noncomputable def r9_12 : Code := Code.sub [1, 1, 1, 0, 1, 0, 0, 1, 0, 0, 1, 1, 0] c9
noncomputable def r9_13 : Code := Code.sub [1, 1, 1, 0, 1, 0, 0, 1, 0, 0, 1, 1, 1, 0, 0] c9
noncomputable def r9_14 : Code := Code.sub [1, 1, 1, 0, 1, 0, 0, 1, 1] c9
noncomputable def r9_15 : Code := Code.sub [1, 1, 1, 1, 0] c9
theorem body9 : c9 = (.seq r9_0 (.seq (.seq r9_1 (.cond (.tmp 45) (.seq r9_2 .ret) .skip)) (.seq (.seq r9_3 (.block 0 (.loop (.seq (.seq r9_4 (.cond (.tmp 50) .skip (.exit 0))) (.seq (.block 1 (.seq r9_5 (.cond (.tmp 63) (.seq r9_6 .ret) .skip))) r9_7))))) (.seq (.seq r9_8 (.block 2 (.loop (.seq (.seq r9_9 (.cond (.tmp 68) .skip (.exit 2))) (.seq (.block 3 (.seq r9_10 (.seq r9_11 (.seq r9_12 (.cond (.tmp 107) (.seq r9_13 .ret) .skip))))) r9_14))))) (.seq r9_15 .ret))))) := by kernel_rfl
noncomputable def L9_0 : {l : List Oper // (opsOf r9_0).map strip = l} := by refine ⟨?l, ?h⟩; case h => simp only [r9_0, c9, bodyOf, Tryd.f9, Code.sub, opsOf, List.map_cons, List.map_nil, strip]; rfl
theorem w9_0 : W Tryd.prog TT S 9 [45, 50, 63, 68, 107] r9_0 k E m Q ↔ Rg Tryd.prog TT S 9 [45, 50, 63, 68, 107] [2, 3, 4] [] (lgo E [0, 1] (lops Tryd.prog (callw Tryd.prog TT S) [(some 2), (some 3), (some 4)] (L9_0).1 E m)) k E Q := w_plain (by kernel_rfl) (L9_0).2
noncomputable def L9_1 : {l : List Oper // (opsOf r9_1).map strip = l} := by refine ⟨?l, ?h⟩; case h => simp only [r9_1, c9, bodyOf, Tryd.f9, Code.sub, opsOf, List.map_cons, List.map_nil, strip]; rfl
theorem w9_1 : W Tryd.prog TT S 9 [45, 50, 63, 68, 107] r9_1 k E m Q ↔ Rg Tryd.prog TT S 9 [45, 50, 63, 68, 107] [] [45] (lgo E [2, 3] (lops Tryd.prog (callw Tryd.prog TT S) [(some 9), (some 10), (some 11), (some 12), (some 13), (some 14), (some 15), (some 16), (some 17), (some 18), (some 19), (some 20), (some 21), (some 22), (some 23), (some 24), (some 25), (some 26), (some 27), (some 28), (some 29), (some 30), (some 31), (some 32), (some 33), (some 34), (some 35), (some 36), (some 37), (some 38), (some 39), (some 40), (some 41), (some 42), (some 43), (some 44), (some 45)] (L9_1).1 E m)) k E Q := w_plain (by kernel_rfl) (L9_1).2
noncomputable def L9_2 : {l : List Oper // (opsOf r9_2).map strip = l} := by refine ⟨?l, ?h⟩; case h => simp only [r9_2, c9, bodyOf, Tryd.f9, Code.sub, opsOf, List.map_cons, List.map_nil, strip]; rfl
theorem w9_2 : W Tryd.prog TT S 9 [45, 50, 63, 68, 107] r9_2 k E m Q ↔ Rg Tryd.prog TT S 9 [45, 50, 63, 68, 107] [4] [] (lgo E [] (lops Tryd.prog (callw Tryd.prog TT S) [(some 4)] (L9_2).1 E m)) k E Q := w_plain (by kernel_rfl) (L9_2).2
noncomputable def L9_3 : {l : List Oper // (opsOf r9_3).map strip = l} := by refine ⟨?l, ?h⟩; case h => simp only [r9_3, c9, bodyOf, Tryd.f9, Code.sub, opsOf, List.map_cons, List.map_nil, strip]; rfl
theorem w9_3 : W Tryd.prog TT S 9 [45, 50, 63, 68, 107] r9_3 k E m Q ↔ Rg Tryd.prog TT S 9 [45, 50, 63, 68, 107] [5] [] (lgo E [] (lops Tryd.prog (callw Tryd.prog TT S) [(some 5)] (L9_3).1 E m)) k E Q := w_plain (by kernel_rfl) (L9_3).2
noncomputable def L9_4 : {l : List Oper // (opsOf r9_4).map strip = l} := by refine ⟨?l, ?h⟩; case h => simp only [r9_4, c9, bodyOf, Tryd.f9, Code.sub, opsOf, List.map_cons, List.map_nil, strip]; rfl
theorem w9_4 : W Tryd.prog TT S 9 [45, 50, 63, 68, 107] r9_4 k E m Q ↔ Rg Tryd.prog TT S 9 [45, 50, 63, 68, 107] [] [50] (lgo E [5, 2] (lops Tryd.prog (callw Tryd.prog TT S) [(some 46), (some 47), (some 48), (some 49), (some 50)] (L9_4).1 E m)) k E Q := w_plain (by kernel_rfl) (L9_4).2
noncomputable def L9_5 : {l : List Oper // (opsOf r9_5).map strip = l} := by refine ⟨?l, ?h⟩; case h => simp only [r9_5, c9, bodyOf, Tryd.f9, Code.sub, opsOf, List.map_cons, List.map_nil, strip]; rfl
theorem w9_5 : W Tryd.prog TT S 9 [45, 50, 63, 68, 107] r9_5 k E m Q ↔ Rg Tryd.prog TT S 9 [45, 50, 63, 68, 107] [] [63] (lgo E [2, 3, 5] (lops Tryd.prog (callw Tryd.prog TT S) [(some 53), (some 54), (some 55), (some 56), (some 57), (some 58), (some 59), (some 60), (some 61), (some 62), (some 63)] (L9_5).1 E m)) k E Q := w_plain (by kernel_rfl) (L9_5).2
noncomputable def L9_6 : {l : List Oper // (opsOf r9_6).map strip = l} := by refine ⟨?l, ?h⟩; case h => simp only [r9_6, c9, bodyOf, Tryd.f9, Code.sub, opsOf, List.map_cons, List.map_nil, strip]; rfl
theorem w9_6 : W Tryd.prog TT S 9 [45, 50, 63, 68, 107] r9_6 k E m Q ↔ Rg Tryd.prog TT S 9 [45, 50, 63, 68, 107] [4] [] (lgo E [] (lops Tryd.prog (callw Tryd.prog TT S) [(some 4)] (L9_6).1 E m)) k E Q := w_plain (by kernel_rfl) (L9_6).2
noncomputable def L9_7 : {l : List Oper // (opsOf r9_7).map strip = l} := by refine ⟨?l, ?h⟩; case h => simp only [r9_7, c9, bodyOf, Tryd.f9, Code.sub, opsOf, List.map_cons, List.map_nil, strip]; rfl
theorem w9_7 : W Tryd.prog TT S 9 [45, 50, 63, 68, 107] r9_7 k E m Q ↔ Rg Tryd.prog TT S 9 [45, 50, 63, 68, 107] [5] [] (lgo E [5] (lops Tryd.prog (callw Tryd.prog TT S) [(some 51), (some 52), (some 5)] (L9_7).1 E m)) k E Q := w_plain (by kernel_rfl) (L9_7).2
noncomputable def L9_8 : {l : List Oper // (opsOf r9_8).map strip = l} := by refine ⟨?l, ?h⟩; case h => simp only [r9_8, c9, bodyOf, Tryd.f9, Code.sub, opsOf, List.map_cons, List.map_nil, strip]; rfl
theorem w9_8 : W Tryd.prog TT S 9 [45, 50, 63, 68, 107] r9_8 k E m Q ↔ Rg Tryd.prog TT S 9 [45, 50, 63, 68, 107] [6] [] (lgo E [] (lops Tryd.prog (callw Tryd.prog TT S) [(some 6)] (L9_8).1 E m)) k E Q := w_plain (by kernel_rfl) (L9_8).2
noncomputable def L9_9 : {l : List Oper // (opsOf r9_9).map strip = l} := by refine ⟨?l, ?h⟩; case h => simp only [r9_9, c9, bodyOf, Tryd.f9, Code.sub, opsOf, List.map_cons, List.map_nil, strip]; rfl
theorem w9_9 : W Tryd.prog TT S 9 [45, 50, 63, 68, 107] r9_9 k E m Q ↔ Rg Tryd.prog TT S 9 [45, 50, 63, 68, 107] [] [68] (lgo E [6, 2] (lops Tryd.prog (callw Tryd.prog TT S) [(some 64), (some 65), (some 66), (some 67), (some 68)] (L9_9).1 E m)) k E Q := w_plain (by kernel_rfl) (L9_9).2
noncomputable def L9_10 : {l : List Oper // (opsOf r9_10).map strip = l} := by refine ⟨?l, ?h⟩; case h => simp only [r9_10, c9, bodyOf, Tryd.f9, Code.sub, opsOf, List.map_cons, List.map_nil, strip]; rfl
theorem w9_10 : W Tryd.prog TT S 9 [45, 50, 63, 68, 107] r9_10 k E m Q ↔ Rg Tryd.prog TT S 9 [45, 50, 63, 68, 107] [7] [] (lgo E [2, 6] (lops Tryd.prog (callw Tryd.prog TT S) [(some 71), (some 72), (some 73), (some 74), (some 75), (some 7), none] (L9_10).1 E m)) k E Q := w_plain (by kernel_rfl) (L9_10).2
noncomputable def L9_11 : {l : List Oper // (opsOf r9_11).map strip = l} := by refine ⟨?l, ?h⟩; case h => simp only [r9_11, c9, bodyOf, Tryd.f9, Code.sub, opsOf, List.map_cons, List.map_nil, strip]; rfl
theorem w9_11 : W Tryd.prog TT S 9 [45, 50, 63, 68, 107] r9_11 k E m Q ↔ Rg Tryd.prog TT S 9 [45, 50, 63, 68, 107] [8] [] (lgo E [3, 6] (lops Tryd.prog (callw Tryd.prog TT S) [(some 76), (some 77), (some 78), (some 79), (some 80), (some 8), none] (L9_11).1 E m)) k E Q := w_plain (by kernel_rfl) (L9_11).2
noncomputable def L9_12 : {l : List Oper // (opsOf r9_12).map strip = l} := by refine ⟨?l, ?h⟩; case h => simp only [r9_12, c9, bodyOf, Tryd.f9, Code.sub, opsOf, List.map_cons, List.map_nil, strip]; rfl
theorem w9_12 : W Tryd.prog TT S 9 [45, 50, 63, 68, 107] r9_12 k E m Q ↔ Rg Tryd.prog TT S 9 [45, 50, 63, 68, 107] [] [107] (lgo E [7, 8] (lops Tryd.prog (callw Tryd.prog TT S) [(some 81), (some 82), (some 83), (some 84), (some 85), (some 86), (some 87), (some 88), (some 89), (some 90), (some 91), (some 92), (some 93), (some 94), (some 95), (some 96), (some 97), (some 98), (some 99), (some 100), (some 101), (some 102), (some 103), (some 104), (some 105), (some 106), (some 107)] (L9_12).1 E m)) k E Q := w_plain (by kernel_rfl) (L9_12).2
noncomputable def L9_13 : {l : List Oper // (opsOf r9_13).map strip = l} := by refine ⟨?l, ?h⟩; case h => simp only [r9_13, c9, bodyOf, Tryd.f9, Code.sub, opsOf, List.map_cons, List.map_nil, strip]; rfl
theorem w9_13 : W Tryd.prog TT S 9 [45, 50, 63, 68, 107] r9_13 k E m Q ↔ Rg Tryd.prog TT S 9 [45, 50, 63, 68, 107] [4] [] (lgo E [] (lops Tryd.prog (callw Tryd.prog TT S) [(some 4)] (L9_13).1 E m)) k E Q := w_plain (by kernel_rfl) (L9_13).2
noncomputable def L9_14 : {l : List Oper // (opsOf r9_14).map strip = l} := by refine ⟨?l, ?h⟩; case h => simp only [r9_14, c9, bodyOf, Tryd.f9, Code.sub, opsOf, List.map_cons, List.map_nil, strip]; rfl
theorem w9_14 : W Tryd.prog TT S 9 [45, 50, 63, 68, 107] r9_14 k E m Q ↔ Rg Tryd.prog TT S 9 [45, 50, 63, 68, 107] [6] [] (lgo E [6] (lops Tryd.prog (callw Tryd.prog TT S) [(some 69), (some 70), (some 6)] (L9_14).1 E m)) k E Q := w_plain (by kernel_rfl) (L9_14).2
noncomputable def L9_15 : {l : List Oper // (opsOf r9_15).map strip = l} := by refine ⟨?l, ?h⟩; case h => simp only [r9_15, c9, bodyOf, Tryd.f9, Code.sub, opsOf, List.map_cons, List.map_nil, strip]; rfl
theorem w9_15 : W Tryd.prog TT S 9 [45, 50, 63, 68, 107] r9_15 k E m Q ↔ Rg Tryd.prog TT S 9 [45, 50, 63, 68, 107] [4] [] (lgo E [] (lops Tryd.prog (callw Tryd.prog TT S) [(some 4)] (L9_15).1 E m)) k E Q := w_plain (by kernel_rfl) (L9_15).2
theorem k9 : FnIs TT 9 c9 [.tmp 4] 2 := ⟨Tryd.f9, by kernel_rfl, by simp only [Tryd.f9, c9, bodyOf], by kernel_rfl, of_decide_eq_true (by kernel_rfl)⟩

/- kinds.Right -/
noncomputable def c10 : Code := bodyOf Tryd.f10
noncomputable def r10_0 : Code := Code.sub [0] c10
noncomputable def r10_1 : Code := Code.sub [1, 0] c10
noncomputable def r10_2 : Code := Code.sub [1, 1, 0, 0] c10
noncomputable def r10_3 : Code := Code.sub [1, 1, 0, 1, 0, 0] c10
noncomputable def r10_4 : Code := Code.sub [1, 1, 1, 0, 0] c10
noncomputable def r10_5 : Code := Code.sub [1, 1, 1, 0, 1, 0, 0, 0] c10
noncomputable def r10_6 : Code := Code.sub [1, 1, 1, 0, 1, 0, 0, 1, 1, 0, 0, 0] c10
noncomputable def r10_7 : Code := Code.sub [1, 1, 1, 0, 1, 0, 0, 1, 1, 0, 0, 1, 0, 0] c10
noncomputable def r10_8 : Code := Code.sub [1, 1, 1, 0, 1, 0, 0, 1, 1, 0, 0, 1, 0, 1, 0, 0] c10
noncomputable def r10_9 : Code := Code.sub [1, 1, 1, 0, 1, 0, 0, 1, 1, 0, 0, 1, 1, 0] c10
noncomputable def r10_10 : Code := Code.sub [1, 1, 1, 0, 1, 0, 0, 1, 1, 0, 0, 1, 1, 1, 0, 0, 0] c10
noncomputable def r10_11 : Code := Code.sub [1, 1, 1, 0, 1, 0, 0, 1, 1, 0, 0, 1, 1, 1, 0, 0, 1, 1, 0, 0, 0] c10
noncomputable def r10_12 : Code := Code.sub [1, 1, 1, 0, 1, 0, 0, 1, 1, 0, 0, 1, 1, 1, 0, 0, 1, 1, 0, 0, 1, 0] c10
noncomputable def r10_13 : Code := Code.sub [1, 1, 1, 0, 1, 0, 0, 1, 1, 0, 0, 1, 1, 1, 0, 0, 1, 1, 0, 0, 1, 1, 0] c10
noncomputable def r10_14 : Code := Code.sub [1, 1, 1, 0, 1, 0, 0, 1, 1, 0, 0, 1, 1, 1, 0, 0, 1, 1, 0, 0, 1, 1, 1, 0, 0] c10
noncomputable def r10_15 : Code := Code.sub [1, 1, 1, 0, 1, 0, 0, 1, 1, 0, 0, 1, 1, 1, 0, 0, 1, 1, 1] c10
noncomputable def r10_16 : Code := Code.sub [1, 1, 1, 0, 1, 0, 0, 1, 1, 1] c10
noncomputable def r10_17 : Code := Code.sub [1, 1, 1, 1, 0] c10
theorem body10 : c10 = (.seq r10_0 (.seq r10_1 (.seq (.seq r10_2 (.cond (.tmp 19) (.seq r10_3 .ret) .skip)) (.seq (.seq r10_4 (.block 0 (.loop (.seq r10_5 (.seq (.cond (.tmp 23) .skip (.exit 0)) (.seq (.block 1 (.seq r10_6 (.seq (.seq r10_7 (.cond (.tmp 51) (.seq r10_8 .ret) .skip)) (.seq r10_9 (.block 2 (.loop (.seq r10_10 (.seq (.cond (.tmp 57) .skip (.exit 2)) (.seq (.block 3 (.seq r10_11 (.seq r10_12 (.seq r10_13 (.cond (.tmp 96) (.seq r10_14 .ret) .skip))))) r10_15))))))))) r10_16)))))) (.seq r10_17 .ret))))) := by kernel_rfl
noncomputable def L10_0 : {l : List Oper // (opsOf r10_0).map strip = l} := by refine ⟨?l, ?h⟩; case h => simp only [r10_0, c10, bodyOf, Tryd.f10, Code.sub, opsOf, List.map_cons, List.map_nil, strip]; rfl
theorem w10_0 : W Tryd.prog TT S 57 [57, 96] r10_0 k E m Q ↔ Rg Tryd.prog TT S 57 [57, 96] [2] [] (lgo E [] (lops Tryd.prog (callw Tryd.prog TT S) [(some 2)] (L10_0).1 E m)) k E Q := w_plain (by kernel_rfl) (L10_0).2
noncomputable def L10_1 : {l : List Oper // (opsOf r10_1).map strip = l} := by refine ⟨?l, ?h⟩; case h => simp only [r10_1, c10, bodyOf, Tryd.f10, Code.sub, opsOf, List.map_cons, List.map_nil, strip]; rfl
theorem w10_1 : W Tryd.prog TT S 57 [57, 96] r10_1 k E m Q ↔ Rg Tryd.prog TT S 57 [57, 96] [9, 3] [] (lgo E [] (lops Tryd.prog (callw Tryd.prog TT S) [(some 9), (some 3)] (L10_1).1 E m)) k E Q := w_plain (by kernel_rfl) (L10_1).2
noncomputable def L10_2 : {l : List Oper // (opsOf r10_2).map strip = l} := by refine ⟨?l, ?h⟩; case h => simp only [r10_2, c10, bodyOf, Tryd.f10, Code.sub, opsOf, List.map_cons, List.map_nil, strip]; rfl
theorem w10_2 : W Tryd.prog TT S 57 [57, 96] r10_2 k E m Q ↔ Rg Tryd.prog TT S 57 [57, 96] [10, 11, 12, 13, 14, 15, 16, 17, 18, 19] [] (lgo E [3, 0] (lops Tryd.prog (callw Tryd.prog TT S) [(some 10), (some 11), (some 12), (some 13), (some 14), (some 15), (some 16), (some 17), (some 18), (some 19)] (L10_2).1 E m)) k E Q := w_plain (by kernel_rfl) (L10_2).2
noncomputable def L10_3 : {l : List Oper // (opsOf r10_3).map strip = l} := by refine ⟨?l, ?h⟩; case h => simp only [r10_3, c10, bodyOf, Tryd.f10, Code.sub, opsOf, List.map_cons, List.map_nil, strip]; rfl
theorem w10_3 : W Tryd.prog TT S 57 [57, 96] r10_3 k E m Q ↔ Rg Tryd.prog TT S 57 [57, 96] [2] [] (lgo E [] (lops Tryd.prog (callw Tryd.prog TT S) [(some 2)] (L10_3).1 E m)) k E Q := w_plain (by kernel_rfl) (L10_3).2
noncomputable def L10_4 : {l : List Oper // (opsOf r10_4).map strip = l} := by refine ⟨?l, ?h⟩; case h => simp only [r10_4, c10, bodyOf, Tryd.f10, Code.sub, opsOf, List.map_cons, List.map_nil, strip]; rfl
theorem w10_4 : W Tryd.prog TT S 57 [57, 96] r10_4 k E m Q ↔ Rg Tryd.prog TT S 57 [57, 96] [20, 21, 22] [] (lgo E [0] (lops Tryd.prog (callw Tryd.prog TT S) [(some 20), (some 21), (some 22)] (L10_4).1 E m)) k E Q := w_plain (by kernel_rfl) (L10_4).2
noncomputable def L10_5 : {l : List Oper // (opsOf r10_5).map strip = l} := by refine ⟨?l, ?h⟩; case h => simp only [r10_5, c10, bodyOf, Tryd.f10, Code.sub, opsOf, List.map_cons, List.map_nil, strip]; rfl
theorem w10_5 : W Tryd.prog TT S 57 [57, 96] r10_5 k E m Q ↔ Rg Tryd.prog TT S 57 [57, 96] [23] [] (lgo E [22, 21] (lops Tryd.prog (callw Tryd.prog TT S) [(some 23)] (L10_5).1 E m)) k E Q := w_plain (by kernel_rfl) (L10_5).2
noncomputable def L10_6 : {l : List Oper // (opsOf r10_6).map strip = l} := by refine ⟨?l, ?h⟩; case h => simp only [r10_6, c10, bodyOf, Tryd.f10, Code.sub, opsOf, List.map_cons, List.map_nil, strip]; rfl
theorem w10_6 : W Tryd.prog TT S 57 [57, 96] r10_6 k E m Q ↔ Rg Tryd.prog TT S 57 [57, 96] [24, 25, 26, 5, 4] [] (lgo E [20, 22] (lops Tryd.prog (callw Tryd.prog TT S) [(some 24), (some 25), (some 26), (some 5), (some 4), none] (L10_6).1 E m)) k E Q := w_plain (by kernel_rfl) (L10_6).2
theorem can10_7 : canonOps (opsOf r10_7) = opsOf r10_7 := by kernel_rfl
noncomputable def L10_7 : {l : List Oper // (canonOps (opsOf r10_7)).map strip = l} := by refine ⟨?l, (congrArg (List.map strip) can10_7).trans ?h⟩; case h => simp only [r10_7, c10, bodyOf, Tryd.f10, Code.sub, opsOf, List.map_cons, List.map_nil, strip]; rfl
theorem w10_7 : W Tryd.prog TT S 57 [57, 96] r10_7 k E m Q ↔ Rg Tryd.prog TT S 57 [57, 96] [27, 28, 29, 30, 31, 32, 33, 34, 35, 36, 37, 38, 39, 40, 41, 42, 43, 44, 45, 46, 47, 48, 49, 50, 51] [] (lgo E [4, 3, 0, 5] (lloud Tryd.prog (callw Tryd.prog TT S) [(some 27), (some 28), (some 29), (some 30), (some 31), (some 32), (some 33), (some 34), (some 35), (some 36), (some 37), (some 38), (some 39), (some 40), (some 41), (some 42), (some 43), (some 44), (some 45), (some 46), (some 47), (some 48), (some 49), (some 50), (some 51)] (L10_7).1 [(2, [10]), (5, [10]), (9, [10]), (16, [21]), (20, [21])] (lstates Tryd.prog (callw Tryd.prog TT S) [(some 27), (some 28), (some 29), (some 30), (some 31), (some 32), (some 33), (some 34), (some 35), (some 36), (some 37), (some 38), (some 39), (some 40), (some 41), (some 42), (some 43), (some 44), (some 45), (some 46), (some 47), (some 48), (some 49), (some 50), (some 51)] (L10_7).1 E m))) k E Q := w_loud (by kernel_rfl) (L10_7).2
noncomputable def L10_8 : {l : List Oper // (opsOf r10_8).map strip = l} := by refine ⟨?l, ?h⟩; case h => simp only [r10_8, c10, bodyOf, Tryd.f10, Code.sub, opsOf, List.map_cons, List.map_nil, strip]; rfl
theorem w10_8 : W Tryd.prog TT S 57 [57, 96] r10_8 k E m Q ↔ Rg Tryd.prog TT S 57 [57, 96] [2] [] (lgo E [] (lops Tryd.prog (callw Tryd.prog TT S) [(some 2)] (L10_8).1 E m)) k E Q := w_plain (by kernel_rfl) (L10_8).2
noncomputable def L10_9 : {l : List Oper // (opsOf r10_9).map strip = l} := by refine ⟨?l, ?h⟩; case h => simp only [r10_9, c10, bodyOf, Tryd.f10, Code.sub, opsOf, List.map_cons, List.map_nil, strip]; rfl
theorem w10_9 : W Tryd.prog TT S 57 [57, 96] r10_9 k E m Q ↔ Rg Tryd.prog TT S 57 [57, 96] [52, 53, 54, 55, 56] [] (lgo E [0, 4] (lops Tryd.prog (callw Tryd.prog TT S) [(some 52), (some 53), (some 54), (some 55), (some 56)] (L10_9).1 E m)) k E Q := w_plain (by kernel_rfl) (L10_9).2
noncomputable def L10_10 : {l : List Oper // (opsOf r10_10).map strip = l} := by refine ⟨?l, ?h⟩; case h => simp only [r10_10, c10, bodyOf, Tryd.f10, Code.sub, opsOf, List.map_cons, List.map_nil, strip]; rfl
theorem w10_10 : W Tryd.prog TT S 57 [57, 96] r10_10 k E m Q ↔ Rg Tryd.prog TT S 57 [57, 96] [] [57] (lgo E [56, 55] (lops Tryd.prog (callw Tryd.prog TT S) [(some 57)] (L10_10).1 E m)) k E Q := w_plain (by kernel_rfl) (L10_10).2
noncomputable def L10_11 : {l : List Oper // (opsOf r10_11).map strip = l} := by refine ⟨?l, ?h⟩; case h => simp only [r10_11, c10, bodyOf, Tryd.f10, Code.sub, opsOf, List.map_cons, List.map_nil, strip]; rfl
theorem w10_11 : W Tryd.prog TT S 57 [57, 96] r10_11 k E m Q ↔ Rg Tryd.prog TT S 57 [57, 96] [7] [] (lgo E [54, 56] (lops Tryd.prog (callw Tryd.prog TT S) [(some 58), (some 59), (some 7), none] (L10_11).1 E m)) k E Q := w_plain (by kernel_rfl) (L10_11).2
noncomputable def L10_12 : {l : List Oper // (opsOf r10_12).map strip = l} := by refine ⟨?l, ?h⟩; case h => simp only [r10_12, c10, bodyOf, Tryd.f10, Code.sub, opsOf, List.map_cons, List.map_nil, strip]; rfl
theorem w10_12 : W Tryd.prog TT S 57 [57, 96] r10_12 k E m Q ↔ Rg Tryd.prog TT S 57 [57, 96] [8] [] (lgo E [5, 7] (lops Tryd.prog (callw Tryd.prog TT S) [(some 60), (some 61), (some 62), (some 63), (some 64), (some 65), (some 66), (some 67), (some 8)] (L10_12).1 E m)) k E Q := w_plain (by kernel_rfl) (L10_12).2
noncomputable def L10_13 : {l : List Oper // (opsOf r10_13).map strip = l} := by refine ⟨?l, ?h⟩; case h => simp only [r10_13, c10, bodyOf, Tryd.f10, Code.sub, opsOf, List.map_cons, List.map_nil, strip]; rfl
theorem w10_13 : W Tryd.prog TT S 57 [57, 96] r10_13 k E m Q ↔ Rg Tryd.prog TT S 57 [57, 96] [] [96] (lgo E [8, 5, 7] (lops Tryd.prog (callw Tryd.prog TT S) [(some 68), (some 69), (some 70), (some 71), (some 72), (some 73), (some 74), (some 75), (some 76), (some 77), (some 78), (some 79), (some 80), (some 81), (some 82), (some 83), (some 84), (some 85), (some 86), (some 87), (some 88), (some 89), (some 90), (some 91), (some 92), (some 93), (some 94), (some 95), (some 96)] (L10_13).1 E m)) k E Q := w_plain (by kernel_rfl) (L10_13).2
noncomputable def L10_14 : {l : List Oper // (opsOf r10_14).map strip = l} := by refine ⟨?l, ?h⟩; case h => simp only [r10_14, c10, bodyOf, Tryd.f10, Code.sub, opsOf, List.map_cons, List.map_nil, strip]; rfl
theorem w10_14 : W Tryd.prog TT S 57 [57, 96] r10_14 k E m Q ↔ Rg Tryd.prog TT S 57 [57, 96] [2] [] (lgo E [] (lops Tryd.prog (callw Tryd.prog TT S) [(some 2)] (L10_14).1 E m)) k E Q := w_plain (by kernel_rfl) (L10_14).2
noncomputable def L10_15 : {l : List Oper // (opsOf r10_15).map strip = l} := by refine ⟨?l, ?h⟩; case h => simp only [r10_15, c10, bodyOf, Tryd.f10, Code.sub, opsOf, List.map_cons, List.map_nil, strip]; rfl
theorem w10_15 : W Tryd.prog TT S 57 [57, 96] r10_15 k E m Q ↔ Rg Tryd.prog TT S 57 [57, 96] [56] [] (lgo E [56] (lops Tryd.prog (callw Tryd.prog TT S) [(some 97), (some 56)] (L10_15).1 E m)) k E Q := w_plain (by kernel_rfl) (L10_15).2
noncomputable def L10_16 : {l : List Oper // (opsOf r10_16).map strip = l} := by refine ⟨?l, ?h⟩; case h => simp only [r10_16, c10, bodyOf, Tryd.f10, Code.sub, opsOf, List.map_cons, List.map_nil, strip]; rfl
theorem w10_16 : W Tryd.prog TT S 57 [57, 96] r10_16 k E m Q ↔ Rg Tryd.prog TT S 57 [57, 96] [22] [] (lgo E [22] (lops Tryd.prog (callw Tryd.prog TT S) [(some 98), (some 22)] (L10_16).1 E m)) k E Q := w_plain (by kernel_rfl) (L10_16).2
noncomputable def L10_17 : {l : List Oper // (opsOf r10_17).map strip = l} := by refine ⟨?l, ?h⟩; case h => simp only [r10_17, c10, bodyOf, Tryd.f10, Code.sub, opsOf, List.map_cons, List.map_nil, strip]; rfl
theorem w10_17 : W Tryd.prog TT S 57 [57, 96] r10_17 k E m Q ↔ Rg Tryd.prog TT S 57 [57, 96] [2] [] (lgo E [] (lops Tryd.prog (callw Tryd.prog TT S) [(some 2)] (L10_17).1 E m)) k E Q := w_plain (by kernel_rfl) (L10_17).2
theorem k10 : FnIs TT 10 c10 [.tmp 2] 1 := ⟨Tryd.f10, by kernel_rfl, by simp only [Tryd.f10, c10, bodyOf], by kernel_rfl, of_decide_eq_true (by kernel_rfl)⟩

/- kinds.Method -/
noncomputable def c11 : Code := bodyOf Tryd.f11
noncomputable def r11_0 : Code := Code.sub [0] c11
noncomputable def r11_1 : Code := Code.sub [1, 0] c11
noncomputable def r11_2 : Code := Code.sub [1, 1, 0, 0] c11
noncomputable def r11_3 : Code := Code.sub [1, 1, 0, 1, 0, 0] c11
noncomputable def r11_4 : Code := Code.sub [1, 1, 1, 0] c11
noncomputable def r11_5 : Code := Code.sub [1, 1, 1, 1, 0] c11
theorem body11 : c11 = (.seq r11_0 (.seq r11_1 (.seq (.seq r11_2 (.cond (.tmp 24) (.seq r11_3 .ret) .skip)) (.seq r11_4 (.seq r11_5 .ret))))) := by kernel_rfl
noncomputable def L11_0 : {l : List Oper // (opsOf r11_0).map strip = l} := by refine ⟨?l, ?h⟩; case h => simp only [r11_0, c11, bodyOf, Tryd.f11, Code.sub, opsOf, List.map_cons, List.map_nil, strip]; rfl
theorem w11_0 : W Tryd.prog TT S 11 [24] r11_0 k E m Q ↔ Rg Tryd.prog TT S 11 [24] [5, 6, 7] [] (lgo E [2] (lops Tryd.prog (callw Tryd.prog TT S) [(some 5), (some 6), (some 7)] (L11_0).1 E m)) k E Q := w_plain (by kernel_rfl) (L11_0).2
noncomputable def L11_1 : {l : List Oper // (opsOf r11_1).map strip = l} := by refine ⟨?l, ?h⟩; case h => simp only [r11_1, c11, bodyOf, Tryd.f11, Code.sub, opsOf, List.map_cons, List.map_nil, strip]; rfl
theorem w11_1 : W Tryd.prog TT S 11 [24] r11_1 k E m Q ↔ Rg Tryd.prog TT S 11 [24] [8, 9] [] (lgo E [0, 1] (lops Tryd.prog (callw Tryd.prog TT S) [(some 12), (some 13), (some 14), (some 11), (some 15), (some 16), (some 8), none, (some 9)] (L11_1).1 E m)) k E Q := w_plain (by kernel_rfl) (L11_1).2
noncomputable def L11_2 : {l : List Oper // (opsOf r11_2).map strip = l} := by refine ⟨?l, ?h⟩; case h => simp only [r11_2, c11, bodyOf, Tryd.f11, Code.sub, opsOf, List.map_cons, List.map_nil, strip]; rfl
theorem w11_2 : W Tryd.prog TT S 11 [24] r11_2 k E m Q ↔ Rg Tryd.prog TT S 11 [24] [] [24] (lgo E [8] (lops Tryd.prog (callw Tryd.prog TT S) [(some 17), (some 18), (some 19), (some 20), (some 21), (some 22), (some 23), (some 24)] (L11_2).1 E m)) k E Q := w_plain (by kernel_rfl) (L11_2).2
noncomputable def L11_3 : {l : List Oper // (opsOf r11_3).map strip = l} := by refine ⟨?l, ?h⟩; case h => simp only [r11_3, c11, bodyOf, Tryd.f11, Code.sub, opsOf, List.map_cons, List.map_nil, strip]; rfl
theorem w11_3 : W Tryd.prog TT S 11 [24] r11_3 k E m Q ↔ Rg Tryd.prog TT S 11 [24] [6, 7] [] (lgo E [] (lops Tryd.prog (callw Tryd.prog TT S) [(some 6), (some 7)] (L11_3).1 E m)) k E Q := w_plain (by kernel_rfl) (L11_3).2
noncomputable def L11_4 : {l : List Oper // (opsOf r11_4).map strip = l} := by refine ⟨?l, ?h⟩; case h => simp only [r11_4, c11, bodyOf, Tryd.f11, Code.sub, opsOf, List.map_cons, List.map_nil, strip]; rfl
theorem w11_4 : W Tryd.prog TT S 11 [24] r11_4 k E m Q ↔ Rg Tryd.prog TT S 11 [24] [10] [] (lgo E [8, 5] (lops Tryd.prog (callw Tryd.prog TT S) [(some 25), (some 26), (some 27), (some 28), (some 10)] (L11_4).1 E m)) k E Q := w_plain (by kernel_rfl) (L11_4).2
noncomputable def L11_5 : {l : List Oper // (opsOf r11_5).map strip = l} := by refine ⟨?l, ?h⟩; case h => simp only [r11_5, c11, bodyOf, Tryd.f11, Code.sub, opsOf, List.map_cons, List.map_nil, strip]; rfl
theorem w11_5 : W Tryd.prog TT S 11 [24] r11_5 k E m Q ↔ Rg Tryd.prog TT S 11 [24] [6, 7] [] (lgo E [10] (lops Tryd.prog (callw Tryd.prog TT S) [(some 29), (some 30), (some 31), (some 32), (some 6), (some 7)] (L11_5).1 E m)) k E Q := w_plain (by kernel_rfl) (L11_5).2
theorem k11 : FnIs TT 11 c11 [.tmp 6, .tmp 7] 3 := ⟨Tryd.f11, by kernel_rfl, by simp only [Tryd.f11, c11, bodyOf], by kernel_rfl, of_decide_eq_true (by kernel_rfl)⟩

/- kinds.Fits -/
noncomputable def c12 : Code := bodyOf Tryd.f12
noncomputable def r12_0 : Code := Code.sub [0] c12
noncomputable def r12_1 : Code := Code.sub [1, 0] c12
noncomputable def r12_2 : Code := Code.sub [1, 1, 0, 0, 0] c12
noncomputable def r12_3 : Code := Code.sub [1, 1, 0, 0, 1, 0, 0] c12
noncomputable def r12_4 : Code := Code.sub [1, 1, 0, 0, 1, 1, 0] c12
noncomputable def r12_5 : Code := Code.sub [1, 1, 0, 0, 1, 1, 1, 0, 0] c12
noncomputable def r12_6 : Code := Code.sub [1, 1, 0, 0, 1, 1, 1, 1, 0] c12
noncomputable def r12_7 : Code := Code.sub [1, 1, 0, 0, 1, 1, 1, 1, 1, 0, 0] c12
noncomputable def r12_8 : Code := Code.sub [1, 1, 1, 0] c12
theorem body12 : c12 = (.seq r12_0 (.seq r12_1 (.seq (.block 0 (.seq r12_2 (.cond (.tmp 15) (.seq r12_3 .ret) (.seq r12_4 (.cond (.tmp 22) (.seq r12_5 .ret) (.seq r12_6 (.cond (.tmp 32) (.seq r12_7 .ret) .skip))))))) (.seq r12_8 .ret)))) := by kernel_rfl
noncomputable def L12_0 : {l : List Oper // (opsOf r12_0).map strip = l} := by refine ⟨?l, ?h⟩; case h => simp only [r12_0, c12, bodyOf, Tryd.f12, Code.sub, opsOf, List.map_cons, List.map_nil, strip]; rfl
theorem w12_0 : W Tryd.prog TT S 9 [15, 22, 32] r12_0 k E m Q ↔ Rg Tryd.prog TT S 9 [15, 22, 32] [6] [] (lgo E [] (lops Tryd.prog (callw Tryd.prog TT S) [(some 6)] (L12_0).1 E m)) k E Q := w_plain (by kernel_rfl) (L12_0).2
noncomputable def L12_1 : {l : List Oper // (opsOf r12_1).map strip = l} := by refine ⟨?l, ?h⟩; case h => simp only [r12_1, c12, bodyOf, Tryd.f12, Code.sub, opsOf, List.map_cons, List.map_nil, strip]; rfl
theorem w12_1 : W Tryd.prog TT S 9 [15, 22, 32] r12_1 k E m Q ↔ Rg Tryd.prog TT S 9 [15, 22, 32] [7, 8] [] (lgo E [1, 0, 2] (lops Tryd.prog (callw Tryd.prog TT S) [(some 9), (some 10), (some 11), (some 12), (some 13), (some 14), (some 7), (some 8)] (L12_1).1 E m)) k E Q := w_plain (by kernel_rfl) (L12_1).2
noncomputable def L12_2 : {l : List Oper // (opsOf r12_2).map strip = l} := by refine ⟨?l, ?h⟩; case h => simp only [r12_2, c12, bodyOf, Tryd.f12, Code.sub, opsOf, List.map_cons, List.map_nil, strip]; rfl
theorem w12_2 : W Tryd.prog TT S 9 [15, 22, 32] r12_2 k E m Q ↔ Rg Tryd.prog TT S 9 [15, 22, 32] [] [15] (lgo E [7, 8] (lops Tryd.prog (callw Tryd.prog TT S) [(some 16), (some 17), (some 18), (some 19), (some 20), (some 21), (some 15)] (L12_2).1 E m)) k E Q := w_plain (by kernel_rfl) (L12_2).2
noncomputable def L12_3 : {l : List Oper // (opsOf r12_3).map strip = l} := by refine ⟨?l, ?h⟩; case h => simp only [r12_3, c12, bodyOf, Tryd.f12, Code.sub, opsOf, List.map_cons, List.map_nil, strip]; rfl
theorem w12_3 : W Tryd.prog TT S 9 [15, 22, 32] r12_3 k E m Q ↔ Rg Tryd.prog TT S 9 [15, 22, 32] [6] [] (lgo E [] (lops Tryd.prog (callw Tryd.prog TT S) [(some 6)] (L12_3).1 E m)) k E Q := w_plain (by kernel_rfl) (L12_3).2
noncomputable def L12_4 : {l : List Oper // (opsOf r12_4).map strip = l} := by refine ⟨?l, ?h⟩; case h => simp only [r12_4, c12, bodyOf, Tryd.f12, Code.sub, opsOf, List.map_cons, List.map_nil, strip]; rfl
theorem w12_4 : W Tryd.prog TT S 9 [15, 22, 32] r12_4 k E m Q ↔ Rg Tryd.prog TT S 9 [15, 22, 32] [] [22] (lgo E [1, 2] (lops Tryd.prog (callw Tryd.prog TT S) [(some 23), (some 24), (some 25), (some 22)] (L12_4).1 E m)) k E Q := w_plain (by kernel_rfl) (L12_4).2
noncomputable def L12_5 : {l : List Oper // (opsOf r12_5).map strip = l} := by refine ⟨?l, ?h⟩; case h => simp only [r12_5, c12, bodyOf, Tryd.f12, Code.sub, opsOf, List.map_cons, List.map_nil, strip]; rfl
theorem w12_5 : W Tryd.prog TT S 9 [15, 22, 32] r12_5 k E m Q ↔ Rg Tryd.prog TT S 9 [15, 22, 32] [6] [] (lgo E [7] (lops Tryd.prog (callw Tryd.prog TT S) [(some 26), (some 27), (some 28), (some 29), (some 30), (some 31), (some 6)] (L12_5).1 E m)) k E Q := w_plain (by kernel_rfl) (L12_5).2
noncomputable def L12_6 : {l : List Oper // (opsOf r12_6).map strip = l} := by refine ⟨?l, ?h⟩; case h => simp only [r12_6, c12, bodyOf, Tryd.f12, Code.sub, opsOf, List.map_cons, List.map_nil, strip]; rfl
theorem w12_6 : W Tryd.prog TT S 9 [15, 22, 32] r12_6 k E m Q ↔ Rg Tryd.prog TT S 9 [15, 22, 32] [] [32] (lgo E [7] (lops Tryd.prog (callw Tryd.prog TT S) [(some 33), (some 34), (some 32)] (L12_6).1 E m)) k E Q := w_plain (by kernel_rfl) (L12_6).2
noncomputable def L12_7 : {l : List Oper // (opsOf r12_7).map strip = l} := by refine ⟨?l, ?h⟩; case h => simp only [r12_7, c12, bodyOf, Tryd.f12, Code.sub, opsOf, List.map_cons, List.map_nil, strip]; rfl
theorem w12_7 : W Tryd.prog TT S 9 [15, 22, 32] r12_7 k E m Q ↔ Rg Tryd.prog TT S 9 [15, 22, 32] [6] [] (lgo E [8] (lops Tryd.prog (callw Tryd.prog TT S) [(some 35), (some 36), (some 37), (some 38), (some 39), (some 40), (some 41), (some 42), (some 43), (some 44), (some 6)] (L12_7).1 E m)) k E Q := w_plain (by kernel_rfl) (L12_7).2
noncomputable def L12_8 : {l : List Oper // (opsOf r12_8).map strip = l} := by refine ⟨?l, ?h⟩; case h => simp only [r12_8, c12, bodyOf, Tryd.f12, Code.sub, opsOf, List.map_cons, List.map_nil, strip]; rfl
theorem w12_8 : W Tryd.prog TT S 9 [15, 22, 32] r12_8 k E m Q ↔ Rg Tryd.prog TT S 9 [15, 22, 32] [6] [] (lgo E [0, 1, 2] (lops Tryd.prog (callw Tryd.prog TT S) [(some 45), (some 46), (some 47), (some 48), (some 6)] (L12_8).1 E m)) k E Q := w_plain (by kernel_rfl) (L12_8).2
theorem k12 : FnIs TT 12 c12 [.tmp 6] 3 := ⟨Tryd.f12, by kernel_rfl, by simp only [Tryd.f12, c12, bodyOf], by kernel_rfl, of_decide_eq_true (by kernel_rfl)⟩

/- turnstoneref1.Base -/
noncomputable def c13 : Code := bodyOf Tryd.f13
noncomputable def r13_0 : Code := Code.sub [0] c13
noncomputable def r13_1 : Code := Code.sub [1, 0] c13
theorem body13 : c13 = (.seq r13_0 (.seq r13_1 .ret)) := by kernel_rfl
noncomputable def L13_0 : {l : List Oper // (opsOf r13_0).map strip = l} := by refine ⟨?l, ?h⟩; case h => simp only [r13_0, c13, bodyOf, Tryd.f13, Code.sub, opsOf, List.map_cons, List.map_nil, strip]; rfl
theorem w13_0 : W Tryd.prog TT S 1 [] r13_0 k E m Q ↔ Rg Tryd.prog TT S 1 [] [0] [] (lgo E [] (lops Tryd.prog (callw Tryd.prog TT S) [(some 0)] (L13_0).1 E m)) k E Q := w_plain (by kernel_rfl) (L13_0).2
noncomputable def L13_1 : {l : List Oper // (opsOf r13_1).map strip = l} := by refine ⟨?l, ?h⟩; case h => simp only [r13_1, c13, bodyOf, Tryd.f13, Code.sub, opsOf, List.map_cons, List.map_nil, strip]; rfl
theorem w13_1 : W Tryd.prog TT S 1 [] r13_1 k E m Q ↔ Rg Tryd.prog TT S 1 [] [0] [] (lgo E [] (lops Tryd.prog (callw Tryd.prog TT S) [(some 1), (some 2), (some 3), (some 4), (some 5), (some 6), (some 0)] (L13_1).1 E m)) k E Q := w_plain (by kernel_rfl) (L13_1).2
theorem k13 : FnIs TT 13 c13 [.tmp 0] 0 := ⟨Tryd.f13, by kernel_rfl, by simp only [Tryd.f13, c13, bodyOf], by kernel_rfl, of_decide_eq_true (by kernel_rfl)⟩

/- turnstonelaw2.types$1 -/
noncomputable def c14 : Code := bodyOf Tryd.f14
noncomputable def r14_0 : Code := Code.sub [0] c14
noncomputable def r14_1 : Code := Code.sub [1, 0, 0] c14
noncomputable def r14_2 : Code := Code.sub [1, 0, 1, 0, 0] c14
noncomputable def r14_3 : Code := Code.sub [1, 1, 0] c14
theorem body14 : c14 = (.seq r14_0 (.seq (.seq r14_1 (.cond (.tmp 6) (.seq r14_2 .ret) .skip)) (.seq r14_3 .ret))) := by kernel_rfl
noncomputable def L14_0 : {l : List Oper // (opsOf r14_0).map strip = l} := by refine ⟨?l, ?h⟩; case h => simp only [r14_0, c14, bodyOf, Tryd.f14, Code.sub, opsOf, List.map_cons, List.map_nil, strip]; rfl
theorem w14_0 : W Tryd.prog TT S 4 [6] r14_0 k E m Q ↔ Rg Tryd.prog TT S 4 [6] [3] [] (lgo E [] (lops Tryd.prog (callw Tryd.prog TT S) [(some 3)] (L14_0).1 E m)) k E Q := w_plain (by kernel_rfl) (L14_0).2
noncomputable def L14_1 : {l : List Oper // (opsOf r14_1).map strip = l} := by refine ⟨?l, ?h⟩; case h => simp only [r14_1, c14, bodyOf, Tryd.f14, Code.sub, opsOf, List.map_cons, List.map_nil, strip]; rfl
theorem w14_1 : W Tryd.prog TT S 4 [6] r14_1 k E m Q ↔ Rg Tryd.prog TT S 4 [6] [] [6] (lgo E [0] (lops Tryd.prog (callw Tryd.prog TT S) [(some 4), (some 5), (some 6)] (L14_1).1 E m)) k E Q := w_plain (by kernel_rfl) (L14_1).2
noncomputable def L14_2 : {l : List Oper // (opsOf r14_2).map strip = l} := by refine ⟨?l, ?h⟩; case h => simp only [r14_2, c14, bodyOf, Tryd.f14, Code.sub, opsOf, List.map_cons, List.map_nil, strip]; rfl
theorem w14_2 : W Tryd.prog TT S 4 [6] r14_2 k E m Q ↔ Rg Tryd.prog TT S 4 [6] [3] [] (lgo E [0] (lops Tryd.prog (callw Tryd.prog TT S) [(some 7), (some 8), (some 9), (some 10), (some 3)] (L14_2).1 E m)) k E Q := w_plain (by kernel_rfl) (L14_2).2
noncomputable def L14_3 : {l : List Oper // (opsOf r14_3).map strip = l} := by refine ⟨?l, ?h⟩; case h => simp only [r14_3, c14, bodyOf, Tryd.f14, Code.sub, opsOf, List.map_cons, List.map_nil, strip]; rfl
theorem w14_3 : W Tryd.prog TT S 4 [6] r14_3 k E m Q ↔ Rg Tryd.prog TT S 4 [6] [3] [] (lgo E [0, 1] (lops Tryd.prog (callw Tryd.prog TT S) [(some 11), (some 12), (some 13), (some 14), (some 15), (some 16), (some 3)] (L14_3).1 E m)) k E Q := w_plain (by kernel_rfl) (L14_3).2
theorem k14 : FnIs TT 14 c14 [.tmp 3] 2 := ⟨Tryd.f14, by kernel_rfl, by simp only [Tryd.f14, c14, bodyOf], by kernel_rfl, of_decide_eq_true (by kernel_rfl)⟩

/- slices.Equal[[]api.Field,api.Field] -/
noncomputable def c18 : Code := bodyOf Tryd.f18
noncomputable def r18_0 : Code := Code.sub [0] c18
noncomputable def r18_1 : Code := Code.sub [1, 0, 0] c18
noncomputable def r18_2 : Code := Code.sub [1, 0, 1, 0, 0] c18
noncomputable def r18_3 : Code := Code.sub [1, 1, 0, 0] c18
noncomputable def r18_4 : Code := Code.sub [1, 1, 0, 1, 0, 0, 0] c18
noncomputable def r18_5 : Code := Code.sub [1, 1, 0, 1, 0, 0, 1, 1, 0, 0, 0] c18
noncomputable def r18_6 : Code := Code.sub [1, 1, 0, 1, 0, 0, 1, 1, 0, 0, 1, 0] c18
noncomputable def r18_7 : Code := Code.sub [1, 1, 0, 1, 0, 0, 1, 1, 0, 0, 1, 1, 0, 0] c18
noncomputable def r18_8 : Code := Code.sub [1, 1, 0, 1, 0, 0, 1, 1, 1] c18
noncomputable def r18_9 : Code := Code.sub [1, 1, 1, 0] c18
theorem body18 : c18 = (.seq r18_0 (.seq (.seq r18_1 (.cond (.tmp 10) (.seq r18_2 .ret) .skip)) (.seq (.seq r18_3 (.block 0 (.loop (.seq r18_4 (.seq (.cond (.tmp 14) .skip (.exit 0)) (.seq (.block 1 (.seq r18_5 (.seq r18_6 (.cond (.tmp 24) (.seq r18_7 .ret) .skip)))) r18_8)))))) (.seq r18_9 .ret)))) := by kernel_rfl
noncomputable def L18_0 : {l : List Oper // (opsOf r18_0).map strip = l} := by refine ⟨?l, ?h⟩; case h => simp only [r18_0, c18, bodyOf, Tryd.f18, Code.sub, opsOf, List.map_cons, List.map_nil, strip]; rfl
theorem w18_0 : W Tryd.prog TT S 14 [14, 24] r18_0 k E m Q ↔ Rg Tryd.prog TT S 14 [14, 24] [4] [] (lgo E [] (lops Tryd.prog (callw Tryd.prog TT S) [(some 4)] (L18_0).1 E m)) k E Q := w_plain (by kernel_rfl) (L18_0).2
noncomputable def L18_1 : {l : List Oper // (opsOf r18_1).map strip = l} := by refine ⟨?l, ?h⟩; case h => simp only [r18_1, c18, bodyOf, Tryd.f18, Code.sub, opsOf, List.map_cons, List.map_nil, strip]; rfl
theorem w18_1 : W Tryd.prog TT S 14 [14, 24] r18_1 k E m Q ↔ Rg Tryd.prog TT S 14 [14, 24] [6, 7, 8, 9, 10] [] (lgo E [0, 1] (lops Tryd.prog (callw Tryd.prog TT S) [(some 6), (some 7), (some 8), (some 9), (some 10)] (L18_1).1 E m)) k E Q := w_plain (by kernel_rfl) (L18_1).2
noncomputable def L18_2 : {l : List Oper // (opsOf r18_2).map strip = l} := by refine ⟨?l, ?h⟩; case h => simp only [r18_2, c18, bodyOf, Tryd.f18, Code.sub, opsOf, List.map_cons, List.map_nil, strip]; rfl
theorem w18_2 : W Tryd.prog TT S 14 [14, 24] r18_2 k E m Q ↔ Rg Tryd.prog TT S 14 [14, 24] [4] [] (lgo E [] (lops Tryd.prog (callw Tryd.prog TT S) [(some 4)] (L18_2).1 E m)) k E Q := w_plain (by kernel_rfl) (L18_2).2
noncomputable def L18_3 : {l : List Oper // (opsOf r18_3).map strip = l} := by refine ⟨?l, ?h⟩; case h => simp only [r18_3, c18, bodyOf, Tryd.f18, Code.sub, opsOf, List.map_cons, List.map_nil, strip]; rfl
theorem w18_3 : W Tryd.prog TT S 14 [14, 24] r18_3 k E m Q ↔ Rg Tryd.prog TT S 14 [14, 24] [11, 12, 13] [] (lgo E [0] (lops Tryd.prog (callw Tryd.prog TT S) [(some 11), (some 12), (some 13)] (L18_3).1 E m)) k E Q := w_plain (by kernel_rfl) (L18_3).2
noncomputable def L18_4 : {l : List Oper // (opsOf r18_4).map strip = l} := by refine ⟨?l, ?h⟩; case h => simp only [r18_4, c18, bodyOf, Tryd.f18, Code.sub, opsOf, List.map_cons, List.map_nil, strip]; rfl
theorem w18_4 : W Tryd.prog TT S 14 [14, 24] r18_4 k E m Q ↔ Rg Tryd.prog TT S 14 [14, 24] [] [14] (lgo E [13, 12] (lops Tryd.prog (callw Tryd.prog TT S) [(some 14)] (L18_4).1 E m)) k E Q := w_plain (by kernel_rfl) (L18_4).2
noncomputable def L18_5 : {l : List Oper // (opsOf r18_5).map strip = l} := by refine ⟨?l, ?h⟩; case h => simp only [r18_5, c18, bodyOf, Tryd.f18, Code.sub, opsOf, List.map_cons, List.map_nil, strip]; rfl
theorem w18_5 : W Tryd.prog TT S 14 [14, 24] r18_5 k E m Q ↔ Rg Tryd.prog TT S 14 [14, 24] [5] [] (lgo E [13] (lops Tryd.prog (callw Tryd.prog TT S) [(some 15), (some 5)] (L18_5).1 E m)) k E Q := w_plain (by kernel_rfl) (L18_5).2
noncomputable def L18_6 : {l : List Oper // (opsOf r18_6).map strip = l} := by refine ⟨?l, ?h⟩; case h => simp only [r18_6, c18, bodyOf, Tryd.f18, Code.sub, opsOf, List.map_cons, List.map_nil, strip]; rfl
theorem w18_6 : W Tryd.prog TT S 14 [14, 24] r18_6 k E m Q ↔ Rg Tryd.prog TT S 14 [14, 24] [] [24] (lgo E [0, 1, 5] (lops Tryd.prog (callw Tryd.prog TT S) [(some 16), (some 17), (some 18), (some 19), (some 20), (some 21), (some 22), (some 23), (some 24)] (L18_6).1 E m)) k E Q := w_plain (by kernel_rfl) (L18_6).2
noncomputable def L18_7 : {l : List Oper // (opsOf r18_7).map strip = l} := by refine ⟨?l, ?h⟩; case h => simp only [r18_7, c18, bodyOf, Tryd.f18, Code.sub, opsOf, List.map_cons, List.map_nil, strip]; rfl
theorem w18_7 : W Tryd.prog TT S 14 [14, 24] r18_7 k E m Q ↔ Rg Tryd.prog TT S 14 [14, 24] [4] [] (lgo E [] (lops Tryd.prog (callw Tryd.prog TT S) [(some 4)] (L18_7).1 E m)) k E Q := w_plain (by kernel_rfl) (L18_7).2
noncomputable def L18_8 : {l : List Oper // (opsOf r18_8).map strip = l} := by refine ⟨?l, ?h⟩; case h => simp only [r18_8, c18, bodyOf, Tryd.f18, Code.sub, opsOf, List.map_cons, List.map_nil, strip]; rfl
theorem w18_8 : W Tryd.prog TT S 14 [14, 24] r18_8 k E m Q ↔ Rg Tryd.prog TT S 14 [14, 24] [13] [] (lgo E [13] (lops Tryd.prog (callw Tryd.prog TT S) [(some 25), (some 13)] (L18_8).1 E m)) k E Q := w_plain (by kernel_rfl) (L18_8).2
noncomputable def L18_9 : {l : List Oper // (opsOf r18_9).map strip = l} := by refine ⟨?l, ?h⟩; case h => simp only [r18_9, c18, bodyOf, Tryd.f18, Code.sub, opsOf, List.map_cons, List.map_nil, strip]; rfl
theorem w18_9 : W Tryd.prog TT S 14 [14, 24] r18_9 k E m Q ↔ Rg Tryd.prog TT S 14 [14, 24] [4] [] (lgo E [] (lops Tryd.prog (callw Tryd.prog TT S) [(some 4)] (L18_9).1 E m)) k E Q := w_plain (by kernel_rfl) (L18_9).2
theorem k18 : FnIs TT 18 c18 [.tmp 4] 2 := ⟨Tryd.f18, by kernel_rfl, by simp only [Tryd.f18, c18, bodyOf], by kernel_rfl, of_decide_eq_true (by kernel_rfl)⟩

/- slices.Equal[[]int,int] -/
noncomputable def c19 : Code := bodyOf Tryd.f19
noncomputable def r19_0 : Code := Code.sub [0] c19
noncomputable def r19_1 : Code := Code.sub [1, 0, 0] c19
noncomputable def r19_2 : Code := Code.sub [1, 0, 1, 0, 0] c19
noncomputable def r19_3 : Code := Code.sub [1, 1, 0, 0] c19
noncomputable def r19_4 : Code := Code.sub [1, 1, 0, 1, 0, 0, 0] c19
noncomputable def r19_5 : Code := Code.sub [1, 1, 0, 1, 0, 0, 1, 1, 0, 0, 0] c19
noncomputable def r19_6 : Code := Code.sub [1, 1, 0, 1, 0, 0, 1, 1, 0, 0, 1, 0] c19
noncomputable def r19_7 : Code := Code.sub [1, 1, 0, 1, 0, 0, 1, 1, 0, 0, 1, 1, 0, 0] c19
noncomputable def r19_8 : Code := Code.sub [1, 1, 0, 1, 0, 0, 1, 1, 1] c19
noncomputable def r19_9 : Code := Code.sub [1, 1, 1, 0] c19
theorem body19 : c19 = (.seq r19_0 (.seq (.seq r19_1 (.cond (.tmp 10) (.seq r19_2 .ret) .skip)) (.seq (.seq r19_3 (.block 0 (.loop (.seq r19_4 (.seq (.cond (.tmp 14) .skip (.exit 0)) (.seq (.block 1 (.seq r19_5 (.seq r19_6 (.cond (.tmp 24) (.seq r19_7 .ret) .skip)))) r19_8)))))) (.seq r19_9 .ret)))) := by kernel_rfl
noncomputable def L19_0 : {l : List Oper // (opsOf r19_0).map strip = l} := by refine ⟨?l, ?h⟩; case h => simp only [r19_0, c19, bodyOf, Tryd.f19, Code.sub, opsOf, List.map_cons, List.map_nil, strip]; rfl
theorem w19_0 : W Tryd.prog TT S 14 [14, 24] r19_0 k E m Q ↔ Rg Tryd.prog TT S 14 [14, 24] [4] [] (lgo E [] (lops Tryd.prog (callw Tryd.prog TT S) [(some 4)] (L19_0).1 E m)) k E Q := w_plain (by kernel_rfl) (L19_0).2
noncomputable def L19_1 : {l : List Oper // (opsOf r19_1).map strip = l} := by refine ⟨?l, ?h⟩; case h => simp only [r19_1, c19, bodyOf, Tryd.f19, Code.sub, opsOf, List.map_cons, List.map_nil, strip]; rfl
theorem w19_1 : W Tryd.prog TT S 14 [14, 24] r19_1 k E m Q ↔ Rg Tryd.prog TT S 14 [14, 24] [6, 7, 8, 9, 10] [] (lgo E [0, 1] (lops Tryd.prog (callw Tryd.prog TT S) [(some 6), (some 7), (some 8), (some 9), (some 10)] (L19_1).1 E m)) k E Q := w_plain (by kernel_rfl) (L19_1).2
noncomputable def L19_2 : {l : List Oper // (opsOf r19_2).map strip = l} := by refine ⟨?l, ?h⟩; case h => simp only [r19_2, c19, bodyOf, Tryd.f19, Code.sub, opsOf, List.map_cons, List.map_nil, strip]; rfl
theorem w19_2 : W Tryd.prog TT S 14 [14, 24] r19_2 k E m Q ↔ Rg Tryd.prog TT S 14 [14, 24] [4] [] (lgo E [] (lops Tryd.prog (callw Tryd.prog TT S) [(some 4)] (L19_2).1 E m)) k E Q := w_plain (by kernel_rfl) (L19_2).2
noncomputable def L19_3 : {l : List Oper // (opsOf r19_3).map strip = l} := by refine ⟨?l, ?h⟩; case h => simp only [r19_3, c19, bodyOf, Tryd.f19, Code.sub, opsOf, List.map_cons, List.map_nil, strip]; rfl
theorem w19_3 : W Tryd.prog TT S 14 [14, 24] r19_3 k E m Q ↔ Rg Tryd.prog TT S 14 [14, 24] [11, 12, 13] [] (lgo E [0] (lops Tryd.prog (callw Tryd.prog TT S) [(some 11), (some 12), (some 13)] (L19_3).1 E m)) k E Q := w_plain (by kernel_rfl) (L19_3).2
noncomputable def L19_4 : {l : List Oper // (opsOf r19_4).map strip = l} := by refine ⟨?l, ?h⟩; case h => simp only [r19_4, c19, bodyOf, Tryd.f19, Code.sub, opsOf, List.map_cons, List.map_nil, strip]; rfl
theorem w19_4 : W Tryd.prog TT S 14 [14, 24] r19_4 k E m Q ↔ Rg Tryd.prog TT S 14 [14, 24] [] [14] (lgo E [13, 12] (lops Tryd.prog (callw Tryd.prog TT S) [(some 14)] (L19_4).1 E m)) k E Q := w_plain (by kernel_rfl) (L19_4).2
noncomputable def L19_5 : {l : List Oper // (opsOf r19_5).map strip = l} := by refine ⟨?l, ?h⟩; case h => simp only [r19_5, c19, bodyOf, Tryd.f19, Code.sub, opsOf, List.map_cons, List.map_nil, strip]; rfl
theorem w19_5 : W Tryd.prog TT S 14 [14, 24] r19_5 k E m Q ↔ Rg Tryd.prog TT S 14 [14, 24] [5] [] (lgo E [13] (lops Tryd.prog (callw Tryd.prog TT S) [(some 15), (some 5)] (L19_5).1 E m)) k E Q := w_plain (by kernel_rfl) (L19_5).2
noncomputable def L19_6 : {l : List Oper // (opsOf r19_6).map strip = l} := by refine ⟨?l, ?h⟩; case h => simp only [r19_6, c19, bodyOf, Tryd.f19, Code.sub, opsOf, List.map_cons, List.map_nil, strip]; rfl
theorem w19_6 : W Tryd.prog TT S 14 [14, 24] r19_6 k E m Q ↔ Rg Tryd.prog TT S 14 [14, 24] [] [24] (lgo E [0, 1, 5] (lops Tryd.prog (callw Tryd.prog TT S) [(some 16), (some 17), (some 18), (some 19), (some 20), (some 21), (some 22), (some 23), (some 24)] (L19_6).1 E m)) k E Q := w_plain (by kernel_rfl) (L19_6).2
noncomputable def L19_7 : {l : List Oper // (opsOf r19_7).map strip = l} := by refine ⟨?l, ?h⟩; case h => simp only [r19_7, c19, bodyOf, Tryd.f19, Code.sub, opsOf, List.map_cons, List.map_nil, strip]; rfl
theorem w19_7 : W Tryd.prog TT S 14 [14, 24] r19_7 k E m Q ↔ Rg Tryd.prog TT S 14 [14, 24] [4] [] (lgo E [] (lops Tryd.prog (callw Tryd.prog TT S) [(some 4)] (L19_7).1 E m)) k E Q := w_plain (by kernel_rfl) (L19_7).2
noncomputable def L19_8 : {l : List Oper // (opsOf r19_8).map strip = l} := by refine ⟨?l, ?h⟩; case h => simp only [r19_8, c19, bodyOf, Tryd.f19, Code.sub, opsOf, List.map_cons, List.map_nil, strip]; rfl
theorem w19_8 : W Tryd.prog TT S 14 [14, 24] r19_8 k E m Q ↔ Rg Tryd.prog TT S 14 [14, 24] [13] [] (lgo E [13] (lops Tryd.prog (callw Tryd.prog TT S) [(some 25), (some 13)] (L19_8).1 E m)) k E Q := w_plain (by kernel_rfl) (L19_8).2
noncomputable def L19_9 : {l : List Oper // (opsOf r19_9).map strip = l} := by refine ⟨?l, ?h⟩; case h => simp only [r19_9, c19, bodyOf, Tryd.f19, Code.sub, opsOf, List.map_cons, List.map_nil, strip]; rfl
theorem w19_9 : W Tryd.prog TT S 14 [14, 24] r19_9 k E m Q ↔ Rg Tryd.prog TT S 14 [14, 24] [4] [] (lgo E [] (lops Tryd.prog (callw Tryd.prog TT S) [(some 4)] (L19_9).1 E m)) k E Q := w_plain (by kernel_rfl) (L19_9).2
theorem k19 : FnIs TT 19 c19 [.tmp 4] 2 := ⟨Tryd.f19, by kernel_rfl, by simp only [Tryd.f19, c19, bodyOf], by kernel_rfl, of_decide_eq_true (by kernel_rfl)⟩

/- turnstoneref1.sameInts -/
noncomputable def c20 : Code := bodyOf Tryd.f20
noncomputable def r20_0 : Code := Code.sub [0] c20
noncomputable def r20_1 : Code := Code.sub [1, 0, 0] c20
noncomputable def r20_2 : Code := Code.sub [1, 0, 1, 0, 0] c20
noncomputable def r20_3 : Code := Code.sub [1, 1, 0, 0] c20
noncomputable def r20_4 : Code := Code.sub [1, 1, 0, 1, 0, 0, 0, 0] c20
noncomputable def r20_5 : Code := Code.sub [1, 1, 0, 1, 0, 0, 1, 0, 0, 0] c20
noncomputable def r20_6 : Code := Code.sub [1, 1, 0, 1, 0, 0, 1, 0, 0, 1, 0, 0] c20
noncomputable def r20_7 : Code := Code.sub [1, 1, 0, 1, 0, 0, 1, 1] c20
noncomputable def r20_8 : Code := Code.sub [1, 1, 1, 0] c20
theorem body20 : c20 = (.seq r20_0 (.seq (.seq r20_1 (.cond (.tmp 10) (.seq r20_2 .ret) .skip)) (.seq (.seq r20_3 (.block 0 (.loop (.seq (.seq r20_4 (.cond (.tmp 14) .skip (.exit 0))) (.seq (.block 1 (.seq r20_5 (.cond (.tmp 25) (.seq r20_6 .ret) .skip))) r20_7))))) (.seq r20_8 .ret)))) := by kernel_rfl
noncomputable def L20_0 : {l : List Oper // (opsOf r20_0).map strip = l} := by refine ⟨?l, ?h⟩; case h => simp only [r20_0, c20, bodyOf, Tryd.f20, Code.sub, opsOf, List.map_cons, List.map_nil, strip]; rfl
theorem w20_0 : W Tryd.prog TT S 6 [10, 14, 25] r20_0 k E m Q ↔ Rg Tryd.prog TT S 6 [10, 14, 25] [4] [] (lgo E [] (lops Tryd.prog (callw Tryd.prog TT S) [(some 4)] (L20_0).1 E m)) k E Q := w_plain (by kernel_rfl) (L20_0).2
noncomputable def L20_1 : {l : List Oper // (opsOf r20_1).map strip = l} := by refine ⟨?l, ?h⟩; case h => simp only [r20_1, c20, bodyOf, Tryd.f20, Code.sub, opsOf, List.map_cons, List.map_nil, strip]; rfl
theorem w20_1 : W Tryd.prog TT S 6 [10, 14, 25] r20_1 k E m Q ↔ Rg Tryd.prog TT S 6 [10, 14, 25] [] [10] (lgo E [0, 1] (lops Tryd.prog (callw Tryd.prog TT S) [(some 6), (some 7), (some 8), (some 9), (some 10)] (L20_1).1 E m)) k E Q := w_plain (by kernel_rfl) (L20_1).2
noncomputable def L20_2 : {l : List Oper // (opsOf r20_2).map strip = l} := by refine ⟨?l, ?h⟩; case h => simp only [r20_2, c20, bodyOf, Tryd.f20, Code.sub, opsOf, List.map_cons, List.map_nil, strip]; rfl
theorem w20_2 : W Tryd.prog TT S 6 [10, 14, 25] r20_2 k E m Q ↔ Rg Tryd.prog TT S 6 [10, 14, 25] [4] [] (lgo E [] (lops Tryd.prog (callw Tryd.prog TT S) [(some 4)] (L20_2).1 E m)) k E Q := w_plain (by kernel_rfl) (L20_2).2
noncomputable def L20_3 : {l : List Oper // (opsOf r20_3).map strip = l} := by refine ⟨?l, ?h⟩; case h => simp only [r20_3, c20, bodyOf, Tryd.f20, Code.sub, opsOf, List.map_cons, List.map_nil, strip]; rfl
theorem w20_3 : W Tryd.prog TT S 6 [10, 14, 25] r20_3 k E m Q ↔ Rg Tryd.prog TT S 6 [10, 14, 25] [5] [] (lgo E [] (lops Tryd.prog (callw Tryd.prog TT S) [(some 5)] (L20_3).1 E m)) k E Q := w_plain (by kernel_rfl) (L20_3).2
noncomputable def L20_4 : {l : List Oper // (opsOf r20_4).map strip = l} := by refine ⟨?l, ?h⟩; case h => simp only [r20_4, c20, bodyOf, Tryd.f20, Code.sub, opsOf, List.map_cons, List.map_nil, strip]; rfl
theorem w20_4 : W Tryd.prog TT S 6 [10, 14, 25] r20_4 k E m Q ↔ Rg Tryd.prog TT S 6 [10, 14, 25] [] [14] (lgo E [5, 0] (lops Tryd.prog (callw Tryd.prog TT S) [(some 11), (some 12), (some 13), (some 14)] (L20_4).1 E m)) k E Q := w_plain (by kernel_rfl) (L20_4).2
noncomputable def L20_5 : {l : List Oper // (opsOf r20_5).map strip = l} := by refine ⟨?l, ?h⟩; case h => simp only [r20_5, c20, bodyOf, Tryd.f20, Code.sub, opsOf, List.map_cons, List.map_nil, strip]; rfl
theorem w20_5 : W Tryd.prog TT S 6 [10, 14, 25] r20_5 k E m Q ↔ Rg Tryd.prog TT S 6 [10, 14, 25] [] [25] (lgo E [0, 1, 5] (lops Tryd.prog (callw Tryd.prog TT S) [(some 17), (some 18), (some 19), (some 20), (some 21), (some 22), (some 23), (some 24), (some 25)] (L20_5).1 E m)) k E Q := w_plain (by kernel_rfl) (L20_5).2
noncomputable def L20_6 : {l : List Oper // (opsOf r20_6).map strip = l} := by refine ⟨?l, ?h⟩; case h => simp only [r20_6, c20, bodyOf, Tryd.f20, Code.sub, opsOf, List.map_cons, List.map_nil, strip]; rfl
theorem w20_6 : W Tryd.prog TT S 6 [10, 14, 25] r20_6 k E m Q ↔ Rg Tryd.prog TT S 6 [10, 14, 25] [4] [] (lgo E [] (lops Tryd.prog (callw Tryd.prog TT S) [(some 4)] (L20_6).1 E m)) k E Q := w_plain (by kernel_rfl) (L20_6).2
noncomputable def L20_7 : {l : List Oper // (opsOf r20_7).map strip = l} := by refine ⟨?l, ?h⟩; case h => simp only [r20_7, c20, bodyOf, Tryd.f20, Code.sub, opsOf, List.map_cons, List.map_nil, strip]; rfl
theorem w20_7 : W Tryd.prog TT S 6 [10, 14, 25] r20_7 k E m Q ↔ Rg Tryd.prog TT S 6 [10, 14, 25] [5] [] (lgo E [5] (lops Tryd.prog (callw Tryd.prog TT S) [(some 15), (some 16), (some 5)] (L20_7).1 E m)) k E Q := w_plain (by kernel_rfl) (L20_7).2
noncomputable def L20_8 : {l : List Oper // (opsOf r20_8).map strip = l} := by refine ⟨?l, ?h⟩; case h => simp only [r20_8, c20, bodyOf, Tryd.f20, Code.sub, opsOf, List.map_cons, List.map_nil, strip]; rfl
theorem w20_8 : W Tryd.prog TT S 6 [10, 14, 25] r20_8 k E m Q ↔ Rg Tryd.prog TT S 6 [10, 14, 25] [4] [] (lgo E [] (lops Tryd.prog (callw Tryd.prog TT S) [(some 4)] (L20_8).1 E m)) k E Q := w_plain (by kernel_rfl) (L20_8).2
theorem k20 : FnIs TT 20 c20 [.tmp 4] 2 := ⟨Tryd.f20, by kernel_rfl, by simp only [Tryd.f20, c20, bodyOf], by kernel_rfl, of_decide_eq_true (by kernel_rfl)⟩

/- kinds.Base -/
noncomputable def c21 : Code := bodyOf Tryd.f21
noncomputable def r21_0 : Code := Code.sub [0] c21
noncomputable def r21_1 : Code := Code.sub [1, 0] c21
theorem body21 : c21 = (.seq r21_0 (.seq r21_1 .ret)) := by kernel_rfl
noncomputable def L21_0 : {l : List Oper // (opsOf r21_0).map strip = l} := by refine ⟨?l, ?h⟩; case h => simp only [r21_0, c21, bodyOf, Tryd.f21, Code.sub, opsOf, List.map_cons, List.map_nil, strip]; rfl
theorem w21_0 : W Tryd.prog TT S 1 [] r21_0 k E m Q ↔ Rg Tryd.prog TT S 1 [] [0] [] (lgo E [] (lops Tryd.prog (callw Tryd.prog TT S) [(some 0)] (L21_0).1 E m)) k E Q := w_plain (by kernel_rfl) (L21_0).2
noncomputable def L21_1 : {l : List Oper // (opsOf r21_1).map strip = l} := by refine ⟨?l, ?h⟩; case h => simp only [r21_1, c21, bodyOf, Tryd.f21, Code.sub, opsOf, List.map_cons, List.map_nil, strip]; rfl
theorem w21_1 : W Tryd.prog TT S 1 [] r21_1 k E m Q ↔ Rg Tryd.prog TT S 1 [] [0] [] (lgo E [] (lops Tryd.prog (callw Tryd.prog TT S) [(some 1), (some 2), (some 3), (some 4), (some 5), (some 6), (some 0)] (L21_1).1 E m)) k E Q := w_plain (by kernel_rfl) (L21_1).2
theorem k21 : FnIs TT 21 c21 [.tmp 0] 0 := ⟨Tryd.f21, by kernel_rfl, by simp only [Tryd.f21, c21, bodyOf], by kernel_rfl, of_decide_eq_true (by kernel_rfl)⟩

/- kinds.one -/
noncomputable def c22 : Code := bodyOf Tryd.f22
noncomputable def r22_0 : Code := Code.sub [0] c22
noncomputable def r22_1 : Code := Code.sub [1, 0, 0] c22
noncomputable def r22_2 : Code := Code.sub [1, 0, 1, 0, 0] c22
noncomputable def r22_3 : Code := Code.sub [1, 0, 1, 0, 1, 0, 0] c22
noncomputable def r22_4 : Code := Code.sub [1, 0, 1, 0, 1, 1, 0] c22
noncomputable def r22_5 : Code := Code.sub [1, 0, 1, 0, 1, 1, 1, 0, 0] c22
noncomputable def r22_6 : Code := Code.sub [1, 0, 1, 0, 1, 1, 1, 1, 0] c22
noncomputable def r22_7 : Code := Code.sub [1, 0, 1, 0, 1, 1, 1, 1, 1, 0, 0] c22
noncomputable def r22_8 : Code := Code.sub [1, 1, 0] c22
theorem body22 : c22 = (.seq r22_0 (.seq (.seq r22_1 (.block 0 (.seq r22_2 (.cond (.tmp 7) (.seq r22_3 .ret) (.seq r22_4 (.cond (.tmp 22) (.seq r22_5 .ret) (.seq r22_6 (.cond (.tmp 43) (.seq r22_7 .ret) .skip)))))))) (.seq r22_8 .ret))) := by kernel_rfl
noncomputable def L22_0 : {l : List Oper // (opsOf r22_0).map strip = l} := by refine ⟨?l, ?h⟩; case h => simp only [r22_0, c22, bodyOf, Tryd.f22, Code.sub, opsOf, List.map_cons, List.map_nil, strip]; rfl
theorem w22_0 : W Tryd.prog TT S 7 [7, 22, 43] r22_0 k E m Q ↔ Rg Tryd.prog TT S 7 [7, 22, 43] [3, 4] [] (lgo E [1] (lops Tryd.prog (callw Tryd.prog TT S) [(some 3), (some 4)] (L22_0).1 E m)) k E Q := w_plain (by kernel_rfl) (L22_0).2
noncomputable def L22_1 : {l : List Oper // (opsOf r22_1).map strip = l} := by refine ⟨?l, ?h⟩; case h => simp only [r22_1, c22, bodyOf, Tryd.f22, Code.sub, opsOf, List.map_cons, List.map_nil, strip]; rfl
theorem w22_1 : W Tryd.prog TT S 7 [7, 22, 43] r22_1 k E m Q ↔ Rg Tryd.prog TT S 7 [7, 22, 43] [5, 6] [] (lgo E [3] (lops Tryd.prog (callw Tryd.prog TT S) [(some 5), (some 6)] (L22_1).1 E m)) k E Q := w_plain (by kernel_rfl) (L22_1).2
noncomputable def L22_2 : {l : List Oper // (opsOf r22_2).map strip = l} := by refine ⟨?l, ?h⟩; case h => simp only [r22_2, c22, bodyOf, Tryd.f22, Code.sub, opsOf, List.map_cons, List.map_nil, strip]; rfl
theorem w22_2 : W Tryd.prog TT S 7 [7, 22, 43] r22_2 k E m Q ↔ Rg Tryd.prog TT S 7 [7, 22, 43] [] [7] (lgo E [6] (lops Tryd.prog (callw Tryd.prog TT S) [(some 8), (some 7)] (L22_2).1 E m)) k E Q := w_plain (by kernel_rfl) (L22_2).2
noncomputable def L22_3 : {l : List Oper // (opsOf r22_3).map strip = l} := by refine ⟨?l, ?h⟩; case h => simp only [r22_3, c22, bodyOf, Tryd.f22, Code.sub, opsOf, List.map_cons, List.map_nil, strip]; rfl
theorem w22_3 : W Tryd.prog TT S 7 [7, 22, 43] r22_3 k E m Q ↔ Rg Tryd.prog TT S 7 [7, 22, 43] [4] [] (lgo E [0, 3] (lops Tryd.prog (callw Tryd.prog TT S) [(some 9), (some 10), (some 11), (some 12), (some 13), (some 14), (some 15), (some 16), (some 17), (some 18), (some 19), (some 20), (some 21), (some 4)] (L22_3).1 E m)) k E Q := w_plain (by kernel_rfl) (L22_3).2
noncomputable def L22_4 : {l : List Oper // (opsOf r22_4).map strip = l} := by refine ⟨?l, ?h⟩; case h => simp only [r22_4, c22, bodyOf, Tryd.f22, Code.sub, opsOf, List.map_cons, List.map_nil, strip]; rfl
theorem w22_4 : W Tryd.prog TT S 7 [7, 22, 43] r22_4 k E m Q ↔ Rg Tryd.prog TT S 7 [7, 22, 43] [] [22] (lgo E [6] (lops Tryd.prog (callw Tryd.prog TT S) [(some 23), (some 22)] (L22_4).1 E m)) k E Q := w_plain (by kernel_rfl) (L22_4).2
noncomputable def L22_5 : {l : List Oper // (opsOf r22_5).map strip = l} := by refine ⟨?l, ?h⟩; case h => simp only [r22_5, c22, bodyOf, Tryd.f22, Code.sub, opsOf, List.map_cons, List.map_nil, strip]; rfl
theorem w22_5 : W Tryd.prog TT S 7 [7, 22, 43] r22_5 k E m Q ↔ Rg Tryd.prog TT S 7 [7, 22, 43] [4] [] (lgo E [0, 3] (lops Tryd.prog (callw Tryd.prog TT S) [(some 24), (some 25), (some 26), (some 27), (some 28), (some 29), (some 30), (some 31), (some 32), (some 33), (some 34), (some 35), (some 36), (some 37), (some 38), (some 39), (some 40), (some 41), (some 42), (some 4)] (L22_5).1 E m)) k E Q := w_plain (by kernel_rfl) (L22_5).2
noncomputable def L22_6 : {l : List Oper // (opsOf r22_6).map strip = l} := by refine ⟨?l, ?h⟩; case h => simp only [r22_6, c22, bodyOf, Tryd.f22, Code.sub, opsOf, List.map_cons, List.map_nil, strip]; rfl
theorem w22_6 : W Tryd.prog TT S 7 [7, 22, 43] r22_6 k E m Q ↔ Rg Tryd.prog TT S 7 [7, 22, 43] [] [43] (lgo E [6] (lops Tryd.prog (callw Tryd.prog TT S) [(some 44), (some 43)] (L22_6).1 E m)) k E Q := w_plain (by kernel_rfl) (L22_6).2
noncomputable def L22_7 : {l : List Oper // (opsOf r22_7).map strip = l} := by refine ⟨?l, ?h⟩; case h => simp only [r22_7, c22, bodyOf, Tryd.f22, Code.sub, opsOf, List.map_cons, List.map_nil, strip]; rfl
theorem w22_7 : W Tryd.prog TT S 7 [7, 22, 43] r22_7 k E m Q ↔ Rg Tryd.prog TT S 7 [7, 22, 43] [4] [] (lgo E [0, 3] (lops Tryd.prog (callw Tryd.prog TT S) [(some 45), (some 46), (some 47), (some 48), (some 49), (some 50), (some 51), (some 52), (some 53), (some 54), (some 55), (some 56), (some 57), (some 58), (some 59), (some 60), (some 61), (some 62), (some 63), (some 64), (some 65), (some 4)] (L22_7).1 E m)) k E Q := w_plain (by kernel_rfl) (L22_7).2
noncomputable def L22_8 : {l : List Oper // (opsOf r22_8).map strip = l} := by refine ⟨?l, ?h⟩; case h => simp only [r22_8, c22, bodyOf, Tryd.f22, Code.sub, opsOf, List.map_cons, List.map_nil, strip]; rfl
theorem w22_8 : W Tryd.prog TT S 7 [7, 22, 43] r22_8 k E m Q ↔ Rg Tryd.prog TT S 7 [7, 22, 43] [4] [] (lgo E [] (lops Tryd.prog (callw Tryd.prog TT S) [(some 4)] (L22_8).1 E m)) k E Q := w_plain (by kernel_rfl) (L22_8).2
theorem k22 : FnIs TT 22 c22 [.tmp 4] 2 := ⟨Tryd.f22, by kernel_rfl, by simp only [Tryd.f22, c22, bodyOf], by kernel_rfl, of_decide_eq_true (by kernel_rfl)⟩

/- kinds.of -/
noncomputable def c23 : Code := bodyOf Tryd.f23
noncomputable def r23_0 : Code := Code.sub [0] c23
noncomputable def r23_1 : Code := Code.sub [1, 0, 0] c23
noncomputable def r23_2 : Code := Code.sub [1, 0, 1, 0, 0] c23
noncomputable def r23_3 : Code := Code.sub [1, 1, 0] c23
theorem body23 : c23 = (.seq r23_0 (.seq (.seq r23_1 (.cond (.tmp 13) (.seq r23_2 .ret) .skip)) (.seq r23_3 .ret))) := by kernel_rfl
noncomputable def L23_0 : {l : List Oper // (opsOf r23_0).map strip = l} := by refine ⟨?l, ?h⟩; case h => simp only [r23_0, c23, bodyOf, Tryd.f23, Code.sub, opsOf, List.map_cons, List.map_nil, strip]; rfl
theorem w23_0 : W Tryd.prog TT S 6 [13] r23_0 k E m Q ↔ Rg Tryd.prog TT S 6 [13] [4, 5] [] (lgo E [] (lops Tryd.prog (callw Tryd.prog TT S) [(some 4), (some 5)] (L23_0).1 E m)) k E Q := w_plain (by kernel_rfl) (L23_0).2
noncomputable def L23_1 : {l : List Oper // (opsOf r23_1).map strip = l} := by refine ⟨?l, ?h⟩; case h => simp only [r23_1, c23, bodyOf, Tryd.f23, Code.sub, opsOf, List.map_cons, List.map_nil, strip]; rfl
theorem w23_1 : W Tryd.prog TT S 6 [13] r23_1 k E m Q ↔ Rg Tryd.prog TT S 6 [13] [] [13] (lgo E [1, 0] (lops Tryd.prog (callw Tryd.prog TT S) [(some 6), (some 7), (some 8), (some 9), (some 10), (some 11), (some 12), (some 13)] (L23_1).1 E m)) k E Q := w_plain (by kernel_rfl) (L23_1).2
noncomputable def L23_2 : {l : List Oper // (opsOf r23_2).map strip = l} := by refine ⟨?l, ?h⟩; case h => simp only [r23_2, c23, bodyOf, Tryd.f23, Code.sub, opsOf, List.map_cons, List.map_nil, strip]; rfl
theorem w23_2 : W Tryd.prog TT S 6 [13] r23_2 k E m Q ↔ Rg Tryd.prog TT S 6 [13] [5] [] (lgo E [4] (lops Tryd.prog (callw Tryd.prog TT S) [(some 14), none, (some 5)] (L23_2).1 E m)) k E Q := w_plain (by kernel_rfl) (L23_2).2
noncomputable def L23_3 : {l : List Oper // (opsOf r23_3).map strip = l} := by refine ⟨?l, ?h⟩; case h => simp only [r23_3, c23, bodyOf, Tryd.f23, Code.sub, opsOf, List.map_cons, List.map_nil, strip]; rfl
theorem w23_3 : W Tryd.prog TT S 6 [13] r23_3 k E m Q ↔ Rg Tryd.prog TT S 6 [13] [5] [] (lgo E [0, 1, 4] (lops Tryd.prog (callw Tryd.prog TT S) [(some 15), (some 16), (some 17), (some 18), none, (some 5)] (L23_3).1 E m)) k E Q := w_plain (by kernel_rfl) (L23_3).2
theorem k23 : FnIs TT 23 c23 [.cell 4 25, .tmp 5] 2 := ⟨Tryd.f23, by kernel_rfl, by simp only [Tryd.f23, c23, bodyOf], by kernel_rfl, of_decide_eq_true (by kernel_rfl)⟩

/- slices.IndexFunc[[]api.Method,api.Method] -/
noncomputable def c24 : Code := bodyOf Tryd.f24
noncomputable def r24_0 : Code := Code.sub [0] c24
noncomputable def r24_1 : Code := Code.sub [1, 0, 0] c24
noncomputable def r24_2 : Code := Code.sub [1, 0, 1, 0, 0, 0] c24
noncomputable def r24_3 : Code := Code.sub [1, 0, 1, 0, 0, 1, 1, 0, 0, 0] c24
noncomputable def r24_4 : Code := Code.sub [1, 0, 1, 0, 0, 1, 1, 0, 0, 1, 0] c24
noncomputable def r24_5 : Code := Code.sub [1, 0, 1, 0, 0, 1, 1, 0, 0, 1, 1, 0, 0] c24
noncomputable def r24_6 : Code := Code.sub [1, 0, 1, 0, 0, 1, 1, 1] c24
noncomputable def r24_7 : Code := Code.sub [1, 1, 0] c24
theorem body24 : c24 = (.seq r24_0 (.seq (.seq r24_1 (.block 0 (.loop (.seq r24_2 (.seq (.cond (.tmp 9) .skip (.exit 0)) (.seq (.block 1 (.seq r24_3 (.seq r24_4 (.cond (.tmp 16) (.seq r24_5 .ret) .skip)))) r24_6)))))) (.seq r24_7 .ret))) := by kernel_rfl
noncomputable def L24_0 : {l : List Oper // (opsOf r24_0).map strip = l} := by refine ⟨?l, ?h⟩; case h => simp only [r24_0, c24, bodyOf, Tryd.f24, Code.sub, opsOf, List.map_cons, List.map_nil, strip]; rfl
theorem w24_0 : W Tryd.prog TT S 9 [9, 16] r24_0 k E m Q ↔ Rg Tryd.prog TT S 9 [9, 16] [4] [] (lgo E [] (lops Tryd.prog (callw Tryd.prog TT S) [(some 4)] (L24_0).1 E m)) k E Q := w_plain (by kernel_rfl) (L24_0).2
noncomputable def L24_1 : {l : List Oper // (opsOf r24_1).map strip = l} := by refine ⟨?l, ?h⟩; case h => simp only [r24_1, c24, bodyOf, Tryd.f24, Code.sub, opsOf, List.map_cons, List.map_nil, strip]; rfl
theorem w24_1 : W Tryd.prog TT S 9 [9, 16] r24_1 k E m Q ↔ Rg Tryd.prog TT S 9 [9, 16] [6, 7, 8] [] (lgo E [0] (lops Tryd.prog (callw Tryd.prog TT S) [(some 6), (some 7), (some 8)] (L24_1).1 E m)) k E Q := w_plain (by kernel_rfl) (L24_1).2
noncomputable def L24_2 : {l : List Oper // (opsOf r24_2).map strip = l} := by refine ⟨?l, ?h⟩; case h => simp only [r24_2, c24, bodyOf, Tryd.f24, Code.sub, opsOf, List.map_cons, List.map_nil, strip]; rfl
theorem w24_2 : W Tryd.prog TT S 9 [9, 16] r24_2 k E m Q ↔ Rg Tryd.prog TT S 9 [9, 16] [] [9] (lgo E [8, 7] (lops Tryd.prog (callw Tryd.prog TT S) [(some 9)] (L24_2).1 E m)) k E Q := w_plain (by kernel_rfl) (L24_2).2
noncomputable def L24_3 : {l : List Oper // (opsOf r24_3).map strip = l} := by refine ⟨?l, ?h⟩; case h => simp only [r24_3, c24, bodyOf, Tryd.f24, Code.sub, opsOf, List.map_cons, List.map_nil, strip]; rfl
theorem w24_3 : W Tryd.prog TT S 9 [9, 16] r24_3 k E m Q ↔ Rg Tryd.prog TT S 9 [9, 16] [5] [] (lgo E [8] (lops Tryd.prog (callw Tryd.prog TT S) [(some 10), (some 5)] (L24_3).1 E m)) k E Q := w_plain (by kernel_rfl) (L24_3).2
noncomputable def L24_4 : {l : List Oper // (opsOf r24_4).map strip = l} := by refine ⟨?l, ?h⟩; case h => simp only [r24_4, c24, bodyOf, Tryd.f24, Code.sub, opsOf, List.map_cons, List.map_nil, strip]; rfl
theorem w24_4 : W Tryd.prog TT S 9 [9, 16] r24_4 k E m Q ↔ Rg Tryd.prog TT S 9 [9, 16] [] [16] (lgo E [1, 0, 5] (lops Tryd.prog (callw Tryd.prog TT S) [(some 11), (some 12), (some 13), (some 14), (some 15), (some 16)] (L24_4).1 E m)) k E Q := w_plain (by kernel_rfl) (L24_4).2
noncomputable def L24_5 : {l : List Oper // (opsOf r24_5).map strip = l} := by refine ⟨?l, ?h⟩; case h => simp only [r24_5, c24, bodyOf, Tryd.f24, Code.sub, opsOf, List.map_cons, List.map_nil, strip]; rfl
theorem w24_5 : W Tryd.prog TT S 9 [9, 16] r24_5 k E m Q ↔ Rg Tryd.prog TT S 9 [9, 16] [4] [] (lgo E [5] (lops Tryd.prog (callw Tryd.prog TT S) [(some 17), (some 4)] (L24_5).1 E m)) k E Q := w_plain (by kernel_rfl) (L24_5).2
noncomputable def L24_6 : {l : List Oper // (opsOf r24_6).map strip = l} := by refine ⟨?l, ?h⟩; case h => simp only [r24_6, c24, bodyOf, Tryd.f24, Code.sub, opsOf, List.map_cons, List.map_nil, strip]; rfl
theorem w24_6 : W Tryd.prog TT S 9 [9, 16] r24_6 k E m Q ↔ Rg Tryd.prog TT S 9 [9, 16] [8] [] (lgo E [8] (lops Tryd.prog (callw Tryd.prog TT S) [(some 18), (some 8)] (L24_6).1 E m)) k E Q := w_plain (by kernel_rfl) (L24_6).2
noncomputable def L24_7 : {l : List Oper // (opsOf r24_7).map strip = l} := by refine ⟨?l, ?h⟩; case h => simp only [r24_7, c24, bodyOf, Tryd.f24, Code.sub, opsOf, List.map_cons, List.map_nil, strip]; rfl
theorem w24_7 : W Tryd.prog TT S 9 [9, 16] r24_7 k E m Q ↔ Rg Tryd.prog TT S 9 [9, 16] [4] [] (lgo E [] (lops Tryd.prog (callw Tryd.prog TT S) [(some 4)] (L24_7).1 E m)) k E Q := w_plain (by kernel_rfl) (L24_7).2
theorem k24 : FnIs TT 24 c24 [.tmp 4] 2 := ⟨Tryd.f24, by kernel_rfl, by simp only [Tryd.f24, c24, bodyOf], by kernel_rfl, of_decide_eq_true (by kernel_rfl)⟩

/- kinds.Method$1 -/
noncomputable def c25 : Code := bodyOf Tryd.f25
noncomputable def r25_0 : Code := Code.sub [0] c25
noncomputable def r25_1 : Code := Code.sub [1, 0] c25
theorem body25 : c25 = (.seq r25_0 (.seq r25_1 .ret)) := by kernel_rfl
noncomputable def L25_0 : {l : List Oper // (opsOf r25_0).map strip = l} := by refine ⟨?l, ?h⟩; case h => simp only [r25_0, c25, bodyOf, Tryd.f25, Code.sub, opsOf, List.map_cons, List.map_nil, strip]; rfl
theorem w25_0 : W Tryd.prog TT S 4 [] r25_0 k E m Q ↔ Rg Tryd.prog TT S 4 [] [2, 3] [] (lgo E [0] (lops Tryd.prog (callw Tryd.prog TT S) [(some 2), (some 3)] (L25_0).1 E m)) k E Q := w_plain (by kernel_rfl) (L25_0).2
noncomputable def L25_1 : {l : List Oper // (opsOf r25_1).map strip = l} := by refine ⟨?l, ?h⟩; case h => simp only [r25_1, c25, bodyOf, Tryd.f25, Code.sub, opsOf, List.map_cons, List.map_nil, strip]; rfl
theorem w25_1 : W Tryd.prog TT S 4 [] r25_1 k E m Q ↔ Rg Tryd.prog TT S 4 [] [3] [] (lgo E [2, 1] (lops Tryd.prog (callw Tryd.prog TT S) [(some 4), (some 5), (some 6), (some 7), (some 3)] (L25_1).1 E m)) k E Q := w_plain (by kernel_rfl) (L25_1).2
theorem k25 : FnIs TT 25 c25 [.tmp 3] 2 := ⟨Tryd.f25, by kernel_rfl, by simp only [Tryd.f25, c25, bodyOf], by kernel_rfl, of_decide_eq_true (by kernel_rfl)⟩

/- kinds.kind -/
noncomputable def c26 : Code := bodyOf Tryd.f26
noncomputable def r26_0 : Code := Code.sub [0] c26
noncomputable def r26_1 : Code := Code.sub [1, 0] c26
noncomputable def r26_2 : Code := Code.sub [1, 1, 0, 0] c26
noncomputable def r26_3 : Code := Code.sub [1, 1, 0, 1, 0, 0] c26
noncomputable def r26_4 : Code := Code.sub [1, 1, 1, 0] c26
theorem body26 : c26 = (.seq r26_0 (.seq r26_1 (.seq (.seq r26_2 (.cond (.tmp 14) (.seq r26_3 .ret) .skip)) (.seq r26_4 .ret)))) := by kernel_rfl
noncomputable def L26_0 : {l : List Oper // (opsOf r26_0).map strip = l} := by refine ⟨?l, ?h⟩; case h => simp only [r26_0, c26, bodyOf, Tryd.f26, Code.sub, opsOf, List.map_cons, List.map_nil, strip]; rfl
theorem w26_0 : W Tryd.prog TT S 7 [14] r26_0 k E m Q ↔ Rg Tryd.prog TT S 7 [14] [4] [] (lgo E [] (lops Tryd.prog (callw Tryd.prog TT S) [(some 4)] (L26_0).1 E m)) k E Q := w_plain (by kernel_rfl) (L26_0).2
noncomputable def L26_1 : {l : List Oper // (opsOf r26_1).map strip = l} := by refine ⟨?l, ?h⟩; case h => simp only [r26_1, c26, bodyOf, Tryd.f26, Code.sub, opsOf, List.map_cons, List.map_nil, strip]; rfl
theorem w26_1 : W Tryd.prog TT S 7 [14] r26_1 k E m Q ↔ Rg Tryd.prog TT S 7 [14] [5, 6] [] (lgo E [0, 1] (lops Tryd.prog (callw Tryd.prog TT S) [(some 8), (some 9), (some 10), (some 7), (some 11), (some 12), (some 5), none, (some 6)] (L26_1).1 E m)) k E Q := w_plain (by kernel_rfl) (L26_1).2
noncomputable def L26_2 : {l : List Oper // (opsOf r26_2).map strip = l} := by refine ⟨?l, ?h⟩; case h => simp only [r26_2, c26, bodyOf, Tryd.f26, Code.sub, opsOf, List.map_cons, List.map_nil, strip]; rfl
theorem w26_2 : W Tryd.prog TT S 7 [14] r26_2 k E m Q ↔ Rg Tryd.prog TT S 7 [14] [] [14] (lgo E [6] (lops Tryd.prog (callw Tryd.prog TT S) [(some 13), (some 14)] (L26_2).1 E m)) k E Q := w_plain (by kernel_rfl) (L26_2).2
noncomputable def L26_3 : {l : List Oper // (opsOf r26_3).map strip = l} := by refine ⟨?l, ?h⟩; case h => simp only [r26_3, c26, bodyOf, Tryd.f26, Code.sub, opsOf, List.map_cons, List.map_nil, strip]; rfl
theorem w26_3 : W Tryd.prog TT S 7 [14] r26_3 k E m Q ↔ Rg Tryd.prog TT S 7 [14] [4] [] (lgo E [] (lops Tryd.prog (callw Tryd.prog TT S) [(some 4)] (L26_3).1 E m)) k E Q := w_plain (by kernel_rfl) (L26_3).2
noncomputable def L26_4 : {l : List Oper // (opsOf r26_4).map strip = l} := by refine ⟨?l, ?h⟩; case h => simp only [r26_4, c26, bodyOf, Tryd.f26, Code.sub, opsOf, List.map_cons, List.map_nil, strip]; rfl
theorem w26_4 : W Tryd.prog TT S 7 [14] r26_4 k E m Q ↔ Rg Tryd.prog TT S 7 [14] [4] [] (lgo E [5] (lops Tryd.prog (callw Tryd.prog TT S) [(some 15), (some 16), (some 4)] (L26_4).1 E m)) k E Q := w_plain (by kernel_rfl) (L26_4).2
theorem k26 : FnIs TT 26 c26 [.tmp 4] 2 := ⟨Tryd.f26, by kernel_rfl, by simp only [Tryd.f26, c26, bodyOf], by kernel_rfl, of_decide_eq_true (by kernel_rfl)⟩

/- kinds.Has -/
noncomputable def c27 : Code := bodyOf Tryd.f27
noncomputable def r27_0 : Code := Code.sub [0] c27
noncomputable def r27_1 : Code := Code.sub [1, 0, 0] c27
noncomputable def r27_2 : Code := Code.sub [1, 0, 1, 0, 0] c27
noncomputable def r27_3 : Code := Code.sub [1, 1, 0, 0] c27
noncomputable def r27_4 : Code := Code.sub [1, 1, 0, 1, 0, 0, 0] c27
noncomputable def r27_5 : Code := Code.sub [1, 1, 0, 1, 0, 0, 1, 1, 0, 0, 0] c27
noncomputable def r27_6 : Code := Code.sub [1, 1, 0, 1, 0, 0, 1, 1, 0, 0, 1, 0] c27
noncomputable def r27_7 : Code := Code.sub [1, 1, 0, 1, 0, 0, 1, 1, 0, 0, 1, 1, 0, 0] c27
noncomputable def r27_8 : Code := Code.sub [1, 1, 0, 1, 0, 0, 1, 1, 0, 0, 1, 1, 0, 1, 0, 0] c27
noncomputable def r27_9 : Code := Code.sub [1, 1, 0, 1, 0, 0, 1, 1, 0, 0, 1, 1, 1, 0] c27
noncomputable def r27_10 : Code := Code.sub [1, 1, 0, 1, 0, 0, 1, 1, 0, 0, 1, 1, 1, 1, 0] c27
noncomputable def r27_11 : Code := Code.sub [1, 1, 0, 1, 0, 0, 1, 1, 0, 0, 1, 1, 1, 1, 1, 0, 0] c27
noncomputable def r27_12 : Code := Code.sub [1, 1, 0, 1, 0, 0, 1, 1, 1] c27
noncomputable def r27_13 : Code := Code.sub [1, 1, 1, 0] c27
theorem body27 : c27 = (.seq r27_0 (.seq (.seq r27_1 (.cond (.tmp 21) (.seq r27_2 .ret) .skip)) (.seq (.seq r27_3 (.block 0 (.loop (.seq r27_4 (.seq (.cond (.tmp 29) .skip (.exit 0)) (.seq (.block 1 (.seq r27_5 (.seq r27_6 (.seq (.seq r27_7 (.cond (.tmp 41) (.seq r27_8 .ret) .skip)) (.seq r27_9 (.seq r27_10 (.cond (.tmp 62) (.seq r27_11 .ret) .skip))))))) r27_12)))))) (.seq r27_13 .ret)))) := by kernel_rfl
noncomputable def L27_0 : {l : List Oper // (opsOf r27_0).map strip = l} := by refine ⟨?l, ?h⟩; case h => simp only [r27_0, c27, bodyOf, Tryd.f27, Code.sub, opsOf, List.map_cons, List.map_nil, strip]; rfl
theorem w27_0 : W Tryd.prog TT S 29 [29, 41, 62] r27_0 k E m Q ↔ Rg Tryd.prog TT S 29 [29, 41, 62] [6] [] (lgo E [] (lops Tryd.prog (callw Tryd.prog TT S) [(some 6)] (L27_0).1 E m)) k E Q := w_plain (by kernel_rfl) (L27_0).2
noncomputable def L27_1 : {l : List Oper // (opsOf r27_1).map strip = l} := by refine ⟨?l, ?h⟩; case h => simp only [r27_1, c27, bodyOf, Tryd.f27, Code.sub, opsOf, List.map_cons, List.map_nil, strip]; rfl
theorem w27_1 : W Tryd.prog TT S 29 [29, 41, 62] r27_1 k E m Q ↔ Rg Tryd.prog TT S 29 [29, 41, 62] [12, 13, 14, 15, 16, 17, 18, 19, 20, 21] [] (lgo E [1, 0, 2] (lops Tryd.prog (callw Tryd.prog TT S) [(some 12), (some 13), (some 14), (some 15), (some 16), (some 17), (some 18), (some 19), (some 20), (some 21)] (L27_1).1 E m)) k E Q := w_plain (by kernel_rfl) (L27_1).2
noncomputable def L27_2 : {l : List Oper // (opsOf r27_2).map strip = l} := by refine ⟨?l, ?h⟩; case h => simp only [r27_2, c27, bodyOf, Tryd.f27, Code.sub, opsOf, List.map_cons, List.map_nil, strip]; rfl
theorem w27_2 : W Tryd.prog TT S 29 [29, 41, 62] r27_2 k E m Q ↔ Rg Tryd.prog TT S 29 [29, 41, 62] [6] [] (lgo E [] (lops Tryd.prog (callw Tryd.prog TT S) [(some 6)] (L27_2).1 E m)) k E Q := w_plain (by kernel_rfl) (L27_2).2
noncomputable def L27_3 : {l : List Oper // (opsOf r27_3).map strip = l} := by refine ⟨?l, ?h⟩; case h => simp only [r27_3, c27, bodyOf, Tryd.f27, Code.sub, opsOf, List.map_cons, List.map_nil, strip]; rfl
theorem w27_3 : W Tryd.prog TT S 29 [29, 41, 62] r27_3 k E m Q ↔ Rg Tryd.prog TT S 29 [29, 41, 62] [22, 23, 24, 25, 26, 27, 28] [] (lgo E [0, 2] (lops Tryd.prog (callw Tryd.prog TT S) [(some 22), (some 23), (some 24), (some 25), (some 26), (some 27), (some 28)] (L27_3).1 E m)) k E Q := w_plain (by kernel_rfl) (L27_3).2
noncomputable def L27_4 : {l : List Oper // (opsOf r27_4).map strip = l} := by refine ⟨?l, ?h⟩; case h => simp only [r27_4, c27, bodyOf, Tryd.f27, Code.sub, opsOf, List.map_cons, List.map_nil, strip]; rfl
theorem w27_4 : W Tryd.prog TT S 29 [29, 41, 62] r27_4 k E m Q ↔ Rg Tryd.prog TT S 29 [29, 41, 62] [] [29] (lgo E [28, 27] (lops Tryd.prog (callw Tryd.prog TT S) [(some 29)] (L27_4).1 E m)) k E Q := w_plain (by kernel_rfl) (L27_4).2
noncomputable def L27_5 : {l : List Oper // (opsOf r27_5).map strip = l} := by refine ⟨?l, ?h⟩; case h => simp only [r27_5, c27, bodyOf, Tryd.f27, Code.sub, opsOf, List.map_cons, List.map_nil, strip]; rfl
theorem w27_5 : W Tryd.prog TT S 29 [29, 41, 62] r27_5 k E m Q ↔ Rg Tryd.prog TT S 29 [29, 41, 62] [8] [] (lgo E [26, 28] (lops Tryd.prog (callw Tryd.prog TT S) [(some 30), (some 31), (some 8), none] (L27_5).1 E m)) k E Q := w_plain (by kernel_rfl) (L27_5).2
noncomputable def L27_6 : {l : List Oper // (opsOf r27_6).map strip = l} := by refine ⟨?l, ?h⟩; case h => simp only [r27_6, c27, bodyOf, Tryd.f27, Code.sub, opsOf, List.map_cons, List.map_nil, strip]; rfl
theorem w27_6 : W Tryd.prog TT S 29 [29, 41, 62] r27_6 k E m Q ↔ Rg Tryd.prog TT S 29 [29, 41, 62] [9, 10] [] (lgo E [0, 1, 8] (lops Tryd.prog (callw Tryd.prog TT S) [(some 33), (some 34), (some 35), (some 36), (some 37), (some 32), (some 38), (some 39), (some 9), (some 10)] (L27_6).1 E m)) k E Q := w_plain (by kernel_rfl) (L27_6).2
noncomputable def L27_7 : {l : List Oper // (opsOf r27_7).map strip = l} := by refine ⟨?l, ?h⟩; case h => simp only [r27_7, c27, bodyOf, Tryd.f27, Code.sub, opsOf, List.map_cons, List.map_nil, strip]; rfl
theorem w27_7 : W Tryd.prog TT S 29 [29, 41, 62] r27_7 k E m Q ↔ Rg Tryd.prog TT S 29 [29, 41, 62] [] [41] (lgo E [10] (lops Tryd.prog (callw Tryd.prog TT S) [(some 40), (some 41)] (L27_7).1 E m)) k E Q := w_plain (by kernel_rfl) (L27_7).2
noncomputable def L27_8 : {l : List Oper // (opsOf r27_8).map strip = l} := by refine ⟨?l, ?h⟩; case h => simp only [r27_8, c27, bodyOf, Tryd.f27, Code.sub, opsOf, List.map_cons, List.map_nil, strip]; rfl
theorem w27_8 : W Tryd.prog TT S 29 [29, 41, 62] r27_8 k E m Q ↔ Rg Tryd.prog TT S 29 [29, 41, 62] [6] [] (lgo E [] (lops Tryd.prog (callw Tryd.prog TT S) [(some 6)] (L27_8).1 E m)) k E Q := w_plain (by kernel_rfl) (L27_8).2
noncomputable def L27_9 : {l : List Oper // (opsOf r27_9).map strip = l} := by refine ⟨?l, ?h⟩; case h => simp only [r27_9, c27, bodyOf, Tryd.f27, Code.sub, opsOf, List.map_cons, List.map_nil, strip]; rfl
theorem w27_9 : W Tryd.prog TT S 29 [29, 41, 62] r27_9 k E m Q ↔ Rg Tryd.prog TT S 29 [29, 41, 62] [11] [] (lgo E [0, 1, 9] (lops Tryd.prog (callw Tryd.prog TT S) [(some 42), (some 43), (some 44), (some 45), (some 46), (some 47), (some 48), (some 49), (some 11), none] (L27_9).1 E m)) k E Q := w_plain (by kernel_rfl) (L27_9).2
noncomputable def L27_10 : {l : List Oper // (opsOf r27_10).map strip = l} := by refine ⟨?l, ?h⟩; case h => simp only [r27_10, c27, bodyOf, Tryd.f27, Code.sub, opsOf, List.map_cons, List.map_nil, strip]; rfl
theorem w27_10 : W Tryd.prog TT S 29 [29, 41, 62] r27_10 k E m Q ↔ Rg Tryd.prog TT S 29 [29, 41, 62] [] [62] (lgo E [11, 8] (lops Tryd.prog (callw Tryd.prog TT S) [(some 50), (some 51), (some 52), (some 53), (some 54), (some 55), (some 56), (some 57), (some 58), (some 59), (some 60), (some 61), (some 62)] (L27_10).1 E m)) k E Q := w_plain (by kernel_rfl) (L27_10).2
noncomputable def L27_11 : {l : List Oper // (opsOf r27_11).map strip = l} := by refine ⟨?l, ?h⟩; case h => simp only [r27_11, c27, bodyOf, Tryd.f27, Code.sub, opsOf, List.map_cons, List.map_nil, strip]; rfl
theorem w27_11 : W Tryd.prog TT S 29 [29, 41, 62] r27_11 k E m Q ↔ Rg Tryd.prog TT S 29 [29, 41, 62] [6] [] (lgo E [] (lops Tryd.prog (callw Tryd.prog TT S) [(some 6)] (L27_11).1 E m)) k E Q := w_plain (by kernel_rfl) (L27_11).2
noncomputable def L27_12 : {l : List Oper // (opsOf r27_12).map strip = l} := by refine ⟨?l, ?h⟩; case h => simp only [r27_12, c27, bodyOf, Tryd.f27, Code.sub, opsOf, List.map_cons, List.map_nil, strip]; rfl
theorem w27_12 : W Tryd.prog TT S 29 [29, 41, 62] r27_12 k E m Q ↔ Rg Tryd.prog TT S 29 [29, 41, 62] [28] [] (lgo E [28] (lops Tryd.prog (callw Tryd.prog TT S) [(some 63), (some 28)] (L27_12).1 E m)) k E Q := w_plain (by kernel_rfl) (L27_12).2
noncomputable def L27_13 : {l : List Oper // (opsOf r27_13).map strip = l} := by refine ⟨?l, ?h⟩; case h => simp only [r27_13, c27, bodyOf, Tryd.f27, Code.sub, opsOf, List.map_cons, List.map_nil, strip]; rfl
theorem w27_13 : W Tryd.prog TT S 29 [29, 41, 62] r27_13 k E m Q ↔ Rg Tryd.prog TT S 29 [29, 41, 62] [6] [] (lgo E [] (lops Tryd.prog (callw Tryd.prog TT S) [(some 6)] (L27_13).1 E m)) k E Q := w_plain (by kernel_rfl) (L27_13).2
theorem k27 : FnIs TT 27 c27 [.tmp 6] 3 := ⟨Tryd.f27, by kernel_rfl, by simp only [Tryd.f27, c27, bodyOf], by kernel_rfl, of_decide_eq_true (by kernel_rfl)⟩

/- kinds.fields -/
noncomputable def c30 : Code := bodyOf Tryd.f30
noncomputable def r30_0 : Code := Code.sub [0] c30
noncomputable def r30_1 : Code := Code.sub [1, 0] c30
noncomputable def r30_2 : Code := Code.sub [1, 1, 0, 0] c30
noncomputable def r30_3 : Code := Code.sub [1, 1, 0, 1, 0, 0] c30
noncomputable def r30_4 : Code := Code.sub [1, 1, 1, 0, 0] c30
noncomputable def r30_5 : Code := Code.sub [1, 1, 1, 0, 1, 0, 0, 0] c30
noncomputable def r30_6 : Code := Code.sub [1, 1, 1, 0, 1, 0, 0, 1, 1, 0, 0, 0] c30
noncomputable def r30_7 : Code := Code.sub [1, 1, 1, 0, 1, 0, 0, 1, 1, 0, 0, 1, 0, 0] c30
noncomputable def r30_8 : Code := Code.sub [1, 1, 1, 0, 1, 0, 0, 1, 1, 0, 0, 1, 0, 1, 0, 0] c30
noncomputable def r30_9 : Code := Code.sub [1, 1, 1, 0, 1, 0, 0, 1, 1, 0, 0, 1, 1] c30
noncomputable def r30_10 : Code := Code.sub [1, 1, 1, 0, 1, 0, 0, 1, 1, 1] c30
noncomputable def r30_11 : Code := Code.sub [1, 1, 1, 1, 0, 0] c30
noncomputable def r30_12 : Code := Code.sub [1, 1, 1, 1, 0, 1, 0, 0, 0] c30
noncomputable def r30_13 : Code := Code.sub [1, 1, 1, 1, 0, 1, 0, 0, 1, 1, 0, 0, 0] c30
noncomputable def r30_14 : Code := Code.sub [1, 1, 1, 1, 0, 1, 0, 0, 1, 1, 0, 0, 1, 0, 0] c30
noncomputable def r30_15 : Code := Code.sub [1, 1, 1, 1, 0, 1, 0, 0, 1, 1, 0, 0, 1, 0, 1, 0, 0] c30
noncomputable def r30_16 : Code := Code.sub [1, 1, 1, 1, 0, 1, 0, 0, 1, 1, 0, 0, 1, 1] c30
noncomputable def r30_17 : Code := Code.sub [1, 1, 1, 1, 0, 1, 0, 0, 1, 1, 1] c30
noncomputable def r30_18 : Code := Code.sub [1, 1, 1, 1, 1, 0] c30
theorem body30 : c30 = (.seq r30_0 (.seq r30_1 (.seq (.seq r30_2 (.cond (.tmp 19) (.seq r30_3 .ret) .skip)) (.seq (.seq r30_4 (.block 0 (.loop (.seq r30_5 (.seq (.cond (.tmp 24) .skip (.exit 0)) (.seq (.block 1 (.seq r30_6 (.seq (.seq r30_7 (.cond (.tmp 31) (.seq r30_8 .ret) .skip)) r30_9))) r30_10)))))) (.seq (.seq r30_11 (.block 2 (.loop (.seq r30_12 (.seq (.cond (.tmp 42) .skip (.exit 2)) (.seq (.block 3 (.seq r30_13 (.seq (.seq r30_14 (.cond (.tmp 62) (.seq r30_15 .ret) .skip)) r30_16))) r30_17)))))) (.seq r30_18 .ret)))))) := by kernel_rfl
noncomputable def L30_0 : {l : List Oper // (opsOf r30_0).map strip = l} := by refine ⟨?l, ?h⟩; case h => simp only [r30_0, c30, bodyOf, Tryd.f30, Code.sub, opsOf, List.map_cons, List.map_nil, strip]; rfl
theorem w30_0 : W Tryd.prog TT S 42 [42, 62] r30_0 k E m Q ↔ Rg Tryd.prog TT S 42 [42, 62] [3, 4] [] (lgo E [1] (lops Tryd.prog (callw Tryd.prog TT S) [(some 3), (some 4)] (L30_0).1 E m)) k E Q := w_plain (by kernel_rfl) (L30_0).2
noncomputable def L30_1 : {l : List Oper // (opsOf r30_1).map strip = l} := by refine ⟨?l, ?h⟩; case h => simp only [r30_1, c30, bodyOf, Tryd.f30, Code.sub, opsOf, List.map_cons, List.map_nil, strip]; rfl
theorem w30_1 : W Tryd.prog TT S 42 [42, 62] r30_1 k E m Q ↔ Rg Tryd.prog TT S 42 [42, 62] [5] [] (lgo E [] (lops Tryd.prog (callw Tryd.prog TT S) [(some 5)] (L30_1).1 E m)) k E Q := w_plain (by kernel_rfl) (L30_1).2
noncomputable def L30_2 : {l : List Oper // (opsOf r30_2).map strip = l} := by refine ⟨?l, ?h⟩; case h => simp only [r30_2, c30, bodyOf, Tryd.f30, Code.sub, opsOf, List.map_cons, List.map_nil, strip]; rfl
theorem w30_2 : W Tryd.prog TT S 42 [42, 62] r30_2 k E m Q ↔ Rg Tryd.prog TT S 42 [42, 62] [10, 11, 12, 13, 14, 15, 16, 17, 18, 19] [] (lgo E [3] (lops Tryd.prog (callw Tryd.prog TT S) [(some 10), (some 11), (some 12), (some 13), (some 14), (some 15), (some 16), (some 17), (some 18), (some 19)] (L30_2).1 E m)) k E Q := w_plain (by kernel_rfl) (L30_2).2
noncomputable def L30_3 : {l : List Oper // (opsOf r30_3).map strip = l} := by refine ⟨?l, ?h⟩; case h => simp only [r30_3, c30, bodyOf, Tryd.f30, Code.sub, opsOf, List.map_cons, List.map_nil, strip]; rfl
theorem w30_3 : W Tryd.prog TT S 42 [42, 62] r30_3 k E m Q ↔ Rg Tryd.prog TT S 42 [42, 62] [4] [] (lgo E [] (lops Tryd.prog (callw Tryd.prog TT S) [(some 4)] (L30_3).1 E m)) k E Q := w_plain (by kernel_rfl) (L30_3).2
noncomputable def L30_4 : {l : List Oper // (opsOf r30_4).map strip = l} := by refine ⟨?l, ?h⟩; case h => simp only [r30_4, c30, bodyOf, Tryd.f30, Code.sub, opsOf, List.map_cons, List.map_nil, strip]; rfl
theorem w30_4 : W Tryd.prog TT S 42 [42, 62] r30_4 k E m Q ↔ Rg Tryd.prog TT S 42 [42, 62] [20, 21, 22, 23] [] (lgo E [3] (lops Tryd.prog (callw Tryd.prog TT S) [(some 20), (some 21), (some 22), (some 23)] (L30_4).1 E m)) k E Q := w_plain (by kernel_rfl) (L30_4).2
noncomputable def L30_5 : {l : List Oper // (opsOf r30_5).map strip = l} := by refine ⟨?l, ?h⟩; case h => simp only [r30_5, c30, bodyOf, Tryd.f30, Code.sub, opsOf, List.map_cons, List.map_nil, strip]; rfl
theorem w30_5 : W Tryd.prog TT S 42 [42, 62] r30_5 k E m Q ↔ Rg Tryd.prog TT S 42 [42, 62] [24] [] (lgo E [23, 22] (lops Tryd.prog (callw Tryd.prog TT S) [(some 24)] (L30_5).1 E m)) k E Q := w_plain (by kernel_rfl) (L30_5).2
noncomputable def L30_6 : {l : List Oper // (opsOf r30_6).map strip = l} := by refine ⟨?l, ?h⟩; case h => simp only [r30_6, c30, bodyOf, Tryd.f30, Code.sub, opsOf, List.map_cons, List.map_nil, strip]; rfl
theorem w30_6 : W Tryd.prog TT S 42 [42, 62] r30_6 k E m Q ↔ Rg Tryd.prog TT S 42 [42, 62] [25, 26, 7] [] (lgo E [21, 23] (lops Tryd.prog (callw Tryd.prog TT S) [(some 25), (some 26), (some 7), none] (L30_6).1 E m)) k E Q := w_plain (by kernel_rfl) (L30_6).2
noncomputable def L30_7 : {l : List Oper // (opsOf r30_7).map strip = l} := by refine ⟨?l, ?h⟩; case h => simp only [r30_7, c30, bodyOf, Tryd.f30, Code.sub, opsOf, List.map_cons, List.map_nil, strip]; rfl
theorem w30_7 : W Tryd.prog TT S 42 [42, 62] r30_7 k E m Q ↔ Rg Tryd.prog TT S 42 [42, 62] [27, 28, 29, 30, 31] [] (lgo E [0, 7] (lops Tryd.prog (callw Tryd.prog TT S) [(some 27), (some 28), (some 29), (some 30), (some 31)] (L30_7).1 E m)) k E Q := w_plain (by kernel_rfl) (L30_7).2
noncomputable def L30_8 : {l : List Oper // (opsOf r30_8).map strip = l} := by refine ⟨?l, ?h⟩; case h => simp only [r30_8, c30, bodyOf, Tryd.f30, Code.sub, opsOf, List.map_cons, List.map_nil, strip]; rfl
theorem w30_8 : W Tryd.prog TT S 42 [42, 62] r30_8 k E m Q ↔ Rg Tryd.prog TT S 42 [42, 62] [4] [] (lgo E [] (lops Tryd.prog (callw Tryd.prog TT S) [(some 4)] (L30_8).1 E m)) k E Q := w_plain (by kernel_rfl) (L30_8).2
noncomputable def L30_9 : {l : List Oper // (opsOf r30_9).map strip = l} := by refine ⟨?l, ?h⟩; case h => simp only [r30_9, c30, bodyOf, Tryd.f30, Code.sub, opsOf, List.map_cons, List.map_nil, strip]; rfl
theorem w30_9 : W Tryd.prog TT S 42 [42, 62] r30_9 k E m Q ↔ Rg Tryd.prog TT S 42 [42, 62] [32, 33, 34, 35, 36, 5] [] (lgo E [5, 7] (lops Tryd.prog (callw Tryd.prog TT S) [(some 32), (some 33), (some 34), (some 35), (some 36), (some 5)] (L30_9).1 E m)) k E Q := w_plain (by kernel_rfl) (L30_9).2
noncomputable def L30_10 : {l : List Oper // (opsOf r30_10).map strip = l} := by refine ⟨?l, ?h⟩; case h => simp only [r30_10, c30, bodyOf, Tryd.f30, Code.sub, opsOf, List.map_cons, List.map_nil, strip]; rfl
theorem w30_10 : W Tryd.prog TT S 42 [42, 62] r30_10 k E m Q ↔ Rg Tryd.prog TT S 42 [42, 62] [37, 23] [] (lgo E [23] (lops Tryd.prog (callw Tryd.prog TT S) [(some 37), (some 23)] (L30_10).1 E m)) k E Q := w_plain (by kernel_rfl) (L30_10).2
noncomputable def L30_11 : {l : List Oper // (opsOf r30_11).map strip = l} := by refine ⟨?l, ?h⟩; case h => simp only [r30_11, c30, bodyOf, Tryd.f30, Code.sub, opsOf, List.map_cons, List.map_nil, strip]; rfl
theorem w30_11 : W Tryd.prog TT S 42 [42, 62] r30_11 k E m Q ↔ Rg Tryd.prog TT S 42 [42, 62] [38, 39, 40, 41] [] (lgo E [3] (lops Tryd.prog (callw Tryd.prog TT S) [(some 38), (some 39), (some 40), (some 41)] (L30_11).1 E m)) k E Q := w_plain (by kernel_rfl) (L30_11).2
noncomputable def L30_12 : {l : List Oper // (opsOf r30_12).map strip = l} := by refine ⟨?l, ?h⟩; case h => simp only [r30_12, c30, bodyOf, Tryd.f30, Code.sub, opsOf, List.map_cons, List.map_nil, strip]; rfl
theorem w30_12 : W Tryd.prog TT S 42 [42, 62] r30_12 k E m Q ↔ Rg Tryd.prog TT S 42 [42, 62] [] [42] (lgo E [41, 40] (lops Tryd.prog (callw Tryd.prog TT S) [(some 42)] (L30_12).1 E m)) k E Q := w_plain (by kernel_rfl) (L30_12).2
noncomputable def L30_13 : {l : List Oper // (opsOf r30_13).map strip = l} := by refine ⟨?l, ?h⟩; case h => simp only [r30_13, c30, bodyOf, Tryd.f30, Code.sub, opsOf, List.map_cons, List.map_nil, strip]; rfl
theorem w30_13 : W Tryd.prog TT S 42 [42, 62] r30_13 k E m Q ↔ Rg Tryd.prog TT S 42 [42, 62] [9] [] (lgo E [39, 41] (lops Tryd.prog (callw Tryd.prog TT S) [(some 43), (some 44), (some 9), none] (L30_13).1 E m)) k E Q := w_plain (by kernel_rfl) (L30_13).2
noncomputable def L30_14 : {l : List Oper // (opsOf r30_14).map strip = l} := by refine ⟨?l, ?h⟩; case h => simp only [r30_14, c30, bodyOf, Tryd.f30, Code.sub, opsOf, List.map_cons, List.map_nil, strip]; rfl
theorem w30_14 : W Tryd.prog TT S 42 [42, 62] r30_14 k E m Q ↔ Rg Tryd.prog TT S 42 [42, 62] [] [62] (lgo E [0, 3, 9] (lops Tryd.prog (callw Tryd.prog TT S) [(some 45), (some 46), (some 47), (some 48), (some 49), (some 50), (some 51), (some 52), (some 53), (some 54), (some 55), (some 56), (some 57), (some 58), (some 59), (some 60), (some 61), (some 62)] (L30_14).1 E m)) k E Q := w_plain (by kernel_rfl) (L30_14).2
noncomputable def L30_15 : {l : List Oper // (opsOf r30_15).map strip = l} := by refine ⟨?l, ?h⟩; case h => simp only [r30_15, c30, bodyOf, Tryd.f30, Code.sub, opsOf, List.map_cons, List.map_nil, strip]; rfl
theorem w30_15 : W Tryd.prog TT S 42 [42, 62] r30_15 k E m Q ↔ Rg Tryd.prog TT S 42 [42, 62] [4] [] (lgo E [] (lops Tryd.prog (callw Tryd.prog TT S) [(some 4)] (L30_15).1 E m)) k E Q := w_plain (by kernel_rfl) (L30_15).2
noncomputable def L30_16 : {l : List Oper // (opsOf r30_16).map strip = l} := by refine ⟨?l, ?h⟩; case h => simp only [r30_16, c30, bodyOf, Tryd.f30, Code.sub, opsOf, List.map_cons, List.map_nil, strip]; rfl
theorem w30_16 : W Tryd.prog TT S 42 [42, 62] r30_16 k E m Q ↔ Rg Tryd.prog TT S 42 [42, 62] [5] [] (lgo E [5, 9] (lops Tryd.prog (callw Tryd.prog TT S) [(some 63), (some 64), (some 65), (some 66), (some 67), (some 5)] (L30_16).1 E m)) k E Q := w_plain (by kernel_rfl) (L30_16).2
noncomputable def L30_17 : {l : List Oper // (opsOf r30_17).map strip = l} := by refine ⟨?l, ?h⟩; case h => simp only [r30_17, c30, bodyOf, Tryd.f30, Code.sub, opsOf, List.map_cons, List.map_nil, strip]; rfl
theorem w30_17 : W Tryd.prog TT S 42 [42, 62] r30_17 k E m Q ↔ Rg Tryd.prog TT S 42 [42, 62] [41] [] (lgo E [41] (lops Tryd.prog (callw Tryd.prog TT S) [(some 68), (some 41)] (L30_17).1 E m)) k E Q := w_plain (by kernel_rfl) (L30_17).2
noncomputable def L30_18 : {l : List Oper // (opsOf r30_18).map strip = l} := by refine ⟨?l, ?h⟩; case h => simp only [r30_18, c30, bodyOf, Tryd.f30, Code.sub, opsOf, List.map_cons, List.map_nil, strip]; rfl
theorem w30_18 : W Tryd.prog TT S 42 [42, 62] r30_18 k E m Q ↔ Rg Tryd.prog TT S 42 [42, 62] [4] [] (lgo E [5] (lops Tryd.prog (callw Tryd.prog TT S) [(some 69), (some 70), (some 4)] (L30_18).1 E m)) k E Q := w_plain (by kernel_rfl) (L30_18).2
theorem k30 : FnIs TT 30 c30 [.tmp 4] 2 := ⟨Tryd.f30, by kernel_rfl, by simp only [Tryd.f30, c30, bodyOf], by kernel_rfl, of_decide_eq_true (by kernel_rfl)⟩

/- kinds.value -/
noncomputable def c31 : Code := bodyOf Tryd.f31
noncomputable def r31_0 : Code := Code.sub [0] c31
noncomputable def r31_1 : Code := Code.sub [1, 0] c31
theorem body31 : c31 = (.seq r31_0 (.seq r31_1 .ret)) := by kernel_rfl
noncomputable def L31_0 : {l : List Oper // (opsOf r31_0).map strip = l} := by refine ⟨?l, ?h⟩; case h => simp only [r31_0, c31, bodyOf, Tryd.f31, Code.sub, opsOf, List.map_cons, List.map_nil, strip]; rfl
theorem w31_0 : W Tryd.prog TT S 5 [] r31_0 k E m Q ↔ Rg Tryd.prog TT S 5 [] [4] [] (lgo E [] (lops Tryd.prog (callw Tryd.prog TT S) [(some 4)] (L31_0).1 E m)) k E Q := w_plain (by kernel_rfl) (L31_0).2
noncomputable def L31_1 : {l : List Oper // (opsOf r31_1).map strip = l} := by refine ⟨?l, ?h⟩; case h => simp only [r31_1, c31, bodyOf, Tryd.f31, Code.sub, opsOf, List.map_cons, List.map_nil, strip]; rfl
theorem w31_1 : W Tryd.prog TT S 5 [] r31_1 k E m Q ↔ Rg Tryd.prog TT S 5 [] [4] [] (lgo E [0, 1] (lops Tryd.prog (callw Tryd.prog TT S) [(some 5), (some 6), (some 7), (some 8), (some 9), (some 10), (some 11), (some 12), (some 13), (some 14), (some 15), (some 16), (some 4)] (L31_1).1 E m)) k E Q := w_plain (by kernel_rfl) (L31_1).2
theorem k31 : FnIs TT 31 c31 [.tmp 4] 2 := ⟨Tryd.f31, by kernel_rfl, by simp only [Tryd.f31, c31, bodyOf], by kernel_rfl, of_decide_eq_true (by kernel_rfl)⟩

/- kinds.method -/
noncomputable def c32 : Code := bodyOf Tryd.f32
noncomputable def r32_0 : Code := Code.sub [0] c32
noncomputable def r32_1 : Code := Code.sub [1, 0, 0] c32
noncomputable def r32_2 : Code := Code.sub [1, 0, 1, 0, 0] c32
noncomputable def r32_3 : Code := Code.sub [1, 1, 0, 0] c32
noncomputable def r32_4 : Code := Code.sub [1, 1, 0, 1, 0, 0, 0] c32
noncomputable def r32_5 : Code := Code.sub [1, 1, 0, 1, 0, 0, 1, 1, 0, 0, 0] c32
noncomputable def r32_6 : Code := Code.sub [1, 1, 0, 1, 0, 0, 1, 1, 0, 0, 1, 0] c32
noncomputable def r32_7 : Code := Code.sub [1, 1, 0, 1, 0, 0, 1, 1, 0, 0, 1, 1, 0, 0] c32
noncomputable def r32_8 : Code := Code.sub [1, 1, 0, 1, 0, 0, 1, 1, 1] c32
noncomputable def r32_9 : Code := Code.sub [1, 1, 1, 0] c32
theorem body32 : c32 = (.seq r32_0 (.seq (.seq r32_1 (.cond (.tmp 22) (.seq r32_2 .ret) .skip)) (.seq (.seq r32_3 (.block 0 (.loop (.seq r32_4 (.seq (.cond (.tmp 27) .skip (.exit 0)) (.seq (.block 1 (.seq r32_5 (.seq r32_6 (.cond (.tmp 33) (.seq r32_7 .ret) .skip)))) r32_8)))))) (.seq r32_9 .ret)))) := by kernel_rfl
noncomputable def L32_0 : {l : List Oper // (opsOf r32_0).map strip = l} := by refine ⟨?l, ?h⟩; case h => simp only [r32_0, c32, bodyOf, Tryd.f32, Code.sub, opsOf, List.map_cons, List.map_nil, strip]; rfl
theorem w32_0 : W Tryd.prog TT S 27 [27, 33] r32_0 k E m Q ↔ Rg Tryd.prog TT S 27 [27, 33] [3, 4] [] (lgo E [1] (lops Tryd.prog (callw Tryd.prog TT S) [(some 3), (some 4)] (L32_0).1 E m)) k E Q := w_plain (by kernel_rfl) (L32_0).2
noncomputable def L32_1 : {l : List Oper // (opsOf r32_1).map strip = l} := by refine ⟨?l, ?h⟩; case h => simp only [r32_1, c32, bodyOf, Tryd.f32, Code.sub, opsOf, List.map_cons, List.map_nil, strip]; rfl
theorem w32_1 : W Tryd.prog TT S 27 [27, 33] r32_1 k E m Q ↔ Rg Tryd.prog TT S 27 [27, 33] [7, 8, 9, 10, 11, 12, 13, 14, 15, 16, 17, 18, 19, 20, 21, 22] [] (lgo E [0, 3] (lops Tryd.prog (callw Tryd.prog TT S) [(some 7), (some 8), (some 9), (some 10), (some 11), (some 12), (some 13), (some 14), (some 15), (some 16), (some 17), (some 18), (some 19), (some 20), (some 21), (some 22)] (L32_1).1 E m)) k E Q := w_plain (by kernel_rfl) (L32_1).2
noncomputable def L32_2 : {l : List Oper // (opsOf r32_2).map strip = l} := by refine ⟨?l, ?h⟩; case h => simp only [r32_2, c32, bodyOf, Tryd.f32, Code.sub, opsOf, List.map_cons, List.map_nil, strip]; rfl
theorem w32_2 : W Tryd.prog TT S 27 [27, 33] r32_2 k E m Q ↔ Rg Tryd.prog TT S 27 [27, 33] [4] [] (lgo E [] (lops Tryd.prog (callw Tryd.prog TT S) [(some 4)] (L32_2).1 E m)) k E Q := w_plain (by kernel_rfl) (L32_2).2
noncomputable def L32_3 : {l : List Oper // (opsOf r32_3).map strip = l} := by refine ⟨?l, ?h⟩; case h => simp only [r32_3, c32, bodyOf, Tryd.f32, Code.sub, opsOf, List.map_cons, List.map_nil, strip]; rfl
theorem w32_3 : W Tryd.prog TT S 27 [27, 33] r32_3 k E m Q ↔ Rg Tryd.prog TT S 27 [27, 33] [23, 24, 25, 26] [] (lgo E [3] (lops Tryd.prog (callw Tryd.prog TT S) [(some 23), (some 24), (some 25), (some 26)] (L32_3).1 E m)) k E Q := w_plain (by kernel_rfl) (L32_3).2
noncomputable def L32_4 : {l : List Oper // (opsOf r32_4).map strip = l} := by refine ⟨?l, ?h⟩; case h => simp only [r32_4, c32, bodyOf, Tryd.f32, Code.sub, opsOf, List.map_cons, List.map_nil, strip]; rfl
theorem w32_4 : W Tryd.prog TT S 27 [27, 33] r32_4 k E m Q ↔ Rg Tryd.prog TT S 27 [27, 33] [] [27] (lgo E [26, 25] (lops Tryd.prog (callw Tryd.prog TT S) [(some 27)] (L32_4).1 E m)) k E Q := w_plain (by kernel_rfl) (L32_4).2
noncomputable def L32_5 : {l : List Oper // (opsOf r32_5).map strip = l} := by refine ⟨?l, ?h⟩; case h => simp only [r32_5, c32, bodyOf, Tryd.f32, Code.sub, opsOf, List.map_cons, List.map_nil, strip]; rfl
theorem w32_5 : W Tryd.prog TT S 27 [27, 33] r32_5 k E m Q ↔ Rg Tryd.prog TT S 27 [27, 33] [6] [] (lgo E [24, 26] (lops Tryd.prog (callw Tryd.prog TT S) [(some 28), (some 29), (some 6)] (L32_5).1 E m)) k E Q := w_plain (by kernel_rfl) (L32_5).2
noncomputable def L32_6 : {l : List Oper // (opsOf r32_6).map strip = l} := by refine ⟨?l, ?h⟩; case h => simp only [r32_6, c32, bodyOf, Tryd.f32, Code.sub, opsOf, List.map_cons, List.map_nil, strip]; rfl
theorem w32_6 : W Tryd.prog TT S 27 [27, 33] r32_6 k E m Q ↔ Rg Tryd.prog TT S 27 [27, 33] [] [33] (lgo E [0, 6] (lops Tryd.prog (callw Tryd.prog TT S) [(some 30), (some 31), (some 32), (some 33)] (L32_6).1 E m)) k E Q := w_plain (by kernel_rfl) (L32_6).2
noncomputable def L32_7 : {l : List Oper // (opsOf r32_7).map strip = l} := by refine ⟨?l, ?h⟩; case h => simp only [r32_7, c32, bodyOf, Tryd.f32, Code.sub, opsOf, List.map_cons, List.map_nil, strip]; rfl
theorem w32_7 : W Tryd.prog TT S 27 [27, 33] r32_7 k E m Q ↔ Rg Tryd.prog TT S 27 [27, 33] [4] [] (lgo E [] (lops Tryd.prog (callw Tryd.prog TT S) [(some 4)] (L32_7).1 E m)) k E Q := w_plain (by kernel_rfl) (L32_7).2
noncomputable def L32_8 : {l : List Oper // (opsOf r32_8).map strip = l} := by refine ⟨?l, ?h⟩; case h => simp only [r32_8, c32, bodyOf, Tryd.f32, Code.sub, opsOf, List.map_cons, List.map_nil, strip]; rfl
theorem w32_8 : W Tryd.prog TT S 27 [27, 33] r32_8 k E m Q ↔ Rg Tryd.prog TT S 27 [27, 33] [26] [] (lgo E [26] (lops Tryd.prog (callw Tryd.prog TT S) [(some 34), (some 26)] (L32_8).1 E m)) k E Q := w_plain (by kernel_rfl) (L32_8).2
noncomputable def L32_9 : {l : List Oper // (opsOf r32_9).map strip = l} := by refine ⟨?l, ?h⟩; case h => simp only [r32_9, c32, bodyOf, Tryd.f32, Code.sub, opsOf, List.map_cons, List.map_nil, strip]; rfl
theorem w32_9 : W Tryd.prog TT S 27 [27, 33] r32_9 k E m Q ↔ Rg Tryd.prog TT S 27 [27, 33] [4] [] (lgo E [] (lops Tryd.prog (callw Tryd.prog TT S) [(some 4)] (L32_9).1 E m)) k E Q := w_plain (by kernel_rfl) (L32_9).2
theorem k32 : FnIs TT 32 c32 [.tmp 4] 2 := ⟨Tryd.f32, by kernel_rfl, by simp only [Tryd.f32, c32, bodyOf], by kernel_rfl, of_decide_eq_true (by kernel_rfl)⟩

/- kinds.unlike -/
noncomputable def c33 : Code := bodyOf Tryd.f33
noncomputable def r33_0 : Code := Code.sub [0] c33
noncomputable def r33_1 : Code := Code.sub [1, 0, 0] c33
noncomputable def r33_2 : Code := Code.sub [1, 0, 1, 0, 0, 0] c33
noncomputable def r33_3 : Code := Code.sub [1, 0, 1, 0, 0, 1, 1, 0, 0, 0] c33
noncomputable def r33_4 : Code := Code.sub [1, 0, 1, 0, 0, 1, 1, 0, 0, 1, 0] c33
noncomputable def r33_5 : Code := Code.sub [1, 0, 1, 0, 0, 1, 1, 0, 0, 1, 1, 0, 0] c33
noncomputable def r33_6 : Code := Code.sub [1, 0, 1, 0, 0, 1, 1, 1] c33
noncomputable def r33_7 : Code := Code.sub [1, 1, 0] c33
theorem body33 : c33 = (.seq r33_0 (.seq (.seq r33_1 (.block 0 (.loop (.seq r33_2 (.seq (.cond (.tmp 8) .skip (.exit 0)) (.seq (.block 1 (.seq r33_3 (.seq r33_4 (.cond (.tmp 16) (.seq r33_5 .ret) .skip)))) r33_6)))))) (.seq r33_7 .ret))) := by kernel_rfl
noncomputable def L33_0 : {l : List Oper // (opsOf r33_0).map strip = l} := by refine ⟨?l, ?h⟩; case h => simp only [r33_0, c33, bodyOf, Tryd.f33, Code.sub, opsOf, List.map_cons, List.map_nil, strip]; rfl
theorem w33_0 : W Tryd.prog TT S 8 [8, 16] r33_0 k E m Q ↔ Rg Tryd.prog TT S 8 [8, 16] [2] [] (lgo E [] (lops Tryd.prog (callw Tryd.prog TT S) [(some 2)] (L33_0).1 E m)) k E Q := w_plain (by kernel_rfl) (L33_0).2
noncomputable def L33_1 : {l : List Oper // (opsOf r33_1).map strip = l} := by refine ⟨?l, ?h⟩; case h => simp only [r33_1, c33, bodyOf, Tryd.f33, Code.sub, opsOf, List.map_cons, List.map_nil, strip]; rfl
theorem w33_1 : W Tryd.prog TT S 8 [8, 16] r33_1 k E m Q ↔ Rg Tryd.prog TT S 8 [8, 16] [5, 6, 7] [] (lgo E [0] (lops Tryd.prog (callw Tryd.prog TT S) [(some 5), (some 6), (some 7)] (L33_1).1 E m)) k E Q := w_plain (by kernel_rfl) (L33_1).2
noncomputable def L33_2 : {l : List Oper // (opsOf r33_2).map strip = l} := by refine ⟨?l, ?h⟩; case h => simp only [r33_2, c33, bodyOf, Tryd.f33, Code.sub, opsOf, List.map_cons, List.map_nil, strip]; rfl
theorem w33_2 : W Tryd.prog TT S 8 [8, 16] r33_2 k E m Q ↔ Rg Tryd.prog TT S 8 [8, 16] [] [8] (lgo E [7, 6] (lops Tryd.prog (callw Tryd.prog TT S) [(some 8)] (L33_2).1 E m)) k E Q := w_plain (by kernel_rfl) (L33_2).2
noncomputable def L33_3 : {l : List Oper // (opsOf r33_3).map strip = l} := by refine ⟨?l, ?h⟩; case h => simp only [r33_3, c33, bodyOf, Tryd.f33, Code.sub, opsOf, List.map_cons, List.map_nil, strip]; rfl
theorem w33_3 : W Tryd.prog TT S 8 [8, 16] r33_3 k E m Q ↔ Rg Tryd.prog TT S 8 [8, 16] [3, 4] [] (lgo E [5, 7] (lops Tryd.prog (callw Tryd.prog TT S) [(some 9), (some 10), (some 11), (some 3), (some 4)] (L33_3).1 E m)) k E Q := w_plain (by kernel_rfl) (L33_3).2
noncomputable def L33_4 : {l : List Oper // (opsOf r33_4).map strip = l} := by refine ⟨?l, ?h⟩; case h => simp only [r33_4, c33, bodyOf, Tryd.f33, Code.sub, opsOf, List.map_cons, List.map_nil, strip]; rfl
theorem w33_4 : W Tryd.prog TT S 8 [8, 16] r33_4 k E m Q ↔ Rg Tryd.prog TT S 8 [8, 16] [] [16] (lgo E [0, 3, 4] (lops Tryd.prog (callw Tryd.prog TT S) [(some 12), (some 13), (some 14), (some 15), (some 16)] (L33_4).1 E m)) k E Q := w_plain (by kernel_rfl) (L33_4).2
noncomputable def L33_5 : {l : List Oper // (opsOf r33_5).map strip = l} := by refine ⟨?l, ?h⟩; case h => simp only [r33_5, c33, bodyOf, Tryd.f33, Code.sub, opsOf, List.map_cons, List.map_nil, strip]; rfl
theorem w33_5 : W Tryd.prog TT S 8 [8, 16] r33_5 k E m Q ↔ Rg Tryd.prog TT S 8 [8, 16] [2] [] (lgo E [] (lops Tryd.prog (callw Tryd.prog TT S) [(some 2)] (L33_5).1 E m)) k E Q := w_plain (by kernel_rfl) (L33_5).2
noncomputable def L33_6 : {l : List Oper // (opsOf r33_6).map strip = l} := by refine ⟨?l, ?h⟩; case h => simp only [r33_6, c33, bodyOf, Tryd.f33, Code.sub, opsOf, List.map_cons, List.map_nil, strip]; rfl
theorem w33_6 : W Tryd.prog TT S 8 [8, 16] r33_6 k E m Q ↔ Rg Tryd.prog TT S 8 [8, 16] [7] [] (lgo E [7] (lops Tryd.prog (callw Tryd.prog TT S) [(some 17), (some 7)] (L33_6).1 E m)) k E Q := w_plain (by kernel_rfl) (L33_6).2
noncomputable def L33_7 : {l : List Oper // (opsOf r33_7).map strip = l} := by refine ⟨?l, ?h⟩; case h => simp only [r33_7, c33, bodyOf, Tryd.f33, Code.sub, opsOf, List.map_cons, List.map_nil, strip]; rfl
theorem w33_7 : W Tryd.prog TT S 8 [8, 16] r33_7 k E m Q ↔ Rg Tryd.prog TT S 8 [8, 16] [2] [] (lgo E [] (lops Tryd.prog (callw Tryd.prog TT S) [(some 2)] (L33_7).1 E m)) k E Q := w_plain (by kernel_rfl) (L33_7).2
theorem k33 : FnIs TT 33 c33 [.tmp 2] 1 := ⟨Tryd.f33, by kernel_rfl, by simp only [Tryd.f33, c33, bodyOf], by kernel_rfl, of_decide_eq_true (by kernel_rfl)⟩

/- slices.Contains[[]string,string] -/
noncomputable def c34 : Code := bodyOf Tryd.f34
noncomputable def r34_0 : Code := Code.sub [0] c34
noncomputable def r34_1 : Code := Code.sub [1, 0] c34
theorem body34 : c34 = (.seq r34_0 (.seq r34_1 .ret)) := by kernel_rfl
noncomputable def L34_0 : {l : List Oper // (opsOf r34_0).map strip = l} := by refine ⟨?l, ?h⟩; case h => simp only [r34_0, c34, bodyOf, Tryd.f34, Code.sub, opsOf, List.map_cons, List.map_nil, strip]; rfl
theorem w34_0 : W Tryd.prog TT S 5 [] r34_0 k E m Q ↔ Rg Tryd.prog TT S 5 [] [4] [] (lgo E [] (lops Tryd.prog (callw Tryd.prog TT S) [(some 4)] (L34_0).1 E m)) k E Q := w_plain (by kernel_rfl) (L34_0).2
noncomputable def L34_1 : {l : List Oper // (opsOf r34_1).map strip = l} := by refine ⟨?l, ?h⟩; case h => simp only [r34_1, c34, bodyOf, Tryd.f34, Code.sub, opsOf, List.map_cons, List.map_nil, strip]; rfl
theorem w34_1 : W Tryd.prog TT S 5 [] r34_1 k E m Q ↔ Rg Tryd.prog TT S 5 [] [4] [] (lgo E [0, 1] (lops Tryd.prog (callw Tryd.prog TT S) [(some 5), (some 6), (some 7), (some 8), (some 4)] (L34_1).1 E m)) k E Q := w_plain (by kernel_rfl) (L34_1).2
theorem k34 : FnIs TT 34 c34 [.tmp 4] 2 := ⟨Tryd.f34, by kernel_rfl, by simp only [Tryd.f34, c34, bodyOf], by kernel_rfl, of_decide_eq_true (by kernel_rfl)⟩

/- slices.Index[[]string,string] -/
noncomputable def c35 : Code := bodyOf Tryd.f35
noncomputable def r35_0 : Code := Code.sub [0] c35
noncomputable def r35_1 : Code := Code.sub [1, 0, 0] c35
noncomputable def r35_2 : Code := Code.sub [1, 0, 1, 0, 0, 0] c35
noncomputable def r35_3 : Code := Code.sub [1, 0, 1, 0, 0, 1, 1, 0, 0, 0] c35
noncomputable def r35_4 : Code := Code.sub [1, 0, 1, 0, 0, 1, 1, 0, 0, 1, 0] c35
noncomputable def r35_5 : Code := Code.sub [1, 0, 1, 0, 0, 1, 1, 0, 0, 1, 1, 0, 0] c35
noncomputable def r35_6 : Code := Code.sub [1, 0, 1, 0, 0, 1, 1, 1] c35
noncomputable def r35_7 : Code := Code.sub [1, 1, 0] c35
theorem body35 : c35 = (.seq r35_0 (.seq (.seq r35_1 (.block 0 (.loop (.seq r35_2 (.seq (.cond (.tmp 9) .skip (.exit 0)) (.seq (.block 1 (.seq r35_3 (.seq r35_4 (.cond (.tmp 16) (.seq r35_5 .ret) .skip)))) r35_6)))))) (.seq r35_7 .ret))) := by kernel_rfl
noncomputable def L35_0 : {l : List Oper // (opsOf r35_0).map strip = l} := by refine ⟨?l, ?h⟩; case h => simp only [r35_0, c35, bodyOf, Tryd.f35, Code.sub, opsOf, List.map_cons, List.map_nil, strip]; rfl
theorem w35_0 : W Tryd.prog TT S 9 [9, 16] r35_0 k E m Q ↔ Rg Tryd.prog TT S 9 [9, 16] [4] [] (lgo E [] (lops Tryd.prog (callw Tryd.prog TT S) [(some 4)] (L35_0).1 E m)) k E Q := w_plain (by kernel_rfl) (L35_0).2
noncomputable def L35_1 : {l : List Oper // (opsOf r35_1).map strip = l} := by refine ⟨?l, ?h⟩; case h => simp only [r35_1, c35, bodyOf, Tryd.f35, Code.sub, opsOf, List.map_cons, List.map_nil, strip]; rfl
theorem w35_1 : W Tryd.prog TT S 9 [9, 16] r35_1 k E m Q ↔ Rg Tryd.prog TT S 9 [9, 16] [6, 7, 8] [] (lgo E [0] (lops Tryd.prog (callw Tryd.prog TT S) [(some 6), (some 7), (some 8)] (L35_1).1 E m)) k E Q := w_plain (by kernel_rfl) (L35_1).2
noncomputable def L35_2 : {l : List Oper // (opsOf r35_2).map strip = l} := by refine ⟨?l, ?h⟩; case h => simp only [r35_2, c35, bodyOf, Tryd.f35, Code.sub, opsOf, List.map_cons, List.map_nil, strip]; rfl
theorem w35_2 : W Tryd.prog TT S 9 [9, 16] r35_2 k E m Q ↔ Rg Tryd.prog TT S 9 [9, 16] [] [9] (lgo E [8, 7] (lops Tryd.prog (callw Tryd.prog TT S) [(some 9)] (L35_2).1 E m)) k E Q := w_plain (by kernel_rfl) (L35_2).2
noncomputable def L35_3 : {l : List Oper // (opsOf r35_3).map strip = l} := by refine ⟨?l, ?h⟩; case h => simp only [r35_3, c35, bodyOf, Tryd.f35, Code.sub, opsOf, List.map_cons, List.map_nil, strip]; rfl
theorem w35_3 : W Tryd.prog TT S 9 [9, 16] r35_3 k E m Q ↔ Rg Tryd.prog TT S 9 [9, 16] [5] [] (lgo E [8] (lops Tryd.prog (callw Tryd.prog TT S) [(some 10), (some 5)] (L35_3).1 E m)) k E Q := w_plain (by kernel_rfl) (L35_3).2
noncomputable def L35_4 : {l : List Oper // (opsOf r35_4).map strip = l} := by refine ⟨?l, ?h⟩; case h => simp only [r35_4, c35, bodyOf, Tryd.f35, Code.sub, opsOf, List.map_cons, List.map_nil, strip]; rfl
theorem w35_4 : W Tryd.prog TT S 9 [9, 16] r35_4 k E m Q ↔ Rg Tryd.prog TT S 9 [9, 16] [] [16] (lgo E [1, 0, 5] (lops Tryd.prog (callw Tryd.prog TT S) [(some 11), (some 12), (some 13), (some 14), (some 15), (some 16)] (L35_4).1 E m)) k E Q := w_plain (by kernel_rfl) (L35_4).2
noncomputable def L35_5 : {l : List Oper // (opsOf r35_5).map strip = l} := by refine ⟨?l, ?h⟩; case h => simp only [r35_5, c35, bodyOf, Tryd.f35, Code.sub, opsOf, List.map_cons, List.map_nil, strip]; rfl
theorem w35_5 : W Tryd.prog TT S 9 [9, 16] r35_5 k E m Q ↔ Rg Tryd.prog TT S 9 [9, 16] [4] [] (lgo E [5] (lops Tryd.prog (callw Tryd.prog TT S) [(some 17), (some 4)] (L35_5).1 E m)) k E Q := w_plain (by kernel_rfl) (L35_5).2
noncomputable def L35_6 : {l : List Oper // (opsOf r35_6).map strip = l} := by refine ⟨?l, ?h⟩; case h => simp only [r35_6, c35, bodyOf, Tryd.f35, Code.sub, opsOf, List.map_cons, List.map_nil, strip]; rfl
theorem w35_6 : W Tryd.prog TT S 9 [9, 16] r35_6 k E m Q ↔ Rg Tryd.prog TT S 9 [9, 16] [8] [] (lgo E [8] (lops Tryd.prog (callw Tryd.prog TT S) [(some 18), (some 8)] (L35_6).1 E m)) k E Q := w_plain (by kernel_rfl) (L35_6).2
noncomputable def L35_7 : {l : List Oper // (opsOf r35_7).map strip = l} := by refine ⟨?l, ?h⟩; case h => simp only [r35_7, c35, bodyOf, Tryd.f35, Code.sub, opsOf, List.map_cons, List.map_nil, strip]; rfl
theorem w35_7 : W Tryd.prog TT S 9 [9, 16] r35_7 k E m Q ↔ Rg Tryd.prog TT S 9 [9, 16] [4] [] (lgo E [] (lops Tryd.prog (callw Tryd.prog TT S) [(some 4)] (L35_7).1 E m)) k E Q := w_plain (by kernel_rfl) (L35_7).2
theorem k35 : FnIs TT 35 c35 [.tmp 4] 2 := ⟨Tryd.f35, by kernel_rfl, by simp only [Tryd.f35, c35, bodyOf], by kernel_rfl, of_decide_eq_true (by kernel_rfl)⟩

/- what rewriting uses in the walks -/
attribute [simp] w_seq w_cond_tmp w_ret w_skip w_exit w_block w_loop r_nil r_seq r_seq_ret r_seq_exit r_block
attribute [simp] r_block_ret r_block_exit r_loop r_loop_ret r_loop_exit cnd_t cnd_f rg_some lgo_n lgo_c lops_nil lops_cons
attribute [simp] lk_some lop1_plain lop1_guard gdv_b gdv_u gd_tt gd_ff gd_tf gd_ft lput_s lput_n lev_t
attribute [simp] lev_c lev_g lev_f lget_n lget_c lset_n lset_c lkeep_n lkeep_c lsets_n lsets_c lconds_n
attribute [simp] lconds_c lfill qf_d okx lresults lresultsL lres_tmp o_move o_assign o_bin o_pick o_nilCheck
attribute [simp] o_fieldAddr o_load o_len o_store o_conv o_un o_extract o_append o_call2 o_callv o_buildSlice o_box
attribute [simp] o_alloc o_build o_indexAddr o_slice o_index o_field o_makeFunc o_makeSlice o_min o_max loOf_none loOf_some
attribute [simp] hiOf_none hiOf_some natOf_int sliceS_some sliceA_some strOp sz_str cat_str list_str s_binOp fastBin s_unOp
attribute [simp] fastUn boolEq int_beq int_bne txt_beq one_int one_slice one_ptr one_bool one_str cells_int cells_slice
attribute [simp] cells_ptr cells_bool cells_str cells_agg flatEq_n flatEq_c ba_beq closedA_l closedL_n closedL_c closedV_int closedV_str
attribute [simp] closedV_bool loadRow_new window over Instr.fill repl lst_nil lst_cons lks_some lkc_some lloud_some lreads_n
attribute [simp] lreads_c lsame_d eqV_int eqV_slice eqV_ptr eqV_agg eqL_n eqL_c eqV_str eqV_bool eqV_undef
attribute [simp] body3 w3_0 L3_0 w3_1 L3_1 w3_2 L3_2 w3_3 L3_3 w3_4 L3_4 w3_5 L3_5
attribute [simp] body4 w4_0 L4_0 w4_1 L4_1 w4_2 L4_2 w4_3 L4_3 w4_4 L4_4 w4_5 L4_5 w4_6 L4_6 w4_7 L4_7 w4_8 L4_8 w4_9 L4_9 w4_10 L4_10 w4_11 L4_11 w4_12 L4_12 w4_13 L4_13 w4_14 L4_14 w4_15 L4_15 w4_16 L4_16 w4_17 L4_17 w4_18 L4_18 w4_19 L4_19 w4_20 L4_20 w4_21 L4_21 w4_22 L4_22
attribute [simp] body5 w5_0 L5_0 w5_1 L5_1 w5_2 L5_2 w5_3 L5_3 w5_4 L5_4 w5_5 L5_5 w5_6 L5_6 w5_7 L5_7 w5_8 L5_8 w5_9 L5_9 w5_10 L5_10 w5_11 L5_11 w5_12 L5_12 w5_13 L5_13 w5_14 L5_14 w5_15 L5_15 w5_16 L5_16 w5_17 L5_17 w5_18 L5_18 w5_19 L5_19 w5_20 L5_20 w5_21 L5_21 w5_22 L5_22 w5_23 L5_23 w5_24 L5_24 w5_25 L5_25 w5_26 L5_26 w5_27 L5_27 w5_28 L5_28 w5_29 L5_29 w5_30 L5_30 w5_31 L5_31 w5_32 L5_32 w5_33 L5_33 w5_34 L5_34 w5_35 L5_35 w5_36 L5_36 w5_37 L5_37 w5_38 L5_38 w5_39 L5_39 w5_40 L5_40
attribute [simp] body6 w6_0 L6_0 w6_1 L6_1 w6_2 L6_2 w6_3 L6_3 w6_4 L6_4
attribute [simp] body8 w8_0 L8_0 w8_1 L8_1 w8_2 L8_2 w8_3 L8_3 w8_4 L8_4 w8_5 L8_5 w8_6 L8_6 w8_7 L8_7 w8_8 L8_8 w8_9 L8_9 w8_10 L8_10
attribute [simp] body9 w9_0 L9_0 w9_1 L9_1 w9_2 L9_2 w9_3 L9_3 w9_4 L9_4 w9_5 L9_5 w9_6 L9_6 w9_7 L9_7 w9_8 L9_8 w9_9 L9_9 w9_10 L9_10 w9_11 L9_11 w9_12 L9_12 w9_13 L9_13 w9_14 L9_14 w9_15 L9_15
attribute [simp] body10 w10_0 L10_0 w10_1 L10_1 w10_2 L10_2 w10_3 L10_3 w10_4 L10_4 w10_5 L10_5 w10_6 L10_6 w10_7 L10_7 w10_8 L10_8 w10_9 L10_9 w10_10 L10_10 w10_11 L10_11 w10_12 L10_12 w10_13 L10_13 w10_14 L10_14 w10_15 L10_15 w10_16 L10_16 w10_17 L10_17
attribute [simp] body11 w11_0 L11_0 w11_1 L11_1 w11_2 L11_2 w11_3 L11_3 w11_4 L11_4 w11_5 L11_5
attribute [simp] body12 w12_0 L12_0 w12_1 L12_1 w12_2 L12_2 w12_3 L12_3 w12_4 L12_4 w12_5 L12_5 w12_6 L12_6 w12_7 L12_7 w12_8 L12_8
attribute [simp] body13 w13_0 L13_0 w13_1 L13_1
attribute [simp] body14 w14_0 L14_0 w14_1 L14_1 w14_2 L14_2 w14_3 L14_3
attribute [simp] body18 w18_0 L18_0 w18_1 L18_1 w18_2 L18_2 w18_3 L18_3 w18_4 L18_4 w18_5 L18_5 w18_6 L18_6 w18_7 L18_7 w18_8 L18_8 w18_9 L18_9
attribute [simp] body19 w19_0 L19_0 w19_1 L19_1 w19_2 L19_2 w19_3 L19_3 w19_4 L19_4 w19_5 L19_5 w19_6 L19_6 w19_7 L19_7 w19_8 L19_8 w19_9 L19_9
attribute [simp] body20 w20_0 L20_0 w20_1 L20_1 w20_2 L20_2 w20_3 L20_3 w20_4 L20_4 w20_5 L20_5 w20_6 L20_6 w20_7 L20_7 w20_8 L20_8
attribute [simp] body21 w21_0 L21_0 w21_1 L21_1
attribute [simp] body22 w22_0 L22_0 w22_1 L22_1 w22_2 L22_2 w22_3 L22_3 w22_4 L22_4 w22_5 L22_5 w22_6 L22_6 w22_7 L22_7 w22_8 L22_8
attribute [simp] body23 w23_0 L23_0 w23_1 L23_1 w23_2 L23_2 w23_3 L23_3
attribute [simp] body24 w24_0 L24_0 w24_1 L24_1 w24_2 L24_2 w24_3 L24_3 w24_4 L24_4 w24_5 L24_5 w24_6 L24_6 w24_7 L24_7
attribute [simp] body25 w25_0 L25_0 w25_1 L25_1
attribute [simp] body26 w26_0 L26_0 w26_1 L26_1 w26_2 L26_2 w26_3 L26_3 w26_4 L26_4
attribute [simp] body27 w27_0 L27_0 w27_1 L27_1 w27_2 L27_2 w27_3 L27_3 w27_4 L27_4 w27_5 L27_5 w27_6 L27_6 w27_7 L27_7 w27_8 L27_8 w27_9 L27_9 w27_10 L27_10 w27_11 L27_11 w27_12 L27_12 w27_13 L27_13
attribute [simp] body30 w30_0 L30_0 w30_1 L30_1 w30_2 L30_2 w30_3 L30_3 w30_4 L30_4 w30_5 L30_5 w30_6 L30_6 w30_7 L30_7 w30_8 L30_8 w30_9 L30_9 w30_10 L30_10 w30_11 L30_11 w30_12 L30_12 w30_13 L30_13 w30_14 L30_14 w30_15 L30_15 w30_16 L30_16 w30_17 L30_17 w30_18 L30_18
attribute [simp] body31 w31_0 L31_0 w31_1 L31_1
attribute [simp] body32 w32_0 L32_0 w32_1 L32_1 w32_2 L32_2 w32_3 L32_3 w32_4 L32_4 w32_5 L32_5 w32_6 L32_6 w32_7 L32_7 w32_8 L32_8 w32_9 L32_9
attribute [simp] body33 w33_0 L33_0 w33_1 L33_1 w33_2 L33_2 w33_3 L33_3 w33_4 L33_4 w33_5 L33_5 w33_6 L33_6 w33_7 L33_7
attribute [simp] body34 w34_0 L34_0 w34_1 L34_1
attribute [simp] body35 w35_0 L35_0 w35_1 L35_1 w35_2 L35_2 w35_3 L35_3 w35_4 L35_4 w35_5 L35_5 w35_6 L35_6 w35_7 L35_7
end Go.Proofs.YtllhpkhbcgfeeaaDoor.gen

