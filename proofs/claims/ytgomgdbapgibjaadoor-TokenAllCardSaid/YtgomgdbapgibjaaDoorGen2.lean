/-
  This text names the regions of more of the functions that are walked, with the slots that they read and set.
  No condition.
-/
import Derived.Test.YtgomgdbapgibjaaDoorGen
set_option maxRecDepth 100000
set_option linter.unusedSimpArgs false
set_option linter.unusedVariables false
namespace Go.Proofs.YtgomgdbapgibjaaDoor.gen
open Go.Sh
variable {S : Sums} {m : Mem} {k : List Fr} {E : LEnv} {Q : Post}
noncomputable def c3 : Code := bodyOf Tryd.f3
noncomputable def r3_0 : Code := Code.sub [0] c3
noncomputable def r3_1 : Code := Code.sub [1, 0, 0] c3
noncomputable def r3_2 : Code := Code.sub [1, 0, 1, 0, 0] c3
noncomputable def r3_3 : Code := Code.sub [1, 0, 1, 0, 1, 0] c3
noncomputable def r3_4 : Code := Code.sub [1, 0, 1, 0, 1, 1, 0] c3
noncomputable def r3_5 : Code := Code.sub [1, 0, 1, 0, 1, 1, 1, 0] c3
noncomputable def r3_6 : Code := Code.sub [1, 1, 0] c3
theorem body3 : c3 = (.seq r3_0 (.seq (.seq r3_1 (.block 0 (.seq r3_2 (.cond (.tmp 13) r3_3 (.seq r3_4 (.cond (.tmp 17) r3_5 .skip)))))) (.seq r3_6 .ret))) := by kernel_rfl
noncomputable def L3_0 : Lt r3_0 := by refine ⟨?l, ?h⟩; case h => simp only [r3_0, c3, bodyOf, Tryd.f3, Code.sub, opsOf, List.map_cons, List.map_nil, strip]; rfl
theorem w3_0 : Wp r3_0 13 [13, 17] [10] [] [] [some 10] (L3_0).1 := w_plain (by kernel_rfl) (L3_0).2
noncomputable def L3_1 : Lt r3_1 := by refine ⟨?l, ?h⟩; case h => simp only [r3_1, c3, bodyOf, Tryd.f3, Code.sub, opsOf, List.map_cons, List.map_nil, strip]; rfl
theorem w3_1 : Wp r3_1 13 [13, 17] [11, 12] [] [4] [some 11, some 12] (L3_1).1 := w_plain (by kernel_rfl) (L3_1).2
noncomputable def L3_2 : Lt r3_2 := by refine ⟨?l, ?h⟩; case h => simp only [r3_2, c3, bodyOf, Tryd.f3, Code.sub, opsOf, List.map_cons, List.map_nil, strip]; rfl
theorem w3_2 : Wp r3_2 13 [13, 17] [] [13] [12] [some 14, some 13] (L3_2).1 := w_plain (by kernel_rfl) (L3_2).2
noncomputable def L3_3 : Lt r3_3 := by refine ⟨?l, ?h⟩; case h => simp only [r3_3, c3, bodyOf, Tryd.f3, Code.sub, opsOf, List.map_cons, List.map_nil, strip]; rfl
theorem w3_3 : Wp r3_3 13 [13, 17] [0] [] [1] [some 15, some 16, some 0] (L3_3).1 := w_plain (by kernel_rfl) (L3_3).2
noncomputable def L3_4 : Lt r3_4 := by refine ⟨?l, ?h⟩; case h => simp only [r3_4, c3, bodyOf, Tryd.f3, Code.sub, opsOf, List.map_cons, List.map_nil, strip]; rfl
theorem w3_4 : Wp r3_4 13 [13, 17] [] [17] [12] [some 18, some 17] (L3_4).1 := w_plain (by kernel_rfl) (L3_4).2
noncomputable def L3_5 : Lt r3_5 := by refine ⟨?l, ?h⟩; case h => simp only [r3_5, c3, bodyOf, Tryd.f3, Code.sub, opsOf, List.map_cons, List.map_nil, strip]; rfl
theorem w3_5 : Wp r3_5 13 [13, 17] [0] [] [2, 3] [some 19, some 20, some 21, some 0] (L3_5).1 := w_plain (by kernel_rfl) (L3_5).2
noncomputable def L3_6 : Lt r3_6 := by refine ⟨?l, ?h⟩; case h => simp only [r3_6, c3, bodyOf, Tryd.f3, Code.sub, opsOf, List.map_cons, List.map_nil, strip]; rfl
theorem w3_6 : Wp r3_6 13 [13, 17] [10] [] [0] [some 22, some 23, some 24, some 25, some 26, some 10] (L3_6).1 := w_plain (by kernel_rfl) (L3_6).2
theorem k3 : FnIs TT 3 c3 [.tmp 10] 5 := ⟨Tryd.f3, by kernel_rfl, by simp only [Tryd.f3, c3, bodyOf], by kernel_rfl, of_decide_eq_true (by kernel_rfl)⟩
noncomputable def c9 : Code := bodyOf Tryd.f9
noncomputable def r9_0 : Code := Code.sub [0] c9
noncomputable def r9_1 : Code := Code.sub [1, 0] c9
noncomputable def r9_2 : Code := Code.sub [1, 1, 0, 0] c9
noncomputable def r9_3 : Code := Code.sub [1, 1, 0, 1, 0, 0, 0, 0] c9
noncomputable def r9_4 : Code := Code.sub [1, 1, 0, 1, 0, 0, 1, 0, 0, 0, 0] c9
noncomputable def r9_5 : Code := Code.sub [1, 1, 0, 1, 0, 0, 1, 0, 0, 0, 1, 0, 0] c9
noncomputable def r9_6 : Code := Code.sub [1, 1, 0, 1, 0, 0, 1, 0, 0, 1, 0] c9
noncomputable def r9_7 : Code := Code.sub [1, 1, 0, 1, 0, 0, 1, 0, 0, 1, 1, 0] c9
noncomputable def r9_8 : Code := Code.sub [1, 1, 0, 1, 0, 0, 1, 0, 0, 1, 1, 1, 0, 0] c9
noncomputable def r9_9 : Code := Code.sub [1, 1, 0, 1, 0, 0, 1, 0, 0, 1, 1, 1, 0, 1, 0] c9
noncomputable def r9_10 : Code := Code.sub [1, 1, 0, 1, 0, 0, 1, 0, 0, 1, 1, 1, 0, 1, 1, 0] c9
noncomputable def r9_11 : Code := Code.sub [1, 1, 0, 1, 0, 0, 1, 0, 0, 1, 1, 1, 0, 1, 1, 1, 0] c9
noncomputable def r9_12 : Code := Code.sub [1, 1, 0, 1, 0, 0, 1, 0, 0, 1, 1, 1, 0, 1, 1, 1, 1, 0] c9
noncomputable def r9_13 : Code := Code.sub [1, 1, 0, 1, 0, 0, 1, 0, 0, 1, 1, 1, 0, 1, 1, 1, 1, 1, 0] c9
noncomputable def r9_14 : Code := Code.sub [1, 1, 0, 1, 0, 0, 1, 0, 0, 1, 1, 1, 0, 1, 1, 1, 1, 1, 1, 0] c9
noncomputable def r9_15 : Code := Code.sub [1, 1, 0, 1, 0, 0, 1, 0, 0, 1, 1, 1, 0, 1, 1, 1, 1, 1, 1, 1, 0] c9
noncomputable def r9_16 : Code := Code.sub [1, 1, 0, 1, 0, 0, 1, 0, 0, 1, 1, 1, 0, 1, 1, 1, 1, 1, 1, 1, 1] c9
noncomputable def r9_17 : Code := Code.sub [1, 1, 0, 1, 0, 0, 1, 1] c9
noncomputable def r9_18 : Code := Code.sub [1, 1, 1, 0] c9
theorem body9 : c9 = (.seq r9_0 (.seq r9_1 (.seq (.seq r9_2 (.block 0 (.loop (.seq (.seq r9_3 (.cond (.tmp 17) .skip (.exit 0))) (.seq (.block 1 (.seq (.seq r9_4 (.cond (.tmp 22) (.seq r9_5 .ret) .skip)) (.seq r9_6 (.seq r9_7 (.block 2 (.seq r9_8 (.cond (.tmp 53) r9_9 (.seq r9_10 (.cond (.tmp 72) r9_11 (.seq r9_12 (.cond (.tmp 92) r9_13 (.seq r9_14 (.cond (.tmp 112) r9_15 r9_16))))))))))))) r9_17))))) (.seq r9_18 .ret)))) := by kernel_rfl
noncomputable def L9_0 : Lt r9_0 := by refine ⟨?l, ?h⟩; case h => simp only [r9_0, c9, bodyOf, Tryd.f9, Code.sub, opsOf, List.map_cons, List.map_nil, strip]; rfl
theorem w9_0 : Wp r9_0 37 [53, 72, 92, 112] [4] [] [] [some 4] (L9_0).1 := w_plain (by kernel_rfl) (L9_0).2
noncomputable def L9_1 : Lt r9_1 := by refine ⟨?l, ?h⟩; case h => simp only [r9_1, c9, bodyOf, Tryd.f9, Code.sub, opsOf, List.map_cons, List.map_nil, strip]; rfl
theorem w9_1 : Wp r9_1 37 [53, 72, 92, 112] [8, 9, 5] [] [0] [some 8, some 9, some 5] (L9_1).1 := w_plain (by kernel_rfl) (L9_1).2
noncomputable def L9_2 : Lt r9_2 := by refine ⟨?l, ?h⟩; case h => simp only [r9_2, c9, bodyOf, Tryd.f9, Code.sub, opsOf, List.map_cons, List.map_nil, strip]; rfl
theorem w9_2 : Wp r9_2 37 [53, 72, 92, 112] [6] [] [] [some 6] (L9_2).1 := w_plain (by kernel_rfl) (L9_2).2
noncomputable def L9_3 : Lt r9_3 := by refine ⟨?l, ?h⟩; case h => simp only [r9_3, c9, bodyOf, Tryd.f9, Code.sub, opsOf, List.map_cons, List.map_nil, strip]; rfl
theorem w9_3 : Wp r9_3 37 [53, 72, 92, 112] [10, 11, 12, 13, 14, 15, 16, 17] [] [1, 6] [some 10, some 11, some 12, some 13, some 14, some 15, some 16, some 17] (L9_3).1 := w_plain (by kernel_rfl) (L9_3).2
noncomputable def L9_4 : Lt r9_4 := by refine ⟨?l, ?h⟩; case h => simp only [r9_4, c9, bodyOf, Tryd.f9, Code.sub, opsOf, List.map_cons, List.map_nil, strip]; rfl
theorem w9_4 : Wp r9_4 37 [53, 72, 92, 112] [20, 21, 22] [] [5] [some 20, some 21, some 22] (L9_4).1 := w_plain (by kernel_rfl) (L9_4).2
noncomputable def L9_5 : Lt r9_5 := by refine ⟨?l, ?h⟩; case h => simp only [r9_5, c9, bodyOf, Tryd.f9, Code.sub, opsOf, List.map_cons, List.map_nil, strip]; rfl
theorem w9_5 : Wp r9_5 37 [53, 72, 92, 112] [23, 4] [] [5] [some 23, some 4] (L9_5).1 := w_plain (by kernel_rfl) (L9_5).2
noncomputable def L9_6 : Lt r9_6 := by refine ⟨?l, ?h⟩; case h => simp only [r9_6, c9, bodyOf, Tryd.f9, Code.sub, opsOf, List.map_cons, List.map_nil, strip]; rfl
theorem w9_6 : Wp r9_6 37 [53, 72, 92, 112] [24, 25, 26, 27, 28, 29, 30, 31, 7] [] [1, 6, 5] [some 24, some 25, some 26, some 27, some 28, some 29, some 30, some 31, some 7] (L9_6).1 := w_plain (by kernel_rfl) (L9_6).2
noncomputable def L9_7 : Lt r9_7 := by refine ⟨?l, ?h⟩; case h => simp only [r9_7, c9, bodyOf, Tryd.f9, Code.sub, opsOf, List.map_cons, List.map_nil, strip]; rfl
theorem w9_7 : Wp r9_7 37 [53, 72, 92, 112] [32, 33, 34, 35, 36] [] [1, 6] [some 32, some 33, some 34, some 35, some 36] (L9_7).1 := w_plain (by kernel_rfl) (L9_7).2
noncomputable def L9_8 : Lt r9_8 := by refine ⟨?l, ?h⟩; case h => simp only [r9_8, c9, bodyOf, Tryd.f9, Code.sub, opsOf, List.map_cons, List.map_nil, strip]; rfl
theorem w9_8 : Wp r9_8 37 [53, 72, 92, 112] [] [53] [36] [some 54, some 53] (L9_8).1 := w_plain (by kernel_rfl) (L9_8).2
theorem can9_9 : canonOps (opsOf r9_9) = List.filterMap (fun i => ((opsOf r9_9)[i]?).map (renum [0, 1, 2, 3, 4, 5, 6, 7, 8, 9, 10, 11, 12, 13, 14, 15, 16, 17])) [0, 1, 2, 3, 4, 5, 6, 7, 8, 9, 10, 11, 12, 13, 14, 15, 16, 17] := by kernel_rfl
noncomputable def L9_9 : Lc r9_9 := by refine ⟨?l, (congrArg (List.map strip) can9_9).trans ?h⟩; case h => simp only [r9_9, c9, bodyOf, Tryd.f9, Code.sub, opsOf, List.filterMap_cons, List.filterMap_nil, List.getElem?_cons_succ, List.getElem?_cons_zero, Option.map_some, renum, List.map_cons, List.map_nil, strip]; rfl
theorem w9_9 : Wd r9_9 37 [53, 72, 92, 112] [5] [] [1, 6, 5, 7] [some 55, some 56, some 57, some 58, some 59, some 60, some 61, some 62, some 63, some 64, some 65, some 66, some 67, some 68, some 69, some 70, some 71, some 5] (L9_9).1 [(2, [9, 18]), (6, [9]), (8, [9]), (10, [18]), (15, [9, 18])] := w_loud (by kernel_rfl) (L9_9).2
noncomputable def L9_10 : Lt r9_10 := by refine ⟨?l, ?h⟩; case h => simp only [r9_10, c9, bodyOf, Tryd.f9, Code.sub, opsOf, List.map_cons, List.map_nil, strip]; rfl
theorem w9_10 : Wp r9_10 37 [53, 72, 92, 112] [] [72] [36] [some 73, some 72] (L9_10).1 := w_plain (by kernel_rfl) (L9_10).2
theorem can9_11 : canonOps (opsOf r9_11) = opsOf r9_11 := by kernel_rfl
noncomputable def L9_11 : Lc r9_11 := by refine ⟨?l, (congrArg (List.map strip) can9_11).trans ?h⟩; case h => simp only [r9_11, c9, bodyOf, Tryd.f9, Code.sub, opsOf, List.map_cons, List.map_nil, strip]; rfl
theorem w9_11 : Wd r9_11 37 [53, 72, 92, 112] [5] [] [1, 6, 5, 7] [some 74, some 75, some 76, some 77, some 78, some 79, some 80, some 81, some 82, some 83, some 84, some 85, some 86, some 87, some 88, some 89, some 90, some 91, some 5] (L9_11).1 [(2, [9, 19]), (7, [9]), (11, [19]), (16, [9, 19])] := w_loud (by kernel_rfl) (L9_11).2
noncomputable def L9_12 : Lt r9_12 := by refine ⟨?l, ?h⟩; case h => simp only [r9_12, c9, bodyOf, Tryd.f9, Code.sub, opsOf, List.map_cons, List.map_nil, strip]; rfl
theorem w9_12 : Wp r9_12 37 [53, 72, 92, 112] [] [92] [36] [some 93, some 92] (L9_12).1 := w_plain (by kernel_rfl) (L9_12).2
theorem can9_13 : canonOps (opsOf r9_13) = opsOf r9_13 := by kernel_rfl
noncomputable def L9_13 : Lc r9_13 := by refine ⟨?l, (congrArg (List.map strip) can9_13).trans ?h⟩; case h => simp only [r9_13, c9, bodyOf, Tryd.f9, Code.sub, opsOf, List.map_cons, List.map_nil, strip]; rfl
theorem w9_13 : Wd r9_13 37 [53, 72, 92, 112] [5] [] [5, 7, 1, 6] [some 94, some 95, some 96, some 97, some 98, some 99, some 100, some 101, some 102, some 103, some 104, some 105, some 106, some 107, some 108, some 109, some 110, some 111, some 5] (L9_13).1 [(2, [13, 19]), (5, [13, 19]), (11, [13]), (16, [19])] := w_loud (by kernel_rfl) (L9_13).2
noncomputable def L9_14 : Lt r9_14 := by refine ⟨?l, ?h⟩; case h => simp only [r9_14, c9, bodyOf, Tryd.f9, Code.sub, opsOf, List.map_cons, List.map_nil, strip]; rfl
theorem w9_14 : Wp r9_14 37 [53, 72, 92, 112] [] [112] [36] [some 113, some 112] (L9_14).1 := w_plain (by kernel_rfl) (L9_14).2
noncomputable def L9_15 : Lt r9_15 := by refine ⟨?l, ?h⟩; case h => simp only [r9_15, c9, bodyOf, Tryd.f9, Code.sub, opsOf, List.map_cons, List.map_nil, strip]; rfl
theorem w9_15 : Wp r9_15 37 [53, 72, 92, 112] [5] [] [5, 7] [some 114, some 115, some 116, some 5] (L9_15).1 := w_plain (by kernel_rfl) (L9_15).2
theorem can9_16 : canonOps (opsOf r9_16) = opsOf r9_16 := by kernel_rfl
noncomputable def L9_16 : Lc r9_16 := by refine ⟨?l, (congrArg (List.map strip) can9_16).trans ?h⟩; case h => simp only [r9_16, c9, bodyOf, Tryd.f9, Code.sub, opsOf, List.map_cons, List.map_nil, strip]; rfl
theorem w9_16 : Wd r9_16 37 [53, 72, 92, 112] [5] [] [1, 6, 5, 7] [some 37, some 38, some 39, some 40, some 41, some 42, some 43, some 44, some 45, some 46, some 47, some 48, some 49, some 50, some 51, some 52, some 5] (L9_16).1 [(2, [9, 17]), (7, [9]), (14, [9, 17])] := w_loud (by kernel_rfl) (L9_16).2
noncomputable def L9_17 : Lt r9_17 := by refine ⟨?l, ?h⟩; case h => simp only [r9_17, c9, bodyOf, Tryd.f9, Code.sub, opsOf, List.map_cons, List.map_nil, strip]; rfl
theorem w9_17 : Wp r9_17 37 [53, 72, 92, 112] [18, 19, 6] [] [6] [some 18, some 19, some 6] (L9_17).1 := w_plain (by kernel_rfl) (L9_17).2
noncomputable def L9_18 : Lt r9_18 := by refine ⟨?l, ?h⟩; case h => simp only [r9_18, c9, bodyOf, Tryd.f9, Code.sub, opsOf, List.map_cons, List.map_nil, strip]; rfl
theorem w9_18 : Wp r9_18 37 [53, 72, 92, 112] [4] [] [5] [some 117, some 4] (L9_18).1 := w_plain (by kernel_rfl) (L9_18).2
theorem k9 : FnIs TT 9 c9 [.tmp 4] 2 := ⟨Tryd.f9, by kernel_rfl, by simp only [Tryd.f9, c9, bodyOf], by kernel_rfl, of_decide_eq_true (by kernel_rfl)⟩
noncomputable def c12 : Code := bodyOf Tryd.f12
noncomputable def r12_0 : Code := Code.sub [0] c12
noncomputable def r12_1 : Code := Code.sub [1, 0] c12
noncomputable def r12_2 : Code := Code.sub [1, 1, 0] c12
noncomputable def r12_3 : Code := Code.sub [1, 1, 1, 0] c12
noncomputable def r12_4 : Code := Code.sub [1, 1, 1, 1, 0] c12
noncomputable def r12_5 : Code := Code.sub [1, 1, 1, 1, 1, 0] c12
noncomputable def r12_6 : Code := Code.sub [1, 1, 1, 1, 1, 1, 0] c12
noncomputable def r12_7 : Code := Code.sub [1, 1, 1, 1, 1, 1, 1, 0] c12
noncomputable def r12_8 : Code := Code.sub [1, 1, 1, 1, 1, 1, 1, 1, 0] c12
noncomputable def r12_9 : Code := Code.sub [1, 1, 1, 1, 1, 1, 1, 1, 1, 0] c12
noncomputable def r12_10 : Code := Code.sub [1, 1, 1, 1, 1, 1, 1, 1, 1, 1, 0] c12
noncomputable def r12_11 : Code := Code.sub [1, 1, 1, 1, 1, 1, 1, 1, 1, 1, 1, 0] c12
theorem body12 : c12 = (.seq r12_0 (.seq r12_1 (.seq r12_2 (.seq r12_3 (.seq r12_4 (.seq r12_5 (.seq r12_6 (.seq r12_7 (.seq r12_8 (.seq r12_9 (.seq r12_10 (.seq r12_11 .ret)))))))))))) := by kernel_rfl
noncomputable def L12_0 : Lt r12_0 := by refine ⟨?l, ?h⟩; case h => simp only [r12_0, c12, bodyOf, Tryd.f12, Code.sub, opsOf, List.map_cons, List.map_nil, strip]; rfl
theorem w12_0 : Wp r12_0 4 [] [2] [] [] [some 2] (L12_0).1 := w_plain (by kernel_rfl) (L12_0).2
noncomputable def L12_1 : Lt r12_1 := by refine ⟨?l, ?h⟩; case h => simp only [r12_1, c12, bodyOf, Tryd.f12, Code.sub, opsOf, List.map_cons, List.map_nil, strip]; rfl
theorem w12_1 : Wp r12_1 4 [] [3] [] [0] [some 4, some 5, some 6, some 7, some 3] (L12_1).1 := w_plain (by kernel_rfl) (L12_1).2
noncomputable def L12_2 : Lt r12_2 := by refine ⟨?l, ?h⟩; case h => simp only [r12_2, c12, bodyOf, Tryd.f12, Code.sub, opsOf, List.map_cons, List.map_nil, strip]; rfl
theorem w12_2 : Wp r12_2 4 [] [] [] [3] [some 8, some 9] (L12_2).1 := w_plain (by kernel_rfl) (L12_2).2
noncomputable def L12_3 : Lt r12_3 := by refine ⟨?l, ?h⟩; case h => simp only [r12_3, c12, bodyOf, Tryd.f12, Code.sub, opsOf, List.map_cons, List.map_nil, strip]; rfl
theorem w12_3 : Wp r12_3 4 [] [] [] [3] [some 10, some 11, some 12, some 13, some 14, some 15, some 16, some 17, none] (L12_3).1 := w_plain (by kernel_rfl) (L12_3).2
noncomputable def L12_4 : Lt r12_4 := by refine ⟨?l, ?h⟩; case h => simp only [r12_4, c12, bodyOf, Tryd.f12, Code.sub, opsOf, List.map_cons, List.map_nil, strip]; rfl
theorem w12_4 : Wp r12_4 4 [] [] [] [3] [some 18, some 19] (L12_4).1 := w_plain (by kernel_rfl) (L12_4).2
noncomputable def L12_5 : Lt r12_5 := by refine ⟨?l, ?h⟩; case h => simp only [r12_5, c12, bodyOf, Tryd.f12, Code.sub, opsOf, List.map_cons, List.map_nil, strip]; rfl
theorem w12_5 : Wp r12_5 4 [] [] [] [3] [some 20, some 21, some 22, some 23, some 24, some 25, some 26] (L12_5).1 := w_plain (by kernel_rfl) (L12_5).2
noncomputable def L12_6 : Lt r12_6 := by refine ⟨?l, ?h⟩; case h => simp only [r12_6, c12, bodyOf, Tryd.f12, Code.sub, opsOf, List.map_cons, List.map_nil, strip]; rfl
theorem w12_6 : Wp r12_6 4 [] [] [] [3] [some 27, some 28, some 29, some 30, some 31, some 32, some 33] (L12_6).1 := w_plain (by kernel_rfl) (L12_6).2
noncomputable def L12_7 : Lt r12_7 := by refine ⟨?l, ?h⟩; case h => simp only [r12_7, c12, bodyOf, Tryd.f12, Code.sub, opsOf, List.map_cons, List.map_nil, strip]; rfl
theorem w12_7 : Wp r12_7 4 [] [] [] [3] [some 34, some 35, some 36, some 37] (L12_7).1 := w_plain (by kernel_rfl) (L12_7).2
noncomputable def L12_8 : Lt r12_8 := by refine ⟨?l, ?h⟩; case h => simp only [r12_8, c12, bodyOf, Tryd.f12, Code.sub, opsOf, List.map_cons, List.map_nil, strip]; rfl
theorem w12_8 : Wp r12_8 4 [] [] [] [3] [some 38, some 39, some 40, some 41] (L12_8).1 := w_plain (by kernel_rfl) (L12_8).2
noncomputable def L12_9 : Lt r12_9 := by refine ⟨?l, ?h⟩; case h => simp only [r12_9, c12, bodyOf, Tryd.f12, Code.sub, opsOf, List.map_cons, List.map_nil, strip]; rfl
theorem w12_9 : Wp r12_9 4 [] [] [] [3] [some 42, some 43, some 44, some 45, some 46, some 47, some 48] (L12_9).1 := w_plain (by kernel_rfl) (L12_9).2
noncomputable def L12_10 : Lt r12_10 := by refine ⟨?l, ?h⟩; case h => simp only [r12_10, c12, bodyOf, Tryd.f12, Code.sub, opsOf, List.map_cons, List.map_nil, strip]; rfl
theorem w12_10 : Wp r12_10 4 [] [] [] [3] [some 49, some 50, some 51, some 52] (L12_10).1 := w_plain (by kernel_rfl) (L12_10).2
noncomputable def L12_11 : Lt r12_11 := by refine ⟨?l, ?h⟩; case h => simp only [r12_11, c12, bodyOf, Tryd.f12, Code.sub, opsOf, List.map_cons, List.map_nil, strip]; rfl
theorem w12_11 : Wp r12_11 4 [] [2] [] [3] [some 53, some 54, some 55, some 56, some 2] (L12_11).1 := w_plain (by kernel_rfl) (L12_11).2
theorem k12 : FnIs TT 12 c12 [.tmp 2] 1 := ⟨Tryd.f12, by kernel_rfl, by simp only [Tryd.f12, c12, bodyOf], by kernel_rfl, of_decide_eq_true (by kernel_rfl)⟩
noncomputable def c20 : Code := bodyOf Tryd.f20
noncomputable def r20_0 : Code := Code.sub [] c20
theorem body20 : c20 = r20_0 := by kernel_rfl
theorem can20_0 : canonOps (opsOf r20_0) = opsOf r20_0 := by kernel_rfl
noncomputable def L20_0 : Lc r20_0 := by refine ⟨?l, (congrArg (List.map strip) can20_0).trans ?h⟩; case h => simp only [r20_0, c20, bodyOf, Tryd.f20, Code.sub, opsOf, List.map_cons, List.map_nil, strip]; rfl
theorem w20_0 : Wd r20_0 3 [] [] [] [0, 1, 2] [some 6, some 7, some 8, some 9, some 10, some 11, some 12, some 13, some 14, some 15, some 16, some 17, some 18, some 19, none] (L20_0).1 [(4, [7, 14])] := w_loud (by kernel_rfl) (L20_0).2
theorem k20 : FnIs TT 20 c20 [] 3 := ⟨Tryd.f20, by kernel_rfl, by simp only [Tryd.f20, c20, bodyOf], by kernel_rfl, of_decide_eq_true (by kernel_rfl)⟩
noncomputable def c21 : Code := bodyOf Tryd.f21
noncomputable def r21_0 : Code := Code.sub [0] c21
noncomputable def r21_1 : Code := Code.sub [1, 0] c21
noncomputable def r21_2 : Code := Code.sub [1, 1, 0] c21
noncomputable def r21_3 : Code := Code.sub [1, 1, 1, 0] c21
noncomputable def r21_4 : Code := Code.sub [1, 1, 1, 1, 0] c21
noncomputable def r21_5 : Code := Code.sub [1, 1, 1, 1, 1, 0, 0] c21
noncomputable def r21_6 : Code := Code.sub [1, 1, 1, 1, 1, 0, 1, 0, 0, 0, 0] c21
noncomputable def r21_7 : Code := Code.sub [1, 1, 1, 1, 1, 0, 1, 0, 0, 1, 0, 0] c21
noncomputable def r21_8 : Code := Code.sub [1, 1, 1, 1, 1, 0, 1, 0, 0, 1, 1] c21
noncomputable def r21_9 : Code := Code.sub [1, 1, 1, 1, 1, 1, 0] c21
noncomputable def r21_10 : Code := Code.sub [1, 1, 1, 1, 1, 1, 1, 0] c21
noncomputable def r21_11 : Code := Code.sub [1, 1, 1, 1, 1, 1, 1, 1, 0] c21
noncomputable def r21_12 : Code := Code.sub [1, 1, 1, 1, 1, 1, 1, 1, 1, 0] c21
noncomputable def r21_13 : Code := Code.sub [1, 1, 1, 1, 1, 1, 1, 1, 1, 1, 0, 0] c21
noncomputable def r21_14 : Code := Code.sub [1, 1, 1, 1, 1, 1, 1, 1, 1, 1, 0, 1, 0] c21
noncomputable def r21_15 : Code := Code.sub [1, 1, 1, 1, 1, 1, 1, 1, 1, 1, 1] c21
theorem body21 : c21 = (.seq r21_0 (.seq r21_1 (.seq r21_2 (.seq r21_3 (.seq r21_4 (.seq (.seq r21_5 (.block 0 (.loop (.seq (.seq r21_6 (.cond (.tmp 36) .skip (.exit 0))) (.seq (.block 1 r21_7) r21_8))))) (.seq r21_9 (.seq r21_10 (.seq r21_11 (.seq r21_12 (.seq (.seq r21_13 (.cond (.tmp 87) r21_14 .skip)) r21_15))))))))))) := by kernel_rfl
noncomputable def L21_0 : Lt r21_0 := by refine ⟨?l, ?h⟩; case h => simp only [r21_0, c21, bodyOf, Tryd.f21, Code.sub, opsOf, List.map_cons, List.map_nil, strip]; rfl
theorem w21_0 : Wp r21_0 15 [36, 87] [] [] [0] [some 15, some 16, some 17, some 18, none] (L21_0).1 := w_plain (by kernel_rfl) (L21_0).2
noncomputable def L21_1 : Lt r21_1 := by refine ⟨?l, ?h⟩; case h => simp only [r21_1, c21, bodyOf, Tryd.f21, Code.sub, opsOf, List.map_cons, List.map_nil, strip]; rfl
theorem w21_1 : Wp r21_1 15 [36, 87] [] [] [0] [some 19, some 20, some 21, none] (L21_1).1 := w_plain (by kernel_rfl) (L21_1).2
noncomputable def L21_2 : Lt r21_2 := by refine ⟨?l, ?h⟩; case h => simp only [r21_2, c21, bodyOf, Tryd.f21, Code.sub, opsOf, List.map_cons, List.map_nil, strip]; rfl
theorem w21_2 : Wp r21_2 15 [36, 87] [] [] [0] [some 22, some 23, some 24, none] (L21_2).1 := w_plain (by kernel_rfl) (L21_2).2
noncomputable def L21_3 : Lt r21_3 := by refine ⟨?l, ?h⟩; case h => simp only [r21_3, c21, bodyOf, Tryd.f21, Code.sub, opsOf, List.map_cons, List.map_nil, strip]; rfl
theorem w21_3 : Wp r21_3 15 [36, 87] [] [] [0, 4] [some 25, some 26, some 27, some 28, none] (L21_3).1 := w_plain (by kernel_rfl) (L21_3).2
noncomputable def L21_4 : Lt r21_4 := by refine ⟨?l, ?h⟩; case h => simp only [r21_4, c21, bodyOf, Tryd.f21, Code.sub, opsOf, List.map_cons, List.map_nil, strip]; rfl
theorem w21_4 : Wp r21_4 15 [36, 87] [] [] [0, 6] [some 29, some 30, some 31, some 32, none] (L21_4).1 := w_plain (by kernel_rfl) (L21_4).2
noncomputable def L21_5 : Lt r21_5 := by refine ⟨?l, ?h⟩; case h => simp only [r21_5, c21, bodyOf, Tryd.f21, Code.sub, opsOf, List.map_cons, List.map_nil, strip]; rfl
theorem w21_5 : Wp r21_5 15 [36, 87] [14] [] [] [some 14] (L21_5).1 := w_plain (by kernel_rfl) (L21_5).2
noncomputable def L21_6 : Lt r21_6 := by refine ⟨?l, ?h⟩; case h => simp only [r21_6, c21, bodyOf, Tryd.f21, Code.sub, opsOf, List.map_cons, List.map_nil, strip]; rfl
theorem w21_6 : Wp r21_6 15 [36, 87] [] [36] [14, 2] [some 33, some 34, some 35, some 36] (L21_6).1 := w_plain (by kernel_rfl) (L21_6).2
theorem can21_7 : canonOps (opsOf r21_7) = List.filterMap (fun i => ((opsOf r21_7)[i]?).map (renum [0, 1, 2, 3, 4, 5, 6, 7, 8, 9, 10, 11, 12, 13, 14, 15, 16, 17, 18, 19, 20, 21, 22, 23, 24, 25])) [0, 1, 2, 3, 4, 5, 6, 7, 8, 9, 10, 11, 12, 13, 14, 15, 16, 17, 18, 19, 20, 21, 22, 23, 24, 25] := by kernel_rfl
noncomputable def L21_7 : Lc r21_7 := by refine ⟨?l, (congrArg (List.map strip) can21_7).trans ?h⟩; case h => simp only [r21_7, c21, bodyOf, Tryd.f21, Code.sub, opsOf, List.filterMap_cons, List.filterMap_nil, List.getElem?_cons_succ, List.getElem?_cons_zero, Option.map_some, renum, List.map_cons, List.map_nil, strip]; rfl
theorem w21_7 : Wd r21_7 15 [36, 87] [] [] [0, 3, 2, 14] [some 39, some 40, some 41, some 42, some 43, some 44, some 45, some 46, some 47, some 48, some 49, some 50, some 51, some 52, some 53, some 54, some 55, some 56, some 57, some 58, some 59, some 60, some 61, some 62, some 63, none] (L21_7).1 [(3, [22, 23, 25]), (7, [22, 23, 25]), (11, [22, 23]), (15, [22, 23]), (17, [22, 23]), (21, [22])] := w_loud (by kernel_rfl) (L21_7).2
noncomputable def L21_8 : Lt r21_8 := by refine ⟨?l, ?h⟩; case h => simp only [r21_8, c21, bodyOf, Tryd.f21, Code.sub, opsOf, List.map_cons, List.map_nil, strip]; rfl
theorem w21_8 : Wp r21_8 15 [36, 87] [14] [] [14] [some 37, some 38, some 14] (L21_8).1 := w_plain (by kernel_rfl) (L21_8).2
noncomputable def L21_9 : Lt r21_9 := by refine ⟨?l, ?h⟩; case h => simp only [r21_9, c21, bodyOf, Tryd.f21, Code.sub, opsOf, List.map_cons, List.map_nil, strip]; rfl
theorem w21_9 : Wp r21_9 15 [36, 87] [] [] [0, 1] [some 64, some 65, some 66, some 67] (L21_9).1 := w_plain (by kernel_rfl) (L21_9).2
noncomputable def L21_10 : Lt r21_10 := by refine ⟨?l, ?h⟩; case h => simp only [r21_10, c21, bodyOf, Tryd.f21, Code.sub, opsOf, List.map_cons, List.map_nil, strip]; rfl
theorem w21_10 : Wp r21_10 15 [36, 87] [] [] [0] [some 68, some 69] (L21_10).1 := w_plain (by kernel_rfl) (L21_10).2
theorem can21_11 : canonOps (opsOf r21_11) = List.filterMap (fun i => ((opsOf r21_11)[i]?).map (renum [0, 1, 2, 3, 4, 5, 6, 7, 8, 9, 10, 11, 12, 13])) [0, 1, 2, 3, 4, 5, 6, 7, 8, 9, 10, 11, 12, 13] := by kernel_rfl
noncomputable def L21_11 : Lc r21_11 := by refine ⟨?l, (congrArg (List.map strip) can21_11).trans ?h⟩; case h => simp only [r21_11, c21, bodyOf, Tryd.f21, Code.sub, opsOf, List.filterMap_cons, List.filterMap_nil, List.getElem?_cons_succ, List.getElem?_cons_zero, Option.map_some, renum, List.map_cons, List.map_nil, strip]; rfl
theorem w21_11 : Wd r21_11 15 [36, 87] [] [] [0] [some 70, some 71, some 72, some 73, some 74, some 75, some 76, some 77, some 78, some 79, some 80, some 81, some 82, none] (L21_11).1 [(3, [10, 11, 13]), (7, [10, 11]), (9, [10, 11])] := w_loud (by kernel_rfl) (L21_11).2
noncomputable def L21_12 : Lt r21_12 := by refine ⟨?l, ?h⟩; case h => simp only [r21_12, c21, bodyOf, Tryd.f21, Code.sub, opsOf, List.map_cons, List.map_nil, strip]; rfl
theorem w21_12 : Wp r21_12 15 [36, 87] [] [] [0, 5] [some 83, some 84, some 85] (L21_12).1 := w_plain (by kernel_rfl) (L21_12).2
noncomputable def L21_13 : Lt r21_13 := by refine ⟨?l, ?h⟩; case h => simp only [r21_13, c21, bodyOf, Tryd.f21, Code.sub, opsOf, List.map_cons, List.map_nil, strip]; rfl
theorem w21_13 : Wp r21_13 15 [36, 87] [] [87] [4] [some 86, some 87] (L21_13).1 := w_plain (by kernel_rfl) (L21_13).2
noncomputable def L21_14 : Lt r21_14 := by refine ⟨?l, ?h⟩; case h => simp only [r21_14, c21, bodyOf, Tryd.f21, Code.sub, opsOf, List.map_cons, List.map_nil, strip]; rfl
theorem w21_14 : Wp r21_14 15 [36, 87] [] [] [0, 4] [some 88, some 89, some 90, some 91, some 92, some 93] (L21_14).1 := w_plain (by kernel_rfl) (L21_14).2
noncomputable def L21_15 : Lt r21_15 := by refine ⟨?l, ?h⟩; case h => simp only [r21_15, c21, bodyOf, Tryd.f21, Code.sub, opsOf, List.map_cons, List.map_nil, strip]; rfl
theorem w21_15 : Wp r21_15 15 [36, 87] [] [] [0] [some 94, some 95] (L21_15).1 := w_plain (by kernel_rfl) (L21_15).2
theorem k21 : FnIs TT 21 c21 [] 7 := ⟨Tryd.f21, by kernel_rfl, by simp only [Tryd.f21, c21, bodyOf], by kernel_rfl, of_decide_eq_true (by kernel_rfl)⟩
noncomputable def c22 : Code := bodyOf Tryd.f22
noncomputable def r22_0 : Code := Code.sub [0] c22
noncomputable def r22_1 : Code := Code.sub [1, 0, 0] c22
noncomputable def r22_2 : Code := Code.sub [1, 0, 1, 0, 0] c22
noncomputable def r22_3 : Code := Code.sub [1, 1, 0] c22
noncomputable def r22_4 : Code := Code.sub [1, 1, 1, 0] c22
theorem body22 : c22 = (.seq r22_0 (.seq (.seq r22_1 (.cond (.tmp 14) (.seq r22_2 .ret) .skip)) (.seq r22_3 (.seq r22_4 .ret)))) := by kernel_rfl
noncomputable def L22_0 : Lt r22_0 := by refine ⟨?l, ?h⟩; case h => simp only [r22_0, c22, bodyOf, Tryd.f22, Code.sub, opsOf, List.map_cons, List.map_nil, strip]; rfl
theorem w22_0 : Wp r22_0 5 [14] [4] [] [] [some 4] (L22_0).1 := w_plain (by kernel_rfl) (L22_0).2
noncomputable def L22_1 : Lt r22_1 := by refine ⟨?l, ?h⟩; case h => simp only [r22_1, c22, bodyOf, Tryd.f22, Code.sub, opsOf, List.map_cons, List.map_nil, strip]; rfl
theorem w22_1 : Wp r22_1 5 [14] [] [14] [0] [some 5, some 6, some 7, some 8, some 9, some 10, some 11, some 12, some 13, some 14] (L22_1).1 := w_plain (by kernel_rfl) (L22_1).2
noncomputable def L22_2 : Lt r22_2 := by refine ⟨?l, ?h⟩; case h => simp only [r22_2, c22, bodyOf, Tryd.f22, Code.sub, opsOf, List.map_cons, List.map_nil, strip]; rfl
theorem w22_2 : Wp r22_2 5 [14] [4] [] [] [some 4] (L22_2).1 := w_plain (by kernel_rfl) (L22_2).2
noncomputable def L22_3 : Lt r22_3 := by refine ⟨?l, ?h⟩; case h => simp only [r22_3, c22, bodyOf, Tryd.f22, Code.sub, opsOf, List.map_cons, List.map_nil, strip]; rfl
theorem w22_3 : Wp r22_3 5 [14] [] [] [0] [some 15, some 16, some 17, some 18, some 19, some 20, some 21, none] (L22_3).1 := w_plain (by kernel_rfl) (L22_3).2
theorem can22_4 : canonOps (opsOf r22_4) = opsOf r22_4 := by kernel_rfl
noncomputable def L22_4 : Lc r22_4 := by refine ⟨?l, (congrArg (List.map strip) can22_4).trans ?h⟩; case h => simp only [r22_4, c22, bodyOf, Tryd.f22, Code.sub, opsOf, List.map_cons, List.map_nil, strip]; rfl
theorem w22_4 : Wd r22_4 5 [14] [4] [] [0, 1] [some 22, some 23, some 24, some 25, some 26, some 27, some 28, some 29, some 30, some 31, some 32, some 33, some 34, some 4] (L22_4).1 [(3, [12]), (7, [12]), (10, [12])] := w_loud (by kernel_rfl) (L22_4).2
theorem k22 : FnIs TT 22 c22 [.tmp 4] 2 := ⟨Tryd.f22, by kernel_rfl, by simp only [Tryd.f22, c22, bodyOf], by kernel_rfl, of_decide_eq_true (by kernel_rfl)⟩
noncomputable def c33 : Code := bodyOf Tryd.f33
noncomputable def r33_0 : Code := Code.sub [0] c33
noncomputable def r33_1 : Code := Code.sub [1, 0] c33
noncomputable def r33_2 : Code := Code.sub [1, 1, 0, 0] c33
noncomputable def r33_3 : Code := Code.sub [1, 1, 0, 1, 0, 0, 0, 0] c33
noncomputable def r33_4 : Code := Code.sub [1, 1, 0, 1, 0, 0, 1, 0, 0] c33
noncomputable def r33_5 : Code := Code.sub [1, 1, 0, 1, 0, 0, 1, 1] c33
noncomputable def r33_6 : Code := Code.sub [1, 1, 1, 0] c33
theorem body33 : c33 = (.seq r33_0 (.seq r33_1 (.seq (.seq r33_2 (.block 0 (.loop (.seq (.seq r33_3 (.cond (.tmp 9) .skip (.exit 0))) (.seq (.block 1 r33_4) r33_5))))) (.seq r33_6 .ret)))) := by kernel_rfl
noncomputable def L33_0 : Lt r33_0 := by refine ⟨?l, ?h⟩; case h => simp only [r33_0, c33, bodyOf, Tryd.f33, Code.sub, opsOf, List.map_cons, List.map_nil, strip]; rfl
theorem w33_0 : Wp r33_0 7 [9] [4] [] [] [some 4] (L33_0).1 := w_plain (by kernel_rfl) (L33_0).2
noncomputable def L33_1 : Lt r33_1 := by refine ⟨?l, ?h⟩; case h => simp only [r33_1, c33, bodyOf, Tryd.f33, Code.sub, opsOf, List.map_cons, List.map_nil, strip]; rfl
theorem w33_1 : Wp r33_1 7 [9] [5] [] [] [some 5] (L33_1).1 := w_plain (by kernel_rfl) (L33_1).2
noncomputable def L33_2 : Lt r33_2 := by refine ⟨?l, ?h⟩; case h => simp only [r33_2, c33, bodyOf, Tryd.f33, Code.sub, opsOf, List.map_cons, List.map_nil, strip]; rfl
theorem w33_2 : Wp r33_2 7 [9] [6] [] [] [some 6] (L33_2).1 := w_plain (by kernel_rfl) (L33_2).2
noncomputable def L33_3 : Lt r33_3 := by refine ⟨?l, ?h⟩; case h => simp only [r33_3, c33, bodyOf, Tryd.f33, Code.sub, opsOf, List.map_cons, List.map_nil, strip]; rfl
theorem w33_3 : Wp r33_3 7 [9] [] [9] [6, 1] [some 7, some 8, some 9] (L33_3).1 := w_plain (by kernel_rfl) (L33_3).2
noncomputable def L33_4 : Lt r33_4 := by refine ⟨?l, ?h⟩; case h => simp only [r33_4, c33, bodyOf, Tryd.f33, Code.sub, opsOf, List.map_cons, List.map_nil, strip]; rfl
theorem w33_4 : Wp r33_4 7 [9] [5] [] [5] [some 12, some 13, some 5] (L33_4).1 := w_plain (by kernel_rfl) (L33_4).2
noncomputable def L33_5 : Lt r33_5 := by refine ⟨?l, ?h⟩; case h => simp only [r33_5, c33, bodyOf, Tryd.f33, Code.sub, opsOf, List.map_cons, List.map_nil, strip]; rfl
theorem w33_5 : Wp r33_5 7 [9] [6] [] [6] [some 10, some 11, some 6] (L33_5).1 := w_plain (by kernel_rfl) (L33_5).2
noncomputable def L33_6 : Lt r33_6 := by refine ⟨?l, ?h⟩; case h => simp only [r33_6, c33, bodyOf, Tryd.f33, Code.sub, opsOf, List.map_cons, List.map_nil, strip]; rfl
theorem w33_6 : Wp r33_6 7 [9] [4] [] [5] [some 14, some 4] (L33_6).1 := w_plain (by kernel_rfl) (L33_6).2
theorem k33 : FnIs TT 33 c33 [.tmp 4] 2 := ⟨Tryd.f33, by kernel_rfl, by simp only [Tryd.f33, c33, bodyOf], by kernel_rfl, of_decide_eq_true (by kernel_rfl)⟩
noncomputable def c34 : Code := bodyOf Tryd.f34
noncomputable def r34_0 : Code := Code.sub [0] c34
noncomputable def r34_1 : Code := Code.sub [1, 0, 0] c34
noncomputable def r34_2 : Code := Code.sub [1, 0, 1, 0, 0, 0, 0] c34
noncomputable def r34_3 : Code := Code.sub [1, 0, 1, 0, 0, 1, 0, 0] c34
noncomputable def r34_4 : Code := Code.sub [1, 0, 1, 0, 0, 1, 1] c34
noncomputable def r34_5 : Code := Code.sub [1, 1] c34
theorem body34 : c34 = (.seq r34_0 (.seq (.seq r34_1 (.block 0 (.loop (.seq (.seq r34_2 (.cond (.tmp 18) .skip (.exit 0))) (.seq (.block 1 r34_3) r34_4))))) r34_5)) := by kernel_rfl
noncomputable def L34_0 : Lt r34_0 := by refine ⟨?l, ?h⟩; case h => simp only [r34_0, c34, bodyOf, Tryd.f34, Code.sub, opsOf, List.map_cons, List.map_nil, strip]; rfl
theorem w34_0 : Wp r34_0 8 [18] [6] [] [0] [some 8, some 9, some 10, some 11, some 12, some 13, some 6] (L34_0).1 := w_plain (by kernel_rfl) (L34_0).2
noncomputable def L34_1 : Lt r34_1 := by refine ⟨?l, ?h⟩; case h => simp only [r34_1, c34, bodyOf, Tryd.f34, Code.sub, opsOf, List.map_cons, List.map_nil, strip]; rfl
theorem w34_1 : Wp r34_1 8 [18] [7] [] [0] [some 14, some 15, some 16, some 7] (L34_1).1 := w_plain (by kernel_rfl) (L34_1).2
noncomputable def L34_2 : Lt r34_2 := by refine ⟨?l, ?h⟩; case h => simp only [r34_2, c34, bodyOf, Tryd.f34, Code.sub, opsOf, List.map_cons, List.map_nil, strip]; rfl
theorem w34_2 : Wp r34_2 8 [18] [] [18] [7] [some 17, some 18] (L34_2).1 := w_plain (by kernel_rfl) (L34_2).2
noncomputable def L34_3 : Lt r34_3 := by refine ⟨?l, ?h⟩; case h => simp only [r34_3, c34, bodyOf, Tryd.f34, Code.sub, opsOf, List.map_cons, List.map_nil, strip]; rfl
theorem w34_3 : Wp r34_3 8 [18] [] [] [0, 1, 2] [some 21, some 22, some 23, some 24] (L34_3).1 := w_plain (by kernel_rfl) (L34_3).2
noncomputable def L34_4 : Lt r34_4 := by refine ⟨?l, ?h⟩; case h => simp only [r34_4, c34, bodyOf, Tryd.f34, Code.sub, opsOf, List.map_cons, List.map_nil, strip]; rfl
theorem w34_4 : Wp r34_4 8 [18] [7] [] [7] [some 19, some 20, some 7] (L34_4).1 := w_plain (by kernel_rfl) (L34_4).2
noncomputable def L34_5 : Lt r34_5 := by refine ⟨?l, ?h⟩; case h => simp only [r34_5, c34, bodyOf, Tryd.f34, Code.sub, opsOf, List.map_cons, List.map_nil, strip]; rfl
theorem w34_5 : Wp r34_5 8 [18] [] [] [0, 6] [some 25, some 26, some 27, some 28, none] (L34_5).1 := w_plain (by kernel_rfl) (L34_5).2
theorem k34 : FnIs TT 34 c34 [] 3 := ⟨Tryd.f34, by kernel_rfl, by simp only [Tryd.f34, c34, bodyOf], by kernel_rfl, of_decide_eq_true (by kernel_rfl)⟩
noncomputable def c35 : Code := bodyOf Tryd.f35
noncomputable def r35_0 : Code := Code.sub [0] c35
noncomputable def r35_1 : Code := Code.sub [1, 0] c35
noncomputable def r35_2 : Code := Code.sub [1, 1, 0, 0] c35
noncomputable def r35_3 : Code := Code.sub [1, 1, 0, 1, 0, 0] c35
noncomputable def r35_4 : Code := Code.sub [1, 1, 1, 0] c35
noncomputable def r35_5 : Code := Code.sub [1, 1, 1, 1, 0, 0] c35
noncomputable def r35_6 : Code := Code.sub [1, 1, 1, 1, 0, 1, 0, 0] c35
noncomputable def r35_7 : Code := Code.sub [1, 1, 1, 1, 0, 1, 0, 1, 0, 0] c35
noncomputable def r35_8 : Code := Code.sub [1, 1, 1, 1, 0, 1, 0, 1, 0, 1, 0, 0, 0] c35
noncomputable def r35_9 : Code := Code.sub [1, 1, 1, 1, 0, 1, 0, 1, 0, 1, 0, 0, 1, 1] c35
noncomputable def r35_10 : Code := Code.sub [1, 1, 1, 1, 0, 1, 0, 1, 0, 1, 0, 1, 0, 0] c35
noncomputable def r35_11 : Code := Code.sub [1, 1, 1, 1, 0, 1, 0, 1, 0, 1, 0, 1, 1, 0] c35
noncomputable def r35_12 : Code := Code.sub [1, 1, 1, 1, 0, 1, 0, 1, 0, 1, 0, 1, 1, 1, 0, 0] c35
noncomputable def r35_13 : Code := Code.sub [1, 1, 1, 1, 0, 1, 0, 1, 0, 1, 0, 1, 1, 1, 1, 0] c35
noncomputable def r35_14 : Code := Code.sub [1, 1, 1, 1, 0, 1, 0, 1, 0, 1, 0, 1, 1, 1, 1, 1, 0, 0] c35
noncomputable def r35_15 : Code := Code.sub [1, 1, 1, 1, 0, 1, 0, 1, 0, 1, 0, 1, 1, 1, 1, 1, 1, 0] c35
noncomputable def r35_16 : Code := Code.sub [1, 1, 1, 1, 0, 1, 0, 1, 0, 1, 0, 1, 1, 1, 1, 1, 1, 1, 0, 0] c35
noncomputable def r35_17 : Code := Code.sub [1, 1, 1, 1, 0, 1, 0, 1, 0, 1, 0, 1, 1, 1, 1, 1, 1, 1, 1, 0] c35
noncomputable def r35_18 : Code := Code.sub [1, 1, 1, 1, 0, 1, 0, 1, 0, 1, 0, 1, 1, 1, 1, 1, 1, 1, 1, 1, 0, 0] c35
noncomputable def r35_19 : Code := Code.sub [1, 1, 1, 1, 0, 1, 0, 1, 0, 1, 0, 1, 1, 1, 1, 1, 1, 1, 1, 1, 1, 0] c35
noncomputable def r35_20 : Code := Code.sub [1, 1, 1, 1, 0, 1, 0, 1, 0, 1, 0, 1, 1, 1, 1, 1, 1, 1, 1, 1, 1, 1, 0, 0] c35
noncomputable def r35_21 : Code := Code.sub [1, 1, 1, 1, 0, 1, 0, 1, 0, 1, 0, 1, 1, 1, 1, 1, 1, 1, 1, 1, 1, 1, 1, 0] c35
noncomputable def r35_22 : Code := Code.sub [1, 1, 1, 1, 0, 1, 0, 1, 0, 1, 0, 1, 1, 1, 1, 1, 1, 1, 1, 1, 1, 1, 1, 1, 0, 0] c35
noncomputable def r35_23 : Code := Code.sub [1, 1, 1, 1, 0, 1, 0, 1, 0, 1, 0, 1, 1, 1, 1, 1, 1, 1, 1, 1, 1, 1, 1, 1, 1, 0] c35
noncomputable def r35_24 : Code := Code.sub [1, 1, 1, 1, 0, 1, 0, 1, 0, 1, 0, 1, 1, 1, 1, 1, 1, 1, 1, 1, 1, 1, 1, 1, 1, 1, 0, 0] c35
noncomputable def r35_25 : Code := Code.sub [1, 1, 1, 1, 0, 1, 0, 1, 0, 1, 0, 1, 1, 1, 1, 1, 1, 1, 1, 1, 1, 1, 1, 1, 1, 1, 1, 0] c35
noncomputable def r35_26 : Code := Code.sub [1, 1, 1, 1, 0, 1, 0, 1, 0, 1, 0, 1, 1, 1, 1, 1, 1, 1, 1, 1, 1, 1, 1, 1, 1, 1, 1, 1, 0, 0] c35
noncomputable def r35_27 : Code := Code.sub [1, 1, 1, 1, 0, 1, 0, 1, 0, 1, 0, 1, 1, 1, 1, 1, 1, 1, 1, 1, 1, 1, 1, 1, 1, 1, 1, 1, 1, 0] c35
noncomputable def r35_28 : Code := Code.sub [1, 1, 1, 1, 0, 1, 0, 1, 0, 1, 0, 1, 1, 1, 1, 1, 1, 1, 1, 1, 1, 1, 1, 1, 1, 1, 1, 1, 1, 1, 0, 0] c35
noncomputable def r35_29 : Code := Code.sub [1, 1, 1, 1, 0, 1, 0, 1, 0, 1, 0, 1, 1, 1, 1, 1, 1, 1, 1, 1, 1, 1, 1, 1, 1, 1, 1, 1, 1, 1, 1, 0] c35
noncomputable def r35_30 : Code := Code.sub [1, 1, 1, 1, 0, 1, 0, 1, 0, 1, 0, 1, 1, 1, 1, 1, 1, 1, 1, 1, 1, 1, 1, 1, 1, 1, 1, 1, 1, 1, 1, 1, 0, 0] c35
noncomputable def r35_31 : Code := Code.sub [1, 1, 1, 1, 0, 1, 0, 1, 0, 1, 0, 1, 1, 1, 1, 1, 1, 1, 1, 1, 1, 1, 1, 1, 1, 1, 1, 1, 1, 1, 1, 1, 0, 1, 0, 0] c35
noncomputable def r35_32 : Code := Code.sub [1, 1, 1, 1, 0, 1, 0, 1, 0, 1, 0, 1, 1, 1, 1, 1, 1, 1, 1, 1, 1, 1, 1, 1, 1, 1, 1, 1, 1, 1, 1, 1, 1, 0] c35
noncomputable def r35_33 : Code := Code.sub [1, 1, 1, 1, 0, 1, 0, 1, 0, 1, 0, 1, 1, 1, 1, 1, 1, 1, 1, 1, 1, 1, 1, 1, 1, 1, 1, 1, 1, 1, 1, 1, 1, 1, 0, 0] c35
noncomputable def r35_34 : Code := Code.sub [1, 1, 1, 1, 0, 1, 0, 1, 0, 1, 0, 1, 1, 1, 1, 1, 1, 1, 1, 1, 1, 1, 1, 1, 1, 1, 1, 1, 1, 1, 1, 1, 1, 1, 0, 1, 0, 0] c35
noncomputable def r35_35 : Code := Code.sub [1, 1, 1, 1, 0, 1, 0, 1, 0, 1, 0, 1, 1, 1, 1, 1, 1, 1, 1, 1, 1, 1, 1, 1, 1, 1, 1, 1, 1, 1, 1, 1, 1, 1, 1, 0] c35
noncomputable def r35_36 : Code := Code.sub [1, 1, 1, 1, 0, 1, 0, 1, 0, 1, 0, 1, 1, 1, 1, 1, 1, 1, 1, 1, 1, 1, 1, 1, 1, 1, 1, 1, 1, 1, 1, 1, 1, 1, 1, 1, 0, 0] c35
noncomputable def r35_37 : Code := Code.sub [1, 1, 1, 1, 0, 1, 0, 1, 0, 1, 0, 1, 1, 1, 1, 1, 1, 1, 1, 1, 1, 1, 1, 1, 1, 1, 1, 1, 1, 1, 1, 1, 1, 1, 1, 1, 0, 1, 0, 0] c35
noncomputable def r35_38 : Code := Code.sub [1, 1, 1, 1, 0, 1, 0, 1, 0, 1, 0, 1, 1, 1, 1, 1, 1, 1, 1, 1, 1, 1, 1, 1, 1, 1, 1, 1, 1, 1, 1, 1, 1, 1, 1, 1, 1, 0] c35
noncomputable def r35_39 : Code := Code.sub [1, 1, 1, 1, 0, 1, 0, 1, 0, 1, 0, 1, 1, 1, 1, 1, 1, 1, 1, 1, 1, 1, 1, 1, 1, 1, 1, 1, 1, 1, 1, 1, 1, 1, 1, 1, 1, 1, 0, 0] c35
noncomputable def r35_40 : Code := Code.sub [1, 1, 1, 1, 0, 1, 0, 1, 1, 0] c35
noncomputable def r35_41 : Code := Code.sub [1, 1, 1, 1, 0, 1, 0, 1, 1, 1, 0, 0] c35
noncomputable def r35_42 : Code := Code.sub [1, 1, 1, 1, 0, 1, 0, 1, 1, 1, 0, 1, 0, 0, 0] c35
noncomputable def r35_43 : Code := Code.sub [1, 1, 1, 1, 0, 1, 0, 1, 1, 1, 0, 1, 0, 0, 1, 1, 0] c35
noncomputable def r35_44 : Code := Code.sub [1, 1, 1, 1, 0, 1, 0, 1, 1, 1, 0, 1, 0, 0, 1, 1, 1, 1] c35
noncomputable def r35_45 : Code := Code.sub [1, 1, 1, 1, 0, 1, 0, 1, 1, 1, 0, 1, 0, 1, 0, 0] c35
noncomputable def r35_46 : Code := Code.sub [1, 1, 1, 1, 0, 1, 0, 1, 1, 1, 0, 1, 0, 1, 1, 0] c35
noncomputable def r35_47 : Code := Code.sub [1, 1, 1, 1, 0, 1, 0, 1, 1, 1, 0, 1, 0, 1, 1, 1, 0, 0] c35
noncomputable def r35_48 : Code := Code.sub [1, 1, 1, 1, 0, 1, 0, 1, 1, 1, 0, 1, 0, 1, 1, 1, 1, 0] c35
noncomputable def r35_49 : Code := Code.sub [1, 1, 1, 1, 0, 1, 0, 1, 1, 1, 0, 1, 0, 1, 1, 1, 1, 1, 0, 0] c35
noncomputable def r35_50 : Code := Code.sub [1, 1, 1, 1, 0, 1, 0, 1, 1, 1, 0, 1, 0, 1, 1, 1, 1, 1, 1, 0] c35
noncomputable def r35_51 : Code := Code.sub [1, 1, 1, 1, 0, 1, 0, 1, 1, 1, 0, 1, 0, 1, 1, 1, 1, 1, 1, 1, 0, 0] c35
noncomputable def r35_52 : Code := Code.sub [1, 1, 1, 1, 0, 1, 0, 1, 1, 1, 0, 1, 0, 1, 1, 1, 1, 1, 1, 1, 1, 0] c35
noncomputable def r35_53 : Code := Code.sub [1, 1, 1, 1, 0, 1, 0, 1, 1, 1, 0, 1, 0, 1, 1, 1, 1, 1, 1, 1, 1, 1, 0, 0] c35
noncomputable def r35_54 : Code := Code.sub [1, 1, 1, 1, 0, 1, 0, 1, 1, 1, 0, 1, 0, 1, 1, 1, 1, 1, 1, 1, 1, 1, 1, 0] c35
noncomputable def r35_55 : Code := Code.sub [1, 1, 1, 1, 0, 1, 0, 1, 1, 1, 0, 1, 0, 1, 1, 1, 1, 1, 1, 1, 1, 1, 1, 1, 0, 0] c35
noncomputable def r35_56 : Code := Code.sub [1, 1, 1, 1, 0, 1, 0, 1, 1, 1, 0, 1, 0, 1, 1, 1, 1, 1, 1, 1, 1, 1, 1, 1, 1, 0] c35
noncomputable def r35_57 : Code := Code.sub [1, 1, 1, 1, 0, 1, 0, 1, 1, 1, 0, 1, 0, 1, 1, 1, 1, 1, 1, 1, 1, 1, 1, 1, 1, 1, 0, 0] c35
noncomputable def r35_58 : Code := Code.sub [1, 1, 1, 1, 0, 1, 0, 1, 1, 1, 1, 0] c35
noncomputable def r35_59 : Code := Code.sub [1, 1, 1, 1, 0, 1, 0, 1, 1, 1, 1, 1, 0, 0] c35
noncomputable def r35_60 : Code := Code.sub [1, 1, 1, 1, 0, 1, 0, 1, 1, 1, 1, 1, 0, 1, 0, 0] c35
noncomputable def r35_61 : Code := Code.sub [1, 1, 1, 1, 0, 1, 0, 1, 1, 1, 1, 1, 1, 0] c35
noncomputable def r35_62 : Code := Code.sub [1, 1, 1, 1, 0, 1, 0, 1, 1, 1, 1, 1, 1, 1, 0, 0] c35
noncomputable def r35_63 : Code := Code.sub [1, 1, 1, 1, 0, 1, 0, 1, 1, 1, 1, 1, 1, 1, 0, 1, 0, 0] c35
noncomputable def r35_64 : Code := Code.sub [1, 1, 1, 1, 0, 1, 0, 1, 1, 1, 1, 1, 1, 1, 0, 1, 0, 1, 0, 0] c35
noncomputable def r35_65 : Code := Code.sub [1, 1, 1, 1, 0, 1, 0, 1, 1, 1, 1, 1, 1, 1, 0, 1, 0, 1, 1, 0] c35
noncomputable def r35_66 : Code := Code.sub [1, 1, 1, 1, 0, 1, 0, 1, 1, 1, 1, 1, 1, 1, 0, 1, 0, 1, 1, 1, 0, 0] c35
noncomputable def r35_67 : Code := Code.sub [1, 1, 1, 1, 0, 1, 0, 1, 1, 1, 1, 1, 1, 1, 1, 0] c35
noncomputable def r35_68 : Code := Code.sub [1, 1, 1, 1, 0, 1, 0, 1, 1, 1, 1, 1, 1, 1, 1, 1, 0, 0] c35
noncomputable def r35_69 : Code := Code.sub [1, 1, 1, 1, 0, 1, 0, 1, 1, 1, 1, 1, 1, 1, 1, 1, 0, 1, 0, 0] c35
noncomputable def r35_70 : Code := Code.sub [1, 1, 1, 1, 0, 1, 0, 1, 1, 1, 1, 1, 1, 1, 1, 1, 0, 1, 0, 1, 0, 0] c35
noncomputable def r35_71 : Code := Code.sub [1, 1, 1, 1, 0, 1, 0, 1, 1, 1, 1, 1, 1, 1, 1, 1, 0, 1, 0, 1, 1, 0] c35
noncomputable def r35_72 : Code := Code.sub [1, 1, 1, 1, 0, 1, 0, 1, 1, 1, 1, 1, 1, 1, 1, 1, 0, 1, 0, 1, 1, 1, 0, 0] c35
noncomputable def r35_73 : Code := Code.sub [1, 1, 1, 1, 0, 1, 0, 1, 1, 1, 1, 1, 1, 1, 1, 1, 0, 1, 0, 1, 1, 1, 1, 0] c35
noncomputable def r35_74 : Code := Code.sub [1, 1, 1, 1, 0, 1, 0, 1, 1, 1, 1, 1, 1, 1, 1, 1, 0, 1, 0, 1, 1, 1, 1, 1, 0, 0] c35
noncomputable def r35_75 : Code := Code.sub [1, 1, 1, 1, 0, 1, 0, 1, 1, 1, 1, 1, 1, 1, 1, 1, 0, 1, 0, 1, 1, 1, 1, 1, 1, 0] c35
noncomputable def r35_76 : Code := Code.sub [1, 1, 1, 1, 0, 1, 0, 1, 1, 1, 1, 1, 1, 1, 1, 1, 0, 1, 0, 1, 1, 1, 1, 1, 1, 1, 0, 0] c35
noncomputable def r35_77 : Code := Code.sub [1, 1, 1, 1, 0, 1, 0, 1, 1, 1, 1, 1, 1, 1, 1, 1, 0, 1, 0, 1, 1, 1, 1, 1, 1, 1, 0, 1, 0, 0] c35
noncomputable def r35_78 : Code := Code.sub [1, 1, 1, 1, 0, 1, 0, 1, 1, 1, 1, 1, 1, 1, 1, 1, 1, 0] c35
noncomputable def r35_79 : Code := Code.sub [1, 1, 1, 1, 0, 1, 0, 1, 1, 1, 1, 1, 1, 1, 1, 1, 1, 1, 0, 0] c35
noncomputable def r35_80 : Code := Code.sub [1, 1, 1, 1, 0, 1, 0, 1, 1, 1, 1, 1, 1, 1, 1, 1, 1, 1, 0, 1, 0, 0] c35
noncomputable def r35_81 : Code := Code.sub [1, 1, 1, 1, 0, 1, 0, 1, 1, 1, 1, 1, 1, 1, 1, 1, 1, 1, 1, 0] c35
noncomputable def r35_82 : Code := Code.sub [1, 1, 1, 1, 0, 1, 0, 1, 1, 1, 1, 1, 1, 1, 1, 1, 1, 1, 1, 1, 0, 0] c35
noncomputable def r35_83 : Code := Code.sub [1, 1, 1, 1, 0, 1, 0, 1, 1, 1, 1, 1, 1, 1, 1, 1, 1, 1, 1, 1, 0, 1, 0, 0] c35
noncomputable def r35_84 : Code := Code.sub [1, 1, 1, 1, 0, 1, 0, 1, 1, 1, 1, 1, 1, 1, 1, 1, 1, 1, 1, 1, 0, 1, 0, 1, 0, 0] c35
noncomputable def r35_85 : Code := Code.sub [1, 1, 1, 1, 1, 0] c35
theorem body35 : c35 = (.seq r35_0 (.seq r35_1 (.seq (.seq r35_2 (.cond (.tmp 35) (.seq r35_3 .ret) .skip)) (.seq r35_4 (.seq (.seq r35_5 (.block 0 (.seq r35_6 (.cond (.tmp 41) (.seq r35_7 (.block 1 (.seq (.seq r35_8 (.cond (.tmp 45) .skip r35_9)) (.cond (.tmp 45) (.seq r35_10 .ret) (.seq r35_11 (.cond (.tmp 56) (.seq r35_12 .ret) (.seq r35_13 (.cond (.tmp 66) (.seq r35_14 .ret) (.seq r35_15 (.cond (.tmp 76) (.seq r35_16 .ret) (.seq r35_17 (.cond (.tmp 86) (.seq r35_18 .ret) (.seq r35_19 (.cond (.tmp 96) (.seq r35_20 .ret) (.seq r35_21 (.cond (.tmp 102) (.seq r35_22 .ret) (.seq r35_23 (.cond (.tmp 108) (.seq r35_24 .ret) (.seq r35_25 (.cond (.tmp 117) (.seq r35_26 .ret) (.seq r35_27 (.cond (.tmp 122) (.seq r35_28 .ret) (.seq r35_29 (.cond (.tmp 127) (.seq r35_30 (.cond (.tmp 132) (.seq r35_31 .ret) .skip)) (.seq r35_32 (.cond (.tmp 141) (.seq r35_33 (.cond (.tmp 146) (.seq r35_34 .ret) .skip)) (.seq r35_35 (.cond (.tmp 154) (.seq r35_36 (.cond (.tmp 159) (.seq r35_37 .ret) .skip)) (.seq r35_38 (.cond (.tmp 167) (.seq r35_39 .ret) .skip)))))))))))))))))))))))))))))) (.seq r35_40 (.cond (.tmp 176) (.seq r35_41 (.block 2 (.seq (.seq r35_42 (.cond (.tmp 180) .skip (.seq r35_43 (.cond (.tmp 180) .skip r35_44)))) (.cond (.tmp 180) (.seq r35_45 .ret) (.seq r35_46 (.cond (.tmp 196) (.seq r35_47 .ret) (.seq r35_48 (.cond (.tmp 206) (.seq r35_49 .ret) (.seq r35_50 (.cond (.tmp 216) (.seq r35_51 .ret) (.seq r35_52 (.cond (.tmp 222) (.seq r35_53 .ret) (.seq r35_54 (.cond (.tmp 233) (.seq r35_55 .ret) (.seq r35_56 (.cond (.tmp 247) (.seq r35_57 .ret) .skip)))))))))))))))) (.seq r35_58 (.cond (.tmp 261) (.seq r35_59 (.cond (.tmp 265) (.seq r35_60 .ret) .skip)) (.seq r35_61 (.cond (.tmp 274) (.seq r35_62 (.block 3 (.seq r35_63 (.cond (.tmp 278) (.seq r35_64 .ret) (.seq r35_65 (.cond (.tmp 284) (.seq r35_66 .ret) .skip)))))) (.seq r35_67 (.cond (.tmp 289) (.seq r35_68 (.block 4 (.seq r35_69 (.cond (.tmp 293) (.seq r35_70 .ret) (.seq r35_71 (.cond (.tmp 295) (.seq r35_72 .ret) (.seq r35_73 (.cond (.tmp 300) (.seq r35_74 .ret) (.seq r35_75 (.cond (.tmp 305) (.seq r35_76 (.cond (.tmp 310) (.seq r35_77 .ret) .skip)) .skip)))))))))) (.seq r35_78 (.cond (.tmp 315) (.seq r35_79 (.cond (.tmp 319) (.seq r35_80 .ret) .skip)) (.seq r35_81 (.cond (.tmp 320) (.seq r35_82 (.block 5 (.seq r35_83 (.cond (.tmp 324) (.seq r35_84 .ret) .skip)))) .skip)))))))))))))))) (.seq r35_85 .ret)))))) := by kernel_rfl
noncomputable def L35_0 : Lt r35_0 := by refine ⟨?l, ?h⟩; case h => simp only [r35_0, c35, bodyOf, Tryd.f35, Code.sub, opsOf, List.map_cons, List.map_nil, strip]; rfl
theorem w35_0 : Wp r35_0 324 [324] [3, 5, 6] [] [0, 2] [some 3, some 5, some 6] (L35_0).1 := w_plain (by kernel_rfl) (L35_0).2
noncomputable def L35_1 : Lt r35_1 := by refine ⟨?l, ?h⟩; case h => simp only [r35_1, c35, bodyOf, Tryd.f35, Code.sub, opsOf, List.map_cons, List.map_nil, strip]; rfl
theorem w35_1 : Wp r35_1 324 [324] [8, 9, 10, 11, 12, 13, 14] [] [3] [some 8, some 9, some 10, some 11, some 12, some 13, some 14, none] (L35_1).1 := w_plain (by kernel_rfl) (L35_1).2
noncomputable def L35_2 : Lt r35_2 := by refine ⟨?l, ?h⟩; case h => simp only [r35_2, c35, bodyOf, Tryd.f35, Code.sub, opsOf, List.map_cons, List.map_nil, strip]; rfl
theorem w35_2 : Wp r35_2 324 [324] [15, 16, 17, 18, 19, 20, 21, 22, 23, 24, 25, 26, 27, 28, 29, 30, 31, 32, 33, 34, 35] [] [5, 3] [some 15, some 16, some 17, some 18, some 19, some 20, some 21, some 22, some 23, some 24, some 25, some 26, some 27, some 28, some 29, some 30, some 31, some 32, some 33, some 34, some 35] (L35_2).1 := w_plain (by kernel_rfl) (L35_2).2
noncomputable def L35_3 : Lt r35_3 := by refine ⟨?l, ?h⟩; case h => simp only [r35_3, c35, bodyOf, Tryd.f35, Code.sub, opsOf, List.map_cons, List.map_nil, strip]; rfl
theorem w35_3 : Wp r35_3 324 [324] [36, 37, 38, 6] [] [3, 1] [some 36, some 37, some 38, some 6] (L35_3).1 := w_plain (by kernel_rfl) (L35_3).2
noncomputable def L35_4 : Lt r35_4 := by refine ⟨?l, ?h⟩; case h => simp only [r35_4, c35, bodyOf, Tryd.f35, Code.sub, opsOf, List.map_cons, List.map_nil, strip]; rfl
theorem w35_4 : Wp r35_4 324 [324] [39, 7] [] [3, 5] [some 39, some 7] (L35_4).1 := w_plain (by kernel_rfl) (L35_4).2
noncomputable def L35_5 : Lt r35_5 := by refine ⟨?l, ?h⟩; case h => simp only [r35_5, c35, bodyOf, Tryd.f35, Code.sub, opsOf, List.map_cons, List.map_nil, strip]; rfl
theorem w35_5 : Wp r35_5 324 [324] [40] [] [1] [some 40] (L35_5).1 := w_plain (by kernel_rfl) (L35_5).2
noncomputable def L35_6 : Lt r35_6 := by refine ⟨?l, ?h⟩; case h => simp only [r35_6, c35, bodyOf, Tryd.f35, Code.sub, opsOf, List.map_cons, List.map_nil, strip]; rfl
theorem w35_6 : Wp r35_6 324 [324] [42, 41] [] [40] [some 42, some 41] (L35_6).1 := w_plain (by kernel_rfl) (L35_6).2
noncomputable def L35_7 : Lt r35_7 := by refine ⟨?l, ?h⟩; case h => simp only [r35_7, c35, bodyOf, Tryd.f35, Code.sub, opsOf, List.map_cons, List.map_nil, strip]; rfl
theorem w35_7 : Wp r35_7 324 [324] [43, 44] [] [3] [some 43, some 44] (L35_7).1 := w_plain (by kernel_rfl) (L35_7).2
noncomputable def L35_8 : Lt r35_8 := by refine ⟨?l, ?h⟩; case h => simp only [r35_8, c35, bodyOf, Tryd.f35, Code.sub, opsOf, List.map_cons, List.map_nil, strip]; rfl
theorem w35_8 : Wp r35_8 324 [324] [46, 45] [] [44] [some 46, some 45] (L35_8).1 := w_plain (by kernel_rfl) (L35_8).2
noncomputable def L35_9 : Lt r35_9 := by refine ⟨?l, ?h⟩; case h => simp only [r35_9, c35, bodyOf, Tryd.f35, Code.sub, opsOf, List.map_cons, List.map_nil, strip]; rfl
theorem w35_9 : Wp r35_9 324 [324] [47, 45] [] [44] [some 47, some 45] (L35_9).1 := w_plain (by kernel_rfl) (L35_9).2
noncomputable def L35_10 : Lt r35_10 := by refine ⟨?l, ?h⟩; case h => simp only [r35_10, c35, bodyOf, Tryd.f35, Code.sub, opsOf, List.map_cons, List.map_nil, strip]; rfl
theorem w35_10 : Wp r35_10 324 [324] [48, 49, 50, 51, 52, 53, 54, 55, 6] [] [7] [some 48, some 49, some 50, some 51, some 52, some 53, some 54, some 55, some 6] (L35_10).1 := w_plain (by kernel_rfl) (L35_10).2
noncomputable def L35_11 : Lt r35_11 := by refine ⟨?l, ?h⟩; case h => simp only [r35_11, c35, bodyOf, Tryd.f35, Code.sub, opsOf, List.map_cons, List.map_nil, strip]; rfl
theorem w35_11 : Wp r35_11 324 [324] [57, 56] [] [44] [some 57, some 56] (L35_11).1 := w_plain (by kernel_rfl) (L35_11).2
noncomputable def L35_12 : Lt r35_12 := by refine ⟨?l, ?h⟩; case h => simp only [r35_12, c35, bodyOf, Tryd.f35, Code.sub, opsOf, List.map_cons, List.map_nil, strip]; rfl
theorem w35_12 : Wp r35_12 324 [324] [58, 59, 60, 61, 62, 63, 64, 65, 6] [] [7] [some 58, some 59, some 60, some 61, some 62, some 63, some 64, some 65, some 6] (L35_12).1 := w_plain (by kernel_rfl) (L35_12).2
noncomputable def L35_13 : Lt r35_13 := by refine ⟨?l, ?h⟩; case h => simp only [r35_13, c35, bodyOf, Tryd.f35, Code.sub, opsOf, List.map_cons, List.map_nil, strip]; rfl
theorem w35_13 : Wp r35_13 324 [324] [67, 66] [] [44] [some 67, some 66] (L35_13).1 := w_plain (by kernel_rfl) (L35_13).2
noncomputable def L35_14 : Lt r35_14 := by refine ⟨?l, ?h⟩; case h => simp only [r35_14, c35, bodyOf, Tryd.f35, Code.sub, opsOf, List.map_cons, List.map_nil, strip]; rfl
theorem w35_14 : Wp r35_14 324 [324] [68, 69, 70, 71, 72, 73, 74, 75, 6] [] [7] [some 68, some 69, some 70, some 71, some 72, some 73, some 74, some 75, some 6] (L35_14).1 := w_plain (by kernel_rfl) (L35_14).2
noncomputable def L35_15 : Lt r35_15 := by refine ⟨?l, ?h⟩; case h => simp only [r35_15, c35, bodyOf, Tryd.f35, Code.sub, opsOf, List.map_cons, List.map_nil, strip]; rfl
theorem w35_15 : Wp r35_15 324 [324] [77, 76] [] [44] [some 77, some 76] (L35_15).1 := w_plain (by kernel_rfl) (L35_15).2
noncomputable def L35_16 : Lt r35_16 := by refine ⟨?l, ?h⟩; case h => simp only [r35_16, c35, bodyOf, Tryd.f35, Code.sub, opsOf, List.map_cons, List.map_nil, strip]; rfl
theorem w35_16 : Wp r35_16 324 [324] [78, 79, 80, 81, 82, 83, 84, 85, 6] [] [7] [some 78, some 79, some 80, some 81, some 82, some 83, some 84, some 85, some 6] (L35_16).1 := w_plain (by kernel_rfl) (L35_16).2
noncomputable def L35_17 : Lt r35_17 := by refine ⟨?l, ?h⟩; case h => simp only [r35_17, c35, bodyOf, Tryd.f35, Code.sub, opsOf, List.map_cons, List.map_nil, strip]; rfl
theorem w35_17 : Wp r35_17 324 [324] [87, 86] [] [44] [some 87, some 86] (L35_17).1 := w_plain (by kernel_rfl) (L35_17).2
noncomputable def L35_18 : Lt r35_18 := by refine ⟨?l, ?h⟩; case h => simp only [r35_18, c35, bodyOf, Tryd.f35, Code.sub, opsOf, List.map_cons, List.map_nil, strip]; rfl
theorem w35_18 : Wp r35_18 324 [324] [88, 89, 90, 91, 92, 93, 94, 95, 6] [] [7] [some 88, some 89, some 90, some 91, some 92, some 93, some 94, some 95, some 6] (L35_18).1 := w_plain (by kernel_rfl) (L35_18).2
noncomputable def L35_19 : Lt r35_19 := by refine ⟨?l, ?h⟩; case h => simp only [r35_19, c35, bodyOf, Tryd.f35, Code.sub, opsOf, List.map_cons, List.map_nil, strip]; rfl
theorem w35_19 : Wp r35_19 324 [324] [97, 96] [] [44] [some 97, some 96] (L35_19).1 := w_plain (by kernel_rfl) (L35_19).2
noncomputable def L35_20 : Lt r35_20 := by refine ⟨?l, ?h⟩; case h => simp only [r35_20, c35, bodyOf, Tryd.f35, Code.sub, opsOf, List.map_cons, List.map_nil, strip]; rfl
theorem w35_20 : Wp r35_20 324 [324] [98, 99, 100, 101, 6] [] [7] [some 98, some 99, some 100, some 101, some 6] (L35_20).1 := w_plain (by kernel_rfl) (L35_20).2
noncomputable def L35_21 : Lt r35_21 := by refine ⟨?l, ?h⟩; case h => simp only [r35_21, c35, bodyOf, Tryd.f35, Code.sub, opsOf, List.map_cons, List.map_nil, strip]; rfl
theorem w35_21 : Wp r35_21 324 [324] [103, 102] [] [44] [some 103, some 102] (L35_21).1 := w_plain (by kernel_rfl) (L35_21).2
noncomputable def L35_22 : Lt r35_22 := by refine ⟨?l, ?h⟩; case h => simp only [r35_22, c35, bodyOf, Tryd.f35, Code.sub, opsOf, List.map_cons, List.map_nil, strip]; rfl
theorem w35_22 : Wp r35_22 324 [324] [104, 105, 106, 107, 6] [] [7] [some 104, some 105, some 106, some 107, some 6] (L35_22).1 := w_plain (by kernel_rfl) (L35_22).2
noncomputable def L35_23 : Lt r35_23 := by refine ⟨?l, ?h⟩; case h => simp only [r35_23, c35, bodyOf, Tryd.f35, Code.sub, opsOf, List.map_cons, List.map_nil, strip]; rfl
theorem w35_23 : Wp r35_23 324 [324] [109, 108] [] [44] [some 109, some 108] (L35_23).1 := w_plain (by kernel_rfl) (L35_23).2
noncomputable def L35_24 : Lt r35_24 := by refine ⟨?l, ?h⟩; case h => simp only [r35_24, c35, bodyOf, Tryd.f35, Code.sub, opsOf, List.map_cons, List.map_nil, strip]; rfl
theorem w35_24 : Wp r35_24 324 [324] [110, 111, 112, 113, 114, 115, 116, 6] [] [7] [some 110, some 111, some 112, some 113, some 114, some 115, some 116, some 6] (L35_24).1 := w_plain (by kernel_rfl) (L35_24).2
noncomputable def L35_25 : Lt r35_25 := by refine ⟨?l, ?h⟩; case h => simp only [r35_25, c35, bodyOf, Tryd.f35, Code.sub, opsOf, List.map_cons, List.map_nil, strip]; rfl
theorem w35_25 : Wp r35_25 324 [324] [118, 117] [] [44] [some 118, some 117] (L35_25).1 := w_plain (by kernel_rfl) (L35_25).2
noncomputable def L35_26 : Lt r35_26 := by refine ⟨?l, ?h⟩; case h => simp only [r35_26, c35, bodyOf, Tryd.f35, Code.sub, opsOf, List.map_cons, List.map_nil, strip]; rfl
theorem w35_26 : Wp r35_26 324 [324] [119, 120, 121, 6] [] [7] [some 119, some 120, some 121, some 6] (L35_26).1 := w_plain (by kernel_rfl) (L35_26).2
noncomputable def L35_27 : Lt r35_27 := by refine ⟨?l, ?h⟩; case h => simp only [r35_27, c35, bodyOf, Tryd.f35, Code.sub, opsOf, List.map_cons, List.map_nil, strip]; rfl
theorem w35_27 : Wp r35_27 324 [324] [123, 122] [] [44] [some 123, some 122] (L35_27).1 := w_plain (by kernel_rfl) (L35_27).2
noncomputable def L35_28 : Lt r35_28 := by refine ⟨?l, ?h⟩; case h => simp only [r35_28, c35, bodyOf, Tryd.f35, Code.sub, opsOf, List.map_cons, List.map_nil, strip]; rfl
theorem w35_28 : Wp r35_28 324 [324] [124, 125, 126, 6] [] [7] [some 124, some 125, some 126, some 6] (L35_28).1 := w_plain (by kernel_rfl) (L35_28).2
noncomputable def L35_29 : Lt r35_29 := by refine ⟨?l, ?h⟩; case h => simp only [r35_29, c35, bodyOf, Tryd.f35, Code.sub, opsOf, List.map_cons, List.map_nil, strip]; rfl
theorem w35_29 : Wp r35_29 324 [324] [128, 127] [] [44] [some 128, some 127] (L35_29).1 := w_plain (by kernel_rfl) (L35_29).2
noncomputable def L35_30 : Lt r35_30 := by refine ⟨?l, ?h⟩; case h => simp only [r35_30, c35, bodyOf, Tryd.f35, Code.sub, opsOf, List.map_cons, List.map_nil, strip]; rfl
theorem w35_30 : Wp r35_30 324 [324] [129, 130, 131, 132] [] [3] [some 129, some 130, some 131, some 132] (L35_30).1 := w_plain (by kernel_rfl) (L35_30).2
noncomputable def L35_31 : Lt r35_31 := by refine ⟨?l, ?h⟩; case h => simp only [r35_31, c35, bodyOf, Tryd.f35, Code.sub, opsOf, List.map_cons, List.map_nil, strip]; rfl
theorem w35_31 : Wp r35_31 324 [324] [133, 134, 135, 136, 137, 138, 139, 140, 6] [] [7] [some 133, some 134, some 135, some 136, some 137, some 138, some 139, some 140, some 6] (L35_31).1 := w_plain (by kernel_rfl) (L35_31).2
noncomputable def L35_32 : Lt r35_32 := by refine ⟨?l, ?h⟩; case h => simp only [r35_32, c35, bodyOf, Tryd.f35, Code.sub, opsOf, List.map_cons, List.map_nil, strip]; rfl
theorem w35_32 : Wp r35_32 324 [324] [142, 141] [] [44] [some 142, some 141] (L35_32).1 := w_plain (by kernel_rfl) (L35_32).2
noncomputable def L35_33 : Lt r35_33 := by refine ⟨?l, ?h⟩; case h => simp only [r35_33, c35, bodyOf, Tryd.f35, Code.sub, opsOf, List.map_cons, List.map_nil, strip]; rfl
theorem w35_33 : Wp r35_33 324 [324] [143, 144, 145, 146] [] [3] [some 143, some 144, some 145, some 146] (L35_33).1 := w_plain (by kernel_rfl) (L35_33).2
noncomputable def L35_34 : Lt r35_34 := by refine ⟨?l, ?h⟩; case h => simp only [r35_34, c35, bodyOf, Tryd.f35, Code.sub, opsOf, List.map_cons, List.map_nil, strip]; rfl
theorem w35_34 : Wp r35_34 324 [324] [147, 148, 149, 150, 151, 152, 153, 6] [] [7] [some 147, some 148, some 149, some 150, some 151, some 152, some 153, some 6] (L35_34).1 := w_plain (by kernel_rfl) (L35_34).2
noncomputable def L35_35 : Lt r35_35 := by refine ⟨?l, ?h⟩; case h => simp only [r35_35, c35, bodyOf, Tryd.f35, Code.sub, opsOf, List.map_cons, List.map_nil, strip]; rfl
theorem w35_35 : Wp r35_35 324 [324] [155, 154] [] [44] [some 155, some 154] (L35_35).1 := w_plain (by kernel_rfl) (L35_35).2
noncomputable def L35_36 : Lt r35_36 := by refine ⟨?l, ?h⟩; case h => simp only [r35_36, c35, bodyOf, Tryd.f35, Code.sub, opsOf, List.map_cons, List.map_nil, strip]; rfl
theorem w35_36 : Wp r35_36 324 [324] [156, 157, 158, 159] [] [3] [some 156, some 157, some 158, some 159] (L35_36).1 := w_plain (by kernel_rfl) (L35_36).2
noncomputable def L35_37 : Lt r35_37 := by refine ⟨?l, ?h⟩; case h => simp only [r35_37, c35, bodyOf, Tryd.f35, Code.sub, opsOf, List.map_cons, List.map_nil, strip]; rfl
theorem w35_37 : Wp r35_37 324 [324] [160, 161, 162, 163, 164, 165, 166, 6] [] [7] [some 160, some 161, some 162, some 163, some 164, some 165, some 166, some 6] (L35_37).1 := w_plain (by kernel_rfl) (L35_37).2
noncomputable def L35_38 : Lt r35_38 := by refine ⟨?l, ?h⟩; case h => simp only [r35_38, c35, bodyOf, Tryd.f35, Code.sub, opsOf, List.map_cons, List.map_nil, strip]; rfl
theorem w35_38 : Wp r35_38 324 [324] [168, 167] [] [44] [some 168, some 167] (L35_38).1 := w_plain (by kernel_rfl) (L35_38).2
noncomputable def L35_39 : Lt r35_39 := by refine ⟨?l, ?h⟩; case h => simp only [r35_39, c35, bodyOf, Tryd.f35, Code.sub, opsOf, List.map_cons, List.map_nil, strip]; rfl
theorem w35_39 : Wp r35_39 324 [324] [169, 170, 171, 172, 173, 174, 175, 6] [] [7] [some 169, some 170, some 171, some 172, some 173, some 174, some 175, some 6] (L35_39).1 := w_plain (by kernel_rfl) (L35_39).2
noncomputable def L35_40 : Lt r35_40 := by refine ⟨?l, ?h⟩; case h => simp only [r35_40, c35, bodyOf, Tryd.f35, Code.sub, opsOf, List.map_cons, List.map_nil, strip]; rfl
theorem w35_40 : Wp r35_40 324 [324] [177, 176] [] [40] [some 177, some 176] (L35_40).1 := w_plain (by kernel_rfl) (L35_40).2
noncomputable def L35_41 : Lt r35_41 := by refine ⟨?l, ?h⟩; case h => simp only [r35_41, c35, bodyOf, Tryd.f35, Code.sub, opsOf, List.map_cons, List.map_nil, strip]; rfl
theorem w35_41 : Wp r35_41 324 [324] [178, 179] [] [3] [some 178, some 179] (L35_41).1 := w_plain (by kernel_rfl) (L35_41).2
noncomputable def L35_42 : Lt r35_42 := by refine ⟨?l, ?h⟩; case h => simp only [r35_42, c35, bodyOf, Tryd.f35, Code.sub, opsOf, List.map_cons, List.map_nil, strip]; rfl
theorem w35_42 : Wp r35_42 324 [324] [181, 180] [] [179] [some 181, some 180] (L35_42).1 := w_plain (by kernel_rfl) (L35_42).2
noncomputable def L35_43 : Lt r35_43 := by refine ⟨?l, ?h⟩; case h => simp only [r35_43, c35, bodyOf, Tryd.f35, Code.sub, opsOf, List.map_cons, List.map_nil, strip]; rfl
theorem w35_43 : Wp r35_43 324 [324] [182, 180] [] [179] [some 182, some 180] (L35_43).1 := w_plain (by kernel_rfl) (L35_43).2
noncomputable def L35_44 : Lt r35_44 := by refine ⟨?l, ?h⟩; case h => simp only [r35_44, c35, bodyOf, Tryd.f35, Code.sub, opsOf, List.map_cons, List.map_nil, strip]; rfl
theorem w35_44 : Wp r35_44 324 [324] [183, 180] [] [179] [some 183, some 180] (L35_44).1 := w_plain (by kernel_rfl) (L35_44).2
theorem can35_45 : canonOps (opsOf r35_45) = opsOf r35_45 := by kernel_rfl
noncomputable def L35_45 : Lc r35_45 := by refine ⟨?l, (congrArg (List.map strip) can35_45).trans ?h⟩; case h => simp only [r35_45, c35, bodyOf, Tryd.f35, Code.sub, opsOf, List.map_cons, List.map_nil, strip]; rfl
theorem w35_45 : Wd r35_45 324 [324] [184, 185, 186, 187, 188, 189, 190, 191, 192, 193, 194, 195, 6] [] [3, 7] [some 184, some 185, some 186, some 187, some 188, some 189, some 190, some 191, some 192, some 193, some 194, some 195, some 6] (L35_45).1 [(4, [1, 5])] := w_loud (by kernel_rfl) (L35_45).2
noncomputable def L35_46 : Lt r35_46 := by refine ⟨?l, ?h⟩; case h => simp only [r35_46, c35, bodyOf, Tryd.f35, Code.sub, opsOf, List.map_cons, List.map_nil, strip]; rfl
theorem w35_46 : Wp r35_46 324 [324] [197, 196] [] [179] [some 197, some 196] (L35_46).1 := w_plain (by kernel_rfl) (L35_46).2
noncomputable def L35_47 : Lt r35_47 := by refine ⟨?l, ?h⟩; case h => simp only [r35_47, c35, bodyOf, Tryd.f35, Code.sub, opsOf, List.map_cons, List.map_nil, strip]; rfl
theorem w35_47 : Wp r35_47 324 [324] [198, 199, 200, 201, 202, 203, 204, 205, 6] [] [7] [some 198, some 199, some 200, some 201, some 202, some 203, some 204, some 205, some 6] (L35_47).1 := w_plain (by kernel_rfl) (L35_47).2
noncomputable def L35_48 : Lt r35_48 := by refine ⟨?l, ?h⟩; case h => simp only [r35_48, c35, bodyOf, Tryd.f35, Code.sub, opsOf, List.map_cons, List.map_nil, strip]; rfl
theorem w35_48 : Wp r35_48 324 [324] [207, 206] [] [179] [some 207, some 206] (L35_48).1 := w_plain (by kernel_rfl) (L35_48).2
noncomputable def L35_49 : Lt r35_49 := by refine ⟨?l, ?h⟩; case h => simp only [r35_49, c35, bodyOf, Tryd.f35, Code.sub, opsOf, List.map_cons, List.map_nil, strip]; rfl
theorem w35_49 : Wp r35_49 324 [324] [208, 209, 210, 211, 212, 213, 214, 215, 6] [] [7] [some 208, some 209, some 210, some 211, some 212, some 213, some 214, some 215, some 6] (L35_49).1 := w_plain (by kernel_rfl) (L35_49).2
noncomputable def L35_50 : Lt r35_50 := by refine ⟨?l, ?h⟩; case h => simp only [r35_50, c35, bodyOf, Tryd.f35, Code.sub, opsOf, List.map_cons, List.map_nil, strip]; rfl
theorem w35_50 : Wp r35_50 324 [324] [217, 216] [] [179] [some 217, some 216] (L35_50).1 := w_plain (by kernel_rfl) (L35_50).2
noncomputable def L35_51 : Lt r35_51 := by refine ⟨?l, ?h⟩; case h => simp only [r35_51, c35, bodyOf, Tryd.f35, Code.sub, opsOf, List.map_cons, List.map_nil, strip]; rfl
theorem w35_51 : Wp r35_51 324 [324] [218, 219, 220, 221, 6] [] [7] [some 218, some 219, some 220, some 221, some 6] (L35_51).1 := w_plain (by kernel_rfl) (L35_51).2
noncomputable def L35_52 : Lt r35_52 := by refine ⟨?l, ?h⟩; case h => simp only [r35_52, c35, bodyOf, Tryd.f35, Code.sub, opsOf, List.map_cons, List.map_nil, strip]; rfl
theorem w35_52 : Wp r35_52 324 [324] [223, 222] [] [179] [some 223, some 222] (L35_52).1 := w_plain (by kernel_rfl) (L35_52).2
theorem can35_53 : canonOps (opsOf r35_53) = opsOf r35_53 := by kernel_rfl
noncomputable def L35_53 : Lc r35_53 := by refine ⟨?l, (congrArg (List.map strip) can35_53).trans ?h⟩; case h => simp only [r35_53, c35, bodyOf, Tryd.f35, Code.sub, opsOf, List.map_cons, List.map_nil, strip]; rfl
theorem w35_53 : Wd r35_53 324 [324] [224, 225, 226, 227, 228, 229, 230, 231, 232, 6] [] [7, 3] [some 224, some 225, some 226, some 227, some 228, some 229, some 230, some 231, some 232, some 6] (L35_53).1 [(4, [1, 5])] := w_loud (by kernel_rfl) (L35_53).2
noncomputable def L35_54 : Lt r35_54 := by refine ⟨?l, ?h⟩; case h => simp only [r35_54, c35, bodyOf, Tryd.f35, Code.sub, opsOf, List.map_cons, List.map_nil, strip]; rfl
theorem w35_54 : Wp r35_54 324 [324] [234, 233] [] [179] [some 234, some 233] (L35_54).1 := w_plain (by kernel_rfl) (L35_54).2
theorem can35_55 : canonOps (opsOf r35_55) = opsOf r35_55 := by kernel_rfl
noncomputable def L35_55 : Lc r35_55 := by refine ⟨?l, (congrArg (List.map strip) can35_55).trans ?h⟩; case h => simp only [r35_55, c35, bodyOf, Tryd.f35, Code.sub, opsOf, List.map_cons, List.map_nil, strip]; rfl
theorem w35_55 : Wd r35_55 324 [324] [235, 236, 237, 238, 239, 240, 241, 242, 243, 244, 245, 246, 6] [] [7, 3] [some 235, some 236, some 237, some 238, some 239, some 240, some 241, some 242, some 243, some 244, some 245, some 246, some 6] (L35_55).1 [(6, [1, 7])] := w_loud (by kernel_rfl) (L35_55).2
noncomputable def L35_56 : Lt r35_56 := by refine ⟨?l, ?h⟩; case h => simp only [r35_56, c35, bodyOf, Tryd.f35, Code.sub, opsOf, List.map_cons, List.map_nil, strip]; rfl
theorem w35_56 : Wp r35_56 324 [324] [248, 247] [] [179] [some 248, some 247] (L35_56).1 := w_plain (by kernel_rfl) (L35_56).2
theorem can35_57 : canonOps (opsOf r35_57) = opsOf r35_57 := by kernel_rfl
noncomputable def L35_57 : Lc r35_57 := by refine ⟨?l, (congrArg (List.map strip) can35_57).trans ?h⟩; case h => simp only [r35_57, c35, bodyOf, Tryd.f35, Code.sub, opsOf, List.map_cons, List.map_nil, strip]; rfl
theorem w35_57 : Wd r35_57 324 [324] [249, 250, 251, 252, 253, 254, 255, 256, 257, 258, 259, 260, 6] [] [3, 7] [some 249, some 250, some 251, some 252, some 253, some 254, some 255, some 256, some 257, some 258, some 259, some 260, some 6] (L35_57).1 [(4, [1, 5])] := w_loud (by kernel_rfl) (L35_57).2
noncomputable def L35_58 : Lt r35_58 := by refine ⟨?l, ?h⟩; case h => simp only [r35_58, c35, bodyOf, Tryd.f35, Code.sub, opsOf, List.map_cons, List.map_nil, strip]; rfl
theorem w35_58 : Wp r35_58 324 [324] [262, 261] [] [40] [some 262, some 261] (L35_58).1 := w_plain (by kernel_rfl) (L35_58).2
noncomputable def L35_59 : Lt r35_59 := by refine ⟨?l, ?h⟩; case h => simp only [r35_59, c35, bodyOf, Tryd.f35, Code.sub, opsOf, List.map_cons, List.map_nil, strip]; rfl
theorem w35_59 : Wp r35_59 324 [324] [263, 264, 265] [] [3] [some 263, some 264, some 265] (L35_59).1 := w_plain (by kernel_rfl) (L35_59).2
noncomputable def L35_60 : Lt r35_60 := by refine ⟨?l, ?h⟩; case h => simp only [r35_60, c35, bodyOf, Tryd.f35, Code.sub, opsOf, List.map_cons, List.map_nil, strip]; rfl
theorem w35_60 : Wp r35_60 324 [324] [266, 267, 268, 269, 270, 271, 272, 273, 6] [] [7] [some 266, some 267, some 268, some 269, some 270, some 271, some 272, some 273, some 6] (L35_60).1 := w_plain (by kernel_rfl) (L35_60).2
noncomputable def L35_61 : Lt r35_61 := by refine ⟨?l, ?h⟩; case h => simp only [r35_61, c35, bodyOf, Tryd.f35, Code.sub, opsOf, List.map_cons, List.map_nil, strip]; rfl
theorem w35_61 : Wp r35_61 324 [324] [275, 274] [] [40] [some 275, some 274] (L35_61).1 := w_plain (by kernel_rfl) (L35_61).2
noncomputable def L35_62 : Lt r35_62 := by refine ⟨?l, ?h⟩; case h => simp only [r35_62, c35, bodyOf, Tryd.f35, Code.sub, opsOf, List.map_cons, List.map_nil, strip]; rfl
theorem w35_62 : Wp r35_62 324 [324] [276, 277] [] [3] [some 276, some 277] (L35_62).1 := w_plain (by kernel_rfl) (L35_62).2
noncomputable def L35_63 : Lt r35_63 := by refine ⟨?l, ?h⟩; case h => simp only [r35_63, c35, bodyOf, Tryd.f35, Code.sub, opsOf, List.map_cons, List.map_nil, strip]; rfl
theorem w35_63 : Wp r35_63 324 [324] [279, 278] [] [277] [some 279, some 278] (L35_63).1 := w_plain (by kernel_rfl) (L35_63).2
noncomputable def L35_64 : Lt r35_64 := by refine ⟨?l, ?h⟩; case h => simp only [r35_64, c35, bodyOf, Tryd.f35, Code.sub, opsOf, List.map_cons, List.map_nil, strip]; rfl
theorem w35_64 : Wp r35_64 324 [324] [280, 281, 282, 283, 6] [] [7] [some 280, some 281, some 282, some 283, some 6] (L35_64).1 := w_plain (by kernel_rfl) (L35_64).2
noncomputable def L35_65 : Lt r35_65 := by refine ⟨?l, ?h⟩; case h => simp only [r35_65, c35, bodyOf, Tryd.f35, Code.sub, opsOf, List.map_cons, List.map_nil, strip]; rfl
theorem w35_65 : Wp r35_65 324 [324] [285, 284] [] [277] [some 285, some 284] (L35_65).1 := w_plain (by kernel_rfl) (L35_65).2
noncomputable def L35_66 : Lt r35_66 := by refine ⟨?l, ?h⟩; case h => simp only [r35_66, c35, bodyOf, Tryd.f35, Code.sub, opsOf, List.map_cons, List.map_nil, strip]; rfl
theorem w35_66 : Wp r35_66 324 [324] [286, 287, 288, 6] [] [7] [some 286, some 287, some 288, some 6] (L35_66).1 := w_plain (by kernel_rfl) (L35_66).2
noncomputable def L35_67 : Lt r35_67 := by refine ⟨?l, ?h⟩; case h => simp only [r35_67, c35, bodyOf, Tryd.f35, Code.sub, opsOf, List.map_cons, List.map_nil, strip]; rfl
theorem w35_67 : Wp r35_67 324 [324] [290, 289] [] [40] [some 290, some 289] (L35_67).1 := w_plain (by kernel_rfl) (L35_67).2
noncomputable def L35_68 : Lt r35_68 := by refine ⟨?l, ?h⟩; case h => simp only [r35_68, c35, bodyOf, Tryd.f35, Code.sub, opsOf, List.map_cons, List.map_nil, strip]; rfl
theorem w35_68 : Wp r35_68 324 [324] [291, 292] [] [3] [some 291, some 292] (L35_68).1 := w_plain (by kernel_rfl) (L35_68).2
noncomputable def L35_69 : Lt r35_69 := by refine ⟨?l, ?h⟩; case h => simp only [r35_69, c35, bodyOf, Tryd.f35, Code.sub, opsOf, List.map_cons, List.map_nil, strip]; rfl
theorem w35_69 : Wp r35_69 324 [324] [294, 293] [] [292] [some 294, some 293] (L35_69).1 := w_plain (by kernel_rfl) (L35_69).2
noncomputable def L35_70 : Lt r35_70 := by refine ⟨?l, ?h⟩; case h => simp only [r35_70, c35, bodyOf, Tryd.f35, Code.sub, opsOf, List.map_cons, List.map_nil, strip]; rfl
theorem w35_70 : Wp r35_70 324 [324] [6] [] [] [some 6] (L35_70).1 := w_plain (by kernel_rfl) (L35_70).2
noncomputable def L35_71 : Lt r35_71 := by refine ⟨?l, ?h⟩; case h => simp only [r35_71, c35, bodyOf, Tryd.f35, Code.sub, opsOf, List.map_cons, List.map_nil, strip]; rfl
theorem w35_71 : Wp r35_71 324 [324] [296, 295] [] [292] [some 296, some 295] (L35_71).1 := w_plain (by kernel_rfl) (L35_71).2
noncomputable def L35_72 : Lt r35_72 := by refine ⟨?l, ?h⟩; case h => simp only [r35_72, c35, bodyOf, Tryd.f35, Code.sub, opsOf, List.map_cons, List.map_nil, strip]; rfl
theorem w35_72 : Wp r35_72 324 [324] [297, 298, 299, 6] [] [7] [some 297, some 298, some 299, some 6] (L35_72).1 := w_plain (by kernel_rfl) (L35_72).2
noncomputable def L35_73 : Lt r35_73 := by refine ⟨?l, ?h⟩; case h => simp only [r35_73, c35, bodyOf, Tryd.f35, Code.sub, opsOf, List.map_cons, List.map_nil, strip]; rfl
theorem w35_73 : Wp r35_73 324 [324] [301, 300] [] [292] [some 301, some 300] (L35_73).1 := w_plain (by kernel_rfl) (L35_73).2
noncomputable def L35_74 : Lt r35_74 := by refine ⟨?l, ?h⟩; case h => simp only [r35_74, c35, bodyOf, Tryd.f35, Code.sub, opsOf, List.map_cons, List.map_nil, strip]; rfl
theorem w35_74 : Wp r35_74 324 [324] [302, 303, 304, 6] [] [7] [some 302, some 303, some 304, some 6] (L35_74).1 := w_plain (by kernel_rfl) (L35_74).2
noncomputable def L35_75 : Lt r35_75 := by refine ⟨?l, ?h⟩; case h => simp only [r35_75, c35, bodyOf, Tryd.f35, Code.sub, opsOf, List.map_cons, List.map_nil, strip]; rfl
theorem w35_75 : Wp r35_75 324 [324] [306, 305] [] [292] [some 306, some 305] (L35_75).1 := w_plain (by kernel_rfl) (L35_75).2
noncomputable def L35_76 : Lt r35_76 := by refine ⟨?l, ?h⟩; case h => simp only [r35_76, c35, bodyOf, Tryd.f35, Code.sub, opsOf, List.map_cons, List.map_nil, strip]; rfl
theorem w35_76 : Wp r35_76 324 [324] [307, 308, 309, 310] [] [3] [some 307, some 308, some 309, some 310] (L35_76).1 := w_plain (by kernel_rfl) (L35_76).2
noncomputable def L35_77 : Lt r35_77 := by refine ⟨?l, ?h⟩; case h => simp only [r35_77, c35, bodyOf, Tryd.f35, Code.sub, opsOf, List.map_cons, List.map_nil, strip]; rfl
theorem w35_77 : Wp r35_77 324 [324] [311, 312, 313, 314, 6] [] [7] [some 311, some 312, some 313, some 314, some 6] (L35_77).1 := w_plain (by kernel_rfl) (L35_77).2
noncomputable def L35_78 : Lt r35_78 := by refine ⟨?l, ?h⟩; case h => simp only [r35_78, c35, bodyOf, Tryd.f35, Code.sub, opsOf, List.map_cons, List.map_nil, strip]; rfl
theorem w35_78 : Wp r35_78 324 [324] [316, 315] [] [40] [some 316, some 315] (L35_78).1 := w_plain (by kernel_rfl) (L35_78).2
noncomputable def L35_79 : Lt r35_79 := by refine ⟨?l, ?h⟩; case h => simp only [r35_79, c35, bodyOf, Tryd.f35, Code.sub, opsOf, List.map_cons, List.map_nil, strip]; rfl
theorem w35_79 : Wp r35_79 324 [324] [317, 318, 319] [] [3] [some 317, some 318, some 319] (L35_79).1 := w_plain (by kernel_rfl) (L35_79).2
noncomputable def L35_80 : Lt r35_80 := by refine ⟨?l, ?h⟩; case h => simp only [r35_80, c35, bodyOf, Tryd.f35, Code.sub, opsOf, List.map_cons, List.map_nil, strip]; rfl
theorem w35_80 : Wp r35_80 324 [324] [6] [] [] [some 6] (L35_80).1 := w_plain (by kernel_rfl) (L35_80).2
noncomputable def L35_81 : Lt r35_81 := by refine ⟨?l, ?h⟩; case h => simp only [r35_81, c35, bodyOf, Tryd.f35, Code.sub, opsOf, List.map_cons, List.map_nil, strip]; rfl
theorem w35_81 : Wp r35_81 324 [324] [321, 320] [] [40] [some 321, some 320] (L35_81).1 := w_plain (by kernel_rfl) (L35_81).2
noncomputable def L35_82 : Lt r35_82 := by refine ⟨?l, ?h⟩; case h => simp only [r35_82, c35, bodyOf, Tryd.f35, Code.sub, opsOf, List.map_cons, List.map_nil, strip]; rfl
theorem w35_82 : Wp r35_82 324 [324] [322, 323] [] [3] [some 322, some 323] (L35_82).1 := w_plain (by kernel_rfl) (L35_82).2
noncomputable def L35_83 : Lt r35_83 := by refine ⟨?l, ?h⟩; case h => simp only [r35_83, c35, bodyOf, Tryd.f35, Code.sub, opsOf, List.map_cons, List.map_nil, strip]; rfl
theorem w35_83 : Wp r35_83 324 [324] [] [324] [323] [some 325, some 324] (L35_83).1 := w_plain (by kernel_rfl) (L35_83).2
noncomputable def L35_84 : Lt r35_84 := by refine ⟨?l, ?h⟩; case h => simp only [r35_84, c35, bodyOf, Tryd.f35, Code.sub, opsOf, List.map_cons, List.map_nil, strip]; rfl
theorem w35_84 : Wp r35_84 324 [324] [6] [] [7] [some 326, some 327, some 328, some 6] (L35_84).1 := w_plain (by kernel_rfl) (L35_84).2
noncomputable def L35_85 : Lt r35_85 := by refine ⟨?l, ?h⟩; case h => simp only [r35_85, c35, bodyOf, Tryd.f35, Code.sub, opsOf, List.map_cons, List.map_nil, strip]; rfl
theorem w35_85 : Wp r35_85 324 [324] [6] [] [3, 1] [some 329, some 330, some 331, some 6] (L35_85).1 := w_plain (by kernel_rfl) (L35_85).2
theorem k35 : FnIs TT 35 c35 [.tmp 6] 3 := ⟨Tryd.f35, by kernel_rfl, by simp only [Tryd.f35, c35, bodyOf], by kernel_rfl, of_decide_eq_true (by kernel_rfl)⟩
noncomputable def c45 : Code := bodyOf Tryd.f45
noncomputable def r45_0 : Code := Code.sub [0, 0] c45
noncomputable def r45_1 : Code := Code.sub [0, 1, 0, 0] c45
noncomputable def r45_2 : Code := Code.sub [1, 0] c45
noncomputable def r45_3 : Code := Code.sub [1, 1, 0, 0, 0] c45
noncomputable def r45_4 : Code := Code.sub [1, 1, 0, 0, 1, 1] c45
noncomputable def r45_5 : Code := Code.sub [1, 1, 0, 1, 0, 0] c45
noncomputable def r45_6 : Code := Code.sub [1, 1, 0, 1, 0, 1] c45
noncomputable def r45_7 : Code := Code.sub [1, 1, 0, 1, 1, 0, 0] c45
noncomputable def r45_8 : Code := Code.sub [1, 1, 0, 1, 1, 0, 1, 1, 0] c45
noncomputable def r45_9 : Code := Code.sub [1, 1, 0, 1, 1, 0, 1, 1, 1, 1] c45
noncomputable def r45_10 : Code := Code.sub [1, 1, 0, 1, 1, 1, 0, 0] c45
noncomputable def r45_11 : Code := Code.sub [1, 1, 0, 1, 1, 1, 0, 1, 0] c45
noncomputable def r45_12 : Code := Code.sub [1, 1, 0, 1, 1, 1, 0, 1, 1, 0] c45
noncomputable def r45_13 : Code := Code.sub [1, 1, 0, 1, 1, 1, 1, 0] c45
noncomputable def r45_14 : Code := Code.sub [1, 1, 0, 1, 1, 1, 1, 1, 0, 0] c45
noncomputable def r45_15 : Code := Code.sub [1, 1, 0, 1, 1, 1, 1, 1, 0, 1, 0] c45
noncomputable def r45_16 : Code := Code.sub [1, 1, 0, 1, 1, 1, 1, 1, 0, 1, 1, 0] c45
noncomputable def r45_17 : Code := Code.sub [1, 1, 0, 1, 1, 1, 1, 1, 1, 0] c45
noncomputable def r45_18 : Code := Code.sub [1, 1, 0, 1, 1, 1, 1, 1, 1, 1, 0, 0] c45
noncomputable def r45_19 : Code := Code.sub [1, 1, 0, 1, 1, 1, 1, 1, 1, 1, 0, 1] c45
noncomputable def r45_20 : Code := Code.sub [1, 1, 0, 1, 1, 1, 1, 1, 1, 1, 1, 0, 0] c45
noncomputable def r45_21 : Code := Code.sub [1, 1, 0, 1, 1, 1, 1, 1, 1, 1, 1, 0, 1, 1] c45
noncomputable def r45_22 : Code := Code.sub [1, 1, 0, 1, 1, 1, 1, 1, 1, 1, 1, 1, 0, 0, 0] c45
noncomputable def r45_23 : Code := Code.sub [1, 1, 0, 1, 1, 1, 1, 1, 1, 1, 1, 1, 0, 1, 0] c45
noncomputable def r45_24 : Code := Code.sub [1, 1, 0, 1, 1, 1, 1, 1, 1, 1, 1, 1, 0, 1, 1, 0] c45
noncomputable def r45_25 : Code := Code.sub [1, 1, 0, 1, 1, 1, 1, 1, 1, 1, 1, 1, 0, 1, 1, 1, 0, 0] c45
noncomputable def r45_26 : Code := Code.sub [1, 1, 0, 1, 1, 1, 1, 1, 1, 1, 1, 1, 0, 1, 1, 1, 0, 1, 0, 0] c45
noncomputable def r45_27 : Code := Code.sub [1, 1, 0, 1, 1, 1, 1, 1, 1, 1, 1, 1, 0, 1, 1, 1, 0, 1, 0, 1] c45
noncomputable def r45_28 : Code := Code.sub [1, 1, 0, 1, 1, 1, 1, 1, 1, 1, 1, 1, 0, 1, 1, 1, 1] c45
noncomputable def r45_29 : Code := Code.sub [1, 1, 0, 1, 1, 1, 1, 1, 1, 1, 1, 1, 1, 0, 0] c45
noncomputable def r45_30 : Code := Code.sub [1, 1, 0, 1, 1, 1, 1, 1, 1, 1, 1, 1, 1, 0, 1, 1] c45
noncomputable def r45_31 : Code := Code.sub [1, 1, 0, 1, 1, 1, 1, 1, 1, 1, 1, 1, 1, 1, 0] c45
noncomputable def r45_32 : Code := Code.sub [1, 1, 0, 1, 1, 1, 1, 1, 1, 1, 1, 1, 1, 1, 1, 0] c45
noncomputable def r45_33 : Code := Code.sub [1, 1, 0, 1, 1, 1, 1, 1, 1, 1, 1, 1, 1, 1, 1, 1, 0] c45
noncomputable def r45_34 : Code := Code.sub [1, 1, 0, 1, 1, 1, 1, 1, 1, 1, 1, 1, 1, 1, 1, 1, 1, 0] c45
noncomputable def r45_35 : Code := Code.sub [1, 1, 0, 1, 1, 1, 1, 1, 1, 1, 1, 1, 1, 1, 1, 1, 1, 1, 0, 0] c45
noncomputable def r45_36 : Code := Code.sub [1, 1, 0, 1, 1, 1, 1, 1, 1, 1, 1, 1, 1, 1, 1, 1, 1, 1, 0, 1, 0, 0] c45
noncomputable def r45_37 : Code := Code.sub [1, 1, 0, 1, 1, 1, 1, 1, 1, 1, 1, 1, 1, 1, 1, 1, 1, 1, 0, 1, 0, 1, 0] c45
noncomputable def r45_38 : Code := Code.sub [1, 1, 0, 1, 1, 1, 1, 1, 1, 1, 1, 1, 1, 1, 1, 1, 1, 1, 0, 1, 0, 1, 1, 0] c45
noncomputable def r45_39 : Code := Code.sub [1, 1, 0, 1, 1, 1, 1, 1, 1, 1, 1, 1, 1, 1, 1, 1, 1, 1, 0, 1, 0, 1, 1, 1, 0] c45
noncomputable def r45_40 : Code := Code.sub [1, 1, 0, 1, 1, 1, 1, 1, 1, 1, 1, 1, 1, 1, 1, 1, 1, 1, 0, 1, 0, 1, 1, 1, 1, 0] c45
noncomputable def r45_41 : Code := Code.sub [1, 1, 0, 1, 1, 1, 1, 1, 1, 1, 1, 1, 1, 1, 1, 1, 1, 1, 0, 1, 0, 1, 1, 1, 1, 1, 0] c45
noncomputable def r45_42 : Code := Code.sub [1, 1, 0, 1, 1, 1, 1, 1, 1, 1, 1, 1, 1, 1, 1, 1, 1, 1, 0, 1, 0, 1, 1, 1, 1, 1, 1, 0] c45
noncomputable def r45_43 : Code := Code.sub [1, 1, 0, 1, 1, 1, 1, 1, 1, 1, 1, 1, 1, 1, 1, 1, 1, 1, 0, 1, 0, 1, 1, 1, 1, 1, 1, 1, 0] c45
noncomputable def r45_44 : Code := Code.sub [1, 1, 0, 1, 1, 1, 1, 1, 1, 1, 1, 1, 1, 1, 1, 1, 1, 1, 0, 1, 0, 1, 1, 1, 1, 1, 1, 1, 1] c45
noncomputable def r45_45 : Code := Code.sub [1, 1, 0, 1, 1, 1, 1, 1, 1, 1, 1, 1, 1, 1, 1, 1, 1, 1, 1, 0] c45
noncomputable def r45_46 : Code := Code.sub [1, 1, 0, 1, 1, 1, 1, 1, 1, 1, 1, 1, 1, 1, 1, 1, 1, 1, 1, 1, 0, 0] c45
noncomputable def r45_47 : Code := Code.sub [1, 1, 0, 1, 1, 1, 1, 1, 1, 1, 1, 1, 1, 1, 1, 1, 1, 1, 1, 1, 0, 1, 0] c45
noncomputable def r45_48 : Code := Code.sub [1, 1, 0, 1, 1, 1, 1, 1, 1, 1, 1, 1, 1, 1, 1, 1, 1, 1, 1, 1, 1, 0, 0] c45
noncomputable def r45_49 : Code := Code.sub [1, 1, 0, 1, 1, 1, 1, 1, 1, 1, 1, 1, 1, 1, 1, 1, 1, 1, 1, 1, 1, 0, 1, 0, 0] c45
noncomputable def r45_50 : Code := Code.sub [1, 1, 0, 1, 1, 1, 1, 1, 1, 1, 1, 1, 1, 1, 1, 1, 1, 1, 1, 1, 1, 0, 1, 0, 1, 0] c45
noncomputable def r45_51 : Code := Code.sub [1, 1, 0, 1, 1, 1, 1, 1, 1, 1, 1, 1, 1, 1, 1, 1, 1, 1, 1, 1, 1, 0, 1, 0, 1, 1] c45
noncomputable def r45_52 : Code := Code.sub [1, 1, 0, 1, 1, 1, 1, 1, 1, 1, 1, 1, 1, 1, 1, 1, 1, 1, 1, 1, 1, 0, 1, 1, 0] c45
noncomputable def r45_53 : Code := Code.sub [1, 1, 0, 1, 1, 1, 1, 1, 1, 1, 1, 1, 1, 1, 1, 1, 1, 1, 1, 1, 1, 0, 1, 1, 1, 0, 0] c45
noncomputable def r45_54 : Code := Code.sub [1, 1, 0, 1, 1, 1, 1, 1, 1, 1, 1, 1, 1, 1, 1, 1, 1, 1, 1, 1, 1, 0, 1, 1, 1, 0, 1, 0] c45
noncomputable def r45_55 : Code := Code.sub [1, 1, 0, 1, 1, 1, 1, 1, 1, 1, 1, 1, 1, 1, 1, 1, 1, 1, 1, 1, 1, 0, 1, 1, 1, 0, 1, 1] c45
noncomputable def r45_56 : Code := Code.sub [1, 1, 0, 1, 1, 1, 1, 1, 1, 1, 1, 1, 1, 1, 1, 1, 1, 1, 1, 1, 1, 0, 1, 1, 1, 1] c45
theorem body45 : c45 = (.seq (.seq r45_0 (.cond (.tmp 21) (.seq r45_1 .ret) .skip)) (.seq r45_2 (.block 0 (.seq (.seq r45_3 (.cond (.tmp 95) .skip r45_4)) (.cond (.tmp 95) (.seq r45_5 r45_6) (.seq (.seq r45_7 (.cond (.tmp 107) .skip (.seq r45_8 (.cond (.tmp 107) .skip r45_9)))) (.cond (.tmp 107) (.seq r45_10 (.seq r45_11 (.cond (.tmp 114) r45_12 .skip))) (.seq r45_13 (.cond (.tmp 123) (.seq r45_14 (.seq r45_15 (.cond (.tmp 128) r45_16 .skip))) (.seq r45_17 (.cond (.tmp 137) (.seq r45_18 r45_19) (.seq (.seq r45_20 (.cond (.tmp 149) .skip r45_21)) (.cond (.tmp 149) (.seq (.seq r45_22 (.cond (.tmp 153) .ret .skip)) (.seq r45_23 (.seq r45_24 (.seq (.seq r45_25 (.cond (.tmp 169) (.seq r45_26 r45_27) .skip)) r45_28)))) (.seq (.seq r45_29 (.cond (.tmp 182) .skip r45_30)) (.cond (.tmp 182) r45_31 (.seq r45_32 (.cond (.tmp 189) r45_33 (.seq r45_34 (.cond (.tmp 204) (.seq r45_35 (.block 2 (.seq r45_36 (.cond (.tmp 217) r45_37 (.seq r45_38 (.cond (.tmp 228) r45_39 (.seq r45_40 (.cond (.tmp 239) r45_41 (.seq r45_42 (.cond (.tmp 250) r45_43 r45_44)))))))))) (.seq r45_45 (.cond (.tmp 261) (.seq r45_46 (.cond (.tmp 266) r45_47 .skip)) (.block 1 (.seq r45_48 (.cond (.tmp 34) (.seq r45_49 (.seq r45_50 r45_51)) (.seq r45_52 (.cond (.tmp 63) (.seq r45_53 (.seq r45_54 r45_55)) r45_56)))))))))))))))))))))))))) := by kernel_rfl
noncomputable def L45_0 : Lt r45_0 := by refine ⟨?l, ?h⟩; case h => simp only [r45_0, c45, bodyOf, Tryd.f45, Code.sub, opsOf, List.map_cons, List.map_nil, strip]; rfl
theorem w45_0 : Wp r45_0 208 [217, 228, 239, 250, 261, 266] [10, 11, 12, 13, 14, 15, 16, 17, 18, 19, 20, 21] [] [0] [some 10, some 11, some 12, some 13, some 14, some 15, some 16, some 17, some 18, some 19, some 20, some 21] (L45_0).1 := w_plain (by kernel_rfl) (L45_0).2
noncomputable def L45_1 : Lt r45_1 := by refine ⟨?l, ?h⟩; case h => simp only [r45_1, c45, bodyOf, Tryd.f45, Code.sub, opsOf, List.map_cons, List.map_nil, strip]; rfl
theorem w45_1 : Wp r45_1 208 [217, 228, 239, 250, 261, 266] [22, 23, 24, 25, 26, 27, 28] [] [1, 0] [some 22, some 23, some 24, some 25, some 26, some 27, some 28] (L45_1).1 := w_plain (by kernel_rfl) (L45_1).2
noncomputable def L45_2 : Lt r45_2 := by refine ⟨?l, ?h⟩; case h => simp only [r45_2, c45, bodyOf, Tryd.f45, Code.sub, opsOf, List.map_cons, List.map_nil, strip]; rfl
theorem w45_2 : Wp r45_2 208 [217, 228, 239, 250, 261, 266] [29, 30] [] [0] [some 29, some 30] (L45_2).1 := w_plain (by kernel_rfl) (L45_2).2
noncomputable def L45_3 : Lt r45_3 := by refine ⟨?l, ?h⟩; case h => simp only [r45_3, c45, bodyOf, Tryd.f45, Code.sub, opsOf, List.map_cons, List.map_nil, strip]; rfl
theorem w45_3 : Wp r45_3 208 [217, 228, 239, 250, 261, 266] [96, 95] [] [30] [some 96, some 95] (L45_3).1 := w_plain (by kernel_rfl) (L45_3).2
noncomputable def L45_4 : Lt r45_4 := by refine ⟨?l, ?h⟩; case h => simp only [r45_4, c45, bodyOf, Tryd.f45, Code.sub, opsOf, List.map_cons, List.map_nil, strip]; rfl
theorem w45_4 : Wp r45_4 208 [217, 228, 239, 250, 261, 266] [97, 95] [] [30] [some 97, some 95] (L45_4).1 := w_plain (by kernel_rfl) (L45_4).2
noncomputable def L45_5 : Lt r45_5 := by refine ⟨?l, ?h⟩; case h => simp only [r45_5, c45, bodyOf, Tryd.f45, Code.sub, opsOf, List.map_cons, List.map_nil, strip]; rfl
theorem w45_5 : Wp r45_5 208 [217, 228, 239, 250, 261, 266] [98, 99, 6] [] [0] [some 98, some 99, some 6] (L45_5).1 := w_plain (by kernel_rfl) (L45_5).2
noncomputable def L45_6 : Lt r45_6 := by refine ⟨?l, ?h⟩; case h => simp only [r45_6, c45, bodyOf, Tryd.f45, Code.sub, opsOf, List.map_cons, List.map_nil, strip]; rfl
theorem w45_6 : Wp r45_6 208 [217, 228, 239, 250, 261, 266] [100, 101, 102, 103, 104, 105, 106] [] [1, 0, 6] [some 100, some 101, some 102, some 103, some 104, some 105, some 106] (L45_6).1 := w_plain (by kernel_rfl) (L45_6).2
noncomputable def L45_7 : Lt r45_7 := by refine ⟨?l, ?h⟩; case h => simp only [r45_7, c45, bodyOf, Tryd.f45, Code.sub, opsOf, List.map_cons, List.map_nil, strip]; rfl
theorem w45_7 : Wp r45_7 208 [217, 228, 239, 250, 261, 266] [108, 107] [] [30] [some 108, some 107] (L45_7).1 := w_plain (by kernel_rfl) (L45_7).2
noncomputable def L45_8 : Lt r45_8 := by refine ⟨?l, ?h⟩; case h => simp only [r45_8, c45, bodyOf, Tryd.f45, Code.sub, opsOf, List.map_cons, List.map_nil, strip]; rfl
theorem w45_8 : Wp r45_8 208 [217, 228, 239, 250, 261, 266] [109, 107] [] [30] [some 109, some 107] (L45_8).1 := w_plain (by kernel_rfl) (L45_8).2
noncomputable def L45_9 : Lt r45_9 := by refine ⟨?l, ?h⟩; case h => simp only [r45_9, c45, bodyOf, Tryd.f45, Code.sub, opsOf, List.map_cons, List.map_nil, strip]; rfl
theorem w45_9 : Wp r45_9 208 [217, 228, 239, 250, 261, 266] [110, 107] [] [30] [some 110, some 107] (L45_9).1 := w_plain (by kernel_rfl) (L45_9).2
noncomputable def L45_10 : Lt r45_10 := by refine ⟨?l, ?h⟩; case h => simp only [r45_10, c45, bodyOf, Tryd.f45, Code.sub, opsOf, List.map_cons, List.map_nil, strip]; rfl
theorem w45_10 : Wp r45_10 208 [217, 228, 239, 250, 261, 266] [111, 112, 7] [] [0] [some 111, some 112, some 7] (L45_10).1 := w_plain (by kernel_rfl) (L45_10).2
noncomputable def L45_11 : Lt r45_11 := by refine ⟨?l, ?h⟩; case h => simp only [r45_11, c45, bodyOf, Tryd.f45, Code.sub, opsOf, List.map_cons, List.map_nil, strip]; rfl
theorem w45_11 : Wp r45_11 208 [217, 228, 239, 250, 261, 266] [113, 114] [] [7] [some 113, some 114] (L45_11).1 := w_plain (by kernel_rfl) (L45_11).2
noncomputable def L45_12 : Lt r45_12 := by refine ⟨?l, ?h⟩; case h => simp only [r45_12, c45, bodyOf, Tryd.f45, Code.sub, opsOf, List.map_cons, List.map_nil, strip]; rfl
theorem w45_12 : Wp r45_12 208 [217, 228, 239, 250, 261, 266] [115, 116, 117, 118, 119, 120, 121, 122] [] [1, 7, 0] [some 115, some 116, some 117, some 118, some 119, some 120, some 121, some 122] (L45_12).1 := w_plain (by kernel_rfl) (L45_12).2
noncomputable def L45_13 : Lt r45_13 := by refine ⟨?l, ?h⟩; case h => simp only [r45_13, c45, bodyOf, Tryd.f45, Code.sub, opsOf, List.map_cons, List.map_nil, strip]; rfl
theorem w45_13 : Wp r45_13 208 [217, 228, 239, 250, 261, 266] [124, 123] [] [30] [some 124, some 123] (L45_13).1 := w_plain (by kernel_rfl) (L45_13).2
noncomputable def L45_14 : Lt r45_14 := by refine ⟨?l, ?h⟩; case h => simp only [r45_14, c45, bodyOf, Tryd.f45, Code.sub, opsOf, List.map_cons, List.map_nil, strip]; rfl
theorem w45_14 : Wp r45_14 208 [217, 228, 239, 250, 261, 266] [125, 126, 8] [] [0] [some 125, some 126, some 8] (L45_14).1 := w_plain (by kernel_rfl) (L45_14).2
noncomputable def L45_15 : Lt r45_15 := by refine ⟨?l, ?h⟩; case h => simp only [r45_15, c45, bodyOf, Tryd.f45, Code.sub, opsOf, List.map_cons, List.map_nil, strip]; rfl
theorem w45_15 : Wp r45_15 208 [217, 228, 239, 250, 261, 266] [127, 128] [] [8] [some 127, some 128] (L45_15).1 := w_plain (by kernel_rfl) (L45_15).2
noncomputable def L45_16 : Lt r45_16 := by refine ⟨?l, ?h⟩; case h => simp only [r45_16, c45, bodyOf, Tryd.f45, Code.sub, opsOf, List.map_cons, List.map_nil, strip]; rfl
theorem w45_16 : Wp r45_16 208 [217, 228, 239, 250, 261, 266] [129, 130, 131, 132, 133, 134, 135, 136] [] [1, 8, 0] [some 129, some 130, some 131, some 132, some 133, some 134, some 135, some 136] (L45_16).1 := w_plain (by kernel_rfl) (L45_16).2
noncomputable def L45_17 : Lt r45_17 := by refine ⟨?l, ?h⟩; case h => simp only [r45_17, c45, bodyOf, Tryd.f45, Code.sub, opsOf, List.map_cons, List.map_nil, strip]; rfl
theorem w45_17 : Wp r45_17 208 [217, 228, 239, 250, 261, 266] [138, 137] [] [30] [some 138, some 137] (L45_17).1 := w_plain (by kernel_rfl) (L45_17).2
noncomputable def L45_18 : Lt r45_18 := by refine ⟨?l, ?h⟩; case h => simp only [r45_18, c45, bodyOf, Tryd.f45, Code.sub, opsOf, List.map_cons, List.map_nil, strip]; rfl
theorem w45_18 : Wp r45_18 208 [217, 228, 239, 250, 261, 266] [139, 140, 9] [] [0] [some 139, some 140, some 9] (L45_18).1 := w_plain (by kernel_rfl) (L45_18).2
noncomputable def L45_19 : Lt r45_19 := by refine ⟨?l, ?h⟩; case h => simp only [r45_19, c45, bodyOf, Tryd.f45, Code.sub, opsOf, List.map_cons, List.map_nil, strip]; rfl
theorem w45_19 : Wp r45_19 208 [217, 228, 239, 250, 261, 266] [141, 142, 143, 144, 145, 146, 147, 148] [] [1, 0, 9] [some 141, some 142, some 143, some 144, some 145, some 146, some 147, some 148] (L45_19).1 := w_plain (by kernel_rfl) (L45_19).2
noncomputable def L45_20 : Lt r45_20 := by refine ⟨?l, ?h⟩; case h => simp only [r45_20, c45, bodyOf, Tryd.f45, Code.sub, opsOf, List.map_cons, List.map_nil, strip]; rfl
theorem w45_20 : Wp r45_20 208 [217, 228, 239, 250, 261, 266] [150, 149] [] [30] [some 150, some 149] (L45_20).1 := w_plain (by kernel_rfl) (L45_20).2
noncomputable def L45_21 : Lt r45_21 := by refine ⟨?l, ?h⟩; case h => simp only [r45_21, c45, bodyOf, Tryd.f45, Code.sub, opsOf, List.map_cons, List.map_nil, strip]; rfl
theorem w45_21 : Wp r45_21 208 [217, 228, 239, 250, 261, 266] [151, 149] [] [30] [some 151, some 149] (L45_21).1 := w_plain (by kernel_rfl) (L45_21).2
noncomputable def L45_22 : Lt r45_22 := by refine ⟨?l, ?h⟩; case h => simp only [r45_22, c45, bodyOf, Tryd.f45, Code.sub, opsOf, List.map_cons, List.map_nil, strip]; rfl
theorem w45_22 : Wp r45_22 208 [217, 228, 239, 250, 261, 266] [152, 153] [] [2] [some 152, some 153] (L45_22).1 := w_plain (by kernel_rfl) (L45_22).2
noncomputable def L45_23 : Lt r45_23 := by refine ⟨?l, ?h⟩; case h => simp only [r45_23, c45, bodyOf, Tryd.f45, Code.sub, opsOf, List.map_cons, List.map_nil, strip]; rfl
theorem w45_23 : Wp r45_23 208 [217, 228, 239, 250, 261, 266] [154, 155, 156, 157, 158, 159, 160] [] [1, 0] [some 154, some 155, some 156, some 157, some 158, some 159, some 160] (L45_23).1 := w_plain (by kernel_rfl) (L45_23).2
noncomputable def L45_24 : Lt r45_24 := by refine ⟨?l, ?h⟩; case h => simp only [r45_24, c45, bodyOf, Tryd.f45, Code.sub, opsOf, List.map_cons, List.map_nil, strip]; rfl
theorem w45_24 : Wp r45_24 208 [217, 228, 239, 250, 261, 266] [161, 162, 163, 164, 165, 166] [] [0, 1, 2] [some 161, some 162, some 163, some 164, some 165, some 166] (L45_24).1 := w_plain (by kernel_rfl) (L45_24).2
noncomputable def L45_25 : Lt r45_25 := by refine ⟨?l, ?h⟩; case h => simp only [r45_25, c45, bodyOf, Tryd.f45, Code.sub, opsOf, List.map_cons, List.map_nil, strip]; rfl
theorem w45_25 : Wp r45_25 208 [217, 228, 239, 250, 261, 266] [167, 168, 169] [] [0] [some 167, some 168, some 169] (L45_25).1 := w_plain (by kernel_rfl) (L45_25).2
noncomputable def L45_26 : Lt r45_26 := by refine ⟨?l, ?h⟩; case h => simp only [r45_26, c45, bodyOf, Tryd.f45, Code.sub, opsOf, List.map_cons, List.map_nil, strip]; rfl
theorem w45_26 : Wp r45_26 208 [217, 228, 239, 250, 261, 266] [170, 171, 172] [] [0, 1] [some 170, some 171, some 172] (L45_26).1 := w_plain (by kernel_rfl) (L45_26).2
noncomputable def L45_27 : Lt r45_27 := by refine ⟨?l, ?h⟩; case h => simp only [r45_27, c45, bodyOf, Tryd.f45, Code.sub, opsOf, List.map_cons, List.map_nil, strip]; rfl
theorem w45_27 : Wp r45_27 208 [217, 228, 239, 250, 261, 266] [173, 174, 175, 176, 177, 178] [] [0, 1, 2] [some 173, some 174, some 175, some 176, some 177, some 178] (L45_27).1 := w_plain (by kernel_rfl) (L45_27).2
noncomputable def L45_28 : Lt r45_28 := by refine ⟨?l, ?h⟩; case h => simp only [r45_28, c45, bodyOf, Tryd.f45, Code.sub, opsOf, List.map_cons, List.map_nil, strip]; rfl
theorem w45_28 : Wp r45_28 208 [217, 228, 239, 250, 261, 266] [179, 180, 181] [] [0, 1] [some 179, some 180, some 181] (L45_28).1 := w_plain (by kernel_rfl) (L45_28).2
noncomputable def L45_29 : Lt r45_29 := by refine ⟨?l, ?h⟩; case h => simp only [r45_29, c45, bodyOf, Tryd.f45, Code.sub, opsOf, List.map_cons, List.map_nil, strip]; rfl
theorem w45_29 : Wp r45_29 208 [217, 228, 239, 250, 261, 266] [183, 182] [] [30] [some 183, some 182] (L45_29).1 := w_plain (by kernel_rfl) (L45_29).2
noncomputable def L45_30 : Lt r45_30 := by refine ⟨?l, ?h⟩; case h => simp only [r45_30, c45, bodyOf, Tryd.f45, Code.sub, opsOf, List.map_cons, List.map_nil, strip]; rfl
theorem w45_30 : Wp r45_30 208 [217, 228, 239, 250, 261, 266] [184, 182] [] [30] [some 184, some 182] (L45_30).1 := w_plain (by kernel_rfl) (L45_30).2
noncomputable def L45_31 : Lt r45_31 := by refine ⟨?l, ?h⟩; case h => simp only [r45_31, c45, bodyOf, Tryd.f45, Code.sub, opsOf, List.map_cons, List.map_nil, strip]; rfl
theorem w45_31 : Wp r45_31 208 [217, 228, 239, 250, 261, 266] [185, 186, 187, 188] [] [0, 1, 2] [some 185, some 186, some 187, some 188] (L45_31).1 := w_plain (by kernel_rfl) (L45_31).2
noncomputable def L45_32 : Lt r45_32 := by refine ⟨?l, ?h⟩; case h => simp only [r45_32, c45, bodyOf, Tryd.f45, Code.sub, opsOf, List.map_cons, List.map_nil, strip]; rfl
theorem w45_32 : Wp r45_32 208 [217, 228, 239, 250, 261, 266] [190, 189] [] [30] [some 190, some 189] (L45_32).1 := w_plain (by kernel_rfl) (L45_32).2
noncomputable def L45_33 : Lt r45_33 := by refine ⟨?l, ?h⟩; case h => simp only [r45_33, c45, bodyOf, Tryd.f45, Code.sub, opsOf, List.map_cons, List.map_nil, strip]; rfl
theorem w45_33 : Wp r45_33 208 [217, 228, 239, 250, 261, 266] [191, 192, 193, 194, 195, 196, 197, 198, 199, 200, 201, 202, 203] [] [1, 0] [some 191, some 192, some 193, some 194, some 195, some 196, some 197, some 198, some 199, some 200, some 201, some 202, some 203] (L45_33).1 := w_plain (by kernel_rfl) (L45_33).2
noncomputable def L45_34 : Lt r45_34 := by refine ⟨?l, ?h⟩; case h => simp only [r45_34, c45, bodyOf, Tryd.f45, Code.sub, opsOf, List.map_cons, List.map_nil, strip]; rfl
theorem w45_34 : Wp r45_34 208 [217, 228, 239, 250, 261, 266] [205, 204] [] [30] [some 205, some 204] (L45_34).1 := w_plain (by kernel_rfl) (L45_34).2
noncomputable def L45_35 : Lt r45_35 := by refine ⟨?l, ?h⟩; case h => simp only [r45_35, c45, bodyOf, Tryd.f45, Code.sub, opsOf, List.map_cons, List.map_nil, strip]; rfl
theorem w45_35 : Wp r45_35 208 [217, 228, 239, 250, 261, 266] [206, 207] [] [0] [some 206, some 207] (L45_35).1 := w_plain (by kernel_rfl) (L45_35).2
noncomputable def L45_36 : Lt r45_36 := by refine ⟨?l, ?h⟩; case h => simp only [r45_36, c45, bodyOf, Tryd.f45, Code.sub, opsOf, List.map_cons, List.map_nil, strip]; rfl
theorem w45_36 : Wp r45_36 208 [217, 228, 239, 250, 261, 266] [] [217] [207] [some 218, some 217] (L45_36).1 := w_plain (by kernel_rfl) (L45_36).2
noncomputable def L45_37 : Lt r45_37 := by refine ⟨?l, ?h⟩; case h => simp only [r45_37, c45, bodyOf, Tryd.f45, Code.sub, opsOf, List.map_cons, List.map_nil, strip]; rfl
theorem w45_37 : Wp r45_37 208 [217, 228, 239, 250, 261, 266] [] [] [1, 0] [some 219, some 220, some 221, some 222, some 223, some 224, some 225, some 226, some 227] (L45_37).1 := w_plain (by kernel_rfl) (L45_37).2
noncomputable def L45_38 : Lt r45_38 := by refine ⟨?l, ?h⟩; case h => simp only [r45_38, c45, bodyOf, Tryd.f45, Code.sub, opsOf, List.map_cons, List.map_nil, strip]; rfl
theorem w45_38 : Wp r45_38 208 [217, 228, 239, 250, 261, 266] [] [228] [207] [some 229, some 228] (L45_38).1 := w_plain (by kernel_rfl) (L45_38).2
noncomputable def L45_39 : Lt r45_39 := by refine ⟨?l, ?h⟩; case h => simp only [r45_39, c45, bodyOf, Tryd.f45, Code.sub, opsOf, List.map_cons, List.map_nil, strip]; rfl
theorem w45_39 : Wp r45_39 208 [217, 228, 239, 250, 261, 266] [] [] [1, 0] [some 230, some 231, some 232, some 233, some 234, some 235, some 236, some 237, some 238] (L45_39).1 := w_plain (by kernel_rfl) (L45_39).2
noncomputable def L45_40 : Lt r45_40 := by refine ⟨?l, ?h⟩; case h => simp only [r45_40, c45, bodyOf, Tryd.f45, Code.sub, opsOf, List.map_cons, List.map_nil, strip]; rfl
theorem w45_40 : Wp r45_40 208 [217, 228, 239, 250, 261, 266] [] [239] [207] [some 240, some 239] (L45_40).1 := w_plain (by kernel_rfl) (L45_40).2
noncomputable def L45_41 : Lt r45_41 := by refine ⟨?l, ?h⟩; case h => simp only [r45_41, c45, bodyOf, Tryd.f45, Code.sub, opsOf, List.map_cons, List.map_nil, strip]; rfl
theorem w45_41 : Wp r45_41 208 [217, 228, 239, 250, 261, 266] [] [] [1, 0] [some 241, some 242, some 243, some 244, some 245, some 246, some 247, some 248, some 249] (L45_41).1 := w_plain (by kernel_rfl) (L45_41).2
noncomputable def L45_42 : Lt r45_42 := by refine ⟨?l, ?h⟩; case h => simp only [r45_42, c45, bodyOf, Tryd.f45, Code.sub, opsOf, List.map_cons, List.map_nil, strip]; rfl
theorem w45_42 : Wp r45_42 208 [217, 228, 239, 250, 261, 266] [] [250] [207] [some 251, some 250] (L45_42).1 := w_plain (by kernel_rfl) (L45_42).2
noncomputable def L45_43 : Lt r45_43 := by refine ⟨?l, ?h⟩; case h => simp only [r45_43, c45, bodyOf, Tryd.f45, Code.sub, opsOf, List.map_cons, List.map_nil, strip]; rfl
theorem w45_43 : Wp r45_43 208 [217, 228, 239, 250, 261, 266] [] [] [1, 0] [some 252, some 253, some 254, some 255, some 256, some 257, some 258, some 259, some 260] (L45_43).1 := w_plain (by kernel_rfl) (L45_43).2
noncomputable def L45_44 : Lt r45_44 := by refine ⟨?l, ?h⟩; case h => simp only [r45_44, c45, bodyOf, Tryd.f45, Code.sub, opsOf, List.map_cons, List.map_nil, strip]; rfl
theorem w45_44 : Wp r45_44 208 [217, 228, 239, 250, 261, 266] [] [] [1, 0] [some 208, some 209, some 210, some 211, some 212, some 213, some 214, some 215, some 216] (L45_44).1 := w_plain (by kernel_rfl) (L45_44).2
noncomputable def L45_45 : Lt r45_45 := by refine ⟨?l, ?h⟩; case h => simp only [r45_45, c45, bodyOf, Tryd.f45, Code.sub, opsOf, List.map_cons, List.map_nil, strip]; rfl
theorem w45_45 : Wp r45_45 208 [217, 228, 239, 250, 261, 266] [] [261] [30] [some 262, some 261] (L45_45).1 := w_plain (by kernel_rfl) (L45_45).2
noncomputable def L45_46 : Lt r45_46 := by refine ⟨?l, ?h⟩; case h => simp only [r45_46, c45, bodyOf, Tryd.f45, Code.sub, opsOf, List.map_cons, List.map_nil, strip]; rfl
theorem w45_46 : Wp r45_46 208 [217, 228, 239, 250, 261, 266] [] [266] [0] [some 263, some 264, some 265, some 266] (L45_46).1 := w_plain (by kernel_rfl) (L45_46).2
noncomputable def L45_47 : Lt r45_47 := by refine ⟨?l, ?h⟩; case h => simp only [r45_47, c45, bodyOf, Tryd.f45, Code.sub, opsOf, List.map_cons, List.map_nil, strip]; rfl
theorem w45_47 : Wp r45_47 208 [217, 228, 239, 250, 261, 266] [] [] [1, 0] [some 267, some 268, some 269, some 270, some 271, some 272, some 273, some 274, some 275, some 276] (L45_47).1 := w_plain (by kernel_rfl) (L45_47).2
noncomputable def L45_48 : Lt r45_48 := by refine ⟨?l, ?h⟩; case h => simp only [r45_48, c45, bodyOf, Tryd.f45, Code.sub, opsOf, List.map_cons, List.map_nil, strip]; rfl
theorem w45_48 : Wp r45_48 208 [217, 228, 239, 250, 261, 266] [35, 36, 37, 38, 39, 40, 41, 42, 43, 44, 34] [] [0] [some 35, some 36, some 37, some 38, some 39, some 40, some 41, some 42, some 43, some 44, some 34] (L45_48).1 := w_plain (by kernel_rfl) (L45_48).2
noncomputable def L45_49 : Lt r45_49 := by refine ⟨?l, ?h⟩; case h => simp only [r45_49, c45, bodyOf, Tryd.f45, Code.sub, opsOf, List.map_cons, List.map_nil, strip]; rfl
theorem w45_49 : Wp r45_49 208 [217, 228, 239, 250, 261, 266] [45, 46, 47, 48, 49, 50, 51] [] [1, 0] [some 45, some 46, some 47, some 48, some 49, some 50, some 51] (L45_49).1 := w_plain (by kernel_rfl) (L45_49).2
noncomputable def L45_50 : Lt r45_50 := by refine ⟨?l, ?h⟩; case h => simp only [r45_50, c45, bodyOf, Tryd.f45, Code.sub, opsOf, List.map_cons, List.map_nil, strip]; rfl
theorem w45_50 : Wp r45_50 208 [217, 228, 239, 250, 261, 266] [52, 53, 54, 55, 56, 57, 58, 59] [] [1, 0] [some 52, some 53, some 54, some 55, some 56, some 57, some 58, some 59] (L45_50).1 := w_plain (by kernel_rfl) (L45_50).2
noncomputable def L45_51 : Lt r45_51 := by refine ⟨?l, ?h⟩; case h => simp only [r45_51, c45, bodyOf, Tryd.f45, Code.sub, opsOf, List.map_cons, List.map_nil, strip]; rfl
theorem w45_51 : Wp r45_51 208 [217, 228, 239, 250, 261, 266] [60, 61, 62] [] [0, 1] [some 60, some 61, some 62] (L45_51).1 := w_plain (by kernel_rfl) (L45_51).2
noncomputable def L45_52 : Lt r45_52 := by refine ⟨?l, ?h⟩; case h => simp only [r45_52, c45, bodyOf, Tryd.f45, Code.sub, opsOf, List.map_cons, List.map_nil, strip]; rfl
theorem w45_52 : Wp r45_52 208 [217, 228, 239, 250, 261, 266] [64, 65, 66, 67, 68, 69, 70, 71, 72, 73, 63] [] [0] [some 64, some 65, some 66, some 67, some 68, some 69, some 70, some 71, some 72, some 73, some 63] (L45_52).1 := w_plain (by kernel_rfl) (L45_52).2
noncomputable def L45_53 : Lt r45_53 := by refine ⟨?l, ?h⟩; case h => simp only [r45_53, c45, bodyOf, Tryd.f45, Code.sub, opsOf, List.map_cons, List.map_nil, strip]; rfl
theorem w45_53 : Wp r45_53 208 [217, 228, 239, 250, 261, 266] [74, 75, 76, 77, 78, 79, 80] [] [1, 0] [some 74, some 75, some 76, some 77, some 78, some 79, some 80] (L45_53).1 := w_plain (by kernel_rfl) (L45_53).2
noncomputable def L45_54 : Lt r45_54 := by refine ⟨?l, ?h⟩; case h => simp only [r45_54, c45, bodyOf, Tryd.f45, Code.sub, opsOf, List.map_cons, List.map_nil, strip]; rfl
theorem w45_54 : Wp r45_54 208 [217, 228, 239, 250, 261, 266] [81, 82, 83, 84, 85, 86, 87, 88, 89, 90, 91] [] [1, 0] [some 81, some 82, some 83, some 84, some 85, some 86, some 87, some 88, some 89, some 90, some 91] (L45_54).1 := w_plain (by kernel_rfl) (L45_54).2
noncomputable def L45_55 : Lt r45_55 := by refine ⟨?l, ?h⟩; case h => simp only [r45_55, c45, bodyOf, Tryd.f45, Code.sub, opsOf, List.map_cons, List.map_nil, strip]; rfl
theorem w45_55 : Wp r45_55 208 [217, 228, 239, 250, 261, 266] [92, 93, 94] [] [0, 1] [some 92, some 93, some 94] (L45_55).1 := w_plain (by kernel_rfl) (L45_55).2
noncomputable def L45_56 : Lt r45_56 := by refine ⟨?l, ?h⟩; case h => simp only [r45_56, c45, bodyOf, Tryd.f45, Code.sub, opsOf, List.map_cons, List.map_nil, strip]; rfl
theorem w45_56 : Wp r45_56 208 [217, 228, 239, 250, 261, 266] [31, 32, 33] [] [0, 1] [some 31, some 32, some 33] (L45_56).1 := w_plain (by kernel_rfl) (L45_56).2
theorem k45 : FnIs TT 45 c45 [] 3 := ⟨Tryd.f45, by kernel_rfl, by simp only [Tryd.f45, c45, bodyOf], by kernel_rfl, of_decide_eq_true (by kernel_rfl)⟩
noncomputable def c46 : Code := bodyOf Tryd.f46
noncomputable def r46_0 : Code := Code.sub [0] c46
noncomputable def r46_1 : Code := Code.sub [1, 0, 0] c46
noncomputable def r46_2 : Code := Code.sub [1, 0, 1, 0] c46
noncomputable def r46_3 : Code := Code.sub [1, 0, 1, 1, 0, 0] c46
noncomputable def r46_4 : Code := Code.sub [1, 1, 0, 0] c46
noncomputable def r46_5 : Code := Code.sub [1, 1, 0, 1, 0, 0] c46
noncomputable def r46_6 : Code := Code.sub [1, 1, 0, 1, 0, 1, 0, 0] c46
noncomputable def r46_7 : Code := Code.sub [1, 1, 0, 1, 0, 1, 1, 0] c46
noncomputable def r46_8 : Code := Code.sub [1, 1, 0, 1, 0, 1, 1, 1, 0, 0] c46
noncomputable def r46_9 : Code := Code.sub [1, 1, 0, 1, 0, 1, 1, 1, 1, 0] c46
noncomputable def r46_10 : Code := Code.sub [1, 1, 0, 1, 0, 1, 1, 1, 1, 1, 0, 0] c46
noncomputable def r46_11 : Code := Code.sub [1, 1, 0, 1, 0, 1, 1, 1, 1, 1, 1, 0] c46
noncomputable def r46_12 : Code := Code.sub [1, 1, 0, 1, 0, 1, 1, 1, 1, 1, 1, 1, 0, 0] c46
noncomputable def r46_13 : Code := Code.sub [1, 1, 0, 1, 0, 1, 1, 1, 1, 1, 1, 1, 1, 0] c46
noncomputable def r46_14 : Code := Code.sub [1, 1, 0, 1, 0, 1, 1, 1, 1, 1, 1, 1, 1, 1, 0, 0] c46
noncomputable def r46_15 : Code := Code.sub [1, 1, 0, 1, 0, 1, 1, 1, 1, 1, 1, 1, 1, 1, 1, 0] c46
noncomputable def r46_16 : Code := Code.sub [1, 1, 0, 1, 0, 1, 1, 1, 1, 1, 1, 1, 1, 1, 1, 1, 0, 0] c46
noncomputable def r46_17 : Code := Code.sub [1, 1, 1, 0] c46
theorem body46 : c46 = (.seq r46_0 (.seq (.seq r46_1 (.seq r46_2 (.cond (.tmp 15) (.seq r46_3 .ret) .skip))) (.seq (.seq r46_4 (.block 0 (.seq r46_5 (.cond (.tmp 18) (.seq r46_6 .ret) (.seq r46_7 (.cond (.tmp 24) (.seq r46_8 .ret) (.seq r46_9 (.cond (.tmp 30) (.seq r46_10 .ret) (.seq r46_11 (.cond (.tmp 36) (.seq r46_12 .ret) (.seq r46_13 (.cond (.tmp 38) (.seq r46_14 .ret) (.seq r46_15 (.cond (.tmp 40) (.seq r46_16 .ret) .skip)))))))))))))) (.seq r46_17 .ret)))) := by kernel_rfl
noncomputable def L46_0 : Lt r46_0 := by refine ⟨?l, ?h⟩; case h => simp only [r46_0, c46, bodyOf, Tryd.f46, Code.sub, opsOf, List.map_cons, List.map_nil, strip]; rfl
theorem w46_0 : Wp r46_0 18 [18, 24, 30, 36, 38, 40] [4] [] [] [some 4] (L46_0).1 := w_plain (by kernel_rfl) (L46_0).2
noncomputable def L46_1 : Lt r46_1 := by refine ⟨?l, ?h⟩; case h => simp only [r46_1, c46, bodyOf, Tryd.f46, Code.sub, opsOf, List.map_cons, List.map_nil, strip]; rfl
theorem w46_1 : Wp r46_1 18 [18, 24, 30, 36, 38, 40] [6, 7, 8, 5] [] [0, 1] [some 6, some 7, some 8, some 5] (L46_1).1 := w_plain (by kernel_rfl) (L46_1).2
noncomputable def L46_2 : Lt r46_2 := by refine ⟨?l, ?h⟩; case h => simp only [r46_2, c46, bodyOf, Tryd.f46, Code.sub, opsOf, List.map_cons, List.map_nil, strip]; rfl
theorem w46_2 : Wp r46_2 18 [18, 24, 30, 36, 38, 40] [9, 10, 11, 12, 13, 14, 15] [] [5, 0] [some 9, some 10, some 11, some 12, some 13, some 14, some 15] (L46_2).1 := w_plain (by kernel_rfl) (L46_2).2
noncomputable def L46_3 : Lt r46_3 := by refine ⟨?l, ?h⟩; case h => simp only [r46_3, c46, bodyOf, Tryd.f46, Code.sub, opsOf, List.map_cons, List.map_nil, strip]; rfl
theorem w46_3 : Wp r46_3 18 [18, 24, 30, 36, 38, 40] [16, 4] [] [5] [some 16, some 4] (L46_3).1 := w_plain (by kernel_rfl) (L46_3).2
noncomputable def L46_4 : Lt r46_4 := by refine ⟨?l, ?h⟩; case h => simp only [r46_4, c46, bodyOf, Tryd.f46, Code.sub, opsOf, List.map_cons, List.map_nil, strip]; rfl
theorem w46_4 : Wp r46_4 18 [18, 24, 30, 36, 38, 40] [17] [] [1] [some 17] (L46_4).1 := w_plain (by kernel_rfl) (L46_4).2
noncomputable def L46_5 : Lt r46_5 := by refine ⟨?l, ?h⟩; case h => simp only [r46_5, c46, bodyOf, Tryd.f46, Code.sub, opsOf, List.map_cons, List.map_nil, strip]; rfl
theorem w46_5 : Wp r46_5 18 [18, 24, 30, 36, 38, 40] [] [18] [17] [some 19, some 18] (L46_5).1 := w_plain (by kernel_rfl) (L46_5).2
noncomputable def L46_6 : Lt r46_6 := by refine ⟨?l, ?h⟩; case h => simp only [r46_6, c46, bodyOf, Tryd.f46, Code.sub, opsOf, List.map_cons, List.map_nil, strip]; rfl
theorem w46_6 : Wp r46_6 18 [18, 24, 30, 36, 38, 40] [4] [] [0] [some 20, some 21, some 22, some 23, some 4] (L46_6).1 := w_plain (by kernel_rfl) (L46_6).2
noncomputable def L46_7 : Lt r46_7 := by refine ⟨?l, ?h⟩; case h => simp only [r46_7, c46, bodyOf, Tryd.f46, Code.sub, opsOf, List.map_cons, List.map_nil, strip]; rfl
theorem w46_7 : Wp r46_7 18 [18, 24, 30, 36, 38, 40] [] [24] [17] [some 25, some 24] (L46_7).1 := w_plain (by kernel_rfl) (L46_7).2
noncomputable def L46_8 : Lt r46_8 := by refine ⟨?l, ?h⟩; case h => simp only [r46_8, c46, bodyOf, Tryd.f46, Code.sub, opsOf, List.map_cons, List.map_nil, strip]; rfl
theorem w46_8 : Wp r46_8 18 [18, 24, 30, 36, 38, 40] [4] [] [0] [some 26, some 27, some 28, some 29, some 4] (L46_8).1 := w_plain (by kernel_rfl) (L46_8).2
noncomputable def L46_9 : Lt r46_9 := by refine ⟨?l, ?h⟩; case h => simp only [r46_9, c46, bodyOf, Tryd.f46, Code.sub, opsOf, List.map_cons, List.map_nil, strip]; rfl
theorem w46_9 : Wp r46_9 18 [18, 24, 30, 36, 38, 40] [] [30] [17] [some 31, some 30] (L46_9).1 := w_plain (by kernel_rfl) (L46_9).2
noncomputable def L46_10 : Lt r46_10 := by refine ⟨?l, ?h⟩; case h => simp only [r46_10, c46, bodyOf, Tryd.f46, Code.sub, opsOf, List.map_cons, List.map_nil, strip]; rfl
theorem w46_10 : Wp r46_10 18 [18, 24, 30, 36, 38, 40] [4] [] [0] [some 32, some 33, some 34, some 35, some 4] (L46_10).1 := w_plain (by kernel_rfl) (L46_10).2
noncomputable def L46_11 : Lt r46_11 := by refine ⟨?l, ?h⟩; case h => simp only [r46_11, c46, bodyOf, Tryd.f46, Code.sub, opsOf, List.map_cons, List.map_nil, strip]; rfl
theorem w46_11 : Wp r46_11 18 [18, 24, 30, 36, 38, 40] [] [36] [17] [some 37, some 36] (L46_11).1 := w_plain (by kernel_rfl) (L46_11).2
noncomputable def L46_12 : Lt r46_12 := by refine ⟨?l, ?h⟩; case h => simp only [r46_12, c46, bodyOf, Tryd.f46, Code.sub, opsOf, List.map_cons, List.map_nil, strip]; rfl
theorem w46_12 : Wp r46_12 18 [18, 24, 30, 36, 38, 40] [4] [] [] [some 4] (L46_12).1 := w_plain (by kernel_rfl) (L46_12).2
noncomputable def L46_13 : Lt r46_13 := by refine ⟨?l, ?h⟩; case h => simp only [r46_13, c46, bodyOf, Tryd.f46, Code.sub, opsOf, List.map_cons, List.map_nil, strip]; rfl
theorem w46_13 : Wp r46_13 18 [18, 24, 30, 36, 38, 40] [] [38] [17] [some 39, some 38] (L46_13).1 := w_plain (by kernel_rfl) (L46_13).2
noncomputable def L46_14 : Lt r46_14 := by refine ⟨?l, ?h⟩; case h => simp only [r46_14, c46, bodyOf, Tryd.f46, Code.sub, opsOf, List.map_cons, List.map_nil, strip]; rfl
theorem w46_14 : Wp r46_14 18 [18, 24, 30, 36, 38, 40] [4] [] [] [some 4] (L46_14).1 := w_plain (by kernel_rfl) (L46_14).2
noncomputable def L46_15 : Lt r46_15 := by refine ⟨?l, ?h⟩; case h => simp only [r46_15, c46, bodyOf, Tryd.f46, Code.sub, opsOf, List.map_cons, List.map_nil, strip]; rfl
theorem w46_15 : Wp r46_15 18 [18, 24, 30, 36, 38, 40] [] [40] [17] [some 41, some 40] (L46_15).1 := w_plain (by kernel_rfl) (L46_15).2
noncomputable def L46_16 : Lt r46_16 := by refine ⟨?l, ?h⟩; case h => simp only [r46_16, c46, bodyOf, Tryd.f46, Code.sub, opsOf, List.map_cons, List.map_nil, strip]; rfl
theorem w46_16 : Wp r46_16 18 [18, 24, 30, 36, 38, 40] [4] [] [] [some 4] (L46_16).1 := w_plain (by kernel_rfl) (L46_16).2
noncomputable def L46_17 : Lt r46_17 := by refine ⟨?l, ?h⟩; case h => simp only [r46_17, c46, bodyOf, Tryd.f46, Code.sub, opsOf, List.map_cons, List.map_nil, strip]; rfl
theorem w46_17 : Wp r46_17 18 [18, 24, 30, 36, 38, 40] [4] [] [] [some 4] (L46_17).1 := w_plain (by kernel_rfl) (L46_17).2
theorem k46 : FnIs TT 46 c46 [.tmp 4] 2 := ⟨Tryd.f46, by kernel_rfl, by simp only [Tryd.f46, c46, bodyOf], by kernel_rfl, of_decide_eq_true (by kernel_rfl)⟩
noncomputable def c47 : Code := bodyOf Tryd.f47
noncomputable def r47_0 : Code := Code.sub [0] c47
noncomputable def r47_1 : Code := Code.sub [1, 0] c47
theorem body47 : c47 = (.seq r47_0 (.seq r47_1 .ret)) := by kernel_rfl
noncomputable def L47_0 : Lt r47_0 := by refine ⟨?l, ?h⟩; case h => simp only [r47_0, c47, bodyOf, Tryd.f47, Code.sub, opsOf, List.map_cons, List.map_nil, strip]; rfl
theorem w47_0 : Wp r47_0 5 [] [4] [] [] [some 4] (L47_0).1 := w_plain (by kernel_rfl) (L47_0).2
noncomputable def L47_1 : Lt r47_1 := by refine ⟨?l, ?h⟩; case h => simp only [r47_1, c47, bodyOf, Tryd.f47, Code.sub, opsOf, List.map_cons, List.map_nil, strip]; rfl
theorem w47_1 : Wp r47_1 5 [] [4] [] [1, 0, 2] [some 5, some 6, some 7, some 8, some 9, some 4] (L47_1).1 := w_plain (by kernel_rfl) (L47_1).2
theorem k47 : FnIs TT 47 c47 [.tmp 4] 3 := ⟨Tryd.f47, by kernel_rfl, by simp only [Tryd.f47, c47, bodyOf], by kernel_rfl, of_decide_eq_true (by kernel_rfl)⟩
noncomputable def c50 : Code := bodyOf Tryd.f50
noncomputable def r50_0 : Code := Code.sub [0] c50
noncomputable def r50_1 : Code := Code.sub [1, 0] c50
noncomputable def r50_2 : Code := Code.sub [1, 1, 0, 0] c50
noncomputable def r50_3 : Code := Code.sub [1, 1, 0, 1, 0] c50
noncomputable def r50_4 : Code := Code.sub [1, 1, 0, 1, 1] c50
noncomputable def r50_5 : Code := Code.sub [1, 1, 1] c50
theorem body50 : c50 = (.seq r50_0 (.seq r50_1 (.seq (.seq r50_2 (.cond (.tmp 23) r50_3 r50_4)) r50_5))) := by kernel_rfl
noncomputable def L50_0 : Lt r50_0 := by refine ⟨?l, ?h⟩; case h => simp only [r50_0, c50, bodyOf, Tryd.f50, Code.sub, opsOf, List.map_cons, List.map_nil, strip]; rfl
theorem w50_0 : Wp r50_0 9 [23] [8] [] [0] [some 9, some 10, some 11, some 12, some 13, some 14, some 8] (L50_0).1 := w_plain (by kernel_rfl) (L50_0).2
noncomputable def L50_1 : Lt r50_1 := by refine ⟨?l, ?h⟩; case h => simp only [r50_1, c50, bodyOf, Tryd.f50, Code.sub, opsOf, List.map_cons, List.map_nil, strip]; rfl
theorem w50_1 : Wp r50_1 9 [23] [] [] [0] [some 15, some 16, some 17, some 18, some 19, some 20, some 21, none] (L50_1).1 := w_plain (by kernel_rfl) (L50_1).2
noncomputable def L50_2 : Lt r50_2 := by refine ⟨?l, ?h⟩; case h => simp only [r50_2, c50, bodyOf, Tryd.f50, Code.sub, opsOf, List.map_cons, List.map_nil, strip]; rfl
theorem w50_2 : Wp r50_2 9 [23] [] [23] [1] [some 22, some 23] (L50_2).1 := w_plain (by kernel_rfl) (L50_2).2
noncomputable def L50_3 : Lt r50_3 := by refine ⟨?l, ?h⟩; case h => simp only [r50_3, c50, bodyOf, Tryd.f50, Code.sub, opsOf, List.map_cons, List.map_nil, strip]; rfl
theorem w50_3 : Wp r50_3 9 [23] [] [] [0, 2, 8, 3] [some 24, some 25, some 26, some 27, some 28, some 29, some 30, some 31] (L50_3).1 := w_plain (by kernel_rfl) (L50_3).2
noncomputable def L50_4 : Lt r50_4 := by refine ⟨?l, ?h⟩; case h => simp only [r50_4, c50, bodyOf, Tryd.f50, Code.sub, opsOf, List.map_cons, List.map_nil, strip]; rfl
theorem w50_4 : Wp r50_4 9 [23] [] [] [0, 2, 8, 3] [some 32, some 33, some 34, some 35, some 36, some 37, some 38] (L50_4).1 := w_plain (by kernel_rfl) (L50_4).2
theorem can50_5 : canonOps (opsOf r50_5) = List.filterMap (fun i => ((opsOf r50_5)[i]?).map (renum [0, 1, 2, 3, 4, 6, 7, 8, 9, 10, 11, 12, 5, 13, 14, 15, 16, 17, 18])) [0, 1, 2, 3, 4, 6, 7, 8, 9, 10, 11, 12, 5, 13, 14, 15, 16, 17, 18] := by kernel_rfl
noncomputable def L50_5 : Lc r50_5 := by refine ⟨?l, (congrArg (List.map strip) can50_5).trans ?h⟩; case h => simp only [r50_5, c50, bodyOf, Tryd.f50, Code.sub, opsOf, List.filterMap_cons, List.filterMap_nil, List.getElem?_cons_succ, List.getElem?_cons_zero, Option.map_some, renum, List.map_cons, List.map_nil, strip]; rfl
theorem w50_5 : Wd r50_5 9 [23] [] [] [0, 1, 8] [some 39, some 40, some 41, some 42, some 43, some 45, some 46, some 47, some 48, some 49, some 50, some 51, some 44, some 52, some 53, some 54, some 55, some 56, none] (L50_5).1 [(3, [12, 13, 15, 16, 18]), (8, [12, 13]), (11, [12, 13])] := w_loud (by kernel_rfl) (L50_5).2
theorem k50 : FnIs TT 50 c50 [] 4 := ⟨Tryd.f50, by kernel_rfl, by simp only [Tryd.f50, c50, bodyOf], by kernel_rfl, of_decide_eq_true (by kernel_rfl)⟩
noncomputable def c51 : Code := bodyOf Tryd.f51
noncomputable def r51_0 : Code := Code.sub [0] c51
noncomputable def r51_1 : Code := Code.sub [1, 0] c51
noncomputable def r51_2 : Code := Code.sub [1, 1, 0, 0] c51
noncomputable def r51_3 : Code := Code.sub [1, 1, 0, 1, 0, 0] c51
noncomputable def r51_4 : Code := Code.sub [1, 1, 1, 0] c51
theorem body51 : c51 = (.seq r51_0 (.seq r51_1 (.seq (.seq r51_2 (.cond (.tmp 15) (.seq r51_3 .ret) .skip)) (.seq r51_4 .ret)))) := by kernel_rfl
noncomputable def L51_0 : Lt r51_0 := by refine ⟨?l, ?h⟩; case h => simp only [r51_0, c51, bodyOf, Tryd.f51, Code.sub, opsOf, List.map_cons, List.map_nil, strip]; rfl
theorem w51_0 : Wp r51_0 6 [15] [4] [] [] [some 4] (L51_0).1 := w_plain (by kernel_rfl) (L51_0).2
noncomputable def L51_1 : Lt r51_1 := by refine ⟨?l, ?h⟩; case h => simp only [r51_1, c51, bodyOf, Tryd.f51, Code.sub, opsOf, List.map_cons, List.map_nil, strip]; rfl
theorem w51_1 : Wp r51_1 6 [15] [5] [] [0, 1] [some 6, some 7, some 8, some 9, some 10, some 11, some 12, some 5] (L51_1).1 := w_plain (by kernel_rfl) (L51_1).2
noncomputable def L51_2 : Lt r51_2 := by refine ⟨?l, ?h⟩; case h => simp only [r51_2, c51, bodyOf, Tryd.f51, Code.sub, opsOf, List.map_cons, List.map_nil, strip]; rfl
theorem w51_2 : Wp r51_2 6 [15] [] [15] [5] [some 13, some 14, some 15] (L51_2).1 := w_plain (by kernel_rfl) (L51_2).2
noncomputable def L51_3 : Lt r51_3 := by refine ⟨?l, ?h⟩; case h => simp only [r51_3, c51, bodyOf, Tryd.f51, Code.sub, opsOf, List.map_cons, List.map_nil, strip]; rfl
theorem w51_3 : Wp r51_3 6 [15] [4] [] [] [some 4] (L51_3).1 := w_plain (by kernel_rfl) (L51_3).2
noncomputable def L51_4 : Lt r51_4 := by refine ⟨?l, ?h⟩; case h => simp only [r51_4, c51, bodyOf, Tryd.f51, Code.sub, opsOf, List.map_cons, List.map_nil, strip]; rfl
theorem w51_4 : Wp r51_4 6 [15] [4] [] [0, 5] [some 16, some 17, some 18, some 19, some 20, some 21, some 22, some 4] (L51_4).1 := w_plain (by kernel_rfl) (L51_4).2
theorem k51 : FnIs TT 51 c51 [.tmp 4] 2 := ⟨Tryd.f51, by kernel_rfl, by simp only [Tryd.f51, c51, bodyOf], by kernel_rfl, of_decide_eq_true (by kernel_rfl)⟩
noncomputable def c52 : Code := bodyOf Tryd.f52
noncomputable def r52_0 : Code := Code.sub [0, 0] c52
noncomputable def r52_1 : Code := Code.sub [1, 0] c52
noncomputable def r52_2 : Code := Code.sub [1, 1, 0] c52
noncomputable def r52_3 : Code := Code.sub [1, 1, 1, 0] c52
noncomputable def r52_4 : Code := Code.sub [1, 1, 1, 1, 0] c52
noncomputable def r52_5 : Code := Code.sub [1, 1, 1, 1, 1, 0] c52
noncomputable def r52_6 : Code := Code.sub [1, 1, 1, 1, 1, 1, 0, 0] c52
noncomputable def r52_7 : Code := Code.sub [1, 1, 1, 1, 1, 1, 0, 1, 0] c52
noncomputable def r52_8 : Code := Code.sub [1, 1, 1, 1, 1, 1, 0, 1, 1] c52
noncomputable def r52_9 : Code := Code.sub [1, 1, 1, 1, 1, 1, 1, 0] c52
noncomputable def r52_10 : Code := Code.sub [1, 1, 1, 1, 1, 1, 1, 1, 0] c52
noncomputable def r52_11 : Code := Code.sub [1, 1, 1, 1, 1, 1, 1, 1, 1, 0] c52
noncomputable def r52_12 : Code := Code.sub [1, 1, 1, 1, 1, 1, 1, 1, 1, 1, 0] c52
noncomputable def r52_13 : Code := Code.sub [1, 1, 1, 1, 1, 1, 1, 1, 1, 1, 1, 0] c52
noncomputable def r52_14 : Code := Code.sub [1, 1, 1, 1, 1, 1, 1, 1, 1, 1, 1, 1] c52
theorem body52 : c52 = (.seq (.seq r52_0 (.cond (.tmp 9) .ret .skip)) (.seq r52_1 (.seq r52_2 (.seq r52_3 (.seq r52_4 (.seq r52_5 (.seq (.seq r52_6 (.cond (.tmp 52) r52_7 r52_8)) (.seq r52_9 (.seq r52_10 (.seq r52_11 (.seq r52_12 (.seq r52_13 r52_14)))))))))))) := by kernel_rfl
noncomputable def L52_0 : Lt r52_0 := by refine ⟨?l, ?h⟩; case h => simp only [r52_0, c52, bodyOf, Tryd.f52, Code.sub, opsOf, List.map_cons, List.map_nil, strip]; rfl
theorem w52_0 : Wp r52_0 8 [9, 52] [] [9] [2] [some 8, some 9] (L52_0).1 := w_plain (by kernel_rfl) (L52_0).2
noncomputable def L52_1 : Lt r52_1 := by refine ⟨?l, ?h⟩; case h => simp only [r52_1, c52, bodyOf, Tryd.f52, Code.sub, opsOf, List.map_cons, List.map_nil, strip]; rfl
theorem w52_1 : Wp r52_1 8 [9, 52] [6] [] [0] [some 10, some 11, some 12, some 13, some 14, some 15, some 6] (L52_1).1 := w_plain (by kernel_rfl) (L52_1).2
noncomputable def L52_2 : Lt r52_2 := by refine ⟨?l, ?h⟩; case h => simp only [r52_2, c52, bodyOf, Tryd.f52, Code.sub, opsOf, List.map_cons, List.map_nil, strip]; rfl
theorem w52_2 : Wp r52_2 8 [9, 52] [] [] [0] [some 16, some 17, some 18, some 19, some 20, some 21, some 22, none] (L52_2).1 := w_plain (by kernel_rfl) (L52_2).2
noncomputable def L52_3 : Lt r52_3 := by refine ⟨?l, ?h⟩; case h => simp only [r52_3, c52, bodyOf, Tryd.f52, Code.sub, opsOf, List.map_cons, List.map_nil, strip]; rfl
theorem w52_3 : Wp r52_3 8 [9, 52] [7] [] [0] [some 23, some 24, some 25, some 26, some 27, some 28, some 7] (L52_3).1 := w_plain (by kernel_rfl) (L52_3).2
noncomputable def L52_4 : Lt r52_4 := by refine ⟨?l, ?h⟩; case h => simp only [r52_4, c52, bodyOf, Tryd.f52, Code.sub, opsOf, List.map_cons, List.map_nil, strip]; rfl
theorem w52_4 : Wp r52_4 8 [9, 52] [] [] [0, 1, 6] [some 29, some 30, some 31, some 32, some 33] (L52_4).1 := w_plain (by kernel_rfl) (L52_4).2
theorem can52_5 : canonOps (opsOf r52_5) = List.filterMap (fun i => ((opsOf r52_5)[i]?).map (renum [0, 1, 2, 3, 5, 6, 7, 8, 9, 10, 4, 11, 12, 13, 14, 15, 16])) [0, 1, 2, 3, 5, 6, 7, 8, 9, 10, 4, 11, 12, 13, 14, 15, 16] := by kernel_rfl
noncomputable def L52_5 : Lc r52_5 := by refine ⟨?l, (congrArg (List.map strip) can52_5).trans ?h⟩; case h => simp only [r52_5, c52, bodyOf, Tryd.f52, Code.sub, opsOf, List.filterMap_cons, List.filterMap_nil, List.getElem?_cons_succ, List.getElem?_cons_zero, Option.map_some, renum, List.map_cons, List.map_nil, strip]; rfl
theorem w52_5 : Wd r52_5 8 [9, 52] [] [] [0, 6] [some 34, some 35, some 36, some 37, some 39, some 40, some 41, some 42, some 43, some 44, some 38, some 45, some 46, some 47, some 48, some 49, none] (L52_5).1 [(3, [10, 11, 13, 14, 16]), (7, [10, 11]), (9, [10, 11])] := w_loud (by kernel_rfl) (L52_5).2
noncomputable def L52_6 : Lt r52_6 := by refine ⟨?l, ?h⟩; case h => simp only [r52_6, c52, bodyOf, Tryd.f52, Code.sub, opsOf, List.map_cons, List.map_nil, strip]; rfl
theorem w52_6 : Wp r52_6 8 [9, 52] [] [52] [0] [some 50, some 51, some 52] (L52_6).1 := w_plain (by kernel_rfl) (L52_6).2
noncomputable def L52_7 : Lt r52_7 := by refine ⟨?l, ?h⟩; case h => simp only [r52_7, c52, bodyOf, Tryd.f52, Code.sub, opsOf, List.map_cons, List.map_nil, strip]; rfl
theorem w52_7 : Wp r52_7 8 [9, 52] [] [] [1, 0] [some 53, some 54, some 55, some 56, some 57, some 58, some 59] (L52_7).1 := w_plain (by kernel_rfl) (L52_7).2
noncomputable def L52_8 : Lt r52_8 := by refine ⟨?l, ?h⟩; case h => simp only [r52_8, c52, bodyOf, Tryd.f52, Code.sub, opsOf, List.map_cons, List.map_nil, strip]; rfl
theorem w52_8 : Wp r52_8 8 [9, 52] [] [] [1, 6, 0] [some 60, some 61, some 62, some 63, some 64, some 65, some 66, some 67, some 68, some 69, some 70, some 71] (L52_8).1 := w_plain (by kernel_rfl) (L52_8).2
noncomputable def L52_9 : Lt r52_9 := by refine ⟨?l, ?h⟩; case h => simp only [r52_9, c52, bodyOf, Tryd.f52, Code.sub, opsOf, List.map_cons, List.map_nil, strip]; rfl
theorem w52_9 : Wp r52_9 8 [9, 52] [] [] [0, 1, 6] [some 72, some 73, some 74, some 75, some 76, some 77, some 78, some 79, some 80] (L52_9).1 := w_plain (by kernel_rfl) (L52_9).2
noncomputable def L52_10 : Lt r52_10 := by refine ⟨?l, ?h⟩; case h => simp only [r52_10, c52, bodyOf, Tryd.f52, Code.sub, opsOf, List.map_cons, List.map_nil, strip]; rfl
theorem w52_10 : Wp r52_10 8 [9, 52] [] [] [0] [some 81, some 82, some 83, some 84, some 85, some 86, some 87, none] (L52_10).1 := w_plain (by kernel_rfl) (L52_10).2
noncomputable def L52_11 : Lt r52_11 := by refine ⟨?l, ?h⟩; case h => simp only [r52_11, c52, bodyOf, Tryd.f52, Code.sub, opsOf, List.map_cons, List.map_nil, strip]; rfl
theorem w52_11 : Wp r52_11 8 [9, 52] [] [] [0, 1, 2] [some 88, some 89, some 90, some 91, some 92, some 93] (L52_11).1 := w_plain (by kernel_rfl) (L52_11).2
noncomputable def L52_12 : Lt r52_12 := by refine ⟨?l, ?h⟩; case h => simp only [r52_12, c52, bodyOf, Tryd.f52, Code.sub, opsOf, List.map_cons, List.map_nil, strip]; rfl
theorem w52_12 : Wp r52_12 8 [9, 52] [] [] [0] [some 94, some 95, some 96, some 97, some 98, some 99, some 100, none] (L52_12).1 := w_plain (by kernel_rfl) (L52_12).2
noncomputable def L52_13 : Lt r52_13 := by refine ⟨?l, ?h⟩; case h => simp only [r52_13, c52, bodyOf, Tryd.f52, Code.sub, opsOf, List.map_cons, List.map_nil, strip]; rfl
theorem w52_13 : Wp r52_13 8 [9, 52] [] [] [0, 1] [some 101, some 102, some 103] (L52_13).1 := w_plain (by kernel_rfl) (L52_13).2
noncomputable def L52_14 : Lt r52_14 := by refine ⟨?l, ?h⟩; case h => simp only [r52_14, c52, bodyOf, Tryd.f52, Code.sub, opsOf, List.map_cons, List.map_nil, strip]; rfl
theorem w52_14 : Wp r52_14 8 [9, 52] [] [] [0, 7] [some 104, some 105, some 106, some 107, none] (L52_14).1 := w_plain (by kernel_rfl) (L52_14).2
theorem k52 : FnIs TT 52 c52 [] 3 := ⟨Tryd.f52, by kernel_rfl, by simp only [Tryd.f52, c52, bodyOf], by kernel_rfl, of_decide_eq_true (by kernel_rfl)⟩
noncomputable def c53 : Code := bodyOf Tryd.f53
noncomputable def r53_0 : Code := Code.sub [0] c53
noncomputable def r53_1 : Code := Code.sub [1, 0, 0] c53
noncomputable def r53_2 : Code := Code.sub [1, 0, 1, 0, 0] c53
noncomputable def r53_3 : Code := Code.sub [1, 1, 0] c53
theorem body53 : c53 = (.seq r53_0 (.seq (.seq r53_1 (.cond (.tmp 4) (.seq r53_2 .ret) .skip)) (.seq r53_3 .ret))) := by kernel_rfl
noncomputable def L53_0 : Lt r53_0 := by refine ⟨?l, ?h⟩; case h => simp only [r53_0, c53, bodyOf, Tryd.f53, Code.sub, opsOf, List.map_cons, List.map_nil, strip]; rfl
theorem w53_0 : Wp r53_0 3 [4] [2] [] [] [some 2] (L53_0).1 := w_plain (by kernel_rfl) (L53_0).2
noncomputable def L53_1 : Lt r53_1 := by refine ⟨?l, ?h⟩; case h => simp only [r53_1, c53, bodyOf, Tryd.f53, Code.sub, opsOf, List.map_cons, List.map_nil, strip]; rfl
theorem w53_1 : Wp r53_1 3 [4] [] [4] [0] [some 3, some 4] (L53_1).1 := w_plain (by kernel_rfl) (L53_1).2
noncomputable def L53_2 : Lt r53_2 := by refine ⟨?l, ?h⟩; case h => simp only [r53_2, c53, bodyOf, Tryd.f53, Code.sub, opsOf, List.map_cons, List.map_nil, strip]; rfl
theorem w53_2 : Wp r53_2 3 [4] [2] [] [0] [some 5, some 6, some 7, some 8, some 9, some 10, some 2] (L53_2).1 := w_plain (by kernel_rfl) (L53_2).2
noncomputable def L53_3 : Lt r53_3 := by refine ⟨?l, ?h⟩; case h => simp only [r53_3, c53, bodyOf, Tryd.f53, Code.sub, opsOf, List.map_cons, List.map_nil, strip]; rfl
theorem w53_3 : Wp r53_3 3 [4] [2] [] [0] [some 11, some 12, some 13, some 14, some 15, some 16, some 17, some 2] (L53_3).1 := w_plain (by kernel_rfl) (L53_3).2
theorem k53 : FnIs TT 53 c53 [.tmp 2] 1 := ⟨Tryd.f53, by kernel_rfl, by simp only [Tryd.f53, c53, bodyOf], by kernel_rfl, of_decide_eq_true (by kernel_rfl)⟩
attribute [simp] body3 w3_0 L3_0 w3_1 L3_1 w3_2 L3_2 w3_3 L3_3 w3_4 L3_4 w3_5 L3_5 w3_6 L3_6
attribute [simp] body9 w9_0 L9_0 w9_1 L9_1 w9_2 L9_2 w9_3 L9_3 w9_4 L9_4 w9_5 L9_5 w9_6 L9_6 w9_7 L9_7 w9_8 L9_8 w9_9 L9_9 w9_10 L9_10 w9_11 L9_11 w9_12 L9_12 w9_13 L9_13 w9_14 L9_14 w9_15 L9_15 w9_16 L9_16 w9_17 L9_17 w9_18 L9_18
attribute [simp] body12 w12_0 L12_0 w12_1 L12_1 w12_2 L12_2 w12_3 L12_3 w12_4 L12_4 w12_5 L12_5 w12_6 L12_6 w12_7 L12_7 w12_8 L12_8 w12_9 L12_9 w12_10 L12_10 w12_11 L12_11
attribute [simp] body20 w20_0 L20_0
attribute [simp] body21 w21_0 L21_0 w21_1 L21_1 w21_2 L21_2 w21_3 L21_3 w21_4 L21_4 w21_5 L21_5 w21_6 L21_6 w21_7 L21_7 w21_8 L21_8 w21_9 L21_9 w21_10 L21_10 w21_11 L21_11 w21_12 L21_12 w21_13 L21_13 w21_14 L21_14 w21_15 L21_15
attribute [simp] body22 w22_0 L22_0 w22_1 L22_1 w22_2 L22_2 w22_3 L22_3 w22_4 L22_4
attribute [simp] body33 w33_0 L33_0 w33_1 L33_1 w33_2 L33_2 w33_3 L33_3 w33_4 L33_4 w33_5 L33_5 w33_6 L33_6
attribute [simp] body34 w34_0 L34_0 w34_1 L34_1 w34_2 L34_2 w34_3 L34_3 w34_4 L34_4 w34_5 L34_5
attribute [simp] body35 w35_0 L35_0 w35_1 L35_1 w35_2 L35_2 w35_3 L35_3 w35_4 L35_4 w35_5 L35_5 w35_6 L35_6 w35_7 L35_7 w35_8 L35_8 w35_9 L35_9 w35_10 L35_10 w35_11 L35_11 w35_12 L35_12 w35_13 L35_13 w35_14 L35_14 w35_15 L35_15 w35_16 L35_16 w35_17 L35_17 w35_18 L35_18 w35_19 L35_19 w35_20 L35_20 w35_21 L35_21 w35_22 L35_22 w35_23 L35_23 w35_24 L35_24 w35_25 L35_25 w35_26 L35_26 w35_27 L35_27 w35_28 L35_28 w35_29 L35_29 w35_30 L35_30 w35_31 L35_31 w35_32 L35_32 w35_33 L35_33 w35_34 L35_34 w35_35 L35_35 w35_36 L35_36 w35_37 L35_37 w35_38 L35_38 w35_39 L35_39 w35_40 L35_40 w35_41 L35_41 w35_42 L35_42 w35_43 L35_43 w35_44 L35_44 w35_45 L35_45 w35_46 L35_46 w35_47 L35_47 w35_48 L35_48 w35_49 L35_49 w35_50 L35_50 w35_51 L35_51 w35_52 L35_52 w35_53 L35_53 w35_54 L35_54 w35_55 L35_55 w35_56 L35_56 w35_57 L35_57 w35_58 L35_58 w35_59 L35_59 w35_60 L35_60 w35_61 L35_61 w35_62 L35_62 w35_63 L35_63 w35_64 L35_64 w35_65 L35_65 w35_66 L35_66 w35_67 L35_67 w35_68 L35_68 w35_69 L35_69 w35_70 L35_70 w35_71 L35_71 w35_72 L35_72 w35_73 L35_73 w35_74 L35_74 w35_75 L35_75 w35_76 L35_76 w35_77 L35_77 w35_78 L35_78 w35_79 L35_79 w35_80 L35_80 w35_81 L35_81 w35_82 L35_82 w35_83 L35_83 w35_84 L35_84 w35_85 L35_85
attribute [simp] body45 w45_0 L45_0 w45_1 L45_1 w45_2 L45_2 w45_3 L45_3 w45_4 L45_4 w45_5 L45_5 w45_6 L45_6 w45_7 L45_7 w45_8 L45_8 w45_9 L45_9 w45_10 L45_10 w45_11 L45_11 w45_12 L45_12 w45_13 L45_13 w45_14 L45_14 w45_15 L45_15 w45_16 L45_16 w45_17 L45_17 w45_18 L45_18 w45_19 L45_19 w45_20 L45_20 w45_21 L45_21 w45_22 L45_22 w45_23 L45_23 w45_24 L45_24 w45_25 L45_25 w45_26 L45_26 w45_27 L45_27 w45_28 L45_28 w45_29 L45_29 w45_30 L45_30 w45_31 L45_31 w45_32 L45_32 w45_33 L45_33 w45_34 L45_34 w45_35 L45_35 w45_36 L45_36 w45_37 L45_37 w45_38 L45_38 w45_39 L45_39 w45_40 L45_40 w45_41 L45_41 w45_42 L45_42 w45_43 L45_43 w45_44 L45_44 w45_45 L45_45 w45_46 L45_46 w45_47 L45_47 w45_48 L45_48 w45_49 L45_49 w45_50 L45_50 w45_51 L45_51 w45_52 L45_52 w45_53 L45_53 w45_54 L45_54 w45_55 L45_55 w45_56 L45_56
attribute [simp] body46 w46_0 L46_0 w46_1 L46_1 w46_2 L46_2 w46_3 L46_3 w46_4 L46_4 w46_5 L46_5 w46_6 L46_6 w46_7 L46_7 w46_8 L46_8 w46_9 L46_9 w46_10 L46_10 w46_11 L46_11 w46_12 L46_12 w46_13 L46_13 w46_14 L46_14 w46_15 L46_15 w46_16 L46_16 w46_17 L46_17
attribute [simp] body47 w47_0 L47_0 w47_1 L47_1
attribute [simp] body50 w50_0 L50_0 w50_1 L50_1 w50_2 L50_2 w50_3 L50_3 w50_4 L50_4 w50_5 L50_5
attribute [simp] body51 w51_0 L51_0 w51_1 L51_1 w51_2 L51_2 w51_3 L51_3 w51_4 L51_4
attribute [simp] body52 w52_0 L52_0 w52_1 L52_1 w52_2 L52_2 w52_3 L52_3 w52_4 L52_4 w52_5 L52_5 w52_6 L52_6 w52_7 L52_7 w52_8 L52_8 w52_9 L52_9 w52_10 L52_10 w52_11 L52_11 w52_12 L52_12 w52_13 L52_13 w52_14 L52_14
attribute [simp] body53 w53_0 L53_0 w53_1 L53_1 w53_2 L53_2 w53_3 L53_3
end Go.Proofs.YtgomgdbapgibjaaDoor.gen

