/-
  This text names the regions of more of the functions that are walked, with the slots that they read and set.
  No condition.
-/
import Derived.Test.YtgomgdbapgibjaaDoorGen
set_option maxRecDepth 100000
set_option linter.unusedSimpArgs false
set_option linter.unusedVariables false
namespace Go.Proofs.YtgomgdbapgibjaaDoor.gen
open Go.Sh
variable {S : Sums} {m : Mem} {k : List Fr} {E : LEnv} {Q : Post}

/- turnstonelaw3.TokenPlaces -/
noncomputable def c4 : Code := bodyOf Tryd.f4
noncomputable def r4_0 : Code := Code.sub [0] c4
noncomputable def r4_1 : Code := Code.sub [1, 0] c4
noncomputable def r4_2 : Code := Code.sub [1, 1, 0, 0] c4
noncomputable def r4_3 : Code := Code.sub [1, 1, 0, 1, 0] c4
noncomputable def r4_4 : Code := Code.sub [1, 1, 1, 0] c4
noncomputable def r4_5 : Code := Code.sub [1, 1, 1, 1, 0, 0] c4
noncomputable def r4_6 : Code := Code.sub [1, 1, 1, 1, 0, 1, 0, 0] c4
noncomputable def r4_7 : Code := Code.sub [1, 1, 1, 1, 1, 0] c4
noncomputable def r4_8 : Code := Code.sub [1, 1, 1, 1, 1, 1, 0] c4
noncomputable def r4_9 : Code := Code.sub [1, 1, 1, 1, 1, 1, 1, 0] c4
noncomputable def r4_10 : Code := Code.sub [1, 1, 1, 1, 1, 1, 1, 1, 0, 0] c4
noncomputable def r4_11 : Code := Code.sub [1, 1, 1, 1, 1, 1, 1, 1, 0, 1, 0, 0, 0, 0] c4
noncomputable def r4_12 : Code := Code.sub [1, 1, 1, 1, 1, 1, 1, 1, 0, 1, 0, 0, 1, 0, 0, 0, 0, 0, 0, 0] c4
noncomputable def r4_13 : Code := Code.sub [1, 1, 1, 1, 1, 1, 1, 1, 0, 1, 0, 0, 1, 0, 0, 0, 0, 0, 1, 0, 0] c4
noncomputable def r4_14 : Code := Code.sub [1, 1, 1, 1, 1, 1, 1, 1, 0, 1, 0, 0, 1, 0, 0, 0, 0, 0, 1, 0, 1, 0] c4
noncomputable def r4_15 : Code := Code.sub [1, 1, 1, 1, 1, 1, 1, 1, 0, 1, 0, 0, 1, 0, 0, 0, 0, 0, 1, 0, 1, 1, 0, 0] c4
noncomputable def r4_16 : Code := Code.sub [1, 1, 1, 1, 1, 1, 1, 1, 0, 1, 0, 0, 1, 0, 0, 0, 0, 0, 1, 0, 1, 1, 0, 1, 0, 0] c4
noncomputable def r4_17 : Code := Code.sub [1, 1, 1, 1, 1, 1, 1, 1, 0, 1, 0, 0, 1, 0, 0, 0, 0, 0, 1, 0, 1, 1, 1] c4
noncomputable def r4_18 : Code := Code.sub [1, 1, 1, 1, 1, 1, 1, 1, 0, 1, 0, 0, 1, 0, 0, 1, 0] c4
noncomputable def r4_19 : Code := Code.sub [1, 1, 1, 1, 1, 1, 1, 1, 0, 1, 0, 0, 1, 0, 0, 1, 1, 0] c4
noncomputable def r4_20 : Code := Code.sub [1, 1, 1, 1, 1, 1, 1, 1, 0, 1, 0, 0, 1, 0, 0, 1, 1, 1, 0, 0] c4
noncomputable def r4_21 : Code := Code.sub [1, 1, 1, 1, 1, 1, 1, 1, 0, 1, 0, 0, 1, 0, 0, 1, 1, 1, 0, 1] c4
noncomputable def r4_22 : Code := Code.sub [1, 1, 1, 1, 1, 1, 1, 1, 0, 1, 0, 0, 1, 1] c4
noncomputable def r4_23 : Code := Code.sub [1, 1, 1, 1, 1, 1, 1, 1, 1, 0] c4
theorem body4 : c4 = (.seq r4_0 (.seq r4_1 (.seq (.seq r4_2 (.cond (.tmp 21) r4_3 .skip)) (.seq r4_4 (.seq (.seq r4_5 (.cond (.tmp 50) (.seq r4_6 .ret) .skip)) (.seq r4_7 (.seq r4_8 (.seq r4_9 (.seq (.seq r4_10 (.block 0 (.loop (.seq (.seq r4_11 (.cond (.tmp 65) .skip (.exit 0))) (.seq (.block 1 (.seq (.block 2 (.loop (.seq (.seq r4_12 (.cond (.tmp 89) .skip (.exit 2))) (.block 3 (.seq r4_13 (.seq r4_14 (.seq (.seq r4_15 (.cond (.tmp 175) (.seq r4_16 .ret) .skip)) r4_17))))))) (.seq r4_18 (.seq r4_19 (.cond (.tmp 189) (.seq r4_20 r4_21) .skip))))) r4_22))))) (.seq r4_23 .ret)))))))))) := by kernel_rfl
noncomputable def L4_0 : {l : List Oper // (opsOf r4_0).map strip = l} := by refine ⟨?l, ?h⟩; case h => simp only [r4_0, c4, bodyOf, Tryd.f4, Code.sub, opsOf, List.map_cons, List.map_nil, strip]; rfl
theorem w4_0 : W Tryd.prog TT S 19 [21, 50, 65, 89, 175, 189] r4_0 k E m Q ↔ Rg Tryd.prog TT S 19 [21, 50, 65, 89, 175, 189] [8] [] (lgo E [] (lops Tryd.prog (callw Tryd.prog TT S) [(some 8)] (L4_0).1 E m)) k E Q := w_plain (by kernel_rfl) (L4_0).2
noncomputable def L4_1 : {l : List Oper // (opsOf r4_1).map strip = l} := by refine ⟨?l, ?h⟩; case h => simp only [r4_1, c4, bodyOf, Tryd.f4, Code.sub, opsOf, List.map_cons, List.map_nil, strip]; rfl
theorem w4_1 : W Tryd.prog TT S 19 [21, 50, 65, 89, 175, 189] r4_1 k E m Q ↔ Rg Tryd.prog TT S 19 [21, 50, 65, 89, 175, 189] [9] [] (lgo E [0] (lops Tryd.prog (callw Tryd.prog TT S) [(some 19), (some 20), (some 9)] (L4_1).1 E m)) k E Q := w_plain (by kernel_rfl) (L4_1).2
noncomputable def L4_2 : {l : List Oper // (opsOf r4_2).map strip = l} := by refine ⟨?l, ?h⟩; case h => simp only [r4_2, c4, bodyOf, Tryd.f4, Code.sub, opsOf, List.map_cons, List.map_nil, strip]; rfl
theorem w4_2 : W Tryd.prog TT S 19 [21, 50, 65, 89, 175, 189] r4_2 k E m Q ↔ Rg Tryd.prog TT S 19 [21, 50, 65, 89, 175, 189] [] [21] (lgo E [3] (lops Tryd.prog (callw Tryd.prog TT S) [(some 21)] (L4_2).1 E m)) k E Q := w_plain (by kernel_rfl) (L4_2).2
noncomputable def L4_3 : {l : List Oper // (opsOf r4_3).map strip = l} := by refine ⟨?l, ?h⟩; case h => simp only [r4_3, c4, bodyOf, Tryd.f4, Code.sub, opsOf, List.map_cons, List.map_nil, strip]; rfl
theorem w4_3 : W Tryd.prog TT S 19 [21, 50, 65, 89, 175, 189] r4_3 k E m Q ↔ Rg Tryd.prog TT S 19 [21, 50, 65, 89, 175, 189] [9] [] (lgo E [2] (lops Tryd.prog (callw Tryd.prog TT S) [(some 22), (some 23), (some 9)] (L4_3).1 E m)) k E Q := w_plain (by kernel_rfl) (L4_3).2
noncomputable def L4_4 : {l : List Oper // (opsOf r4_4).map strip = l} := by refine ⟨?l, ?h⟩; case h => simp only [r4_4, c4, bodyOf, Tryd.f4, Code.sub, opsOf, List.map_cons, List.map_nil, strip]; rfl
theorem w4_4 : W Tryd.prog TT S 19 [21, 50, 65, 89, 175, 189] r4_4 k E m Q ↔ Rg Tryd.prog TT S 19 [21, 50, 65, 89, 175, 189] [11, 10, 12] [] (lgo E [9] (lops Tryd.prog (callw Tryd.prog TT S) [(some 25), (some 26), (some 24), (some 27), (some 28), (some 29), (some 11), (some 10), none, (some 12)] (L4_4).1 E m)) k E Q := w_plain (by kernel_rfl) (L4_4).2
noncomputable def L4_5 : {l : List Oper // (opsOf r4_5).map strip = l} := by refine ⟨?l, ?h⟩; case h => simp only [r4_5, c4, bodyOf, Tryd.f4, Code.sub, opsOf, List.map_cons, List.map_nil, strip]; rfl
theorem w4_5 : W Tryd.prog TT S 19 [21, 50, 65, 89, 175, 189] r4_5 k E m Q ↔ Rg Tryd.prog TT S 19 [21, 50, 65, 89, 175, 189] [] [50] (lgo E [12, 10] (lops Tryd.prog (callw Tryd.prog TT S) [(some 30), (some 31), (some 32), (some 33), (some 34), (some 35), (some 36), (some 37), (some 38), (some 39), (some 40), (some 41), (some 42), (some 43), (some 44), (some 45), (some 46), (some 47), (some 48), (some 49), (some 50)] (L4_5).1 E m)) k E Q := w_plain (by kernel_rfl) (L4_5).2
noncomputable def L4_6 : {l : List Oper // (opsOf r4_6).map strip = l} := by refine ⟨?l, ?h⟩; case h => simp only [r4_6, c4, bodyOf, Tryd.f4, Code.sub, opsOf, List.map_cons, List.map_nil, strip]; rfl
theorem w4_6 : W Tryd.prog TT S 19 [21, 50, 65, 89, 175, 189] r4_6 k E m Q ↔ Rg Tryd.prog TT S 19 [21, 50, 65, 89, 175, 189] [8] [] (lgo E [12] (lops Tryd.prog (callw Tryd.prog TT S) [(some 51), (some 52), (some 53), (some 54), (some 55), (some 8)] (L4_6).1 E m)) k E Q := w_plain (by kernel_rfl) (L4_6).2
noncomputable def L4_7 : {l : List Oper // (opsOf r4_7).map strip = l} := by refine ⟨?l, ?h⟩; case h => simp only [r4_7, c4, bodyOf, Tryd.f4, Code.sub, opsOf, List.map_cons, List.map_nil, strip]; rfl
theorem w4_7 : W Tryd.prog TT S 19 [21, 50, 65, 89, 175, 189] r4_7 k E m Q ↔ Rg Tryd.prog TT S 19 [21, 50, 65, 89, 175, 189] [13] [] (lgo E [] (lops Tryd.prog (callw Tryd.prog TT S) [(some 13)] (L4_7).1 E m)) k E Q := w_plain (by kernel_rfl) (L4_7).2
noncomputable def L4_8 : {l : List Oper // (opsOf r4_8).map strip = l} := by refine ⟨?l, ?h⟩; case h => simp only [r4_8, c4, bodyOf, Tryd.f4, Code.sub, opsOf, List.map_cons, List.map_nil, strip]; rfl
theorem w4_8 : W Tryd.prog TT S 19 [21, 50, 65, 89, 175, 189] r4_8 k E m Q ↔ Rg Tryd.prog TT S 19 [21, 50, 65, 89, 175, 189] [14] [] (lgo E [] (lops Tryd.prog (callw Tryd.prog TT S) [(some 14)] (L4_8).1 E m)) k E Q := w_plain (by kernel_rfl) (L4_8).2
noncomputable def L4_9 : {l : List Oper // (opsOf r4_9).map strip = l} := by refine ⟨?l, ?h⟩; case h => simp only [r4_9, c4, bodyOf, Tryd.f4, Code.sub, opsOf, List.map_cons, List.map_nil, strip]; rfl
theorem w4_9 : W Tryd.prog TT S 19 [21, 50, 65, 89, 175, 189] r4_9 k E m Q ↔ Rg Tryd.prog TT S 19 [21, 50, 65, 89, 175, 189] [15] [] (lgo E [] (lops Tryd.prog (callw Tryd.prog TT S) [(some 15)] (L4_9).1 E m)) k E Q := w_plain (by kernel_rfl) (L4_9).2
noncomputable def L4_10 : {l : List Oper // (opsOf r4_10).map strip = l} := by refine ⟨?l, ?h⟩; case h => simp only [r4_10, c4, bodyOf, Tryd.f4, Code.sub, opsOf, List.map_cons, List.map_nil, strip]; rfl
theorem w4_10 : W Tryd.prog TT S 19 [21, 50, 65, 89, 175, 189] r4_10 k E m Q ↔ Rg Tryd.prog TT S 19 [21, 50, 65, 89, 175, 189] [16] [] (lgo E [] (lops Tryd.prog (callw Tryd.prog TT S) [(some 16)] (L4_10).1 E m)) k E Q := w_plain (by kernel_rfl) (L4_10).2
noncomputable def L4_11 : {l : List Oper // (opsOf r4_11).map strip = l} := by refine ⟨?l, ?h⟩; case h => simp only [r4_11, c4, bodyOf, Tryd.f4, Code.sub, opsOf, List.map_cons, List.map_nil, strip]; rfl
theorem w4_11 : W Tryd.prog TT S 19 [21, 50, 65, 89, 175, 189] r4_11 k E m Q ↔ Rg Tryd.prog TT S 19 [21, 50, 65, 89, 175, 189] [] [65] (lgo E [16, 9, 15, 10] (lops Tryd.prog (callw Tryd.prog TT S) [(some 56), (some 57), (some 58), (some 59), (some 60), (some 61), (some 62), (some 63), (some 64), (some 65)] (L4_11).1 E m)) k E Q := w_plain (by kernel_rfl) (L4_11).2
noncomputable def L4_12 : {l : List Oper // (opsOf r4_12).map strip = l} := by refine ⟨?l, ?h⟩; case h => simp only [r4_12, c4, bodyOf, Tryd.f4, Code.sub, opsOf, List.map_cons, List.map_nil, strip]; rfl
theorem w4_12 : W Tryd.prog TT S 19 [21, 50, 65, 89, 175, 189] r4_12 k E m Q ↔ Rg Tryd.prog TT S 19 [21, 50, 65, 89, 175, 189] [] [89] (lgo E [13, 10, 15, 14] (lops Tryd.prog (callw Tryd.prog TT S) [(some 68), (some 69), (some 70), (some 71), (some 72), (some 73), (some 74), (some 75), (some 76), (some 77), (some 78), (some 79), (some 80), (some 81), (some 82), (some 83), (some 84), (some 85), (some 86), (some 87), (some 88), (some 89)] (L4_12).1 E m)) k E Q := w_plain (by kernel_rfl) (L4_12).2
noncomputable def L4_13 : {l : List Oper // (opsOf r4_13).map strip = l} := by refine ⟨?l, ?h⟩; case h => simp only [r4_13, c4, bodyOf, Tryd.f4, Code.sub, opsOf, List.map_cons, List.map_nil, strip]; rfl
theorem w4_13 : W Tryd.prog TT S 19 [21, 50, 65, 89, 175, 189] r4_13 k E m Q ↔ Rg Tryd.prog TT S 19 [21, 50, 65, 89, 175, 189] [17] [] (lgo E [10, 15] (lops Tryd.prog (callw Tryd.prog TT S) [(some 90), (some 91), (some 92), (some 93), (some 17), none] (L4_13).1 E m)) k E Q := w_plain (by kernel_rfl) (L4_13).2
noncomputable def L4_14 : {l : List Oper // (opsOf r4_14).map strip = l} := by refine ⟨?l, ?h⟩; case h => simp only [r4_14, c4, bodyOf, Tryd.f4, Code.sub, opsOf, List.map_cons, List.map_nil, strip]; rfl
theorem w4_14 : W Tryd.prog TT S 19 [21, 50, 65, 89, 175, 189] r4_14 k E m Q ↔ Rg Tryd.prog TT S 19 [21, 50, 65, 89, 175, 189] [18] [] (lgo E [9, 16, 17] (lops Tryd.prog (callw Tryd.prog TT S) [(some 94), (some 95), (some 96), (some 97), (some 98), (some 99), (some 100), (some 101), (some 102), (some 103), (some 104), (some 105), (some 106), (some 107), (some 108), (some 109), (some 110), (some 111), (some 112), (some 113), (some 114), (some 115), (some 116), (some 117), (some 118), (some 119), (some 120), (some 121), (some 122), (some 123), (some 124), (some 125), (some 126), (some 127), (some 128), (some 129), (some 130), (some 131), (some 132), (some 133), (some 134), (some 135), (some 136), (some 137), (some 138), (some 139), (some 140), (some 141), (some 142), (some 143), (some 144), (some 145), (some 146), (some 147), (some 148), (some 149), (some 150), (some 151), (some 152), (some 153), (some 154), (some 155), (some 156), (some 157), (some 158), (some 159), (some 160), (some 161), (some 162), (some 163), (some 164), (some 165), (some 166), (some 167), (some 168), (some 169), (some 170), (some 171), (some 172), (some 173), (some 18)] (L4_14).1 E m)) k E Q := w_plain (by kernel_rfl) (L4_14).2
noncomputable def L4_15 : {l : List Oper // (opsOf r4_15).map strip = l} := by refine ⟨?l, ?h⟩; case h => simp only [r4_15, c4, bodyOf, Tryd.f4, Code.sub, opsOf, List.map_cons, List.map_nil, strip]; rfl
theorem w4_15 : W Tryd.prog TT S 19 [21, 50, 65, 89, 175, 189] r4_15 k E m Q ↔ Rg Tryd.prog TT S 19 [21, 50, 65, 89, 175, 189] [] [175] (lgo E [18] (lops Tryd.prog (callw Tryd.prog TT S) [(some 174), (some 175)] (L4_15).1 E m)) k E Q := w_plain (by kernel_rfl) (L4_15).2
noncomputable def L4_16 : {l : List Oper // (opsOf r4_16).map strip = l} := by refine ⟨?l, ?h⟩; case h => simp only [r4_16, c4, bodyOf, Tryd.f4, Code.sub, opsOf, List.map_cons, List.map_nil, strip]; rfl
theorem w4_16 : W Tryd.prog TT S 19 [21, 50, 65, 89, 175, 189] r4_16 k E m Q ↔ Rg Tryd.prog TT S 19 [21, 50, 65, 89, 175, 189] [8] [] (lgo E [] (lops Tryd.prog (callw Tryd.prog TT S) [(some 8)] (L4_16).1 E m)) k E Q := w_plain (by kernel_rfl) (L4_16).2
noncomputable def L4_17 : {l : List Oper // (opsOf r4_17).map strip = l} := by refine ⟨?l, ?h⟩; case h => simp only [r4_17, c4, bodyOf, Tryd.f4, Code.sub, opsOf, List.map_cons, List.map_nil, strip]; rfl
theorem w4_17 : W Tryd.prog TT S 19 [21, 50, 65, 89, 175, 189] r4_17 k E m Q ↔ Rg Tryd.prog TT S 19 [21, 50, 65, 89, 175, 189] [15] [] (lgo E [15] (lops Tryd.prog (callw Tryd.prog TT S) [(some 176), (some 177), (some 15)] (L4_17).1 E m)) k E Q := w_plain (by kernel_rfl) (L4_17).2
noncomputable def L4_18 : {l : List Oper // (opsOf r4_18).map strip = l} := by refine ⟨?l, ?h⟩; case h => simp only [r4_18, c4, bodyOf, Tryd.f4, Code.sub, opsOf, List.map_cons, List.map_nil, strip]; rfl
theorem w4_18 : W Tryd.prog TT S 19 [21, 50, 65, 89, 175, 189] r4_18 k E m Q ↔ Rg Tryd.prog TT S 19 [21, 50, 65, 89, 175, 189] [14] [] (lgo E [14] (lops Tryd.prog (callw Tryd.prog TT S) [(some 178), (some 179), (some 14)] (L4_18).1 E m)) k E Q := w_plain (by kernel_rfl) (L4_18).2
noncomputable def L4_19 : {l : List Oper // (opsOf r4_19).map strip = l} := by refine ⟨?l, ?h⟩; case h => simp only [r4_19, c4, bodyOf, Tryd.f4, Code.sub, opsOf, List.map_cons, List.map_nil, strip]; rfl
theorem w4_19 : W Tryd.prog TT S 19 [21, 50, 65, 89, 175, 189] r4_19 k E m Q ↔ Rg Tryd.prog TT S 19 [21, 50, 65, 89, 175, 189] [] [189] (lgo E [9, 16] (lops Tryd.prog (callw Tryd.prog TT S) [(some 180), (some 181), (some 182), (some 183), (some 184), (some 185), (some 186), (some 187), (some 188), (some 189)] (L4_19).1 E m)) k E Q := w_plain (by kernel_rfl) (L4_19).2
noncomputable def L4_20 : {l : List Oper // (opsOf r4_20).map strip = l} := by refine ⟨?l, ?h⟩; case h => simp only [r4_20, c4, bodyOf, Tryd.f4, Code.sub, opsOf, List.map_cons, List.map_nil, strip]; rfl
theorem w4_20 : W Tryd.prog TT S 19 [21, 50, 65, 89, 175, 189] r4_20 k E m Q ↔ Rg Tryd.prog TT S 19 [21, 50, 65, 89, 175, 189] [13] [] (lgo E [13] (lops Tryd.prog (callw Tryd.prog TT S) [(some 190), (some 191), (some 13)] (L4_20).1 E m)) k E Q := w_plain (by kernel_rfl) (L4_20).2
noncomputable def L4_21 : {l : List Oper // (opsOf r4_21).map strip = l} := by refine ⟨?l, ?h⟩; case h => simp only [r4_21, c4, bodyOf, Tryd.f4, Code.sub, opsOf, List.map_cons, List.map_nil, strip]; rfl
theorem w4_21 : W Tryd.prog TT S 19 [21, 50, 65, 89, 175, 189] r4_21 k E m Q ↔ Rg Tryd.prog TT S 19 [21, 50, 65, 89, 175, 189] [14] [] (lgo E [] (lops Tryd.prog (callw Tryd.prog TT S) [(some 14)] (L4_21).1 E m)) k E Q := w_plain (by kernel_rfl) (L4_21).2
noncomputable def L4_22 : {l : List Oper // (opsOf r4_22).map strip = l} := by refine ⟨?l, ?h⟩; case h => simp only [r4_22, c4, bodyOf, Tryd.f4, Code.sub, opsOf, List.map_cons, List.map_nil, strip]; rfl
theorem w4_22 : W Tryd.prog TT S 19 [21, 50, 65, 89, 175, 189] r4_22 k E m Q ↔ Rg Tryd.prog TT S 19 [21, 50, 65, 89, 175, 189] [16] [] (lgo E [16] (lops Tryd.prog (callw Tryd.prog TT S) [(some 66), (some 67), (some 16)] (L4_22).1 E m)) k E Q := w_plain (by kernel_rfl) (L4_22).2
noncomputable def L4_23 : {l : List Oper // (opsOf r4_23).map strip = l} := by refine ⟨?l, ?h⟩; case h => simp only [r4_23, c4, bodyOf, Tryd.f4, Code.sub, opsOf, List.map_cons, List.map_nil, strip]; rfl
theorem w4_23 : W Tryd.prog TT S 19 [21, 50, 65, 89, 175, 189] r4_23 k E m Q ↔ Rg Tryd.prog TT S 19 [21, 50, 65, 89, 175, 189] [8] [] (lgo E [15, 10] (lops Tryd.prog (callw Tryd.prog TT S) [(some 192), (some 193), (some 194), (some 195), (some 8)] (L4_23).1 E m)) k E Q := w_plain (by kernel_rfl) (L4_23).2
theorem k4 : FnIs TT 4 c4 [.tmp 8] 4 := ⟨Tryd.f4, by kernel_rfl, by simp only [Tryd.f4, c4, bodyOf], by kernel_rfl, of_decide_eq_true (by kernel_rfl)⟩

/- turnstonehand.Text -/
noncomputable def c12 : Code := bodyOf Tryd.f12
noncomputable def r12_0 : Code := Code.sub [0] c12
noncomputable def r12_1 : Code := Code.sub [1, 0] c12
noncomputable def r12_2 : Code := Code.sub [1, 1, 0] c12
noncomputable def r12_3 : Code := Code.sub [1, 1, 1, 0] c12
noncomputable def r12_4 : Code := Code.sub [1, 1, 1, 1, 0] c12
noncomputable def r12_5 : Code := Code.sub [1, 1, 1, 1, 1, 0] c12
noncomputable def r12_6 : Code := Code.sub [1, 1, 1, 1, 1, 1, 0] c12
noncomputable def r12_7 : Code := Code.sub [1, 1, 1, 1, 1, 1, 1, 0] c12
noncomputable def r12_8 : Code := Code.sub [1, 1, 1, 1, 1, 1, 1, 1, 0] c12
noncomputable def r12_9 : Code := Code.sub [1, 1, 1, 1, 1, 1, 1, 1, 1, 0] c12
noncomputable def r12_10 : Code := Code.sub [1, 1, 1, 1, 1, 1, 1, 1, 1, 1, 0] c12
noncomputable def r12_11 : Code := Code.sub [1, 1, 1, 1, 1, 1, 1, 1, 1, 1, 1, 0] c12
theorem body12 : c12 = (.seq r12_0 (.seq r12_1 (.seq r12_2 (.seq r12_3 (.seq r12_4 (.seq r12_5 (.seq r12_6 (.seq r12_7 (.seq r12_8 (.seq r12_9 (.seq r12_10 (.seq r12_11 .ret)))))))))))) := by kernel_rfl
noncomputable def L12_0 : {l : List Oper // (opsOf r12_0).map strip = l} := by refine ⟨?l, ?h⟩; case h => simp only [r12_0, c12, bodyOf, Tryd.f12, Code.sub, opsOf, List.map_cons, List.map_nil, strip]; rfl
theorem w12_0 : W Tryd.prog TT S 4 [] r12_0 k E m Q ↔ Rg Tryd.prog TT S 4 [] [2] [] (lgo E [] (lops Tryd.prog (callw Tryd.prog TT S) [(some 2)] (L12_0).1 E m)) k E Q := w_plain (by kernel_rfl) (L12_0).2
noncomputable def L12_1 : {l : List Oper // (opsOf r12_1).map strip = l} := by refine ⟨?l, ?h⟩; case h => simp only [r12_1, c12, bodyOf, Tryd.f12, Code.sub, opsOf, List.map_cons, List.map_nil, strip]; rfl
theorem w12_1 : W Tryd.prog TT S 4 [] r12_1 k E m Q ↔ Rg Tryd.prog TT S 4 [] [3] [] (lgo E [0] (lops Tryd.prog (callw Tryd.prog TT S) [(some 4), (some 5), (some 6), (some 7), (some 3)] (L12_1).1 E m)) k E Q := w_plain (by kernel_rfl) (L12_1).2
noncomputable def L12_2 : {l : List Oper // (opsOf r12_2).map strip = l} := by refine ⟨?l, ?h⟩; case h => simp only [r12_2, c12, bodyOf, Tryd.f12, Code.sub, opsOf, List.map_cons, List.map_nil, strip]; rfl
theorem w12_2 : W Tryd.prog TT S 4 [] r12_2 k E m Q ↔ Rg Tryd.prog TT S 4 [] [] [] (lgo E [3] (lops Tryd.prog (callw Tryd.prog TT S) [(some 8), (some 9)] (L12_2).1 E m)) k E Q := w_plain (by kernel_rfl) (L12_2).2
noncomputable def L12_3 : {l : List Oper // (opsOf r12_3).map strip = l} := by refine ⟨?l, ?h⟩; case h => simp only [r12_3, c12, bodyOf, Tryd.f12, Code.sub, opsOf, List.map_cons, List.map_nil, strip]; rfl
theorem w12_3 : W Tryd.prog TT S 4 [] r12_3 k E m Q ↔ Rg Tryd.prog TT S 4 [] [] [] (lgo E [3] (lops Tryd.prog (callw Tryd.prog TT S) [(some 10), (some 11), (some 12), (some 13), (some 14), (some 15), (some 16), (some 17), none] (L12_3).1 E m)) k E Q := w_plain (by kernel_rfl) (L12_3).2
noncomputable def L12_4 : {l : List Oper // (opsOf r12_4).map strip = l} := by refine ⟨?l, ?h⟩; case h => simp only [r12_4, c12, bodyOf, Tryd.f12, Code.sub, opsOf, List.map_cons, List.map_nil, strip]; rfl
theorem w12_4 : W Tryd.prog TT S 4 [] r12_4 k E m Q ↔ Rg Tryd.prog TT S 4 [] [] [] (lgo E [3] (lops Tryd.prog (callw Tryd.prog TT S) [(some 18), (some 19)] (L12_4).1 E m)) k E Q := w_plain (by kernel_rfl) (L12_4).2
noncomputable def L12_5 : {l : List Oper // (opsOf r12_5).map strip = l} := by refine ⟨?l, ?h⟩; case h => simp only [r12_5, c12, bodyOf, Tryd.f12, Code.sub, opsOf, List.map_cons, List.map_nil, strip]; rfl
theorem w12_5 : W Tryd.prog TT S 4 [] r12_5 k E m Q ↔ Rg Tryd.prog TT S 4 [] [] [] (lgo E [3] (lops Tryd.prog (callw Tryd.prog TT S) [(some 20), (some 21), (some 22), (some 23), (some 24), (some 25), (some 26)] (L12_5).1 E m)) k E Q := w_plain (by kernel_rfl) (L12_5).2
noncomputable def L12_6 : {l : List Oper // (opsOf r12_6).map strip = l} := by refine ⟨?l, ?h⟩; case h => simp only [r12_6, c12, bodyOf, Tryd.f12, Code.sub, opsOf, List.map_cons, List.map_nil, strip]; rfl
theorem w12_6 : W Tryd.prog TT S 4 [] r12_6 k E m Q ↔ Rg Tryd.prog TT S 4 [] [] [] (lgo E [3] (lops Tryd.prog (callw Tryd.prog TT S) [(some 27), (some 28), (some 29), (some 30), (some 31), (some 32), (some 33)] (L12_6).1 E m)) k E Q := w_plain (by kernel_rfl) (L12_6).2
noncomputable def L12_7 : {l : List Oper // (opsOf r12_7).map strip = l} := by refine ⟨?l, ?h⟩; case h => simp only [r12_7, c12, bodyOf, Tryd.f12, Code.sub, opsOf, List.map_cons, List.map_nil, strip]; rfl
theorem w12_7 : W Tryd.prog TT S 4 [] r12_7 k E m Q ↔ Rg Tryd.prog TT S 4 [] [] [] (lgo E [3] (lops Tryd.prog (callw Tryd.prog TT S) [(some 34), (some 35), (some 36), (some 37)] (L12_7).1 E m)) k E Q := w_plain (by kernel_rfl) (L12_7).2
noncomputable def L12_8 : {l : List Oper // (opsOf r12_8).map strip = l} := by refine ⟨?l, ?h⟩; case h => simp only [r12_8, c12, bodyOf, Tryd.f12, Code.sub, opsOf, List.map_cons, List.map_nil, strip]; rfl
theorem w12_8 : W Tryd.prog TT S 4 [] r12_8 k E m Q ↔ Rg Tryd.prog TT S 4 [] [] [] (lgo E [3] (lops Tryd.prog (callw Tryd.prog TT S) [(some 38), (some 39), (some 40), (some 41)] (L12_8).1 E m)) k E Q := w_plain (by kernel_rfl) (L12_8).2
noncomputable def L12_9 : {l : List Oper // (opsOf r12_9).map strip = l} := by refine ⟨?l, ?h⟩; case h => simp only [r12_9, c12, bodyOf, Tryd.f12, Code.sub, opsOf, List.map_cons, List.map_nil, strip]; rfl
theorem w12_9 : W Tryd.prog TT S 4 [] r12_9 k E m Q ↔ Rg Tryd.prog TT S 4 [] [] [] (lgo E [3] (lops Tryd.prog (callw Tryd.prog TT S) [(some 42), (some 43), (some 44), (some 45), (some 46), (some 47), (some 48)] (L12_9).1 E m)) k E Q := w_plain (by kernel_rfl) (L12_9).2
noncomputable def L12_10 : {l : List Oper // (opsOf r12_10).map strip = l} := by refine ⟨?l, ?h⟩; case h => simp only [r12_10, c12, bodyOf, Tryd.f12, Code.sub, opsOf, List.map_cons, List.map_nil, strip]; rfl
theorem w12_10 : W Tryd.prog TT S 4 [] r12_10 k E m Q ↔ Rg Tryd.prog TT S 4 [] [] [] (lgo E [3] (lops Tryd.prog (callw Tryd.prog TT S) [(some 49), (some 50), (some 51), (some 52)] (L12_10).1 E m)) k E Q := w_plain (by kernel_rfl) (L12_10).2
noncomputable def L12_11 : {l : List Oper // (opsOf r12_11).map strip = l} := by refine ⟨?l, ?h⟩; case h => simp only [r12_11, c12, bodyOf, Tryd.f12, Code.sub, opsOf, List.map_cons, List.map_nil, strip]; rfl
theorem w12_11 : W Tryd.prog TT S 4 [] r12_11 k E m Q ↔ Rg Tryd.prog TT S 4 [] [2] [] (lgo E [3] (lops Tryd.prog (callw Tryd.prog TT S) [(some 53), (some 54), (some 55), (some 56), (some 2)] (L12_11).1 E m)) k E Q := w_plain (by kernel_rfl) (L12_11).2
theorem k12 : FnIs TT 12 c12 [.tmp 2] 1 := ⟨Tryd.f12, by kernel_rfl, by simp only [Tryd.f12, c12, bodyOf], by kernel_rfl, of_decide_eq_true (by kernel_rfl)⟩

/- (*turnstonehand.maker).line -/
noncomputable def c20 : Code := bodyOf Tryd.f20
noncomputable def r20_0 : Code := Code.sub [] c20
theorem body20 : c20 = r20_0 := by kernel_rfl
theorem can20_0 : canonOps (opsOf r20_0) = opsOf r20_0 := by kernel_rfl
noncomputable def L20_0 : {l : List Oper // (canonOps (opsOf r20_0)).map strip = l} := by refine ⟨?l, (congrArg (List.map strip) can20_0).trans ?h⟩; case h => simp only [r20_0, c20, bodyOf, Tryd.f20, Code.sub, opsOf, List.map_cons, List.map_nil, strip]; rfl
theorem w20_0 : W Tryd.prog TT S 3 [] r20_0 k E m Q ↔ Rg Tryd.prog TT S 3 [] [] [] (lgo E [0, 1, 2] (lloud Tryd.prog (callw Tryd.prog TT S) [(some 6), (some 7), (some 8), (some 9), (some 10), (some 11), (some 12), (some 13), (some 14), (some 15), (some 16), (some 17), (some 18), (some 19), none] (L20_0).1 [(4, [7, 14])] (lstates Tryd.prog (callw Tryd.prog TT S) [(some 6), (some 7), (some 8), (some 9), (some 10), (some 11), (some 12), (some 13), (some 14), (some 15), (some 16), (some 17), (some 18), (some 19), none] (L20_0).1 E m))) k E Q := w_loud (by kernel_rfl) (L20_0).2
theorem k20 : FnIs TT 20 c20 [] 3 := ⟨Tryd.f20, by kernel_rfl, by simp only [Tryd.f20, c20, bodyOf], by kernel_rfl, of_decide_eq_true (by kernel_rfl)⟩

/- (*turnstonehand.maker).fn -/
noncomputable def c21 : Code := bodyOf Tryd.f21
noncomputable def r21_0 : Code := Code.sub [0] c21
noncomputable def r21_1 : Code := Code.sub [1, 0] c21
noncomputable def r21_2 : Code := Code.sub [1, 1, 0] c21
noncomputable def r21_3 : Code := Code.sub [1, 1, 1, 0] c21
noncomputable def r21_4 : Code := Code.sub [1, 1, 1, 1, 0] c21
noncomputable def r21_5 : Code := Code.sub [1, 1, 1, 1, 1, 0, 0] c21
noncomputable def r21_6 : Code := Code.sub [1, 1, 1, 1, 1, 0, 1, 0, 0, 0, 0] c21
noncomputable def r21_7 : Code := Code.sub [1, 1, 1, 1, 1, 0, 1, 0, 0, 1, 0, 0] c21
noncomputable def r21_8 : Code := Code.sub [1, 1, 1, 1, 1, 0, 1, 0, 0, 1, 1] c21
noncomputable def r21_9 : Code := Code.sub [1, 1, 1, 1, 1, 1, 0] c21
noncomputable def r21_10 : Code := Code.sub [1, 1, 1, 1, 1, 1, 1, 0] c21
noncomputable def r21_11 : Code := Code.sub [1, 1, 1, 1, 1, 1, 1, 1, 0] c21
noncomputable def r21_12 : Code := Code.sub [1, 1, 1, 1, 1, 1, 1, 1, 1, 0] c21
noncomputable def r21_13 : Code := Code.sub [1, 1, 1, 1, 1, 1, 1, 1, 1, 1, 0, 0] c21
noncomputable def r21_14 : Code := Code.sub [1, 1, 1, 1, 1, 1, 1, 1, 1, 1, 0, 1, 0] c21
noncomputable def r21_15 : Code := Code.sub [1, 1, 1, 1, 1, 1, 1, 1, 1, 1, 1] c21
theorem body21 : c21 = (.seq r21_0 (.seq r21_1 (.seq r21_2 (.seq r21_3 (.seq r21_4 (.seq (.seq r21_5 (.block 0 (.loop (.seq (.seq r21_6 (.cond (.tmp 36) .skip (.exit 0))) (.seq (.block 1 r21_7) r21_8))))) (.seq r21_9 (.seq r21_10 (.seq r21_11 (.seq r21_12 (.seq (.seq r21_13 (.cond (.tmp 87) r21_14 .skip)) r21_15))))))))))) := by kernel_rfl
noncomputable def L21_0 : {l : List Oper // (opsOf r21_0).map strip = l} := by refine ⟨?l, ?h⟩; case h => simp only [r21_0, c21, bodyOf, Tryd.f21, Code.sub, opsOf, List.map_cons, List.map_nil, strip]; rfl
theorem w21_0 : W Tryd.prog TT S 15 [36, 87] r21_0 k E m Q ↔ Rg Tryd.prog TT S 15 [36, 87] [] [] (lgo E [0] (lops Tryd.prog (callw Tryd.prog TT S) [(some 15), (some 16), (some 17), (some 18), none] (L21_0).1 E m)) k E Q := w_plain (by kernel_rfl) (L21_0).2
noncomputable def L21_1 : {l : List Oper // (opsOf r21_1).map strip = l} := by refine ⟨?l, ?h⟩; case h => simp only [r21_1, c21, bodyOf, Tryd.f21, Code.sub, opsOf, List.map_cons, List.map_nil, strip]; rfl
theorem w21_1 : W Tryd.prog TT S 15 [36, 87] r21_1 k E m Q ↔ Rg Tryd.prog TT S 15 [36, 87] [] [] (lgo E [0] (lops Tryd.prog (callw Tryd.prog TT S) [(some 19), (some 20), (some 21), none] (L21_1).1 E m)) k E Q := w_plain (by kernel_rfl) (L21_1).2
noncomputable def L21_2 : {l : List Oper // (opsOf r21_2).map strip = l} := by refine ⟨?l, ?h⟩; case h => simp only [r21_2, c21, bodyOf, Tryd.f21, Code.sub, opsOf, List.map_cons, List.map_nil, strip]; rfl
theorem w21_2 : W Tryd.prog TT S 15 [36, 87] r21_2 k E m Q ↔ Rg Tryd.prog TT S 15 [36, 87] [] [] (lgo E [0] (lops Tryd.prog (callw Tryd.prog TT S) [(some 22), (some 23), (some 24), none] (L21_2).1 E m)) k E Q := w_plain (by kernel_rfl) (L21_2).2
noncomputable def L21_3 : {l : List Oper // (opsOf r21_3).map strip = l} := by refine ⟨?l, ?h⟩; case h => simp only [r21_3, c21, bodyOf, Tryd.f21, Code.sub, opsOf, List.map_cons, List.map_nil, strip]; rfl
theorem w21_3 : W Tryd.prog TT S 15 [36, 87] r21_3 k E m Q ↔ Rg Tryd.prog TT S 15 [36, 87] [] [] (lgo E [0, 4] (lops Tryd.prog (callw Tryd.prog TT S) [(some 25), (some 26), (some 27), (some 28), none] (L21_3).1 E m)) k E Q := w_plain (by kernel_rfl) (L21_3).2
noncomputable def L21_4 : {l : List Oper // (opsOf r21_4).map strip = l} := by refine ⟨?l, ?h⟩; case h => simp only [r21_4, c21, bodyOf, Tryd.f21, Code.sub, opsOf, List.map_cons, List.map_nil, strip]; rfl
theorem w21_4 : W Tryd.prog TT S 15 [36, 87] r21_4 k E m Q ↔ Rg Tryd.prog TT S 15 [36, 87] [] [] (lgo E [0, 6] (lops Tryd.prog (callw Tryd.prog TT S) [(some 29), (some 30), (some 31), (some 32), none] (L21_4).1 E m)) k E Q := w_plain (by kernel_rfl) (L21_4).2
noncomputable def L21_5 : {l : List Oper // (opsOf r21_5).map strip = l} := by refine ⟨?l, ?h⟩; case h => simp only [r21_5, c21, bodyOf, Tryd.f21, Code.sub, opsOf, List.map_cons, List.map_nil, strip]; rfl
theorem w21_5 : W Tryd.prog TT S 15 [36, 87] r21_5 k E m Q ↔ Rg Tryd.prog TT S 15 [36, 87] [14] [] (lgo E [] (lops Tryd.prog (callw Tryd.prog TT S) [(some 14)] (L21_5).1 E m)) k E Q := w_plain (by kernel_rfl) (L21_5).2
noncomputable def L21_6 : {l : List Oper // (opsOf r21_6).map strip = l} := by refine ⟨?l, ?h⟩; case h => simp only [r21_6, c21, bodyOf, Tryd.f21, Code.sub, opsOf, List.map_cons, List.map_nil, strip]; rfl
theorem w21_6 : W Tryd.prog TT S 15 [36, 87] r21_6 k E m Q ↔ Rg Tryd.prog TT S 15 [36, 87] [] [36] (lgo E [14, 2] (lops Tryd.prog (callw Tryd.prog TT S) [(some 33), (some 34), (some 35), (some 36)] (L21_6).1 E m)) k E Q := w_plain (by kernel_rfl) (L21_6).2
theorem can21_7 : canonOps (opsOf r21_7) = List.filterMap (fun i => ((opsOf r21_7)[i]?).map (renum [0, 1, 2, 3, 4, 5, 6, 7, 8, 9, 10, 11, 12, 13, 14, 15, 16, 17, 18, 19, 20, 21, 22, 23, 24, 25])) [0, 1, 2, 3, 4, 5, 6, 7, 8, 9, 10, 11, 12, 13, 14, 15, 16, 17, 18, 19, 20, 21, 22, 23, 24, 25] := by kernel_rfl
noncomputable def L21_7 : {l : List Oper // (canonOps (opsOf r21_7)).map strip = l} := by refine ⟨?l, (congrArg (List.map strip) can21_7).trans ?h⟩; case h => simp only [r21_7, c21, bodyOf, Tryd.f21, Code.sub, opsOf, List.filterMap_cons, List.filterMap_nil, List.getElem?_cons_succ, List.getElem?_cons_zero, Option.map_some, renum, List.map_cons, List.map_nil, strip]; rfl
theorem w21_7 : W Tryd.prog TT S 15 [36, 87] r21_7 k E m Q ↔ Rg Tryd.prog TT S 15 [36, 87] [] [] (lgo E [0, 3, 2, 14] (lloud Tryd.prog (callw Tryd.prog TT S) [(some 39), (some 40), (some 41), (some 42), (some 43), (some 44), (some 45), (some 46), (some 47), (some 48), (some 49), (some 50), (some 51), (some 52), (some 53), (some 54), (some 55), (some 56), (some 57), (some 58), (some 59), (some 60), (some 61), (some 62), (some 63), none] (L21_7).1 [(3, [22, 23, 25]), (7, [22, 23, 25]), (11, [22, 23]), (15, [22, 23]), (17, [22, 23]), (21, [22])] (lstates Tryd.prog (callw Tryd.prog TT S) [(some 39), (some 40), (some 41), (some 42), (some 43), (some 44), (some 45), (some 46), (some 47), (some 48), (some 49), (some 50), (some 51), (some 52), (some 53), (some 54), (some 55), (some 56), (some 57), (some 58), (some 59), (some 60), (some 61), (some 62), (some 63), none] (L21_7).1 E m))) k E Q := w_loud (by kernel_rfl) (L21_7).2
noncomputable def L21_8 : {l : List Oper // (opsOf r21_8).map strip = l} := by refine ⟨?l, ?h⟩; case h => simp only [r21_8, c21, bodyOf, Tryd.f21, Code.sub, opsOf, List.map_cons, List.map_nil, strip]; rfl
theorem w21_8 : W Tryd.prog TT S 15 [36, 87] r21_8 k E m Q ↔ Rg Tryd.prog TT S 15 [36, 87] [14] [] (lgo E [14] (lops Tryd.prog (callw Tryd.prog TT S) [(some 37), (some 38), (some 14)] (L21_8).1 E m)) k E Q := w_plain (by kernel_rfl) (L21_8).2
noncomputable def L21_9 : {l : List Oper // (opsOf r21_9).map strip = l} := by refine ⟨?l, ?h⟩; case h => simp only [r21_9, c21, bodyOf, Tryd.f21, Code.sub, opsOf, List.map_cons, List.map_nil, strip]; rfl
theorem w21_9 : W Tryd.prog TT S 15 [36, 87] r21_9 k E m Q ↔ Rg Tryd.prog TT S 15 [36, 87] [] [] (lgo E [0, 1] (lops Tryd.prog (callw Tryd.prog TT S) [(some 64), (some 65), (some 66), (some 67)] (L21_9).1 E m)) k E Q := w_plain (by kernel_rfl) (L21_9).2
noncomputable def L21_10 : {l : List Oper // (opsOf r21_10).map strip = l} := by refine ⟨?l, ?h⟩; case h => simp only [r21_10, c21, bodyOf, Tryd.f21, Code.sub, opsOf, List.map_cons, List.map_nil, strip]; rfl
theorem w21_10 : W Tryd.prog TT S 15 [36, 87] r21_10 k E m Q ↔ Rg Tryd.prog TT S 15 [36, 87] [] [] (lgo E [0] (lops Tryd.prog (callw Tryd.prog TT S) [(some 68), (some 69)] (L21_10).1 E m)) k E Q := w_plain (by kernel_rfl) (L21_10).2
theorem can21_11 : canonOps (opsOf r21_11) = List.filterMap (fun i => ((opsOf r21_11)[i]?).map (renum [0, 1, 2, 3, 4, 5, 6, 7, 8, 9, 10, 11, 12, 13])) [0, 1, 2, 3, 4, 5, 6, 7, 8, 9, 10, 11, 12, 13] := by kernel_rfl
noncomputable def L21_11 : {l : List Oper // (canonOps (opsOf r21_11)).map strip = l} := by refine ⟨?l, (congrArg (List.map strip) can21_11).trans ?h⟩; case h => simp only [r21_11, c21, bodyOf, Tryd.f21, Code.sub, opsOf, List.filterMap_cons, List.filterMap_nil, List.getElem?_cons_succ, List.getElem?_cons_zero, Option.map_some, renum, List.map_cons, List.map_nil, strip]; rfl
theorem w21_11 : W Tryd.prog TT S 15 [36, 87] r21_11 k E m Q ↔ Rg Tryd.prog TT S 15 [36, 87] [] [] (lgo E [0] (lloud Tryd.prog (callw Tryd.prog TT S) [(some 70), (some 71), (some 72), (some 73), (some 74), (some 75), (some 76), (some 77), (some 78), (some 79), (some 80), (some 81), (some 82), none] (L21_11).1 [(3, [10, 11, 13]), (7, [10, 11]), (9, [10, 11])] (lstates Tryd.prog (callw Tryd.prog TT S) [(some 70), (some 71), (some 72), (some 73), (some 74), (some 75), (some 76), (some 77), (some 78), (some 79), (some 80), (some 81), (some 82), none] (L21_11).1 E m))) k E Q := w_loud (by kernel_rfl) (L21_11).2
noncomputable def L21_12 : {l : List Oper // (opsOf r21_12).map strip = l} := by refine ⟨?l, ?h⟩; case h => simp only [r21_12, c21, bodyOf, Tryd.f21, Code.sub, opsOf, List.map_cons, List.map_nil, strip]; rfl
theorem w21_12 : W Tryd.prog TT S 15 [36, 87] r21_12 k E m Q ↔ Rg Tryd.prog TT S 15 [36, 87] [] [] (lgo E [0, 5] (lops Tryd.prog (callw Tryd.prog TT S) [(some 83), (some 84), (some 85)] (L21_12).1 E m)) k E Q := w_plain (by kernel_rfl) (L21_12).2
noncomputable def L21_13 : {l : List Oper // (opsOf r21_13).map strip = l} := by refine ⟨?l, ?h⟩; case h => simp only [r21_13, c21, bodyOf, Tryd.f21, Code.sub, opsOf, List.map_cons, List.map_nil, strip]; rfl
theorem w21_13 : W Tryd.prog TT S 15 [36, 87] r21_13 k E m Q ↔ Rg Tryd.prog TT S 15 [36, 87] [] [87] (lgo E [4] (lops Tryd.prog (callw Tryd.prog TT S) [(some 86), (some 87)] (L21_13).1 E m)) k E Q := w_plain (by kernel_rfl) (L21_13).2
noncomputable def L21_14 : {l : List Oper // (opsOf r21_14).map strip = l} := by refine ⟨?l, ?h⟩; case h => simp only [r21_14, c21, bodyOf, Tryd.f21, Code.sub, opsOf, List.map_cons, List.map_nil, strip]; rfl
theorem w21_14 : W Tryd.prog TT S 15 [36, 87] r21_14 k E m Q ↔ Rg Tryd.prog TT S 15 [36, 87] [] [] (lgo E [0, 4] (lops Tryd.prog (callw Tryd.prog TT S) [(some 88), (some 89), (some 90), (some 91), (some 92), (some 93)] (L21_14).1 E m)) k E Q := w_plain (by kernel_rfl) (L21_14).2
noncomputable def L21_15 : {l : List Oper // (opsOf r21_15).map strip = l} := by refine ⟨?l, ?h⟩; case h => simp only [r21_15, c21, bodyOf, Tryd.f21, Code.sub, opsOf, List.map_cons, List.map_nil, strip]; rfl
theorem w21_15 : W Tryd.prog TT S 15 [36, 87] r21_15 k E m Q ↔ Rg Tryd.prog TT S 15 [36, 87] [] [] (lgo E [0] (lops Tryd.prog (callw Tryd.prog TT S) [(some 94), (some 95)] (L21_15).1 E m)) k E Q := w_plain (by kernel_rfl) (L21_15).2
theorem k21 : FnIs TT 21 c21 [] 7 := ⟨Tryd.f21, by kernel_rfl, by simp only [Tryd.f21, c21, bodyOf], by kernel_rfl, of_decide_eq_true (by kernel_rfl)⟩

/- (*turnstonehand.maker).next -/
noncomputable def c22 : Code := bodyOf Tryd.f22
noncomputable def r22_0 : Code := Code.sub [0] c22
noncomputable def r22_1 : Code := Code.sub [1, 0, 0] c22
noncomputable def r22_2 : Code := Code.sub [1, 0, 1, 0, 0] c22
noncomputable def r22_3 : Code := Code.sub [1, 1, 0] c22
noncomputable def r22_4 : Code := Code.sub [1, 1, 1, 0] c22
theorem body22 : c22 = (.seq r22_0 (.seq (.seq r22_1 (.cond (.tmp 14) (.seq r22_2 .ret) .skip)) (.seq r22_3 (.seq r22_4 .ret)))) := by kernel_rfl
noncomputable def L22_0 : {l : List Oper // (opsOf r22_0).map strip = l} := by refine ⟨?l, ?h⟩; case h => simp only [r22_0, c22, bodyOf, Tryd.f22, Code.sub, opsOf, List.map_cons, List.map_nil, strip]; rfl
theorem w22_0 : W Tryd.prog TT S 5 [14] r22_0 k E m Q ↔ Rg Tryd.prog TT S 5 [14] [4] [] (lgo E [] (lops Tryd.prog (callw Tryd.prog TT S) [(some 4)] (L22_0).1 E m)) k E Q := w_plain (by kernel_rfl) (L22_0).2
noncomputable def L22_1 : {l : List Oper // (opsOf r22_1).map strip = l} := by refine ⟨?l, ?h⟩; case h => simp only [r22_1, c22, bodyOf, Tryd.f22, Code.sub, opsOf, List.map_cons, List.map_nil, strip]; rfl
theorem w22_1 : W Tryd.prog TT S 5 [14] r22_1 k E m Q ↔ Rg Tryd.prog TT S 5 [14] [] [14] (lgo E [0] (lops Tryd.prog (callw Tryd.prog TT S) [(some 5), (some 6), (some 7), (some 8), (some 9), (some 10), (some 11), (some 12), (some 13), (some 14)] (L22_1).1 E m)) k E Q := w_plain (by kernel_rfl) (L22_1).2
noncomputable def L22_2 : {l : List Oper // (opsOf r22_2).map strip = l} := by refine ⟨?l, ?h⟩; case h => simp only [r22_2, c22, bodyOf, Tryd.f22, Code.sub, opsOf, List.map_cons, List.map_nil, strip]; rfl
theorem w22_2 : W Tryd.prog TT S 5 [14] r22_2 k E m Q ↔ Rg Tryd.prog TT S 5 [14] [4] [] (lgo E [] (lops Tryd.prog (callw Tryd.prog TT S) [(some 4)] (L22_2).1 E m)) k E Q := w_plain (by kernel_rfl) (L22_2).2
noncomputable def L22_3 : {l : List Oper // (opsOf r22_3).map strip = l} := by refine ⟨?l, ?h⟩; case h => simp only [r22_3, c22, bodyOf, Tryd.f22, Code.sub, opsOf, List.map_cons, List.map_nil, strip]; rfl
theorem w22_3 : W Tryd.prog TT S 5 [14] r22_3 k E m Q ↔ Rg Tryd.prog TT S 5 [14] [] [] (lgo E [0] (lops Tryd.prog (callw Tryd.prog TT S) [(some 15), (some 16), (some 17), (some 18), (some 19), (some 20), (some 21), none] (L22_3).1 E m)) k E Q := w_plain (by kernel_rfl) (L22_3).2
theorem can22_4 : canonOps (opsOf r22_4) = opsOf r22_4 := by kernel_rfl
noncomputable def L22_4 : {l : List Oper // (canonOps (opsOf r22_4)).map strip = l} := by refine ⟨?l, (congrArg (List.map strip) can22_4).trans ?h⟩; case h => simp only [r22_4, c22, bodyOf, Tryd.f22, Code.sub, opsOf, List.map_cons, List.map_nil, strip]; rfl
theorem w22_4 : W Tryd.prog TT S 5 [14] r22_4 k E m Q ↔ Rg Tryd.prog TT S 5 [14] [4] [] (lgo E [0, 1] (lloud Tryd.prog (callw Tryd.prog TT S) [(some 22), (some 23), (some 24), (some 25), (some 26), (some 27), (some 28), (some 29), (some 30), (some 31), (some 32), (some 33), (some 34), (some 4)] (L22_4).1 [(3, [12]), (7, [12]), (10, [12])] (lstates Tryd.prog (callw Tryd.prog TT S) [(some 22), (some 23), (some 24), (some 25), (some 26), (some 27), (some 28), (some 29), (some 30), (some 31), (some 32), (some 33), (some 34), (some 4)] (L22_4).1 E m))) k E Q := w_loud (by kernel_rfl) (L22_4).2
theorem k22 : FnIs TT 22 c22 [.tmp 4] 2 := ⟨Tryd.f22, by kernel_rfl, by simp only [Tryd.f22, c22, bodyOf], by kernel_rfl, of_decide_eq_true (by kernel_rfl)⟩

/- (*turnstonehand.maker).tabs -/
noncomputable def c33 : Code := bodyOf Tryd.f33
noncomputable def r33_0 : Code := Code.sub [0] c33
noncomputable def r33_1 : Code := Code.sub [1, 0] c33
noncomputable def r33_2 : Code := Code.sub [1, 1, 0, 0] c33
noncomputable def r33_3 : Code := Code.sub [1, 1, 0, 1, 0, 0, 0, 0] c33
noncomputable def r33_4 : Code := Code.sub [1, 1, 0, 1, 0, 0, 1, 0, 0] c33
noncomputable def r33_5 : Code := Code.sub [1, 1, 0, 1, 0, 0, 1, 1] c33
noncomputable def r33_6 : Code := Code.sub [1, 1, 1, 0] c33
theorem body33 : c33 = (.seq r33_0 (.seq r33_1 (.seq (.seq r33_2 (.block 0 (.loop (.seq (.seq r33_3 (.cond (.tmp 9) .skip (.exit 0))) (.seq (.block 1 r33_4) r33_5))))) (.seq r33_6 .ret)))) := by kernel_rfl
noncomputable def L33_0 : {l : List Oper // (opsOf r33_0).map strip = l} := by refine ⟨?l, ?h⟩; case h => simp only [r33_0, c33, bodyOf, Tryd.f33, Code.sub, opsOf, List.map_cons, List.map_nil, strip]; rfl
theorem w33_0 : W Tryd.prog TT S 7 [9] r33_0 k E m Q ↔ Rg Tryd.prog TT S 7 [9] [4] [] (lgo E [] (lops Tryd.prog (callw Tryd.prog TT S) [(some 4)] (L33_0).1 E m)) k E Q := w_plain (by kernel_rfl) (L33_0).2
noncomputable def L33_1 : {l : List Oper // (opsOf r33_1).map strip = l} := by refine ⟨?l, ?h⟩; case h => simp only [r33_1, c33, bodyOf, Tryd.f33, Code.sub, opsOf, List.map_cons, List.map_nil, strip]; rfl
theorem w33_1 : W Tryd.prog TT S 7 [9] r33_1 k E m Q ↔ Rg Tryd.prog TT S 7 [9] [5] [] (lgo E [] (lops Tryd.prog (callw Tryd.prog TT S) [(some 5)] (L33_1).1 E m)) k E Q := w_plain (by kernel_rfl) (L33_1).2
noncomputable def L33_2 : {l : List Oper // (opsOf r33_2).map strip = l} := by refine ⟨?l, ?h⟩; case h => simp only [r33_2, c33, bodyOf, Tryd.f33, Code.sub, opsOf, List.map_cons, List.map_nil, strip]; rfl
theorem w33_2 : W Tryd.prog TT S 7 [9] r33_2 k E m Q ↔ Rg Tryd.prog TT S 7 [9] [6] [] (lgo E [] (lops Tryd.prog (callw Tryd.prog TT S) [(some 6)] (L33_2).1 E m)) k E Q := w_plain (by kernel_rfl) (L33_2).2
noncomputable def L33_3 : {l : List Oper // (opsOf r33_3).map strip = l} := by refine ⟨?l, ?h⟩; case h => simp only [r33_3, c33, bodyOf, Tryd.f33, Code.sub, opsOf, List.map_cons, List.map_nil, strip]; rfl
theorem w33_3 : W Tryd.prog TT S 7 [9] r33_3 k E m Q ↔ Rg Tryd.prog TT S 7 [9] [] [9] (lgo E [6, 1] (lops Tryd.prog (callw Tryd.prog TT S) [(some 7), (some 8), (some 9)] (L33_3).1 E m)) k E Q := w_plain (by kernel_rfl) (L33_3).2
noncomputable def L33_4 : {l : List Oper // (opsOf r33_4).map strip = l} := by refine ⟨?l, ?h⟩; case h => simp only [r33_4, c33, bodyOf, Tryd.f33, Code.sub, opsOf, List.map_cons, List.map_nil, strip]; rfl
theorem w33_4 : W Tryd.prog TT S 7 [9] r33_4 k E m Q ↔ Rg Tryd.prog TT S 7 [9] [5] [] (lgo E [5] (lops Tryd.prog (callw Tryd.prog TT S) [(some 12), (some 13), (some 5)] (L33_4).1 E m)) k E Q := w_plain (by kernel_rfl) (L33_4).2
noncomputable def L33_5 : {l : List Oper // (opsOf r33_5).map strip = l} := by refine ⟨?l, ?h⟩; case h => simp only [r33_5, c33, bodyOf, Tryd.f33, Code.sub, opsOf, List.map_cons, List.map_nil, strip]; rfl
theorem w33_5 : W Tryd.prog TT S 7 [9] r33_5 k E m Q ↔ Rg Tryd.prog TT S 7 [9] [6] [] (lgo E [6] (lops Tryd.prog (callw Tryd.prog TT S) [(some 10), (some 11), (some 6)] (L33_5).1 E m)) k E Q := w_plain (by kernel_rfl) (L33_5).2
noncomputable def L33_6 : {l : List Oper // (opsOf r33_6).map strip = l} := by refine ⟨?l, ?h⟩; case h => simp only [r33_6, c33, bodyOf, Tryd.f33, Code.sub, opsOf, List.map_cons, List.map_nil, strip]; rfl
theorem w33_6 : W Tryd.prog TT S 7 [9] r33_6 k E m Q ↔ Rg Tryd.prog TT S 7 [9] [4] [] (lgo E [5] (lops Tryd.prog (callw Tryd.prog TT S) [(some 14), (some 4)] (L33_6).1 E m)) k E Q := w_plain (by kernel_rfl) (L33_6).2
theorem k33 : FnIs TT 33 c33 [.tmp 4] 2 := ⟨Tryd.f33, by kernel_rfl, by simp only [Tryd.f33, c33, bodyOf], by kernel_rfl, of_decide_eq_true (by kernel_rfl)⟩

/- (*turnstonehand.maker).stmts -/
noncomputable def c34 : Code := bodyOf Tryd.f34
noncomputable def r34_0 : Code := Code.sub [0] c34
noncomputable def r34_1 : Code := Code.sub [1, 0, 0] c34
noncomputable def r34_2 : Code := Code.sub [1, 0, 1, 0, 0, 0, 0] c34
noncomputable def r34_3 : Code := Code.sub [1, 0, 1, 0, 0, 1, 0, 0] c34
noncomputable def r34_4 : Code := Code.sub [1, 0, 1, 0, 0, 1, 1] c34
noncomputable def r34_5 : Code := Code.sub [1, 1] c34
theorem body34 : c34 = (.seq r34_0 (.seq (.seq r34_1 (.block 0 (.loop (.seq (.seq r34_2 (.cond (.tmp 18) .skip (.exit 0))) (.seq (.block 1 r34_3) r34_4))))) r34_5)) := by kernel_rfl
noncomputable def L34_0 : {l : List Oper // (opsOf r34_0).map strip = l} := by refine ⟨?l, ?h⟩; case h => simp only [r34_0, c34, bodyOf, Tryd.f34, Code.sub, opsOf, List.map_cons, List.map_nil, strip]; rfl
theorem w34_0 : W Tryd.prog TT S 8 [18] r34_0 k E m Q ↔ Rg Tryd.prog TT S 8 [18] [6] [] (lgo E [0] (lops Tryd.prog (callw Tryd.prog TT S) [(some 8), (some 9), (some 10), (some 11), (some 12), (some 13), (some 6)] (L34_0).1 E m)) k E Q := w_plain (by kernel_rfl) (L34_0).2
noncomputable def L34_1 : {l : List Oper // (opsOf r34_1).map strip = l} := by refine ⟨?l, ?h⟩; case h => simp only [r34_1, c34, bodyOf, Tryd.f34, Code.sub, opsOf, List.map_cons, List.map_nil, strip]; rfl
theorem w34_1 : W Tryd.prog TT S 8 [18] r34_1 k E m Q ↔ Rg Tryd.prog TT S 8 [18] [7] [] (lgo E [0] (lops Tryd.prog (callw Tryd.prog TT S) [(some 14), (some 15), (some 16), (some 7)] (L34_1).1 E m)) k E Q := w_plain (by kernel_rfl) (L34_1).2
noncomputable def L34_2 : {l : List Oper // (opsOf r34_2).map strip = l} := by refine ⟨?l, ?h⟩; case h => simp only [r34_2, c34, bodyOf, Tryd.f34, Code.sub, opsOf, List.map_cons, List.map_nil, strip]; rfl
theorem w34_2 : W Tryd.prog TT S 8 [18] r34_2 k E m Q ↔ Rg Tryd.prog TT S 8 [18] [] [18] (lgo E [7] (lops Tryd.prog (callw Tryd.prog TT S) [(some 17), (some 18)] (L34_2).1 E m)) k E Q := w_plain (by kernel_rfl) (L34_2).2
noncomputable def L34_3 : {l : List Oper // (opsOf r34_3).map strip = l} := by refine ⟨?l, ?h⟩; case h => simp only [r34_3, c34, bodyOf, Tryd.f34, Code.sub, opsOf, List.map_cons, List.map_nil, strip]; rfl
theorem w34_3 : W Tryd.prog TT S 8 [18] r34_3 k E m Q ↔ Rg Tryd.prog TT S 8 [18] [] [] (lgo E [0, 1, 2] (lops Tryd.prog (callw Tryd.prog TT S) [(some 21), (some 22), (some 23), (some 24)] (L34_3).1 E m)) k E Q := w_plain (by kernel_rfl) (L34_3).2
noncomputable def L34_4 : {l : List Oper // (opsOf r34_4).map strip = l} := by refine ⟨?l, ?h⟩; case h => simp only [r34_4, c34, bodyOf, Tryd.f34, Code.sub, opsOf, List.map_cons, List.map_nil, strip]; rfl
theorem w34_4 : W Tryd.prog TT S 8 [18] r34_4 k E m Q ↔ Rg Tryd.prog TT S 8 [18] [7] [] (lgo E [7] (lops Tryd.prog (callw Tryd.prog TT S) [(some 19), (some 20), (some 7)] (L34_4).1 E m)) k E Q := w_plain (by kernel_rfl) (L34_4).2
noncomputable def L34_5 : {l : List Oper // (opsOf r34_5).map strip = l} := by refine ⟨?l, ?h⟩; case h => simp only [r34_5, c34, bodyOf, Tryd.f34, Code.sub, opsOf, List.map_cons, List.map_nil, strip]; rfl
theorem w34_5 : W Tryd.prog TT S 8 [18] r34_5 k E m Q ↔ Rg Tryd.prog TT S 8 [18] [] [] (lgo E [0, 6] (lops Tryd.prog (callw Tryd.prog TT S) [(some 25), (some 26), (some 27), (some 28), none] (L34_5).1 E m)) k E Q := w_plain (by kernel_rfl) (L34_5).2
theorem k34 : FnIs TT 34 c34 [] 3 := ⟨Tryd.f34, by kernel_rfl, by simp only [Tryd.f34, c34, bodyOf], by kernel_rfl, of_decide_eq_true (by kernel_rfl)⟩

/- (*turnstonehand.maker).expr -/
noncomputable def c35 : Code := bodyOf Tryd.f35
noncomputable def r35_0 : Code := Code.sub [0] c35
noncomputable def r35_1 : Code := Code.sub [1, 0] c35
noncomputable def r35_2 : Code := Code.sub [1, 1, 0, 0] c35
noncomputable def r35_3 : Code := Code.sub [1, 1, 0, 1, 0, 0] c35
noncomputable def r35_4 : Code := Code.sub [1, 1, 1, 0] c35
noncomputable def r35_5 : Code := Code.sub [1, 1, 1, 1, 0, 0] c35
noncomputable def r35_6 : Code := Code.sub [1, 1, 1, 1, 0, 1, 0, 0] c35
noncomputable def r35_7 : Code := Code.sub [1, 1, 1, 1, 0, 1, 0, 1, 0, 0] c35
noncomputable def r35_8 : Code := Code.sub [1, 1, 1, 1, 0, 1, 0, 1, 0, 1, 0, 0, 0] c35
noncomputable def r35_9 : Code := Code.sub [1, 1, 1, 1, 0, 1, 0, 1, 0, 1, 0, 0, 1, 1] c35
noncomputable def r35_10 : Code := Code.sub [1, 1, 1, 1, 0, 1, 0, 1, 0, 1, 0, 1, 0, 0] c35
noncomputable def r35_11 : Code := Code.sub [1, 1, 1, 1, 0, 1, 0, 1, 0, 1, 0, 1, 1, 0] c35
noncomputable def r35_12 : Code := Code.sub [1, 1, 1, 1, 0, 1, 0, 1, 0, 1, 0, 1, 1, 1, 0, 0] c35
noncomputable def r35_13 : Code := Code.sub [1, 1, 1, 1, 0, 1, 0, 1, 0, 1, 0, 1, 1, 1, 1, 0] c35
noncomputable def r35_14 : Code := Code.sub [1, 1, 1, 1, 0, 1, 0, 1, 0, 1, 0, 1, 1, 1, 1, 1, 0, 0] c35
noncomputable def r35_15 : Code := Code.sub [1, 1, 1, 1, 0, 1, 0, 1, 0, 1, 0, 1, 1, 1, 1, 1, 1, 0] c35
noncomputable def r35_16 : Code := Code.sub [1, 1, 1, 1, 0, 1, 0, 1, 0, 1, 0, 1, 1, 1, 1, 1, 1, 1, 0, 0] c35
noncomputable def r35_17 : Code := Code.sub [1, 1, 1, 1, 0, 1, 0, 1, 0, 1, 0, 1, 1, 1, 1, 1, 1, 1, 1, 0] c35
noncomputable def r35_18 : Code := Code.sub [1, 1, 1, 1, 0, 1, 0, 1, 0, 1, 0, 1, 1, 1, 1, 1, 1, 1, 1, 1, 0, 0] c35
noncomputable def r35_19 : Code := Code.sub [1, 1, 1, 1, 0, 1, 0, 1, 0, 1, 0, 1, 1, 1, 1, 1, 1, 1, 1, 1, 1, 0] c35
noncomputable def r35_20 : Code := Code.sub [1, 1, 1, 1, 0, 1, 0, 1, 0, 1, 0, 1, 1, 1, 1, 1, 1, 1, 1, 1, 1, 1, 0, 0] c35
noncomputable def r35_21 : Code := Code.sub [1, 1, 1, 1, 0, 1, 0, 1, 0, 1, 0, 1, 1, 1, 1, 1, 1, 1, 1, 1, 1, 1, 1, 0] c35
noncomputable def r35_22 : Code := Code.sub [1, 1, 1, 1, 0, 1, 0, 1, 0, 1, 0, 1, 1, 1, 1, 1, 1, 1, 1, 1, 1, 1, 1, 1, 0, 0] c35
noncomputable def r35_23 : Code := Code.sub [1, 1, 1, 1, 0, 1, 0, 1, 0, 1, 0, 1, 1, 1, 1, 1, 1, 1, 1, 1, 1, 1, 1, 1, 1, 0] c35
noncomputable def r35_24 : Code := Code.sub [1, 1, 1, 1, 0, 1, 0, 1, 0, 1, 0, 1, 1, 1, 1, 1, 1, 1, 1, 1, 1, 1, 1, 1, 1, 1, 0, 0] c35
noncomputable def r35_25 : Code := Code.sub [1, 1, 1, 1, 0, 1, 0, 1, 0, 1, 0, 1, 1, 1, 1, 1, 1, 1, 1, 1, 1, 1, 1, 1, 1, 1, 1, 0] c35
noncomputable def r35_26 : Code := Code.sub [1, 1, 1, 1, 0, 1, 0, 1, 0, 1, 0, 1, 1, 1, 1, 1, 1, 1, 1, 1, 1, 1, 1, 1, 1, 1, 1, 1, 0, 0] c35
noncomputable def r35_27 : Code := Code.sub [1, 1, 1, 1, 0, 1, 0, 1, 0, 1, 0, 1, 1, 1, 1, 1, 1, 1, 1, 1, 1, 1, 1, 1, 1, 1, 1, 1, 1, 0] c35
noncomputable def r35_28 : Code := Code.sub [1, 1, 1, 1, 0, 1, 0, 1, 0, 1, 0, 1, 1, 1, 1, 1, 1, 1, 1, 1, 1, 1, 1, 1, 1, 1, 1, 1, 1, 1, 0, 0] c35
noncomputable def r35_29 : Code := Code.sub [1, 1, 1, 1, 0, 1, 0, 1, 0, 1, 0, 1, 1, 1, 1, 1, 1, 1, 1, 1, 1, 1, 1, 1, 1, 1, 1, 1, 1, 1, 1, 0] c35
noncomputable def r35_30 : Code := Code.sub [1, 1, 1, 1, 0, 1, 0, 1, 0, 1, 0, 1, 1, 1, 1, 1, 1, 1, 1, 1, 1, 1, 1, 1, 1, 1, 1, 1, 1, 1, 1, 1, 0, 0] c35
noncomputable def r35_31 : Code := Code.sub [1, 1, 1, 1, 0, 1, 0, 1, 0, 1, 0, 1, 1, 1, 1, 1, 1, 1, 1, 1, 1, 1, 1, 1, 1, 1, 1, 1, 1, 1, 1, 1, 0, 1, 0, 0] c35
noncomputable def r35_32 : Code := Code.sub [1, 1, 1, 1, 0, 1, 0, 1, 0, 1, 0, 1, 1, 1, 1, 1, 1, 1, 1, 1, 1, 1, 1, 1, 1, 1, 1, 1, 1, 1, 1, 1, 1, 0] c35
noncomputable def r35_33 : Code := Code.sub [1, 1, 1, 1, 0, 1, 0, 1, 0, 1, 0, 1, 1, 1, 1, 1, 1, 1, 1, 1, 1, 1, 1, 1, 1, 1, 1, 1, 1, 1, 1, 1, 1, 1, 0, 0] c35
noncomputable def r35_34 : Code := Code.sub [1, 1, 1, 1, 0, 1, 0, 1, 0, 1, 0, 1, 1, 1, 1, 1, 1, 1, 1, 1, 1, 1, 1, 1, 1, 1, 1, 1, 1, 1, 1, 1, 1, 1, 0, 1, 0, 0] c35
noncomputable def r35_35 : Code := Code.sub [1, 1, 1, 1, 0, 1, 0, 1, 0, 1, 0, 1, 1, 1, 1, 1, 1, 1, 1, 1, 1, 1, 1, 1, 1, 1, 1, 1, 1, 1, 1, 1, 1, 1, 1, 0] c35
noncomputable def r35_36 : Code := Code.sub [1, 1, 1, 1, 0, 1, 0, 1, 0, 1, 0, 1, 1, 1, 1, 1, 1, 1, 1, 1, 1, 1, 1, 1, 1, 1, 1, 1, 1, 1, 1, 1, 1, 1, 1, 1, 0, 0] c35
noncomputable def r35_37 : Code := Code.sub [1, 1, 1, 1, 0, 1, 0, 1, 0, 1, 0, 1, 1, 1, 1, 1, 1, 1, 1, 1, 1, 1, 1, 1, 1, 1, 1, 1, 1, 1, 1, 1, 1, 1, 1, 1, 0, 1, 0, 0] c35
noncomputable def r35_38 : Code := Code.sub [1, 1, 1, 1, 0, 1, 0, 1, 0, 1, 0, 1, 1, 1, 1, 1, 1, 1, 1, 1, 1, 1, 1, 1, 1, 1, 1, 1, 1, 1, 1, 1, 1, 1, 1, 1, 1, 0] c35
noncomputable def r35_39 : Code := Code.sub [1, 1, 1, 1, 0, 1, 0, 1, 0, 1, 0, 1, 1, 1, 1, 1, 1, 1, 1, 1, 1, 1, 1, 1, 1, 1, 1, 1, 1, 1, 1, 1, 1, 1, 1, 1, 1, 1, 0, 0] c35
noncomputable def r35_40 : Code := Code.sub [1, 1, 1, 1, 0, 1, 0, 1, 1, 0] c35
noncomputable def r35_41 : Code := Code.sub [1, 1, 1, 1, 0, 1, 0, 1, 1, 1, 0, 0] c35
noncomputable def r35_42 : Code := Code.sub [1, 1, 1, 1, 0, 1, 0, 1, 1, 1, 0, 1, 0, 0, 0] c35
noncomputable def r35_43 : Code := Code.sub [1, 1, 1, 1, 0, 1, 0, 1, 1, 1, 0, 1, 0, 0, 1, 1, 0] c35
noncomputable def r35_44 : Code := Code.sub [1, 1, 1, 1, 0, 1, 0, 1, 1, 1, 0, 1, 0, 0, 1, 1, 1, 1] c35
noncomputable def r35_45 : Code := Code.sub [1, 1, 1, 1, 0, 1, 0, 1, 1, 1, 0, 1, 0, 1, 0, 0] c35
noncomputable def r35_46 : Code := Code.sub [1, 1, 1, 1, 0, 1, 0, 1, 1, 1, 0, 1, 0, 1, 1, 0] c35
noncomputable def r35_47 : Code := Code.sub [1, 1, 1, 1, 0, 1, 0, 1, 1, 1, 0, 1, 0, 1, 1, 1, 0, 0] c35
noncomputable def r35_48 : Code := Code.sub [1, 1, 1, 1, 0, 1, 0, 1, 1, 1, 0, 1, 0, 1, 1, 1, 1, 0] c35
noncomputable def r35_49 : Code := Code.sub [1, 1, 1, 1, 0, 1, 0, 1, 1, 1, 0, 1, 0, 1, 1, 1, 1, 1, 0, 0] c35
noncomputable def r35_50 : Code := Code.sub [1, 1, 1, 1, 0, 1, 0, 1, 1, 1, 0, 1, 0, 1, 1, 1, 1, 1, 1, 0] c35
noncomputable def r35_51 : Code := Code.sub [1, 1, 1, 1, 0, 1, 0, 1, 1, 1, 0, 1, 0, 1, 1, 1, 1, 1, 1, 1, 0, 0] c35
noncomputable def r35_52 : Code := Code.sub [1, 1, 1, 1, 0, 1, 0, 1, 1, 1, 0, 1, 0, 1, 1, 1, 1, 1, 1, 1, 1, 0] c35
noncomputable def r35_53 : Code := Code.sub [1, 1, 1, 1, 0, 1, 0, 1, 1, 1, 0, 1, 0, 1, 1, 1, 1, 1, 1, 1, 1, 1, 0, 0] c35
noncomputable def r35_54 : Code := Code.sub [1, 1, 1, 1, 0, 1, 0, 1, 1, 1, 0, 1, 0, 1, 1, 1, 1, 1, 1, 1, 1, 1, 1, 0] c35
noncomputable def r35_55 : Code := Code.sub [1, 1, 1, 1, 0, 1, 0, 1, 1, 1, 0, 1, 0, 1, 1, 1, 1, 1, 1, 1, 1, 1, 1, 1, 0, 0] c35
noncomputable def r35_56 : Code := Code.sub [1, 1, 1, 1, 0, 1, 0, 1, 1, 1, 0, 1, 0, 1, 1, 1, 1, 1, 1, 1, 1, 1, 1, 1, 1, 0] c35
noncomputable def r35_57 : Code := Code.sub [1, 1, 1, 1, 0, 1, 0, 1, 1, 1, 0, 1, 0, 1, 1, 1, 1, 1, 1, 1, 1, 1, 1, 1, 1, 1, 0, 0] c35
noncomputable def r35_58 : Code := Code.sub [1, 1, 1, 1, 0, 1, 0, 1, 1, 1, 1, 0] c35
noncomputable def r35_59 : Code := Code.sub [1, 1, 1, 1, 0, 1, 0, 1, 1, 1, 1, 1, 0, 0] c35
noncomputable def r35_60 : Code := Code.sub [1, 1, 1, 1, 0, 1, 0, 1, 1, 1, 1, 1, 0, 1, 0, 0] c35
noncomputable def r35_61 : Code := Code.sub [1, 1, 1, 1, 0, 1, 0, 1, 1, 1, 1, 1, 1, 0] c35
noncomputable def r35_62 : Code := Code.sub [1, 1, 1, 1, 0, 1, 0, 1, 1, 1, 1, 1, 1, 1, 0, 0] c35
noncomputable def r35_63 : Code := Code.sub [1, 1, 1, 1, 0, 1, 0, 1, 1, 1, 1, 1, 1, 1, 0, 1, 0, 0] c35
noncomputable def r35_64 : Code := Code.sub [1, 1, 1, 1, 0, 1, 0, 1, 1, 1, 1, 1, 1, 1, 0, 1, 0, 1, 0, 0] c35
noncomputable def r35_65 : Code := Code.sub [1, 1, 1, 1, 0, 1, 0, 1, 1, 1, 1, 1, 1, 1, 0, 1, 0, 1, 1, 0] c35
noncomputable def r35_66 : Code := Code.sub [1, 1, 1, 1, 0, 1, 0, 1, 1, 1, 1, 1, 1, 1, 0, 1, 0, 1, 1, 1, 0, 0] c35
noncomputable def r35_67 : Code := Code.sub [1, 1, 1, 1, 0, 1, 0, 1, 1, 1, 1, 1, 1, 1, 1, 0] c35
noncomputable def r35_68 : Code := Code.sub [1, 1, 1, 1, 0, 1, 0, 1, 1, 1, 1, 1, 1, 1, 1, 1, 0, 0] c35
noncomputable def r35_69 : Code := Code.sub [1, 1, 1, 1, 0, 1, 0, 1, 1, 1, 1, 1, 1, 1, 1, 1, 0, 1, 0, 0] c35
noncomputable def r35_70 : Code := Code.sub [1, 1, 1, 1, 0, 1, 0, 1, 1, 1, 1, 1, 1, 1, 1, 1, 0, 1, 0, 1, 0, 0] c35
noncomputable def r35_71 : Code := Code.sub [1, 1, 1, 1, 0, 1, 0, 1, 1, 1, 1, 1, 1, 1, 1, 1, 0, 1, 0, 1, 1, 0] c35
noncomputable def r35_72 : Code := Code.sub [1, 1, 1, 1, 0, 1, 0, 1, 1, 1, 1, 1, 1, 1, 1, 1, 0, 1, 0, 1, 1, 1, 0, 0] c35
noncomputable def r35_73 : Code := Code.sub [1, 1, 1, 1, 0, 1, 0, 1, 1, 1, 1, 1, 1, 1, 1, 1, 0, 1, 0, 1, 1, 1, 1, 0] c35
noncomputable def r35_74 : Code := Code.sub [1, 1, 1, 1, 0, 1, 0, 1, 1, 1, 1, 1, 1, 1, 1, 1, 0, 1, 0, 1, 1, 1, 1, 1, 0, 0] c35
noncomputable def r35_75 : Code := Code.sub [1, 1, 1, 1, 0, 1, 0, 1, 1, 1, 1, 1, 1, 1, 1, 1, 0, 1, 0, 1, 1, 1, 1, 1, 1, 0] c35
noncomputable def r35_76 : Code := Code.sub [1, 1, 1, 1, 0, 1, 0, 1, 1, 1, 1, 1, 1, 1, 1, 1, 0, 1, 0, 1, 1, 1, 1, 1, 1, 1, 0, 0] c35
noncomputable def r35_77 : Code := Code.sub [1, 1, 1, 1, 0, 1, 0, 1, 1, 1, 1, 1, 1, 1, 1, 1, 0, 1, 0, 1, 1, 1, 1, 1, 1, 1, 0, 1, 0, 0] c35
noncomputable def r35_78 : Code := Code.sub [1, 1, 1, 1, 0, 1, 0, 1, 1, 1, 1, 1, 1, 1, 1, 1, 1, 0] c35
noncomputable def r35_79 : Code := Code.sub [1, 1, 1, 1, 0, 1, 0, 1, 1, 1, 1, 1, 1, 1, 1, 1, 1, 1, 0, 0] c35
noncomputable def r35_80 : Code := Code.sub [1, 1, 1, 1, 0, 1, 0, 1, 1, 1, 1, 1, 1, 1, 1, 1, 1, 1, 0, 1, 0, 0] c35
noncomputable def r35_81 : Code := Code.sub [1, 1, 1, 1, 0, 1, 0, 1, 1, 1, 1, 1, 1, 1, 1, 1, 1, 1, 1, 0] c35
noncomputable def r35_82 : Code := Code.sub [1, 1, 1, 1, 0, 1, 0, 1, 1, 1, 1, 1, 1, 1, 1, 1, 1, 1, 1, 1, 0, 0] c35
noncomputable def r35_83 : Code := Code.sub [1, 1, 1, 1, 0, 1, 0, 1, 1, 1, 1, 1, 1, 1, 1, 1, 1, 1, 1, 1, 0, 1, 0, 0] c35
noncomputable def r35_84 : Code := Code.sub [1, 1, 1, 1, 0, 1, 0, 1, 1, 1, 1, 1, 1, 1, 1, 1, 1, 1, 1, 1, 0, 1, 0, 1, 0, 0] c35
noncomputable def r35_85 : Code := Code.sub [1, 1, 1, 1, 1, 0] c35
theorem body35 : c35 = (.seq r35_0 (.seq r35_1 (.seq (.seq r35_2 (.cond (.tmp 35) (.seq r35_3 .ret) .skip)) (.seq r35_4 (.seq (.seq r35_5 (.block 0 (.seq r35_6 (.cond (.tmp 41) (.seq r35_7 (.block 1 (.seq (.seq r35_8 (.cond (.tmp 45) .skip r35_9)) (.cond (.tmp 45) (.seq r35_10 .ret) (.seq r35_11 (.cond (.tmp 56) (.seq r35_12 .ret) (.seq r35_13 (.cond (.tmp 66) (.seq r35_14 .ret) (.seq r35_15 (.cond (.tmp 76) (.seq r35_16 .ret) (.seq r35_17 (.cond (.tmp 86) (.seq r35_18 .ret) (.seq r35_19 (.cond (.tmp 96) (.seq r35_20 .ret) (.seq r35_21 (.cond (.tmp 102) (.seq r35_22 .ret) (.seq r35_23 (.cond (.tmp 108) (.seq r35_24 .ret) (.seq r35_25 (.cond (.tmp 117) (.seq r35_26 .ret) (.seq r35_27 (.cond (.tmp 122) (.seq r35_28 .ret) (.seq r35_29 (.cond (.tmp 127) (.seq r35_30 (.cond (.tmp 132) (.seq r35_31 .ret) .skip)) (.seq r35_32 (.cond (.tmp 141) (.seq r35_33 (.cond (.tmp 146) (.seq r35_34 .ret) .skip)) (.seq r35_35 (.cond (.tmp 154) (.seq r35_36 (.cond (.tmp 159) (.seq r35_37 .ret) .skip)) (.seq r35_38 (.cond (.tmp 167) (.seq r35_39 .ret) .skip)))))))))))))))))))))))))))))) (.seq r35_40 (.cond (.tmp 176) (.seq r35_41 (.block 2 (.seq (.seq r35_42 (.cond (.tmp 180) .skip (.seq r35_43 (.cond (.tmp 180) .skip r35_44)))) (.cond (.tmp 180) (.seq r35_45 .ret) (.seq r35_46 (.cond (.tmp 196) (.seq r35_47 .ret) (.seq r35_48 (.cond (.tmp 206) (.seq r35_49 .ret) (.seq r35_50 (.cond (.tmp 216) (.seq r35_51 .ret) (.seq r35_52 (.cond (.tmp 222) (.seq r35_53 .ret) (.seq r35_54 (.cond (.tmp 233) (.seq r35_55 .ret) (.seq r35_56 (.cond (.tmp 247) (.seq r35_57 .ret) .skip)))))))))))))))) (.seq r35_58 (.cond (.tmp 261) (.seq r35_59 (.cond (.tmp 265) (.seq r35_60 .ret) .skip)) (.seq r35_61 (.cond (.tmp 274) (.seq r35_62 (.block 3 (.seq r35_63 (.cond (.tmp 278) (.seq r35_64 .ret) (.seq r35_65 (.cond (.tmp 284) (.seq r35_66 .ret) .skip)))))) (.seq r35_67 (.cond (.tmp 289) (.seq r35_68 (.block 4 (.seq r35_69 (.cond (.tmp 293) (.seq r35_70 .ret) (.seq r35_71 (.cond (.tmp 295) (.seq r35_72 .ret) (.seq r35_73 (.cond (.tmp 300) (.seq r35_74 .ret) (.seq r35_75 (.cond (.tmp 305) (.seq r35_76 (.cond (.tmp 310) (.seq r35_77 .ret) .skip)) .skip)))))))))) (.seq r35_78 (.cond (.tmp 315) (.seq r35_79 (.cond (.tmp 319) (.seq r35_80 .ret) .skip)) (.seq r35_81 (.cond (.tmp 320) (.seq r35_82 (.block 5 (.seq r35_83 (.cond (.tmp 324) (.seq r35_84 .ret) .skip)))) .skip)))))))))))))))) (.seq r35_85 .ret)))))) := by kernel_rfl
noncomputable def L35_0 : {l : List Oper // (opsOf r35_0).map strip = l} := by refine ⟨?l, ?h⟩; case h => simp only [r35_0, c35, bodyOf, Tryd.f35, Code.sub, opsOf, List.map_cons, List.map_nil, strip]; rfl
theorem w35_0 : W Tryd.prog TT S 324 [324] r35_0 k E m Q ↔ Rg Tryd.prog TT S 324 [324] [3, 5, 6] [] (lgo E [0, 2] (lops Tryd.prog (callw Tryd.prog TT S) [(some 3), (some 5), (some 6)] (L35_0).1 E m)) k E Q := w_plain (by kernel_rfl) (L35_0).2
noncomputable def L35_1 : {l : List Oper // (opsOf r35_1).map strip = l} := by refine ⟨?l, ?h⟩; case h => simp only [r35_1, c35, bodyOf, Tryd.f35, Code.sub, opsOf, List.map_cons, List.map_nil, strip]; rfl
theorem w35_1 : W Tryd.prog TT S 324 [324] r35_1 k E m Q ↔ Rg Tryd.prog TT S 324 [324] [8, 9, 10, 11, 12, 13, 14] [] (lgo E [3] (lops Tryd.prog (callw Tryd.prog TT S) [(some 8), (some 9), (some 10), (some 11), (some 12), (some 13), (some 14), none] (L35_1).1 E m)) k E Q := w_plain (by kernel_rfl) (L35_1).2
noncomputable def L35_2 : {l : List Oper // (opsOf r35_2).map strip = l} := by refine ⟨?l, ?h⟩; case h => simp only [r35_2, c35, bodyOf, Tryd.f35, Code.sub, opsOf, List.map_cons, List.map_nil, strip]; rfl
theorem w35_2 : W Tryd.prog TT S 324 [324] r35_2 k E m Q ↔ Rg Tryd.prog TT S 324 [324] [15, 16, 17, 18, 19, 20, 21, 22, 23, 24, 25, 26, 27, 28, 29, 30, 31, 32, 33, 34, 35] [] (lgo E [5, 3] (lops Tryd.prog (callw Tryd.prog TT S) [(some 15), (some 16), (some 17), (some 18), (some 19), (some 20), (some 21), (some 22), (some 23), (some 24), (some 25), (some 26), (some 27), (some 28), (some 29), (some 30), (some 31), (some 32), (some 33), (some 34), (some 35)] (L35_2).1 E m)) k E Q := w_plain (by kernel_rfl) (L35_2).2
noncomputable def L35_3 : {l : List Oper // (opsOf r35_3).map strip = l} := by refine ⟨?l, ?h⟩; case h => simp only [r35_3, c35, bodyOf, Tryd.f35, Code.sub, opsOf, List.map_cons, List.map_nil, strip]; rfl
theorem w35_3 : W Tryd.prog TT S 324 [324] r35_3 k E m Q ↔ Rg Tryd.prog TT S 324 [324] [36, 37, 38, 6] [] (lgo E [3, 1] (lops Tryd.prog (callw Tryd.prog TT S) [(some 36), (some 37), (some 38), (some 6)] (L35_3).1 E m)) k E Q := w_plain (by kernel_rfl) (L35_3).2
noncomputable def L35_4 : {l : List Oper // (opsOf r35_4).map strip = l} := by refine ⟨?l, ?h⟩; case h => simp only [r35_4, c35, bodyOf, Tryd.f35, Code.sub, opsOf, List.map_cons, List.map_nil, strip]; rfl
theorem w35_4 : W Tryd.prog TT S 324 [324] r35_4 k E m Q ↔ Rg Tryd.prog TT S 324 [324] [39, 7] [] (lgo E [3, 5] (lops Tryd.prog (callw Tryd.prog TT S) [(some 39), (some 7)] (L35_4).1 E m)) k E Q := w_plain (by kernel_rfl) (L35_4).2
noncomputable def L35_5 : {l : List Oper // (opsOf r35_5).map strip = l} := by refine ⟨?l, ?h⟩; case h => simp only [r35_5, c35, bodyOf, Tryd.f35, Code.sub, opsOf, List.map_cons, List.map_nil, strip]; rfl
theorem w35_5 : W Tryd.prog TT S 324 [324] r35_5 k E m Q ↔ Rg Tryd.prog TT S 324 [324] [40] [] (lgo E [1] (lops Tryd.prog (callw Tryd.prog TT S) [(some 40)] (L35_5).1 E m)) k E Q := w_plain (by kernel_rfl) (L35_5).2
noncomputable def L35_6 : {l : List Oper // (opsOf r35_6).map strip = l} := by refine ⟨?l, ?h⟩; case h => simp only [r35_6, c35, bodyOf, Tryd.f35, Code.sub, opsOf, List.map_cons, List.map_nil, strip]; rfl
theorem w35_6 : W Tryd.prog TT S 324 [324] r35_6 k E m Q ↔ Rg Tryd.prog TT S 324 [324] [42, 41] [] (lgo E [40] (lops Tryd.prog (callw Tryd.prog TT S) [(some 42), (some 41)] (L35_6).1 E m)) k E Q := w_plain (by kernel_rfl) (L35_6).2
noncomputable def L35_7 : {l : List Oper // (opsOf r35_7).map strip = l} := by refine ⟨?l, ?h⟩; case h => simp only [r35_7, c35, bodyOf, Tryd.f35, Code.sub, opsOf, List.map_cons, List.map_nil, strip]; rfl
theorem w35_7 : W Tryd.prog TT S 324 [324] r35_7 k E m Q ↔ Rg Tryd.prog TT S 324 [324] [43, 44] [] (lgo E [3] (lops Tryd.prog (callw Tryd.prog TT S) [(some 43), (some 44)] (L35_7).1 E m)) k E Q := w_plain (by kernel_rfl) (L35_7).2
noncomputable def L35_8 : {l : List Oper // (opsOf r35_8).map strip = l} := by refine ⟨?l, ?h⟩; case h => simp only [r35_8, c35, bodyOf, Tryd.f35, Code.sub, opsOf, List.map_cons, List.map_nil, strip]; rfl
theorem w35_8 : W Tryd.prog TT S 324 [324] r35_8 k E m Q ↔ Rg Tryd.prog TT S 324 [324] [46, 45] [] (lgo E [44] (lops Tryd.prog (callw Tryd.prog TT S) [(some 46), (some 45)] (L35_8).1 E m)) k E Q := w_plain (by kernel_rfl) (L35_8).2
noncomputable def L35_9 : {l : List Oper // (opsOf r35_9).map strip = l} := by refine ⟨?l, ?h⟩; case h => simp only [r35_9, c35, bodyOf, Tryd.f35, Code.sub, opsOf, List.map_cons, List.map_nil, strip]; rfl
theorem w35_9 : W Tryd.prog TT S 324 [324] r35_9 k E m Q ↔ Rg Tryd.prog TT S 324 [324] [47, 45] [] (lgo E [44] (lops Tryd.prog (callw Tryd.prog TT S) [(some 47), (some 45)] (L35_9).1 E m)) k E Q := w_plain (by kernel_rfl) (L35_9).2
noncomputable def L35_10 : {l : List Oper // (opsOf r35_10).map strip = l} := by refine ⟨?l, ?h⟩; case h => simp only [r35_10, c35, bodyOf, Tryd.f35, Code.sub, opsOf, List.map_cons, List.map_nil, strip]; rfl
theorem w35_10 : W Tryd.prog TT S 324 [324] r35_10 k E m Q ↔ Rg Tryd.prog TT S 324 [324] [48, 49, 50, 51, 52, 53, 54, 55, 6] [] (lgo E [7] (lops Tryd.prog (callw Tryd.prog TT S) [(some 48), (some 49), (some 50), (some 51), (some 52), (some 53), (some 54), (some 55), (some 6)] (L35_10).1 E m)) k E Q := w_plain (by kernel_rfl) (L35_10).2
noncomputable def L35_11 : {l : List Oper // (opsOf r35_11).map strip = l} := by refine ⟨?l, ?h⟩; case h => simp only [r35_11, c35, bodyOf, Tryd.f35, Code.sub, opsOf, List.map_cons, List.map_nil, strip]; rfl
theorem w35_11 : W Tryd.prog TT S 324 [324] r35_11 k E m Q ↔ Rg Tryd.prog TT S 324 [324] [57, 56] [] (lgo E [44] (lops Tryd.prog (callw Tryd.prog TT S) [(some 57), (some 56)] (L35_11).1 E m)) k E Q := w_plain (by kernel_rfl) (L35_11).2
noncomputable def L35_12 : {l : List Oper // (opsOf r35_12).map strip = l} := by refine ⟨?l, ?h⟩; case h => simp only [r35_12, c35, bodyOf, Tryd.f35, Code.sub, opsOf, List.map_cons, List.map_nil, strip]; rfl
theorem w35_12 : W Tryd.prog TT S 324 [324] r35_12 k E m Q ↔ Rg Tryd.prog TT S 324 [324] [58, 59, 60, 61, 62, 63, 64, 65, 6] [] (lgo E [7] (lops Tryd.prog (callw Tryd.prog TT S) [(some 58), (some 59), (some 60), (some 61), (some 62), (some 63), (some 64), (some 65), (some 6)] (L35_12).1 E m)) k E Q := w_plain (by kernel_rfl) (L35_12).2
noncomputable def L35_13 : {l : List Oper // (opsOf r35_13).map strip = l} := by refine ⟨?l, ?h⟩; case h => simp only [r35_13, c35, bodyOf, Tryd.f35, Code.sub, opsOf, List.map_cons, List.map_nil, strip]; rfl
theorem w35_13 : W Tryd.prog TT S 324 [324] r35_13 k E m Q ↔ Rg Tryd.prog TT S 324 [324] [67, 66] [] (lgo E [44] (lops Tryd.prog (callw Tryd.prog TT S) [(some 67), (some 66)] (L35_13).1 E m)) k E Q := w_plain (by kernel_rfl) (L35_13).2
noncomputable def L35_14 : {l : List Oper // (opsOf r35_14).map strip = l} := by refine ⟨?l, ?h⟩; case h => simp only [r35_14, c35, bodyOf, Tryd.f35, Code.sub, opsOf, List.map_cons, List.map_nil, strip]; rfl
theorem w35_14 : W Tryd.prog TT S 324 [324] r35_14 k E m Q ↔ Rg Tryd.prog TT S 324 [324] [68, 69, 70, 71, 72, 73, 74, 75, 6] [] (lgo E [7] (lops Tryd.prog (callw Tryd.prog TT S) [(some 68), (some 69), (some 70), (some 71), (some 72), (some 73), (some 74), (some 75), (some 6)] (L35_14).1 E m)) k E Q := w_plain (by kernel_rfl) (L35_14).2
noncomputable def L35_15 : {l : List Oper // (opsOf r35_15).map strip = l} := by refine ⟨?l, ?h⟩; case h => simp only [r35_15, c35, bodyOf, Tryd.f35, Code.sub, opsOf, List.map_cons, List.map_nil, strip]; rfl
theorem w35_15 : W Tryd.prog TT S 324 [324] r35_15 k E m Q ↔ Rg Tryd.prog TT S 324 [324] [77, 76] [] (lgo E [44] (lops Tryd.prog (callw Tryd.prog TT S) [(some 77), (some 76)] (L35_15).1 E m)) k E Q := w_plain (by kernel_rfl) (L35_15).2
noncomputable def L35_16 : {l : List Oper // (opsOf r35_16).map strip = l} := by refine ⟨?l, ?h⟩; case h => simp only [r35_16, c35, bodyOf, Tryd.f35, Code.sub, opsOf, List.map_cons, List.map_nil, strip]; rfl
theorem w35_16 : W Tryd.prog TT S 324 [324] r35_16 k E m Q ↔ Rg Tryd.prog TT S 324 [324] [78, 79, 80, 81, 82, 83, 84, 85, 6] [] (lgo E [7] (lops Tryd.prog (callw Tryd.prog TT S) [(some 78), (some 79), (some 80), (some 81), (some 82), (some 83), (some 84), (some 85), (some 6)] (L35_16).1 E m)) k E Q := w_plain (by kernel_rfl) (L35_16).2
noncomputable def L35_17 : {l : List Oper // (opsOf r35_17).map strip = l} := by refine ⟨?l, ?h⟩; case h => simp only [r35_17, c35, bodyOf, Tryd.f35, Code.sub, opsOf, List.map_cons, List.map_nil, strip]; rfl
theorem w35_17 : W Tryd.prog TT S 324 [324] r35_17 k E m Q ↔ Rg Tryd.prog TT S 324 [324] [87, 86] [] (lgo E [44] (lops Tryd.prog (callw Tryd.prog TT S) [(some 87), (some 86)] (L35_17).1 E m)) k E Q := w_plain (by kernel_rfl) (L35_17).2
noncomputable def L35_18 : {l : List Oper // (opsOf r35_18).map strip = l} := by refine ⟨?l, ?h⟩; case h => simp only [r35_18, c35, bodyOf, Tryd.f35, Code.sub, opsOf, List.map_cons, List.map_nil, strip]; rfl
theorem w35_18 : W Tryd.prog TT S 324 [324] r35_18 k E m Q ↔ Rg Tryd.prog TT S 324 [324] [88, 89, 90, 91, 92, 93, 94, 95, 6] [] (lgo E [7] (lops Tryd.prog (callw Tryd.prog TT S) [(some 88), (some 89), (some 90), (some 91), (some 92), (some 93), (some 94), (some 95), (some 6)] (L35_18).1 E m)) k E Q := w_plain (by kernel_rfl) (L35_18).2
noncomputable def L35_19 : {l : List Oper // (opsOf r35_19).map strip = l} := by refine ⟨?l, ?h⟩; case h => simp only [r35_19, c35, bodyOf, Tryd.f35, Code.sub, opsOf, List.map_cons, List.map_nil, strip]; rfl
theorem w35_19 : W Tryd.prog TT S 324 [324] r35_19 k E m Q ↔ Rg Tryd.prog TT S 324 [324] [97, 96] [] (lgo E [44] (lops Tryd.prog (callw Tryd.prog TT S) [(some 97), (some 96)] (L35_19).1 E m)) k E Q := w_plain (by kernel_rfl) (L35_19).2
noncomputable def L35_20 : {l : List Oper // (opsOf r35_20).map strip = l} := by refine ⟨?l, ?h⟩; case h => simp only [r35_20, c35, bodyOf, Tryd.f35, Code.sub, opsOf, List.map_cons, List.map_nil, strip]; rfl
theorem w35_20 : W Tryd.prog TT S 324 [324] r35_20 k E m Q ↔ Rg Tryd.prog TT S 324 [324] [98, 99, 100, 101, 6] [] (lgo E [7] (lops Tryd.prog (callw Tryd.prog TT S) [(some 98), (some 99), (some 100), (some 101), (some 6)] (L35_20).1 E m)) k E Q := w_plain (by kernel_rfl) (L35_20).2
noncomputable def L35_21 : {l : List Oper // (opsOf r35_21).map strip = l} := by refine ⟨?l, ?h⟩; case h => simp only [r35_21, c35, bodyOf, Tryd.f35, Code.sub, opsOf, List.map_cons, List.map_nil, strip]; rfl
theorem w35_21 : W Tryd.prog TT S 324 [324] r35_21 k E m Q ↔ Rg Tryd.prog TT S 324 [324] [103, 102] [] (lgo E [44] (lops Tryd.prog (callw Tryd.prog TT S) [(some 103), (some 102)] (L35_21).1 E m)) k E Q := w_plain (by kernel_rfl) (L35_21).2
noncomputable def L35_22 : {l : List Oper // (opsOf r35_22).map strip = l} := by refine ⟨?l, ?h⟩; case h => simp only [r35_22, c35, bodyOf, Tryd.f35, Code.sub, opsOf, List.map_cons, List.map_nil, strip]; rfl
theorem w35_22 : W Tryd.prog TT S 324 [324] r35_22 k E m Q ↔ Rg Tryd.prog TT S 324 [324] [104, 105, 106, 107, 6] [] (lgo E [7] (lops Tryd.prog (callw Tryd.prog TT S) [(some 104), (some 105), (some 106), (some 107), (some 6)] (L35_22).1 E m)) k E Q := w_plain (by kernel_rfl) (L35_22).2
noncomputable def L35_23 : {l : List Oper // (opsOf r35_23).map strip = l} := by refine ⟨?l, ?h⟩; case h => simp only [r35_23, c35, bodyOf, Tryd.f35, Code.sub, opsOf, List.map_cons, List.map_nil, strip]; rfl
theorem w35_23 : W Tryd.prog TT S 324 [324] r35_23 k E m Q ↔ Rg Tryd.prog TT S 324 [324] [109, 108] [] (lgo E [44] (lops Tryd.prog (callw Tryd.prog TT S) [(some 109), (some 108)] (L35_23).1 E m)) k E Q := w_plain (by kernel_rfl) (L35_23).2
noncomputable def L35_24 : {l : List Oper // (opsOf r35_24).map strip = l} := by refine ⟨?l, ?h⟩; case h => simp only [r35_24, c35, bodyOf, Tryd.f35, Code.sub, opsOf, List.map_cons, List.map_nil, strip]; rfl
theorem w35_24 : W Tryd.prog TT S 324 [324] r35_24 k E m Q ↔ Rg Tryd.prog TT S 324 [324] [110, 111, 112, 113, 114, 115, 116, 6] [] (lgo E [7] (lops Tryd.prog (callw Tryd.prog TT S) [(some 110), (some 111), (some 112), (some 113), (some 114), (some 115), (some 116), (some 6)] (L35_24).1 E m)) k E Q := w_plain (by kernel_rfl) (L35_24).2
noncomputable def L35_25 : {l : List Oper // (opsOf r35_25).map strip = l} := by refine ⟨?l, ?h⟩; case h => simp only [r35_25, c35, bodyOf, Tryd.f35, Code.sub, opsOf, List.map_cons, List.map_nil, strip]; rfl
theorem w35_25 : W Tryd.prog TT S 324 [324] r35_25 k E m Q ↔ Rg Tryd.prog TT S 324 [324] [118, 117] [] (lgo E [44] (lops Tryd.prog (callw Tryd.prog TT S) [(some 118), (some 117)] (L35_25).1 E m)) k E Q := w_plain (by kernel_rfl) (L35_25).2
noncomputable def L35_26 : {l : List Oper // (opsOf r35_26).map strip = l} := by refine ⟨?l, ?h⟩; case h => simp only [r35_26, c35, bodyOf, Tryd.f35, Code.sub, opsOf, List.map_cons, List.map_nil, strip]; rfl
theorem w35_26 : W Tryd.prog TT S 324 [324] r35_26 k E m Q ↔ Rg Tryd.prog TT S 324 [324] [119, 120, 121, 6] [] (lgo E [7] (lops Tryd.prog (callw Tryd.prog TT S) [(some 119), (some 120), (some 121), (some 6)] (L35_26).1 E m)) k E Q := w_plain (by kernel_rfl) (L35_26).2
noncomputable def L35_27 : {l : List Oper // (opsOf r35_27).map strip = l} := by refine ⟨?l, ?h⟩; case h => simp only [r35_27, c35, bodyOf, Tryd.f35, Code.sub, opsOf, List.map_cons, List.map_nil, strip]; rfl
theorem w35_27 : W Tryd.prog TT S 324 [324] r35_27 k E m Q ↔ Rg Tryd.prog TT S 324 [324] [123, 122] [] (lgo E [44] (lops Tryd.prog (callw Tryd.prog TT S) [(some 123), (some 122)] (L35_27).1 E m)) k E Q := w_plain (by kernel_rfl) (L35_27).2
noncomputable def L35_28 : {l : List Oper // (opsOf r35_28).map strip = l} := by refine ⟨?l, ?h⟩; case h => simp only [r35_28, c35, bodyOf, Tryd.f35, Code.sub, opsOf, List.map_cons, List.map_nil, strip]; rfl
theorem w35_28 : W Tryd.prog TT S 324 [324] r35_28 k E m Q ↔ Rg Tryd.prog TT S 324 [324] [124, 125, 126, 6] [] (lgo E [7] (lops Tryd.prog (callw Tryd.prog TT S) [(some 124), (some 125), (some 126), (some 6)] (L35_28).1 E m)) k E Q := w_plain (by kernel_rfl) (L35_28).2
noncomputable def L35_29 : {l : List Oper // (opsOf r35_29).map strip = l} := by refine ⟨?l, ?h⟩; case h => simp only [r35_29, c35, bodyOf, Tryd.f35, Code.sub, opsOf, List.map_cons, List.map_nil, strip]; rfl
theorem w35_29 : W Tryd.prog TT S 324 [324] r35_29 k E m Q ↔ Rg Tryd.prog TT S 324 [324] [128, 127] [] (lgo E [44] (lops Tryd.prog (callw Tryd.prog TT S) [(some 128), (some 127)] (L35_29).1 E m)) k E Q := w_plain (by kernel_rfl) (L35_29).2
noncomputable def L35_30 : {l : List Oper // (opsOf r35_30).map strip = l} := by refine ⟨?l, ?h⟩; case h => simp only [r35_30, c35, bodyOf, Tryd.f35, Code.sub, opsOf, List.map_cons, List.map_nil, strip]; rfl
theorem w35_30 : W Tryd.prog TT S 324 [324] r35_30 k E m Q ↔ Rg Tryd.prog TT S 324 [324] [129, 130, 131, 132] [] (lgo E [3] (lops Tryd.prog (callw Tryd.prog TT S) [(some 129), (some 130), (some 131), (some 132)] (L35_30).1 E m)) k E Q := w_plain (by kernel_rfl) (L35_30).2
noncomputable def L35_31 : {l : List Oper // (opsOf r35_31).map strip = l} := by refine ⟨?l, ?h⟩; case h => simp only [r35_31, c35, bodyOf, Tryd.f35, Code.sub, opsOf, List.map_cons, List.map_nil, strip]; rfl
theorem w35_31 : W Tryd.prog TT S 324 [324] r35_31 k E m Q ↔ Rg Tryd.prog TT S 324 [324] [133, 134, 135, 136, 137, 138, 139, 140, 6] [] (lgo E [7] (lops Tryd.prog (callw Tryd.prog TT S) [(some 133), (some 134), (some 135), (some 136), (some 137), (some 138), (some 139), (some 140), (some 6)] (L35_31).1 E m)) k E Q := w_plain (by kernel_rfl) (L35_31).2
noncomputable def L35_32 : {l : List Oper // (opsOf r35_32).map strip = l} := by refine ⟨?l, ?h⟩; case h => simp only [r35_32, c35, bodyOf, Tryd.f35, Code.sub, opsOf, List.map_cons, List.map_nil, strip]; rfl
theorem w35_32 : W Tryd.prog TT S 324 [324] r35_32 k E m Q ↔ Rg Tryd.prog TT S 324 [324] [142, 141] [] (lgo E [44] (lops Tryd.prog (callw Tryd.prog TT S) [(some 142), (some 141)] (L35_32).1 E m)) k E Q := w_plain (by kernel_rfl) (L35_32).2
noncomputable def L35_33 : {l : List Oper // (opsOf r35_33).map strip = l} := by refine ⟨?l, ?h⟩; case h => simp only [r35_33, c35, bodyOf, Tryd.f35, Code.sub, opsOf, List.map_cons, List.map_nil, strip]; rfl
theorem w35_33 : W Tryd.prog TT S 324 [324] r35_33 k E m Q ↔ Rg Tryd.prog TT S 324 [324] [143, 144, 145, 146] [] (lgo E [3] (lops Tryd.prog (callw Tryd.prog TT S) [(some 143), (some 144), (some 145), (some 146)] (L35_33).1 E m)) k E Q := w_plain (by kernel_rfl) (L35_33).2
noncomputable def L35_34 : {l : List Oper // (opsOf r35_34).map strip = l} := by refine ⟨?l, ?h⟩; case h => simp only [r35_34, c35, bodyOf, Tryd.f35, Code.sub, opsOf, List.map_cons, List.map_nil, strip]; rfl
theorem w35_34 : W Tryd.prog TT S 324 [324] r35_34 k E m Q ↔ Rg Tryd.prog TT S 324 [324] [147, 148, 149, 150, 151, 152, 153, 6] [] (lgo E [7] (lops Tryd.prog (callw Tryd.prog TT S) [(some 147), (some 148), (some 149), (some 150), (some 151), (some 152), (some 153), (some 6)] (L35_34).1 E m)) k E Q := w_plain (by kernel_rfl) (L35_34).2
noncomputable def L35_35 : {l : List Oper // (opsOf r35_35).map strip = l} := by refine ⟨?l, ?h⟩; case h => simp only [r35_35, c35, bodyOf, Tryd.f35, Code.sub, opsOf, List.map_cons, List.map_nil, strip]; rfl
theorem w35_35 : W Tryd.prog TT S 324 [324] r35_35 k E m Q ↔ Rg Tryd.prog TT S 324 [324] [155, 154] [] (lgo E [44] (lops Tryd.prog (callw Tryd.prog TT S) [(some 155), (some 154)] (L35_35).1 E m)) k E Q := w_plain (by kernel_rfl) (L35_35).2
noncomputable def L35_36 : {l : List Oper // (opsOf r35_36).map strip = l} := by refine ⟨?l, ?h⟩; case h => simp only [r35_36, c35, bodyOf, Tryd.f35, Code.sub, opsOf, List.map_cons, List.map_nil, strip]; rfl
theorem w35_36 : W Tryd.prog TT S 324 [324] r35_36 k E m Q ↔ Rg Tryd.prog TT S 324 [324] [156, 157, 158, 159] [] (lgo E [3] (lops Tryd.prog (callw Tryd.prog TT S) [(some 156), (some 157), (some 158), (some 159)] (L35_36).1 E m)) k E Q := w_plain (by kernel_rfl) (L35_36).2
noncomputable def L35_37 : {l : List Oper // (opsOf r35_37).map strip = l} := by refine ⟨?l, ?h⟩; case h => simp only [r35_37, c35, bodyOf, Tryd.f35, Code.sub, opsOf, List.map_cons, List.map_nil, strip]; rfl
theorem w35_37 : W Tryd.prog TT S 324 [324] r35_37 k E m Q ↔ Rg Tryd.prog TT S 324 [324] [160, 161, 162, 163, 164, 165, 166, 6] [] (lgo E [7] (lops Tryd.prog (callw Tryd.prog TT S) [(some 160), (some 161), (some 162), (some 163), (some 164), (some 165), (some 166), (some 6)] (L35_37).1 E m)) k E Q := w_plain (by kernel_rfl) (L35_37).2
noncomputable def L35_38 : {l : List Oper // (opsOf r35_38).map strip = l} := by refine ⟨?l, ?h⟩; case h => simp only [r35_38, c35, bodyOf, Tryd.f35, Code.sub, opsOf, List.map_cons, List.map_nil, strip]; rfl
theorem w35_38 : W Tryd.prog TT S 324 [324] r35_38 k E m Q ↔ Rg Tryd.prog TT S 324 [324] [168, 167] [] (lgo E [44] (lops Tryd.prog (callw Tryd.prog TT S) [(some 168), (some 167)] (L35_38).1 E m)) k E Q := w_plain (by kernel_rfl) (L35_38).2
noncomputable def L35_39 : {l : List Oper // (opsOf r35_39).map strip = l} := by refine ⟨?l, ?h⟩; case h => simp only [r35_39, c35, bodyOf, Tryd.f35, Code.sub, opsOf, List.map_cons, List.map_nil, strip]; rfl
theorem w35_39 : W Tryd.prog TT S 324 [324] r35_39 k E m Q ↔ Rg Tryd.prog TT S 324 [324] [169, 170, 171, 172, 173, 174, 175, 6] [] (lgo E [7] (lops Tryd.prog (callw Tryd.prog TT S) [(some 169), (some 170), (some 171), (some 172), (some 173), (some 174), (some 175), (some 6)] (L35_39).1 E m)) k E Q := w_plain (by kernel_rfl) (L35_39).2
noncomputable def L35_40 : {l : List Oper // (opsOf r35_40).map strip = l} := by refine ⟨?l, ?h⟩; case h => simp only [r35_40, c35, bodyOf, Tryd.f35, Code.sub, opsOf, List.map_cons, List.map_nil, strip]; rfl
theorem w35_40 : W Tryd.prog TT S 324 [324] r35_40 k E m Q ↔ Rg Tryd.prog TT S 324 [324] [177, 176] [] (lgo E [40] (lops Tryd.prog (callw Tryd.prog TT S) [(some 177), (some 176)] (L35_40).1 E m)) k E Q := w_plain (by kernel_rfl) (L35_40).2
noncomputable def L35_41 : {l : List Oper // (opsOf r35_41).map strip = l} := by refine ⟨?l, ?h⟩; case h => simp only [r35_41, c35, bodyOf, Tryd.f35, Code.sub, opsOf, List.map_cons, List.map_nil, strip]; rfl
theorem w35_41 : W Tryd.prog TT S 324 [324] r35_41 k E m Q ↔ Rg Tryd.prog TT S 324 [324] [178, 179] [] (lgo E [3] (lops Tryd.prog (callw Tryd.prog TT S) [(some 178), (some 179)] (L35_41).1 E m)) k E Q := w_plain (by kernel_rfl) (L35_41).2
noncomputable def L35_42 : {l : List Oper // (opsOf r35_42).map strip = l} := by refine ⟨?l, ?h⟩; case h => simp only [r35_42, c35, bodyOf, Tryd.f35, Code.sub, opsOf, List.map_cons, List.map_nil, strip]; rfl
theorem w35_42 : W Tryd.prog TT S 324 [324] r35_42 k E m Q ↔ Rg Tryd.prog TT S 324 [324] [181, 180] [] (lgo E [179] (lops Tryd.prog (callw Tryd.prog TT S) [(some 181), (some 180)] (L35_42).1 E m)) k E Q := w_plain (by kernel_rfl) (L35_42).2
noncomputable def L35_43 : {l : List Oper // (opsOf r35_43).map strip = l} := by refine ⟨?l, ?h⟩; case h => simp only [r35_43, c35, bodyOf, Tryd.f35, Code.sub, opsOf, List.map_cons, List.map_nil, strip]; rfl
theorem w35_43 : W Tryd.prog TT S 324 [324] r35_43 k E m Q ↔ Rg Tryd.prog TT S 324 [324] [182, 180] [] (lgo E [179] (lops Tryd.prog (callw Tryd.prog TT S) [(some 182), (some 180)] (L35_43).1 E m)) k E Q := w_plain (by kernel_rfl) (L35_43).2
noncomputable def L35_44 : {l : List Oper // (opsOf r35_44).map strip = l} := by refine ⟨?l, ?h⟩; case h => simp only [r35_44, c35, bodyOf, Tryd.f35, Code.sub, opsOf, List.map_cons, List.map_nil, strip]; rfl
theorem w35_44 : W Tryd.prog TT S 324 [324] r35_44 k E m Q ↔ Rg Tryd.prog TT S 324 [324] [183, 180] [] (lgo E [179] (lops Tryd.prog (callw Tryd.prog TT S) [(some 183), (some 180)] (L35_44).1 E m)) k E Q := w_plain (by kernel_rfl) (L35_44).2
theorem can35_45 : canonOps (opsOf r35_45) = opsOf r35_45 := by kernel_rfl
noncomputable def L35_45 : {l : List Oper // (canonOps (opsOf r35_45)).map strip = l} := by refine ⟨?l, (congrArg (List.map strip) can35_45).trans ?h⟩; case h => simp only [r35_45, c35, bodyOf, Tryd.f35, Code.sub, opsOf, List.map_cons, List.map_nil, strip]; rfl
theorem w35_45 : W Tryd.prog TT S 324 [324] r35_45 k E m Q ↔ Rg Tryd.prog TT S 324 [324] [184, 185, 186, 187, 188, 189, 190, 191, 192, 193, 194, 195, 6] [] (lgo E [3, 7] (lloud Tryd.prog (callw Tryd.prog TT S) [(some 184), (some 185), (some 186), (some 187), (some 188), (some 189), (some 190), (some 191), (some 192), (some 193), (some 194), (some 195), (some 6)] (L35_45).1 [(4, [1, 5])] (lstates Tryd.prog (callw Tryd.prog TT S) [(some 184), (some 185), (some 186), (some 187), (some 188), (some 189), (some 190), (some 191), (some 192), (some 193), (some 194), (some 195), (some 6)] (L35_45).1 E m))) k E Q := w_loud (by kernel_rfl) (L35_45).2
noncomputable def L35_46 : {l : List Oper // (opsOf r35_46).map strip = l} := by refine ⟨?l, ?h⟩; case h => simp only [r35_46, c35, bodyOf, Tryd.f35, Code.sub, opsOf, List.map_cons, List.map_nil, strip]; rfl
theorem w35_46 : W Tryd.prog TT S 324 [324] r35_46 k E m Q ↔ Rg Tryd.prog TT S 324 [324] [197, 196] [] (lgo E [179] (lops Tryd.prog (callw Tryd.prog TT S) [(some 197), (some 196)] (L35_46).1 E m)) k E Q := w_plain (by kernel_rfl) (L35_46).2
noncomputable def L35_47 : {l : List Oper // (opsOf r35_47).map strip = l} := by refine ⟨?l, ?h⟩; case h => simp only [r35_47, c35, bodyOf, Tryd.f35, Code.sub, opsOf, List.map_cons, List.map_nil, strip]; rfl
theorem w35_47 : W Tryd.prog TT S 324 [324] r35_47 k E m Q ↔ Rg Tryd.prog TT S 324 [324] [198, 199, 200, 201, 202, 203, 204, 205, 6] [] (lgo E [7] (lops Tryd.prog (callw Tryd.prog TT S) [(some 198), (some 199), (some 200), (some 201), (some 202), (some 203), (some 204), (some 205), (some 6)] (L35_47).1 E m)) k E Q := w_plain (by kernel_rfl) (L35_47).2
noncomputable def L35_48 : {l : List Oper // (opsOf r35_48).map strip = l} := by refine ⟨?l, ?h⟩; case h => simp only [r35_48, c35, bodyOf, Tryd.f35, Code.sub, opsOf, List.map_cons, List.map_nil, strip]; rfl
theorem w35_48 : W Tryd.prog TT S 324 [324] r35_48 k E m Q ↔ Rg Tryd.prog TT S 324 [324] [207, 206] [] (lgo E [179] (lops Tryd.prog (callw Tryd.prog TT S) [(some 207), (some 206)] (L35_48).1 E m)) k E Q := w_plain (by kernel_rfl) (L35_48).2
noncomputable def L35_49 : {l : List Oper // (opsOf r35_49).map strip = l} := by refine ⟨?l, ?h⟩; case h => simp only [r35_49, c35, bodyOf, Tryd.f35, Code.sub, opsOf, List.map_cons, List.map_nil, strip]; rfl
theorem w35_49 : W Tryd.prog TT S 324 [324] r35_49 k E m Q ↔ Rg Tryd.prog TT S 324 [324] [208, 209, 210, 211, 212, 213, 214, 215, 6] [] (lgo E [7] (lops Tryd.prog (callw Tryd.prog TT S) [(some 208), (some 209), (some 210), (some 211), (some 212), (some 213), (some 214), (some 215), (some 6)] (L35_49).1 E m)) k E Q := w_plain (by kernel_rfl) (L35_49).2
noncomputable def L35_50 : {l : List Oper // (opsOf r35_50).map strip = l} := by refine ⟨?l, ?h⟩; case h => simp only [r35_50, c35, bodyOf, Tryd.f35, Code.sub, opsOf, List.map_cons, List.map_nil, strip]; rfl
theorem w35_50 : W Tryd.prog TT S 324 [324] r35_50 k E m Q ↔ Rg Tryd.prog TT S 324 [324] [217, 216] [] (lgo E [179] (lops Tryd.prog (callw Tryd.prog TT S) [(some 217), (some 216)] (L35_50).1 E m)) k E Q := w_plain (by kernel_rfl) (L35_50).2
noncomputable def L35_51 : {l : List Oper // (opsOf r35_51).map strip = l} := by refine ⟨?l, ?h⟩; case h => simp only [r35_51, c35, bodyOf, Tryd.f35, Code.sub, opsOf, List.map_cons, List.map_nil, strip]; rfl
theorem w35_51 : W Tryd.prog TT S 324 [324] r35_51 k E m Q ↔ Rg Tryd.prog TT S 324 [324] [218, 219, 220, 221, 6] [] (lgo E [7] (lops Tryd.prog (callw Tryd.prog TT S) [(some 218), (some 219), (some 220), (some 221), (some 6)] (L35_51).1 E m)) k E Q := w_plain (by kernel_rfl) (L35_51).2
noncomputable def L35_52 : {l : List Oper // (opsOf r35_52).map strip = l} := by refine ⟨?l, ?h⟩; case h => simp only [r35_52, c35, bodyOf, Tryd.f35, Code.sub, opsOf, List.map_cons, List.map_nil, strip]; rfl
theorem w35_52 : W Tryd.prog TT S 324 [324] r35_52 k E m Q ↔ Rg Tryd.prog TT S 324 [324] [223, 222] [] (lgo E [179] (lops Tryd.prog (callw Tryd.prog TT S) [(some 223), (some 222)] (L35_52).1 E m)) k E Q := w_plain (by kernel_rfl) (L35_52).2
theorem can35_53 : canonOps (opsOf r35_53) = opsOf r35_53 := by kernel_rfl
noncomputable def L35_53 : {l : List Oper // (canonOps (opsOf r35_53)).map strip = l} := by refine ⟨?l, (congrArg (List.map strip) can35_53).trans ?h⟩; case h => simp only [r35_53, c35, bodyOf, Tryd.f35, Code.sub, opsOf, List.map_cons, List.map_nil, strip]; rfl
theorem w35_53 : W Tryd.prog TT S 324 [324] r35_53 k E m Q ↔ Rg Tryd.prog TT S 324 [324] [224, 225, 226, 227, 228, 229, 230, 231, 232, 6] [] (lgo E [7, 3] (lloud Tryd.prog (callw Tryd.prog TT S) [(some 224), (some 225), (some 226), (some 227), (some 228), (some 229), (some 230), (some 231), (some 232), (some 6)] (L35_53).1 [(4, [1, 5])] (lstates Tryd.prog (callw Tryd.prog TT S) [(some 224), (some 225), (some 226), (some 227), (some 228), (some 229), (some 230), (some 231), (some 232), (some 6)] (L35_53).1 E m))) k E Q := w_loud (by kernel_rfl) (L35_53).2
noncomputable def L35_54 : {l : List Oper // (opsOf r35_54).map strip = l} := by refine ⟨?l, ?h⟩; case h => simp only [r35_54, c35, bodyOf, Tryd.f35, Code.sub, opsOf, List.map_cons, List.map_nil, strip]; rfl
theorem w35_54 : W Tryd.prog TT S 324 [324] r35_54 k E m Q ↔ Rg Tryd.prog TT S 324 [324] [234, 233] [] (lgo E [179] (lops Tryd.prog (callw Tryd.prog TT S) [(some 234), (some 233)] (L35_54).1 E m)) k E Q := w_plain (by kernel_rfl) (L35_54).2
theorem can35_55 : canonOps (opsOf r35_55) = opsOf r35_55 := by kernel_rfl
noncomputable def L35_55 : {l : List Oper // (canonOps (opsOf r35_55)).map strip = l} := by refine ⟨?l, (congrArg (List.map strip) can35_55).trans ?h⟩; case h => simp only [r35_55, c35, bodyOf, Tryd.f35, Code.sub, opsOf, List.map_cons, List.map_nil, strip]; rfl
theorem w35_55 : W Tryd.prog TT S 324 [324] r35_55 k E m Q ↔ Rg Tryd.prog TT S 324 [324] [235, 236, 237, 238, 239, 240, 241, 242, 243, 244, 245, 246, 6] [] (lgo E [7, 3] (lloud Tryd.prog (callw Tryd.prog TT S) [(some 235), (some 236), (some 237), (some 238), (some 239), (some 240), (some 241), (some 242), (some 243), (some 244), (some 245), (some 246), (some 6)] (L35_55).1 [(6, [1, 7])] (lstates Tryd.prog (callw Tryd.prog TT S) [(some 235), (some 236), (some 237), (some 238), (some 239), (some 240), (some 241), (some 242), (some 243), (some 244), (some 245), (some 246), (some 6)] (L35_55).1 E m))) k E Q := w_loud (by kernel_rfl) (L35_55).2
noncomputable def L35_56 : {l : List Oper // (opsOf r35_56).map strip = l} := by refine ⟨?l, ?h⟩; case h => simp only [r35_56, c35, bodyOf, Tryd.f35, Code.sub, opsOf, List.map_cons, List.map_nil, strip]; rfl
theorem w35_56 : W Tryd.prog TT S 324 [324] r35_56 k E m Q ↔ Rg Tryd.prog TT S 324 [324] [248, 247] [] (lgo E [179] (lops Tryd.prog (callw Tryd.prog TT S) [(some 248), (some 247)] (L35_56).1 E m)) k E Q := w_plain (by kernel_rfl) (L35_56).2
theorem can35_57 : canonOps (opsOf r35_57) = opsOf r35_57 := by kernel_rfl
noncomputable def L35_57 : {l : List Oper // (canonOps (opsOf r35_57)).map strip = l} := by refine ⟨?l, (congrArg (List.map strip) can35_57).trans ?h⟩; case h => simp only [r35_57, c35, bodyOf, Tryd.f35, Code.sub, opsOf, List.map_cons, List.map_nil, strip]; rfl
theorem w35_57 : W Tryd.prog TT S 324 [324] r35_57 k E m Q ↔ Rg Tryd.prog TT S 324 [324] [249, 250, 251, 252, 253, 254, 255, 256, 257, 258, 259, 260, 6] [] (lgo E [3, 7] (lloud Tryd.prog (callw Tryd.prog TT S) [(some 249), (some 250), (some 251), (some 252), (some 253), (some 254), (some 255), (some 256), (some 257), (some 258), (some 259), (some 260), (some 6)] (L35_57).1 [(4, [1, 5])] (lstates Tryd.prog (callw Tryd.prog TT S) [(some 249), (some 250), (some 251), (some 252), (some 253), (some 254), (some 255), (some 256), (some 257), (some 258), (some 259), (some 260), (some 6)] (L35_57).1 E m))) k E Q := w_loud (by kernel_rfl) (L35_57).2
noncomputable def L35_58 : {l : List Oper // (opsOf r35_58).map strip = l} := by refine ⟨?l, ?h⟩; case h => simp only [r35_58, c35, bodyOf, Tryd.f35, Code.sub, opsOf, List.map_cons, List.map_nil, strip]; rfl
theorem w35_58 : W Tryd.prog TT S 324 [324] r35_58 k E m Q ↔ Rg Tryd.prog TT S 324 [324] [262, 261] [] (lgo E [40] (lops Tryd.prog (callw Tryd.prog TT S) [(some 262), (some 261)] (L35_58).1 E m)) k E Q := w_plain (by kernel_rfl) (L35_58).2
noncomputable def L35_59 : {l : List Oper // (opsOf r35_59).map strip = l} := by refine ⟨?l, ?h⟩; case h => simp only [r35_59, c35, bodyOf, Tryd.f35, Code.sub, opsOf, List.map_cons, List.map_nil, strip]; rfl
theorem w35_59 : W Tryd.prog TT S 324 [324] r35_59 k E m Q ↔ Rg Tryd.prog TT S 324 [324] [263, 264, 265] [] (lgo E [3] (lops Tryd.prog (callw Tryd.prog TT S) [(some 263), (some 264), (some 265)] (L35_59).1 E m)) k E Q := w_plain (by kernel_rfl) (L35_59).2
noncomputable def L35_60 : {l : List Oper // (opsOf r35_60).map strip = l} := by refine ⟨?l, ?h⟩; case h => simp only [r35_60, c35, bodyOf, Tryd.f35, Code.sub, opsOf, List.map_cons, List.map_nil, strip]; rfl
theorem w35_60 : W Tryd.prog TT S 324 [324] r35_60 k E m Q ↔ Rg Tryd.prog TT S 324 [324] [266, 267, 268, 269, 270, 271, 272, 273, 6] [] (lgo E [7] (lops Tryd.prog (callw Tryd.prog TT S) [(some 266), (some 267), (some 268), (some 269), (some 270), (some 271), (some 272), (some 273), (some 6)] (L35_60).1 E m)) k E Q := w_plain (by kernel_rfl) (L35_60).2
noncomputable def L35_61 : {l : List Oper // (opsOf r35_61).map strip = l} := by refine ⟨?l, ?h⟩; case h => simp only [r35_61, c35, bodyOf, Tryd.f35, Code.sub, opsOf, List.map_cons, List.map_nil, strip]; rfl
theorem w35_61 : W Tryd.prog TT S 324 [324] r35_61 k E m Q ↔ Rg Tryd.prog TT S 324 [324] [275, 274] [] (lgo E [40] (lops Tryd.prog (callw Tryd.prog TT S) [(some 275), (some 274)] (L35_61).1 E m)) k E Q := w_plain (by kernel_rfl) (L35_61).2
noncomputable def L35_62 : {l : List Oper // (opsOf r35_62).map strip = l} := by refine ⟨?l, ?h⟩; case h => simp only [r35_62, c35, bodyOf, Tryd.f35, Code.sub, opsOf, List.map_cons, List.map_nil, strip]; rfl
theorem w35_62 : W Tryd.prog TT S 324 [324] r35_62 k E m Q ↔ Rg Tryd.prog TT S 324 [324] [276, 277] [] (lgo E [3] (lops Tryd.prog (callw Tryd.prog TT S) [(some 276), (some 277)] (L35_62).1 E m)) k E Q := w_plain (by kernel_rfl) (L35_62).2
noncomputable def L35_63 : {l : List Oper // (opsOf r35_63).map strip = l} := by refine ⟨?l, ?h⟩; case h => simp only [r35_63, c35, bodyOf, Tryd.f35, Code.sub, opsOf, List.map_cons, List.map_nil, strip]; rfl
theorem w35_63 : W Tryd.prog TT S 324 [324] r35_63 k E m Q ↔ Rg Tryd.prog TT S 324 [324] [279, 278] [] (lgo E [277] (lops Tryd.prog (callw Tryd.prog TT S) [(some 279), (some 278)] (L35_63).1 E m)) k E Q := w_plain (by kernel_rfl) (L35_63).2
noncomputable def L35_64 : {l : List Oper // (opsOf r35_64).map strip = l} := by refine ⟨?l, ?h⟩; case h => simp only [r35_64, c35, bodyOf, Tryd.f35, Code.sub, opsOf, List.map_cons, List.map_nil, strip]; rfl
theorem w35_64 : W Tryd.prog TT S 324 [324] r35_64 k E m Q ↔ Rg Tryd.prog TT S 324 [324] [280, 281, 282, 283, 6] [] (lgo E [7] (lops Tryd.prog (callw Tryd.prog TT S) [(some 280), (some 281), (some 282), (some 283), (some 6)] (L35_64).1 E m)) k E Q := w_plain (by kernel_rfl) (L35_64).2
noncomputable def L35_65 : {l : List Oper // (opsOf r35_65).map strip = l} := by refine ⟨?l, ?h⟩; case h => simp only [r35_65, c35, bodyOf, Tryd.f35, Code.sub, opsOf, List.map_cons, List.map_nil, strip]; rfl
theorem w35_65 : W Tryd.prog TT S 324 [324] r35_65 k E m Q ↔ Rg Tryd.prog TT S 324 [324] [285, 284] [] (lgo E [277] (lops Tryd.prog (callw Tryd.prog TT S) [(some 285), (some 284)] (L35_65).1 E m)) k E Q := w_plain (by kernel_rfl) (L35_65).2
noncomputable def L35_66 : {l : List Oper // (opsOf r35_66).map strip = l} := by refine ⟨?l, ?h⟩; case h => simp only [r35_66, c35, bodyOf, Tryd.f35, Code.sub, opsOf, List.map_cons, List.map_nil, strip]; rfl
theorem w35_66 : W Tryd.prog TT S 324 [324] r35_66 k E m Q ↔ Rg Tryd.prog TT S 324 [324] [286, 287, 288, 6] [] (lgo E [7] (lops Tryd.prog (callw Tryd.prog TT S) [(some 286), (some 287), (some 288), (some 6)] (L35_66).1 E m)) k E Q := w_plain (by kernel_rfl) (L35_66).2
noncomputable def L35_67 : {l : List Oper // (opsOf r35_67).map strip = l} := by refine ⟨?l, ?h⟩; case h => simp only [r35_67, c35, bodyOf, Tryd.f35, Code.sub, opsOf, List.map_cons, List.map_nil, strip]; rfl
theorem w35_67 : W Tryd.prog TT S 324 [324] r35_67 k E m Q ↔ Rg Tryd.prog TT S 324 [324] [290, 289] [] (lgo E [40] (lops Tryd.prog (callw Tryd.prog TT S) [(some 290), (some 289)] (L35_67).1 E m)) k E Q := w_plain (by kernel_rfl) (L35_67).2
noncomputable def L35_68 : {l : List Oper // (opsOf r35_68).map strip = l} := by refine ⟨?l, ?h⟩; case h => simp only [r35_68, c35, bodyOf, Tryd.f35, Code.sub, opsOf, List.map_cons, List.map_nil, strip]; rfl
theorem w35_68 : W Tryd.prog TT S 324 [324] r35_68 k E m Q ↔ Rg Tryd.prog TT S 324 [324] [291, 292] [] (lgo E [3] (lops Tryd.prog (callw Tryd.prog TT S) [(some 291), (some 292)] (L35_68).1 E m)) k E Q := w_plain (by kernel_rfl) (L35_68).2
noncomputable def L35_69 : {l : List Oper // (opsOf r35_69).map strip = l} := by refine ⟨?l, ?h⟩; case h => simp only [r35_69, c35, bodyOf, Tryd.f35, Code.sub, opsOf, List.map_cons, List.map_nil, strip]; rfl
theorem w35_69 : W Tryd.prog TT S 324 [324] r35_69 k E m Q ↔ Rg Tryd.prog TT S 324 [324] [294, 293] [] (lgo E [292] (lops Tryd.prog (callw Tryd.prog TT S) [(some 294), (some 293)] (L35_69).1 E m)) k E Q := w_plain (by kernel_rfl) (L35_69).2
noncomputable def L35_70 : {l : List Oper // (opsOf r35_70).map strip = l} := by refine ⟨?l, ?h⟩; case h => simp only [r35_70, c35, bodyOf, Tryd.f35, Code.sub, opsOf, List.map_cons, List.map_nil, strip]; rfl
theorem w35_70 : W Tryd.prog TT S 324 [324] r35_70 k E m Q ↔ Rg Tryd.prog TT S 324 [324] [6] [] (lgo E [] (lops Tryd.prog (callw Tryd.prog TT S) [(some 6)] (L35_70).1 E m)) k E Q := w_plain (by kernel_rfl) (L35_70).2
noncomputable def L35_71 : {l : List Oper // (opsOf r35_71).map strip = l} := by refine ⟨?l, ?h⟩; case h => simp only [r35_71, c35, bodyOf, Tryd.f35, Code.sub, opsOf, List.map_cons, List.map_nil, strip]; rfl
theorem w35_71 : W Tryd.prog TT S 324 [324] r35_71 k E m Q ↔ Rg Tryd.prog TT S 324 [324] [296, 295] [] (lgo E [292] (lops Tryd.prog (callw Tryd.prog TT S) [(some 296), (some 295)] (L35_71).1 E m)) k E Q := w_plain (by kernel_rfl) (L35_71).2
noncomputable def L35_72 : {l : List Oper // (opsOf r35_72).map strip = l} := by refine ⟨?l, ?h⟩; case h => simp only [r35_72, c35, bodyOf, Tryd.f35, Code.sub, opsOf, List.map_cons, List.map_nil, strip]; rfl
theorem w35_72 : W Tryd.prog TT S 324 [324] r35_72 k E m Q ↔ Rg Tryd.prog TT S 324 [324] [297, 298, 299, 6] [] (lgo E [7] (lops Tryd.prog (callw Tryd.prog TT S) [(some 297), (some 298), (some 299), (some 6)] (L35_72).1 E m)) k E Q := w_plain (by kernel_rfl) (L35_72).2
noncomputable def L35_73 : {l : List Oper // (opsOf r35_73).map strip = l} := by refine ⟨?l, ?h⟩; case h => simp only [r35_73, c35, bodyOf, Tryd.f35, Code.sub, opsOf, List.map_cons, List.map_nil, strip]; rfl
theorem w35_73 : W Tryd.prog TT S 324 [324] r35_73 k E m Q ↔ Rg Tryd.prog TT S 324 [324] [301, 300] [] (lgo E [292] (lops Tryd.prog (callw Tryd.prog TT S) [(some 301), (some 300)] (L35_73).1 E m)) k E Q := w_plain (by kernel_rfl) (L35_73).2
noncomputable def L35_74 : {l : List Oper // (opsOf r35_74).map strip = l} := by refine ⟨?l, ?h⟩; case h => simp only [r35_74, c35, bodyOf, Tryd.f35, Code.sub, opsOf, List.map_cons, List.map_nil, strip]; rfl
theorem w35_74 : W Tryd.prog TT S 324 [324] r35_74 k E m Q ↔ Rg Tryd.prog TT S 324 [324] [302, 303, 304, 6] [] (lgo E [7] (lops Tryd.prog (callw Tryd.prog TT S) [(some 302), (some 303), (some 304), (some 6)] (L35_74).1 E m)) k E Q := w_plain (by kernel_rfl) (L35_74).2
noncomputable def L35_75 : {l : List Oper // (opsOf r35_75).map strip = l} := by refine ⟨?l, ?h⟩; case h => simp only [r35_75, c35, bodyOf, Tryd.f35, Code.sub, opsOf, List.map_cons, List.map_nil, strip]; rfl
theorem w35_75 : W Tryd.prog TT S 324 [324] r35_75 k E m Q ↔ Rg Tryd.prog TT S 324 [324] [306, 305] [] (lgo E [292] (lops Tryd.prog (callw Tryd.prog TT S) [(some 306), (some 305)] (L35_75).1 E m)) k E Q := w_plain (by kernel_rfl) (L35_75).2
noncomputable def L35_76 : {l : List Oper // (opsOf r35_76).map strip = l} := by refine ⟨?l, ?h⟩; case h => simp only [r35_76, c35, bodyOf, Tryd.f35, Code.sub, opsOf, List.map_cons, List.map_nil, strip]; rfl
theorem w35_76 : W Tryd.prog TT S 324 [324] r35_76 k E m Q ↔ Rg Tryd.prog TT S 324 [324] [307, 308, 309, 310] [] (lgo E [3] (lops Tryd.prog (callw Tryd.prog TT S) [(some 307), (some 308), (some 309), (some 310)] (L35_76).1 E m)) k E Q := w_plain (by kernel_rfl) (L35_76).2
noncomputable def L35_77 : {l : List Oper // (opsOf r35_77).map strip = l} := by refine ⟨?l, ?h⟩; case h => simp only [r35_77, c35, bodyOf, Tryd.f35, Code.sub, opsOf, List.map_cons, List.map_nil, strip]; rfl
theorem w35_77 : W Tryd.prog TT S 324 [324] r35_77 k E m Q ↔ Rg Tryd.prog TT S 324 [324] [311, 312, 313, 314, 6] [] (lgo E [7] (lops Tryd.prog (callw Tryd.prog TT S) [(some 311), (some 312), (some 313), (some 314), (some 6)] (L35_77).1 E m)) k E Q := w_plain (by kernel_rfl) (L35_77).2
noncomputable def L35_78 : {l : List Oper // (opsOf r35_78).map strip = l} := by refine ⟨?l, ?h⟩; case h => simp only [r35_78, c35, bodyOf, Tryd.f35, Code.sub, opsOf, List.map_cons, List.map_nil, strip]; rfl
theorem w35_78 : W Tryd.prog TT S 324 [324] r35_78 k E m Q ↔ Rg Tryd.prog TT S 324 [324] [316, 315] [] (lgo E [40] (lops Tryd.prog (callw Tryd.prog TT S) [(some 316), (some 315)] (L35_78).1 E m)) k E Q := w_plain (by kernel_rfl) (L35_78).2
noncomputable def L35_79 : {l : List Oper // (opsOf r35_79).map strip = l} := by refine ⟨?l, ?h⟩; case h => simp only [r35_79, c35, bodyOf, Tryd.f35, Code.sub, opsOf, List.map_cons, List.map_nil, strip]; rfl
theorem w35_79 : W Tryd.prog TT S 324 [324] r35_79 k E m Q ↔ Rg Tryd.prog TT S 324 [324] [317, 318, 319] [] (lgo E [3] (lops Tryd.prog (callw Tryd.prog TT S) [(some 317), (some 318), (some 319)] (L35_79).1 E m)) k E Q := w_plain (by kernel_rfl) (L35_79).2
noncomputable def L35_80 : {l : List Oper // (opsOf r35_80).map strip = l} := by refine ⟨?l, ?h⟩; case h => simp only [r35_80, c35, bodyOf, Tryd.f35, Code.sub, opsOf, List.map_cons, List.map_nil, strip]; rfl
theorem w35_80 : W Tryd.prog TT S 324 [324] r35_80 k E m Q ↔ Rg Tryd.prog TT S 324 [324] [6] [] (lgo E [] (lops Tryd.prog (callw Tryd.prog TT S) [(some 6)] (L35_80).1 E m)) k E Q := w_plain (by kernel_rfl) (L35_80).2
noncomputable def L35_81 : {l : List Oper // (opsOf r35_81).map strip = l} := by refine ⟨?l, ?h⟩; case h => simp only [r35_81, c35, bodyOf, Tryd.f35, Code.sub, opsOf, List.map_cons, List.map_nil, strip]; rfl
theorem w35_81 : W Tryd.prog TT S 324 [324] r35_81 k E m Q ↔ Rg Tryd.prog TT S 324 [324] [321, 320] [] (lgo E [40] (lops Tryd.prog (callw Tryd.prog TT S) [(some 321), (some 320)] (L35_81).1 E m)) k E Q := w_plain (by kernel_rfl) (L35_81).2
noncomputable def L35_82 : {l : List Oper // (opsOf r35_82).map strip = l} := by refine ⟨?l, ?h⟩; case h => simp only [r35_82, c35, bodyOf, Tryd.f35, Code.sub, opsOf, List.map_cons, List.map_nil, strip]; rfl
theorem w35_82 : W Tryd.prog TT S 324 [324] r35_82 k E m Q ↔ Rg Tryd.prog TT S 324 [324] [322, 323] [] (lgo E [3] (lops Tryd.prog (callw Tryd.prog TT S) [(some 322), (some 323)] (L35_82).1 E m)) k E Q := w_plain (by kernel_rfl) (L35_82).2
noncomputable def L35_83 : {l : List Oper // (opsOf r35_83).map strip = l} := by refine ⟨?l, ?h⟩; case h => simp only [r35_83, c35, bodyOf, Tryd.f35, Code.sub, opsOf, List.map_cons, List.map_nil, strip]; rfl
theorem w35_83 : W Tryd.prog TT S 324 [324] r35_83 k E m Q ↔ Rg Tryd.prog TT S 324 [324] [] [324] (lgo E [323] (lops Tryd.prog (callw Tryd.prog TT S) [(some 325), (some 324)] (L35_83).1 E m)) k E Q := w_plain (by kernel_rfl) (L35_83).2
noncomputable def L35_84 : {l : List Oper // (opsOf r35_84).map strip = l} := by refine ⟨?l, ?h⟩; case h => simp only [r35_84, c35, bodyOf, Tryd.f35, Code.sub, opsOf, List.map_cons, List.map_nil, strip]; rfl
theorem w35_84 : W Tryd.prog TT S 324 [324] r35_84 k E m Q ↔ Rg Tryd.prog TT S 324 [324] [6] [] (lgo E [7] (lops Tryd.prog (callw Tryd.prog TT S) [(some 326), (some 327), (some 328), (some 6)] (L35_84).1 E m)) k E Q := w_plain (by kernel_rfl) (L35_84).2
noncomputable def L35_85 : {l : List Oper // (opsOf r35_85).map strip = l} := by refine ⟨?l, ?h⟩; case h => simp only [r35_85, c35, bodyOf, Tryd.f35, Code.sub, opsOf, List.map_cons, List.map_nil, strip]; rfl
theorem w35_85 : W Tryd.prog TT S 324 [324] r35_85 k E m Q ↔ Rg Tryd.prog TT S 324 [324] [6] [] (lgo E [3, 1] (lops Tryd.prog (callw Tryd.prog TT S) [(some 329), (some 330), (some 331), (some 6)] (L35_85).1 E m)) k E Q := w_plain (by kernel_rfl) (L35_85).2
theorem k35 : FnIs TT 35 c35 [.tmp 6] 3 := ⟨Tryd.f35, by kernel_rfl, by simp only [Tryd.f35, c35, bodyOf], by kernel_rfl, of_decide_eq_true (by kernel_rfl)⟩

/- (*turnstonehand.maker).stmt -/
noncomputable def c45 : Code := bodyOf Tryd.f45
noncomputable def r45_0 : Code := Code.sub [0, 0] c45
noncomputable def r45_1 : Code := Code.sub [0, 1, 0, 0] c45
noncomputable def r45_2 : Code := Code.sub [1, 0] c45
noncomputable def r45_3 : Code := Code.sub [1, 1, 0, 0, 0] c45
noncomputable def r45_4 : Code := Code.sub [1, 1, 0, 0, 1, 1] c45
noncomputable def r45_5 : Code := Code.sub [1, 1, 0, 1, 0, 0] c45
noncomputable def r45_6 : Code := Code.sub [1, 1, 0, 1, 0, 1] c45
noncomputable def r45_7 : Code := Code.sub [1, 1, 0, 1, 1, 0, 0] c45
noncomputable def r45_8 : Code := Code.sub [1, 1, 0, 1, 1, 0, 1, 1, 0] c45
noncomputable def r45_9 : Code := Code.sub [1, 1, 0, 1, 1, 0, 1, 1, 1, 1] c45
noncomputable def r45_10 : Code := Code.sub [1, 1, 0, 1, 1, 1, 0, 0] c45
noncomputable def r45_11 : Code := Code.sub [1, 1, 0, 1, 1, 1, 0, 1, 0] c45
noncomputable def r45_12 : Code := Code.sub [1, 1, 0, 1, 1, 1, 0, 1, 1, 0] c45
noncomputable def r45_13 : Code := Code.sub [1, 1, 0, 1, 1, 1, 1, 0] c45
noncomputable def r45_14 : Code := Code.sub [1, 1, 0, 1, 1, 1, 1, 1, 0, 0] c45
noncomputable def r45_15 : Code := Code.sub [1, 1, 0, 1, 1, 1, 1, 1, 0, 1, 0] c45
noncomputable def r45_16 : Code := Code.sub [1, 1, 0, 1, 1, 1, 1, 1, 0, 1, 1, 0] c45
noncomputable def r45_17 : Code := Code.sub [1, 1, 0, 1, 1, 1, 1, 1, 1, 0] c45
noncomputable def r45_18 : Code := Code.sub [1, 1, 0, 1, 1, 1, 1, 1, 1, 1, 0, 0] c45
noncomputable def r45_19 : Code := Code.sub [1, 1, 0, 1, 1, 1, 1, 1, 1, 1, 0, 1] c45
noncomputable def r45_20 : Code := Code.sub [1, 1, 0, 1, 1, 1, 1, 1, 1, 1, 1, 0, 0] c45
noncomputable def r45_21 : Code := Code.sub [1, 1, 0, 1, 1, 1, 1, 1, 1, 1, 1, 0, 1, 1] c45
noncomputable def r45_22 : Code := Code.sub [1, 1, 0, 1, 1, 1, 1, 1, 1, 1, 1, 1, 0, 0, 0] c45
noncomputable def r45_23 : Code := Code.sub [1, 1, 0, 1, 1, 1, 1, 1, 1, 1, 1, 1, 0, 1, 0] c45
noncomputable def r45_24 : Code := Code.sub [1, 1, 0, 1, 1, 1, 1, 1, 1, 1, 1, 1, 0, 1, 1, 0] c45
noncomputable def r45_25 : Code := Code.sub [1, 1, 0, 1, 1, 1, 1, 1, 1, 1, 1, 1, 0, 1, 1, 1, 0, 0] c45
noncomputable def r45_26 : Code := Code.sub [1, 1, 0, 1, 1, 1, 1, 1, 1, 1, 1, 1, 0, 1, 1, 1, 0, 1, 0, 0] c45
noncomputable def r45_27 : Code := Code.sub [1, 1, 0, 1, 1, 1, 1, 1, 1, 1, 1, 1, 0, 1, 1, 1, 0, 1, 0, 1] c45
noncomputable def r45_28 : Code := Code.sub [1, 1, 0, 1, 1, 1, 1, 1, 1, 1, 1, 1, 0, 1, 1, 1, 1] c45
noncomputable def r45_29 : Code := Code.sub [1, 1, 0, 1, 1, 1, 1, 1, 1, 1, 1, 1, 1, 0, 0] c45
noncomputable def r45_30 : Code := Code.sub [1, 1, 0, 1, 1, 1, 1, 1, 1, 1, 1, 1, 1, 0, 1, 1] c45
noncomputable def r45_31 : Code := Code.sub [1, 1, 0, 1, 1, 1, 1, 1, 1, 1, 1, 1, 1, 1, 0] c45
noncomputable def r45_32 : Code := Code.sub [1, 1, 0, 1, 1, 1, 1, 1, 1, 1, 1, 1, 1, 1, 1, 0] c45
noncomputable def r45_33 : Code := Code.sub [1, 1, 0, 1, 1, 1, 1, 1, 1, 1, 1, 1, 1, 1, 1, 1, 0] c45
noncomputable def r45_34 : Code := Code.sub [1, 1, 0, 1, 1, 1, 1, 1, 1, 1, 1, 1, 1, 1, 1, 1, 1, 0] c45
noncomputable def r45_35 : Code := Code.sub [1, 1, 0, 1, 1, 1, 1, 1, 1, 1, 1, 1, 1, 1, 1, 1, 1, 1, 0, 0] c45
noncomputable def r45_36 : Code := Code.sub [1, 1, 0, 1, 1, 1, 1, 1, 1, 1, 1, 1, 1, 1, 1, 1, 1, 1, 0, 1, 0, 0] c45
noncomputable def r45_37 : Code := Code.sub [1, 1, 0, 1, 1, 1, 1, 1, 1, 1, 1, 1, 1, 1, 1, 1, 1, 1, 0, 1, 0, 1, 0] c45
noncomputable def r45_38 : Code := Code.sub [1, 1, 0, 1, 1, 1, 1, 1, 1, 1, 1, 1, 1, 1, 1, 1, 1, 1, 0, 1, 0, 1, 1, 0] c45
noncomputable def r45_39 : Code := Code.sub [1, 1, 0, 1, 1, 1, 1, 1, 1, 1, 1, 1, 1, 1, 1, 1, 1, 1, 0, 1, 0, 1, 1, 1, 0] c45
noncomputable def r45_40 : Code := Code.sub [1, 1, 0, 1, 1, 1, 1, 1, 1, 1, 1, 1, 1, 1, 1, 1, 1, 1, 0, 1, 0, 1, 1, 1, 1, 0] c45
noncomputable def r45_41 : Code := Code.sub [1, 1, 0, 1, 1, 1, 1, 1, 1, 1, 1, 1, 1, 1, 1, 1, 1, 1, 0, 1, 0, 1, 1, 1, 1, 1, 0] c45
noncomputable def r45_42 : Code := Code.sub [1, 1, 0, 1, 1, 1, 1, 1, 1, 1, 1, 1, 1, 1, 1, 1, 1, 1, 0, 1, 0, 1, 1, 1, 1, 1, 1, 0] c45
noncomputable def r45_43 : Code := Code.sub [1, 1, 0, 1, 1, 1, 1, 1, 1, 1, 1, 1, 1, 1, 1, 1, 1, 1, 0, 1, 0, 1, 1, 1, 1, 1, 1, 1, 0] c45
noncomputable def r45_44 : Code := Code.sub [1, 1, 0, 1, 1, 1, 1, 1, 1, 1, 1, 1, 1, 1, 1, 1, 1, 1, 0, 1, 0, 1, 1, 1, 1, 1, 1, 1, 1] c45
noncomputable def r45_45 : Code := Code.sub [1, 1, 0, 1, 1, 1, 1, 1, 1, 1, 1, 1, 1, 1, 1, 1, 1, 1, 1, 0] c45
noncomputable def r45_46 : Code := Code.sub [1, 1, 0, 1, 1, 1, 1, 1, 1, 1, 1, 1, 1, 1, 1, 1, 1, 1, 1, 1, 0, 0] c45
noncomputable def r45_47 : Code := Code.sub [1, 1, 0, 1, 1, 1, 1, 1, 1, 1, 1, 1, 1, 1, 1, 1, 1, 1, 1, 1, 0, 1, 0] c45
noncomputable def r45_48 : Code := Code.sub [1, 1, 0, 1, 1, 1, 1, 1, 1, 1, 1, 1, 1, 1, 1, 1, 1, 1, 1, 1, 1, 0, 0] c45
noncomputable def r45_49 : Code := Code.sub [1, 1, 0, 1, 1, 1, 1, 1, 1, 1, 1, 1, 1, 1, 1, 1, 1, 1, 1, 1, 1, 0, 1, 0, 0] c45
noncomputable def r45_50 : Code := Code.sub [1, 1, 0, 1, 1, 1, 1, 1, 1, 1, 1, 1, 1, 1, 1, 1, 1, 1, 1, 1, 1, 0, 1, 0, 1, 0] c45
noncomputable def r45_51 : Code := Code.sub [1, 1, 0, 1, 1, 1, 1, 1, 1, 1, 1, 1, 1, 1, 1, 1, 1, 1, 1, 1, 1, 0, 1, 0, 1, 1] c45
noncomputable def r45_52 : Code := Code.sub [1, 1, 0, 1, 1, 1, 1, 1, 1, 1, 1, 1, 1, 1, 1, 1, 1, 1, 1, 1, 1, 0, 1, 1, 0] c45
noncomputable def r45_53 : Code := Code.sub [1, 1, 0, 1, 1, 1, 1, 1, 1, 1, 1, 1, 1, 1, 1, 1, 1, 1, 1, 1, 1, 0, 1, 1, 1, 0, 0] c45
noncomputable def r45_54 : Code := Code.sub [1, 1, 0, 1, 1, 1, 1, 1, 1, 1, 1, 1, 1, 1, 1, 1, 1, 1, 1, 1, 1, 0, 1, 1, 1, 0, 1, 0] c45
noncomputable def r45_55 : Code := Code.sub [1, 1, 0, 1, 1, 1, 1, 1, 1, 1, 1, 1, 1, 1, 1, 1, 1, 1, 1, 1, 1, 0, 1, 1, 1, 0, 1, 1] c45
noncomputable def r45_56 : Code := Code.sub [1, 1, 0, 1, 1, 1, 1, 1, 1, 1, 1, 1, 1, 1, 1, 1, 1, 1, 1, 1, 1, 0, 1, 1, 1, 1] c45
theorem body45 : c45 = (.seq (.seq r45_0 (.cond (.tmp 21) (.seq r45_1 .ret) .skip)) (.seq r45_2 (.block 0 (.seq (.seq r45_3 (.cond (.tmp 95) .skip r45_4)) (.cond (.tmp 95) (.seq r45_5 r45_6) (.seq (.seq r45_7 (.cond (.tmp 107) .skip (.seq r45_8 (.cond (.tmp 107) .skip r45_9)))) (.cond (.tmp 107) (.seq r45_10 (.seq r45_11 (.cond (.tmp 114) r45_12 .skip))) (.seq r45_13 (.cond (.tmp 123) (.seq r45_14 (.seq r45_15 (.cond (.tmp 128) r45_16 .skip))) (.seq r45_17 (.cond (.tmp 137) (.seq r45_18 r45_19) (.seq (.seq r45_20 (.cond (.tmp 149) .skip r45_21)) (.cond (.tmp 149) (.seq (.seq r45_22 (.cond (.tmp 153) .ret .skip)) (.seq r45_23 (.seq r45_24 (.seq (.seq r45_25 (.cond (.tmp 169) (.seq r45_26 r45_27) .skip)) r45_28)))) (.seq (.seq r45_29 (.cond (.tmp 182) .skip r45_30)) (.cond (.tmp 182) r45_31 (.seq r45_32 (.cond (.tmp 189) r45_33 (.seq r45_34 (.cond (.tmp 204) (.seq r45_35 (.block 2 (.seq r45_36 (.cond (.tmp 217) r45_37 (.seq r45_38 (.cond (.tmp 228) r45_39 (.seq r45_40 (.cond (.tmp 239) r45_41 (.seq r45_42 (.cond (.tmp 250) r45_43 r45_44)))))))))) (.seq r45_45 (.cond (.tmp 261) (.seq r45_46 (.cond (.tmp 266) r45_47 .skip)) (.block 1 (.seq r45_48 (.cond (.tmp 34) (.seq r45_49 (.seq r45_50 r45_51)) (.seq r45_52 (.cond (.tmp 63) (.seq r45_53 (.seq r45_54 r45_55)) r45_56)))))))))))))))))))))))))) := by kernel_rfl
noncomputable def L45_0 : {l : List Oper // (opsOf r45_0).map strip = l} := by refine ⟨?l, ?h⟩; case h => simp only [r45_0, c45, bodyOf, Tryd.f45, Code.sub, opsOf, List.map_cons, List.map_nil, strip]; rfl
theorem w45_0 : W Tryd.prog TT S 208 [217, 228, 239, 250, 261, 266] r45_0 k E m Q ↔ Rg Tryd.prog TT S 208 [217, 228, 239, 250, 261, 266] [10, 11, 12, 13, 14, 15, 16, 17, 18, 19, 20, 21] [] (lgo E [0] (lops Tryd.prog (callw Tryd.prog TT S) [(some 10), (some 11), (some 12), (some 13), (some 14), (some 15), (some 16), (some 17), (some 18), (some 19), (some 20), (some 21)] (L45_0).1 E m)) k E Q := w_plain (by kernel_rfl) (L45_0).2
noncomputable def L45_1 : {l : List Oper // (opsOf r45_1).map strip = l} := by refine ⟨?l, ?h⟩; case h => simp only [r45_1, c45, bodyOf, Tryd.f45, Code.sub, opsOf, List.map_cons, List.map_nil, strip]; rfl
theorem w45_1 : W Tryd.prog TT S 208 [217, 228, 239, 250, 261, 266] r45_1 k E m Q ↔ Rg Tryd.prog TT S 208 [217, 228, 239, 250, 261, 266] [22, 23, 24, 25, 26, 27, 28] [] (lgo E [1, 0] (lops Tryd.prog (callw Tryd.prog TT S) [(some 22), (some 23), (some 24), (some 25), (some 26), (some 27), (some 28)] (L45_1).1 E m)) k E Q := w_plain (by kernel_rfl) (L45_1).2
noncomputable def L45_2 : {l : List Oper // (opsOf r45_2).map strip = l} := by refine ⟨?l, ?h⟩; case h => simp only [r45_2, c45, bodyOf, Tryd.f45, Code.sub, opsOf, List.map_cons, List.map_nil, strip]; rfl
theorem w45_2 : W Tryd.prog TT S 208 [217, 228, 239, 250, 261, 266] r45_2 k E m Q ↔ Rg Tryd.prog TT S 208 [217, 228, 239, 250, 261, 266] [29, 30] [] (lgo E [0] (lops Tryd.prog (callw Tryd.prog TT S) [(some 29), (some 30)] (L45_2).1 E m)) k E Q := w_plain (by kernel_rfl) (L45_2).2
noncomputable def L45_3 : {l : List Oper // (opsOf r45_3).map strip = l} := by refine ⟨?l, ?h⟩; case h => simp only [r45_3, c45, bodyOf, Tryd.f45, Code.sub, opsOf, List.map_cons, List.map_nil, strip]; rfl
theorem w45_3 : W Tryd.prog TT S 208 [217, 228, 239, 250, 261, 266] r45_3 k E m Q ↔ Rg Tryd.prog TT S 208 [217, 228, 239, 250, 261, 266] [96, 95] [] (lgo E [30] (lops Tryd.prog (callw Tryd.prog TT S) [(some 96), (some 95)] (L45_3).1 E m)) k E Q := w_plain (by kernel_rfl) (L45_3).2
noncomputable def L45_4 : {l : List Oper // (opsOf r45_4).map strip = l} := by refine ⟨?l, ?h⟩; case h => simp only [r45_4, c45, bodyOf, Tryd.f45, Code.sub, opsOf, List.map_cons, List.map_nil, strip]; rfl
theorem w45_4 : W Tryd.prog TT S 208 [217, 228, 239, 250, 261, 266] r45_4 k E m Q ↔ Rg Tryd.prog TT S 208 [217, 228, 239, 250, 261, 266] [97, 95] [] (lgo E [30] (lops Tryd.prog (callw Tryd.prog TT S) [(some 97), (some 95)] (L45_4).1 E m)) k E Q := w_plain (by kernel_rfl) (L45_4).2
noncomputable def L45_5 : {l : List Oper // (opsOf r45_5).map strip = l} := by refine ⟨?l, ?h⟩; case h => simp only [r45_5, c45, bodyOf, Tryd.f45, Code.sub, opsOf, List.map_cons, List.map_nil, strip]; rfl
theorem w45_5 : W Tryd.prog TT S 208 [217, 228, 239, 250, 261, 266] r45_5 k E m Q ↔ Rg Tryd.prog TT S 208 [217, 228, 239, 250, 261, 266] [98, 99, 6] [] (lgo E [0] (lops Tryd.prog (callw Tryd.prog TT S) [(some 98), (some 99), (some 6)] (L45_5).1 E m)) k E Q := w_plain (by kernel_rfl) (L45_5).2
noncomputable def L45_6 : {l : List Oper // (opsOf r45_6).map strip = l} := by refine ⟨?l, ?h⟩; case h => simp only [r45_6, c45, bodyOf, Tryd.f45, Code.sub, opsOf, List.map_cons, List.map_nil, strip]; rfl
theorem w45_6 : W Tryd.prog TT S 208 [217, 228, 239, 250, 261, 266] r45_6 k E m Q ↔ Rg Tryd.prog TT S 208 [217, 228, 239, 250, 261, 266] [100, 101, 102, 103, 104, 105, 106] [] (lgo E [1, 0, 6] (lops Tryd.prog (callw Tryd.prog TT S) [(some 100), (some 101), (some 102), (some 103), (some 104), (some 105), (some 106)] (L45_6).1 E m)) k E Q := w_plain (by kernel_rfl) (L45_6).2
noncomputable def L45_7 : {l : List Oper // (opsOf r45_7).map strip = l} := by refine ⟨?l, ?h⟩; case h => simp only [r45_7, c45, bodyOf, Tryd.f45, Code.sub, opsOf, List.map_cons, List.map_nil, strip]; rfl
theorem w45_7 : W Tryd.prog TT S 208 [217, 228, 239, 250, 261, 266] r45_7 k E m Q ↔ Rg Tryd.prog TT S 208 [217, 228, 239, 250, 261, 266] [108, 107] [] (lgo E [30] (lops Tryd.prog (callw Tryd.prog TT S) [(some 108), (some 107)] (L45_7).1 E m)) k E Q := w_plain (by kernel_rfl) (L45_7).2
noncomputable def L45_8 : {l : List Oper // (opsOf r45_8).map strip = l} := by refine ⟨?l, ?h⟩; case h => simp only [r45_8, c45, bodyOf, Tryd.f45, Code.sub, opsOf, List.map_cons, List.map_nil, strip]; rfl
theorem w45_8 : W Tryd.prog TT S 208 [217, 228, 239, 250, 261, 266] r45_8 k E m Q ↔ Rg Tryd.prog TT S 208 [217, 228, 239, 250, 261, 266] [109, 107] [] (lgo E [30] (lops Tryd.prog (callw Tryd.prog TT S) [(some 109), (some 107)] (L45_8).1 E m)) k E Q := w_plain (by kernel_rfl) (L45_8).2
noncomputable def L45_9 : {l : List Oper // (opsOf r45_9).map strip = l} := by refine ⟨?l, ?h⟩; case h => simp only [r45_9, c45, bodyOf, Tryd.f45, Code.sub, opsOf, List.map_cons, List.map_nil, strip]; rfl
theorem w45_9 : W Tryd.prog TT S 208 [217, 228, 239, 250, 261, 266] r45_9 k E m Q ↔ Rg Tryd.prog TT S 208 [217, 228, 239, 250, 261, 266] [110, 107] [] (lgo E [30] (lops Tryd.prog (callw Tryd.prog TT S) [(some 110), (some 107)] (L45_9).1 E m)) k E Q := w_plain (by kernel_rfl) (L45_9).2
noncomputable def L45_10 : {l : List Oper // (opsOf r45_10).map strip = l} := by refine ⟨?l, ?h⟩; case h => simp only [r45_10, c45, bodyOf, Tryd.f45, Code.sub, opsOf, List.map_cons, List.map_nil, strip]; rfl
theorem w45_10 : W Tryd.prog TT S 208 [217, 228, 239, 250, 261, 266] r45_10 k E m Q ↔ Rg Tryd.prog TT S 208 [217, 228, 239, 250, 261, 266] [111, 112, 7] [] (lgo E [0] (lops Tryd.prog (callw Tryd.prog TT S) [(some 111), (some 112), (some 7)] (L45_10).1 E m)) k E Q := w_plain (by kernel_rfl) (L45_10).2
noncomputable def L45_11 : {l : List Oper // (opsOf r45_11).map strip = l} := by refine ⟨?l, ?h⟩; case h => simp only [r45_11, c45, bodyOf, Tryd.f45, Code.sub, opsOf, List.map_cons, List.map_nil, strip]; rfl
theorem w45_11 : W Tryd.prog TT S 208 [217, 228, 239, 250, 261, 266] r45_11 k E m Q ↔ Rg Tryd.prog TT S 208 [217, 228, 239, 250, 261, 266] [113, 114] [] (lgo E [7] (lops Tryd.prog (callw Tryd.prog TT S) [(some 113), (some 114)] (L45_11).1 E m)) k E Q := w_plain (by kernel_rfl) (L45_11).2
noncomputable def L45_12 : {l : List Oper // (opsOf r45_12).map strip = l} := by refine ⟨?l, ?h⟩; case h => simp only [r45_12, c45, bodyOf, Tryd.f45, Code.sub, opsOf, List.map_cons, List.map_nil, strip]; rfl
theorem w45_12 : W Tryd.prog TT S 208 [217, 228, 239, 250, 261, 266] r45_12 k E m Q ↔ Rg Tryd.prog TT S 208 [217, 228, 239, 250, 261, 266] [115, 116, 117, 118, 119, 120, 121, 122] [] (lgo E [1, 7, 0] (lops Tryd.prog (callw Tryd.prog TT S) [(some 115), (some 116), (some 117), (some 118), (some 119), (some 120), (some 121), (some 122)] (L45_12).1 E m)) k E Q := w_plain (by kernel_rfl) (L45_12).2
noncomputable def L45_13 : {l : List Oper // (opsOf r45_13).map strip = l} := by refine ⟨?l, ?h⟩; case h => simp only [r45_13, c45, bodyOf, Tryd.f45, Code.sub, opsOf, List.map_cons, List.map_nil, strip]; rfl
theorem w45_13 : W Tryd.prog TT S 208 [217, 228, 239, 250, 261, 266] r45_13 k E m Q ↔ Rg Tryd.prog TT S 208 [217, 228, 239, 250, 261, 266] [124, 123] [] (lgo E [30] (lops Tryd.prog (callw Tryd.prog TT S) [(some 124), (some 123)] (L45_13).1 E m)) k E Q := w_plain (by kernel_rfl) (L45_13).2
noncomputable def L45_14 : {l : List Oper // (opsOf r45_14).map strip = l} := by refine ⟨?l, ?h⟩; case h => simp only [r45_14, c45, bodyOf, Tryd.f45, Code.sub, opsOf, List.map_cons, List.map_nil, strip]; rfl
theorem w45_14 : W Tryd.prog TT S 208 [217, 228, 239, 250, 261, 266] r45_14 k E m Q ↔ Rg Tryd.prog TT S 208 [217, 228, 239, 250, 261, 266] [125, 126, 8] [] (lgo E [0] (lops Tryd.prog (callw Tryd.prog TT S) [(some 125), (some 126), (some 8)] (L45_14).1 E m)) k E Q := w_plain (by kernel_rfl) (L45_14).2
noncomputable def L45_15 : {l : List Oper // (opsOf r45_15).map strip = l} := by refine ⟨?l, ?h⟩; case h => simp only [r45_15, c45, bodyOf, Tryd.f45, Code.sub, opsOf, List.map_cons, List.map_nil, strip]; rfl
theorem w45_15 : W Tryd.prog TT S 208 [217, 228, 239, 250, 261, 266] r45_15 k E m Q ↔ Rg Tryd.prog TT S 208 [217, 228, 239, 250, 261, 266] [127, 128] [] (lgo E [8] (lops Tryd.prog (callw Tryd.prog TT S) [(some 127), (some 128)] (L45_15).1 E m)) k E Q := w_plain (by kernel_rfl) (L45_15).2
noncomputable def L45_16 : {l : List Oper // (opsOf r45_16).map strip = l} := by refine ⟨?l, ?h⟩; case h => simp only [r45_16, c45, bodyOf, Tryd.f45, Code.sub, opsOf, List.map_cons, List.map_nil, strip]; rfl
theorem w45_16 : W Tryd.prog TT S 208 [217, 228, 239, 250, 261, 266] r45_16 k E m Q ↔ Rg Tryd.prog TT S 208 [217, 228, 239, 250, 261, 266] [129, 130, 131, 132, 133, 134, 135, 136] [] (lgo E [1, 8, 0] (lops Tryd.prog (callw Tryd.prog TT S) [(some 129), (some 130), (some 131), (some 132), (some 133), (some 134), (some 135), (some 136)] (L45_16).1 E m)) k E Q := w_plain (by kernel_rfl) (L45_16).2
noncomputable def L45_17 : {l : List Oper // (opsOf r45_17).map strip = l} := by refine ⟨?l, ?h⟩; case h => simp only [r45_17, c45, bodyOf, Tryd.f45, Code.sub, opsOf, List.map_cons, List.map_nil, strip]; rfl
theorem w45_17 : W Tryd.prog TT S 208 [217, 228, 239, 250, 261, 266] r45_17 k E m Q ↔ Rg Tryd.prog TT S 208 [217, 228, 239, 250, 261, 266] [138, 137] [] (lgo E [30] (lops Tryd.prog (callw Tryd.prog TT S) [(some 138), (some 137)] (L45_17).1 E m)) k E Q := w_plain (by kernel_rfl) (L45_17).2
noncomputable def L45_18 : {l : List Oper // (opsOf r45_18).map strip = l} := by refine ⟨?l, ?h⟩; case h => simp only [r45_18, c45, bodyOf, Tryd.f45, Code.sub, opsOf, List.map_cons, List.map_nil, strip]; rfl
theorem w45_18 : W Tryd.prog TT S 208 [217, 228, 239, 250, 261, 266] r45_18 k E m Q ↔ Rg Tryd.prog TT S 208 [217, 228, 239, 250, 261, 266] [139, 140, 9] [] (lgo E [0] (lops Tryd.prog (callw Tryd.prog TT S) [(some 139), (some 140), (some 9)] (L45_18).1 E m)) k E Q := w_plain (by kernel_rfl) (L45_18).2
noncomputable def L45_19 : {l : List Oper // (opsOf r45_19).map strip = l} := by refine ⟨?l, ?h⟩; case h => simp only [r45_19, c45, bodyOf, Tryd.f45, Code.sub, opsOf, List.map_cons, List.map_nil, strip]; rfl
theorem w45_19 : W Tryd.prog TT S 208 [217, 228, 239, 250, 261, 266] r45_19 k E m Q ↔ Rg Tryd.prog TT S 208 [217, 228, 239, 250, 261, 266] [141, 142, 143, 144, 145, 146, 147, 148] [] (lgo E [1, 0, 9] (lops Tryd.prog (callw Tryd.prog TT S) [(some 141), (some 142), (some 143), (some 144), (some 145), (some 146), (some 147), (some 148)] (L45_19).1 E m)) k E Q := w_plain (by kernel_rfl) (L45_19).2
noncomputable def L45_20 : {l : List Oper // (opsOf r45_20).map strip = l} := by refine ⟨?l, ?h⟩; case h => simp only [r45_20, c45, bodyOf, Tryd.f45, Code.sub, opsOf, List.map_cons, List.map_nil, strip]; rfl
theorem w45_20 : W Tryd.prog TT S 208 [217, 228, 239, 250, 261, 266] r45_20 k E m Q ↔ Rg Tryd.prog TT S 208 [217, 228, 239, 250, 261, 266] [150, 149] [] (lgo E [30] (lops Tryd.prog (callw Tryd.prog TT S) [(some 150), (some 149)] (L45_20).1 E m)) k E Q := w_plain (by kernel_rfl) (L45_20).2
noncomputable def L45_21 : {l : List Oper // (opsOf r45_21).map strip = l} := by refine ⟨?l, ?h⟩; case h => simp only [r45_21, c45, bodyOf, Tryd.f45, Code.sub, opsOf, List.map_cons, List.map_nil, strip]; rfl
theorem w45_21 : W Tryd.prog TT S 208 [217, 228, 239, 250, 261, 266] r45_21 k E m Q ↔ Rg Tryd.prog TT S 208 [217, 228, 239, 250, 261, 266] [151, 149] [] (lgo E [30] (lops Tryd.prog (callw Tryd.prog TT S) [(some 151), (some 149)] (L45_21).1 E m)) k E Q := w_plain (by kernel_rfl) (L45_21).2
noncomputable def L45_22 : {l : List Oper // (opsOf r45_22).map strip = l} := by refine ⟨?l, ?h⟩; case h => simp only [r45_22, c45, bodyOf, Tryd.f45, Code.sub, opsOf, List.map_cons, List.map_nil, strip]; rfl
theorem w45_22 : W Tryd.prog TT S 208 [217, 228, 239, 250, 261, 266] r45_22 k E m Q ↔ Rg Tryd.prog TT S 208 [217, 228, 239, 250, 261, 266] [152, 153] [] (lgo E [2] (lops Tryd.prog (callw Tryd.prog TT S) [(some 152), (some 153)] (L45_22).1 E m)) k E Q := w_plain (by kernel_rfl) (L45_22).2
noncomputable def L45_23 : {l : List Oper // (opsOf r45_23).map strip = l} := by refine ⟨?l, ?h⟩; case h => simp only [r45_23, c45, bodyOf, Tryd.f45, Code.sub, opsOf, List.map_cons, List.map_nil, strip]; rfl
theorem w45_23 : W Tryd.prog TT S 208 [217, 228, 239, 250, 261, 266] r45_23 k E m Q ↔ Rg Tryd.prog TT S 208 [217, 228, 239, 250, 261, 266] [154, 155, 156, 157, 158, 159, 160] [] (lgo E [1, 0] (lops Tryd.prog (callw Tryd.prog TT S) [(some 154), (some 155), (some 156), (some 157), (some 158), (some 159), (some 160)] (L45_23).1 E m)) k E Q := w_plain (by kernel_rfl) (L45_23).2
noncomputable def L45_24 : {l : List Oper // (opsOf r45_24).map strip = l} := by refine ⟨?l, ?h⟩; case h => simp only [r45_24, c45, bodyOf, Tryd.f45, Code.sub, opsOf, List.map_cons, List.map_nil, strip]; rfl
theorem w45_24 : W Tryd.prog TT S 208 [217, 228, 239, 250, 261, 266] r45_24 k E m Q ↔ Rg Tryd.prog TT S 208 [217, 228, 239, 250, 261, 266] [161, 162, 163, 164, 165, 166] [] (lgo E [0, 1, 2] (lops Tryd.prog (callw Tryd.prog TT S) [(some 161), (some 162), (some 163), (some 164), (some 165), (some 166)] (L45_24).1 E m)) k E Q := w_plain (by kernel_rfl) (L45_24).2
noncomputable def L45_25 : {l : List Oper // (opsOf r45_25).map strip = l} := by refine ⟨?l, ?h⟩; case h => simp only [r45_25, c45, bodyOf, Tryd.f45, Code.sub, opsOf, List.map_cons, List.map_nil, strip]; rfl
theorem w45_25 : W Tryd.prog TT S 208 [217, 228, 239, 250, 261, 266] r45_25 k E m Q ↔ Rg Tryd.prog TT S 208 [217, 228, 239, 250, 261, 266] [167, 168, 169] [] (lgo E [0] (lops Tryd.prog (callw Tryd.prog TT S) [(some 167), (some 168), (some 169)] (L45_25).1 E m)) k E Q := w_plain (by kernel_rfl) (L45_25).2
noncomputable def L45_26 : {l : List Oper // (opsOf r45_26).map strip = l} := by refine ⟨?l, ?h⟩; case h => simp only [r45_26, c45, bodyOf, Tryd.f45, Code.sub, opsOf, List.map_cons, List.map_nil, strip]; rfl
theorem w45_26 : W Tryd.prog TT S 208 [217, 228, 239, 250, 261, 266] r45_26 k E m Q ↔ Rg Tryd.prog TT S 208 [217, 228, 239, 250, 261, 266] [170, 171, 172] [] (lgo E [0, 1] (lops Tryd.prog (callw Tryd.prog TT S) [(some 170), (some 171), (some 172)] (L45_26).1 E m)) k E Q := w_plain (by kernel_rfl) (L45_26).2
noncomputable def L45_27 : {l : List Oper // (opsOf r45_27).map strip = l} := by refine ⟨?l, ?h⟩; case h => simp only [r45_27, c45, bodyOf, Tryd.f45, Code.sub, opsOf, List.map_cons, List.map_nil, strip]; rfl
theorem w45_27 : W Tryd.prog TT S 208 [217, 228, 239, 250, 261, 266] r45_27 k E m Q ↔ Rg Tryd.prog TT S 208 [217, 228, 239, 250, 261, 266] [173, 174, 175, 176, 177, 178] [] (lgo E [0, 1, 2] (lops Tryd.prog (callw Tryd.prog TT S) [(some 173), (some 174), (some 175), (some 176), (some 177), (some 178)] (L45_27).1 E m)) k E Q := w_plain (by kernel_rfl) (L45_27).2
noncomputable def L45_28 : {l : List Oper // (opsOf r45_28).map strip = l} := by refine ⟨?l, ?h⟩; case h => simp only [r45_28, c45, bodyOf, Tryd.f45, Code.sub, opsOf, List.map_cons, List.map_nil, strip]; rfl
theorem w45_28 : W Tryd.prog TT S 208 [217, 228, 239, 250, 261, 266] r45_28 k E m Q ↔ Rg Tryd.prog TT S 208 [217, 228, 239, 250, 261, 266] [179, 180, 181] [] (lgo E [0, 1] (lops Tryd.prog (callw Tryd.prog TT S) [(some 179), (some 180), (some 181)] (L45_28).1 E m)) k E Q := w_plain (by kernel_rfl) (L45_28).2
noncomputable def L45_29 : {l : List Oper // (opsOf r45_29).map strip = l} := by refine ⟨?l, ?h⟩; case h => simp only [r45_29, c45, bodyOf, Tryd.f45, Code.sub, opsOf, List.map_cons, List.map_nil, strip]; rfl
theorem w45_29 : W Tryd.prog TT S 208 [217, 228, 239, 250, 261, 266] r45_29 k E m Q ↔ Rg Tryd.prog TT S 208 [217, 228, 239, 250, 261, 266] [183, 182] [] (lgo E [30] (lops Tryd.prog (callw Tryd.prog TT S) [(some 183), (some 182)] (L45_29).1 E m)) k E Q := w_plain (by kernel_rfl) (L45_29).2
noncomputable def L45_30 : {l : List Oper // (opsOf r45_30).map strip = l} := by refine ⟨?l, ?h⟩; case h => simp only [r45_30, c45, bodyOf, Tryd.f45, Code.sub, opsOf, List.map_cons, List.map_nil, strip]; rfl
theorem w45_30 : W Tryd.prog TT S 208 [217, 228, 239, 250, 261, 266] r45_30 k E m Q ↔ Rg Tryd.prog TT S 208 [217, 228, 239, 250, 261, 266] [184, 182] [] (lgo E [30] (lops Tryd.prog (callw Tryd.prog TT S) [(some 184), (some 182)] (L45_30).1 E m)) k E Q := w_plain (by kernel_rfl) (L45_30).2
noncomputable def L45_31 : {l : List Oper // (opsOf r45_31).map strip = l} := by refine ⟨?l, ?h⟩; case h => simp only [r45_31, c45, bodyOf, Tryd.f45, Code.sub, opsOf, List.map_cons, List.map_nil, strip]; rfl
theorem w45_31 : W Tryd.prog TT S 208 [217, 228, 239, 250, 261, 266] r45_31 k E m Q ↔ Rg Tryd.prog TT S 208 [217, 228, 239, 250, 261, 266] [185, 186, 187, 188] [] (lgo E [0, 1, 2] (lops Tryd.prog (callw Tryd.prog TT S) [(some 185), (some 186), (some 187), (some 188)] (L45_31).1 E m)) k E Q := w_plain (by kernel_rfl) (L45_31).2
noncomputable def L45_32 : {l : List Oper // (opsOf r45_32).map strip = l} := by refine ⟨?l, ?h⟩; case h => simp only [r45_32, c45, bodyOf, Tryd.f45, Code.sub, opsOf, List.map_cons, List.map_nil, strip]; rfl
theorem w45_32 : W Tryd.prog TT S 208 [217, 228, 239, 250, 261, 266] r45_32 k E m Q ↔ Rg Tryd.prog TT S 208 [217, 228, 239, 250, 261, 266] [190, 189] [] (lgo E [30] (lops Tryd.prog (callw Tryd.prog TT S) [(some 190), (some 189)] (L45_32).1 E m)) k E Q := w_plain (by kernel_rfl) (L45_32).2
noncomputable def L45_33 : {l : List Oper // (opsOf r45_33).map strip = l} := by refine ⟨?l, ?h⟩; case h => simp only [r45_33, c45, bodyOf, Tryd.f45, Code.sub, opsOf, List.map_cons, List.map_nil, strip]; rfl
theorem w45_33 : W Tryd.prog TT S 208 [217, 228, 239, 250, 261, 266] r45_33 k E m Q ↔ Rg Tryd.prog TT S 208 [217, 228, 239, 250, 261, 266] [191, 192, 193, 194, 195, 196, 197, 198, 199, 200, 201, 202, 203] [] (lgo E [1, 0] (lops Tryd.prog (callw Tryd.prog TT S) [(some 191), (some 192), (some 193), (some 194), (some 195), (some 196), (some 197), (some 198), (some 199), (some 200), (some 201), (some 202), (some 203)] (L45_33).1 E m)) k E Q := w_plain (by kernel_rfl) (L45_33).2
noncomputable def L45_34 : {l : List Oper // (opsOf r45_34).map strip = l} := by refine ⟨?l, ?h⟩; case h => simp only [r45_34, c45, bodyOf, Tryd.f45, Code.sub, opsOf, List.map_cons, List.map_nil, strip]; rfl
theorem w45_34 : W Tryd.prog TT S 208 [217, 228, 239, 250, 261, 266] r45_34 k E m Q ↔ Rg Tryd.prog TT S 208 [217, 228, 239, 250, 261, 266] [205, 204] [] (lgo E [30] (lops Tryd.prog (callw Tryd.prog TT S) [(some 205), (some 204)] (L45_34).1 E m)) k E Q := w_plain (by kernel_rfl) (L45_34).2
noncomputable def L45_35 : {l : List Oper // (opsOf r45_35).map strip = l} := by refine ⟨?l, ?h⟩; case h => simp only [r45_35, c45, bodyOf, Tryd.f45, Code.sub, opsOf, List.map_cons, List.map_nil, strip]; rfl
theorem w45_35 : W Tryd.prog TT S 208 [217, 228, 239, 250, 261, 266] r45_35 k E m Q ↔ Rg Tryd.prog TT S 208 [217, 228, 239, 250, 261, 266] [206, 207] [] (lgo E [0] (lops Tryd.prog (callw Tryd.prog TT S) [(some 206), (some 207)] (L45_35).1 E m)) k E Q := w_plain (by kernel_rfl) (L45_35).2
noncomputable def L45_36 : {l : List Oper // (opsOf r45_36).map strip = l} := by refine ⟨?l, ?h⟩; case h => simp only [r45_36, c45, bodyOf, Tryd.f45, Code.sub, opsOf, List.map_cons, List.map_nil, strip]; rfl
theorem w45_36 : W Tryd.prog TT S 208 [217, 228, 239, 250, 261, 266] r45_36 k E m Q ↔ Rg Tryd.prog TT S 208 [217, 228, 239, 250, 261, 266] [] [217] (lgo E [207] (lops Tryd.prog (callw Tryd.prog TT S) [(some 218), (some 217)] (L45_36).1 E m)) k E Q := w_plain (by kernel_rfl) (L45_36).2
noncomputable def L45_37 : {l : List Oper // (opsOf r45_37).map strip = l} := by refine ⟨?l, ?h⟩; case h => simp only [r45_37, c45, bodyOf, Tryd.f45, Code.sub, opsOf, List.map_cons, List.map_nil, strip]; rfl
theorem w45_37 : W Tryd.prog TT S 208 [217, 228, 239, 250, 261, 266] r45_37 k E m Q ↔ Rg Tryd.prog TT S 208 [217, 228, 239, 250, 261, 266] [] [] (lgo E [1, 0] (lops Tryd.prog (callw Tryd.prog TT S) [(some 219), (some 220), (some 221), (some 222), (some 223), (some 224), (some 225), (some 226), (some 227)] (L45_37).1 E m)) k E Q := w_plain (by kernel_rfl) (L45_37).2
noncomputable def L45_38 : {l : List Oper // (opsOf r45_38).map strip = l} := by refine ⟨?l, ?h⟩; case h => simp only [r45_38, c45, bodyOf, Tryd.f45, Code.sub, opsOf, List.map_cons, List.map_nil, strip]; rfl
theorem w45_38 : W Tryd.prog TT S 208 [217, 228, 239, 250, 261, 266] r45_38 k E m Q ↔ Rg Tryd.prog TT S 208 [217, 228, 239, 250, 261, 266] [] [228] (lgo E [207] (lops Tryd.prog (callw Tryd.prog TT S) [(some 229), (some 228)] (L45_38).1 E m)) k E Q := w_plain (by kernel_rfl) (L45_38).2
noncomputable def L45_39 : {l : List Oper // (opsOf r45_39).map strip = l} := by refine ⟨?l, ?h⟩; case h => simp only [r45_39, c45, bodyOf, Tryd.f45, Code.sub, opsOf, List.map_cons, List.map_nil, strip]; rfl
theorem w45_39 : W Tryd.prog TT S 208 [217, 228, 239, 250, 261, 266] r45_39 k E m Q ↔ Rg Tryd.prog TT S 208 [217, 228, 239, 250, 261, 266] [] [] (lgo E [1, 0] (lops Tryd.prog (callw Tryd.prog TT S) [(some 230), (some 231), (some 232), (some 233), (some 234), (some 235), (some 236), (some 237), (some 238)] (L45_39).1 E m)) k E Q := w_plain (by kernel_rfl) (L45_39).2
noncomputable def L45_40 : {l : List Oper // (opsOf r45_40).map strip = l} := by refine ⟨?l, ?h⟩; case h => simp only [r45_40, c45, bodyOf, Tryd.f45, Code.sub, opsOf, List.map_cons, List.map_nil, strip]; rfl
theorem w45_40 : W Tryd.prog TT S 208 [217, 228, 239, 250, 261, 266] r45_40 k E m Q ↔ Rg Tryd.prog TT S 208 [217, 228, 239, 250, 261, 266] [] [239] (lgo E [207] (lops Tryd.prog (callw Tryd.prog TT S) [(some 240), (some 239)] (L45_40).1 E m)) k E Q := w_plain (by kernel_rfl) (L45_40).2
noncomputable def L45_41 : {l : List Oper // (opsOf r45_41).map strip = l} := by refine ⟨?l, ?h⟩; case h => simp only [r45_41, c45, bodyOf, Tryd.f45, Code.sub, opsOf, List.map_cons, List.map_nil, strip]; rfl
theorem w45_41 : W Tryd.prog TT S 208 [217, 228, 239, 250, 261, 266] r45_41 k E m Q ↔ Rg Tryd.prog TT S 208 [217, 228, 239, 250, 261, 266] [] [] (lgo E [1, 0] (lops Tryd.prog (callw Tryd.prog TT S) [(some 241), (some 242), (some 243), (some 244), (some 245), (some 246), (some 247), (some 248), (some 249)] (L45_41).1 E m)) k E Q := w_plain (by kernel_rfl) (L45_41).2
noncomputable def L45_42 : {l : List Oper // (opsOf r45_42).map strip = l} := by refine ⟨?l, ?h⟩; case h => simp only [r45_42, c45, bodyOf, Tryd.f45, Code.sub, opsOf, List.map_cons, List.map_nil, strip]; rfl
theorem w45_42 : W Tryd.prog TT S 208 [217, 228, 239, 250, 261, 266] r45_42 k E m Q ↔ Rg Tryd.prog TT S 208 [217, 228, 239, 250, 261, 266] [] [250] (lgo E [207] (lops Tryd.prog (callw Tryd.prog TT S) [(some 251), (some 250)] (L45_42).1 E m)) k E Q := w_plain (by kernel_rfl) (L45_42).2
noncomputable def L45_43 : {l : List Oper // (opsOf r45_43).map strip = l} := by refine ⟨?l, ?h⟩; case h => simp only [r45_43, c45, bodyOf, Tryd.f45, Code.sub, opsOf, List.map_cons, List.map_nil, strip]; rfl
theorem w45_43 : W Tryd.prog TT S 208 [217, 228, 239, 250, 261, 266] r45_43 k E m Q ↔ Rg Tryd.prog TT S 208 [217, 228, 239, 250, 261, 266] [] [] (lgo E [1, 0] (lops Tryd.prog (callw Tryd.prog TT S) [(some 252), (some 253), (some 254), (some 255), (some 256), (some 257), (some 258), (some 259), (some 260)] (L45_43).1 E m)) k E Q := w_plain (by kernel_rfl) (L45_43).2
noncomputable def L45_44 : {l : List Oper // (opsOf r45_44).map strip = l} := by refine ⟨?l, ?h⟩; case h => simp only [r45_44, c45, bodyOf, Tryd.f45, Code.sub, opsOf, List.map_cons, List.map_nil, strip]; rfl
theorem w45_44 : W Tryd.prog TT S 208 [217, 228, 239, 250, 261, 266] r45_44 k E m Q ↔ Rg Tryd.prog TT S 208 [217, 228, 239, 250, 261, 266] [] [] (lgo E [1, 0] (lops Tryd.prog (callw Tryd.prog TT S) [(some 208), (some 209), (some 210), (some 211), (some 212), (some 213), (some 214), (some 215), (some 216)] (L45_44).1 E m)) k E Q := w_plain (by kernel_rfl) (L45_44).2
noncomputable def L45_45 : {l : List Oper // (opsOf r45_45).map strip = l} := by refine ⟨?l, ?h⟩; case h => simp only [r45_45, c45, bodyOf, Tryd.f45, Code.sub, opsOf, List.map_cons, List.map_nil, strip]; rfl
theorem w45_45 : W Tryd.prog TT S 208 [217, 228, 239, 250, 261, 266] r45_45 k E m Q ↔ Rg Tryd.prog TT S 208 [217, 228, 239, 250, 261, 266] [] [261] (lgo E [30] (lops Tryd.prog (callw Tryd.prog TT S) [(some 262), (some 261)] (L45_45).1 E m)) k E Q := w_plain (by kernel_rfl) (L45_45).2
noncomputable def L45_46 : {l : List Oper // (opsOf r45_46).map strip = l} := by refine ⟨?l, ?h⟩; case h => simp only [r45_46, c45, bodyOf, Tryd.f45, Code.sub, opsOf, List.map_cons, List.map_nil, strip]; rfl
theorem w45_46 : W Tryd.prog TT S 208 [217, 228, 239, 250, 261, 266] r45_46 k E m Q ↔ Rg Tryd.prog TT S 208 [217, 228, 239, 250, 261, 266] [] [266] (lgo E [0] (lops Tryd.prog (callw Tryd.prog TT S) [(some 263), (some 264), (some 265), (some 266)] (L45_46).1 E m)) k E Q := w_plain (by kernel_rfl) (L45_46).2
noncomputable def L45_47 : {l : List Oper // (opsOf r45_47).map strip = l} := by refine ⟨?l, ?h⟩; case h => simp only [r45_47, c45, bodyOf, Tryd.f45, Code.sub, opsOf, List.map_cons, List.map_nil, strip]; rfl
theorem w45_47 : W Tryd.prog TT S 208 [217, 228, 239, 250, 261, 266] r45_47 k E m Q ↔ Rg Tryd.prog TT S 208 [217, 228, 239, 250, 261, 266] [] [] (lgo E [1, 0] (lops Tryd.prog (callw Tryd.prog TT S) [(some 267), (some 268), (some 269), (some 270), (some 271), (some 272), (some 273), (some 274), (some 275), (some 276)] (L45_47).1 E m)) k E Q := w_plain (by kernel_rfl) (L45_47).2
noncomputable def L45_48 : {l : List Oper // (opsOf r45_48).map strip = l} := by refine ⟨?l, ?h⟩; case h => simp only [r45_48, c45, bodyOf, Tryd.f45, Code.sub, opsOf, List.map_cons, List.map_nil, strip]; rfl
theorem w45_48 : W Tryd.prog TT S 208 [217, 228, 239, 250, 261, 266] r45_48 k E m Q ↔ Rg Tryd.prog TT S 208 [217, 228, 239, 250, 261, 266] [35, 36, 37, 38, 39, 40, 41, 42, 43, 44, 34] [] (lgo E [0] (lops Tryd.prog (callw Tryd.prog TT S) [(some 35), (some 36), (some 37), (some 38), (some 39), (some 40), (some 41), (some 42), (some 43), (some 44), (some 34)] (L45_48).1 E m)) k E Q := w_plain (by kernel_rfl) (L45_48).2
noncomputable def L45_49 : {l : List Oper // (opsOf r45_49).map strip = l} := by refine ⟨?l, ?h⟩; case h => simp only [r45_49, c45, bodyOf, Tryd.f45, Code.sub, opsOf, List.map_cons, List.map_nil, strip]; rfl
theorem w45_49 : W Tryd.prog TT S 208 [217, 228, 239, 250, 261, 266] r45_49 k E m Q ↔ Rg Tryd.prog TT S 208 [217, 228, 239, 250, 261, 266] [45, 46, 47, 48, 49, 50, 51] [] (lgo E [1, 0] (lops Tryd.prog (callw Tryd.prog TT S) [(some 45), (some 46), (some 47), (some 48), (some 49), (some 50), (some 51)] (L45_49).1 E m)) k E Q := w_plain (by kernel_rfl) (L45_49).2
noncomputable def L45_50 : {l : List Oper // (opsOf r45_50).map strip = l} := by refine ⟨?l, ?h⟩; case h => simp only [r45_50, c45, bodyOf, Tryd.f45, Code.sub, opsOf, List.map_cons, List.map_nil, strip]; rfl
theorem w45_50 : W Tryd.prog TT S 208 [217, 228, 239, 250, 261, 266] r45_50 k E m Q ↔ Rg Tryd.prog TT S 208 [217, 228, 239, 250, 261, 266] [52, 53, 54, 55, 56, 57, 58, 59] [] (lgo E [1, 0] (lops Tryd.prog (callw Tryd.prog TT S) [(some 52), (some 53), (some 54), (some 55), (some 56), (some 57), (some 58), (some 59)] (L45_50).1 E m)) k E Q := w_plain (by kernel_rfl) (L45_50).2
noncomputable def L45_51 : {l : List Oper // (opsOf r45_51).map strip = l} := by refine ⟨?l, ?h⟩; case h => simp only [r45_51, c45, bodyOf, Tryd.f45, Code.sub, opsOf, List.map_cons, List.map_nil, strip]; rfl
theorem w45_51 : W Tryd.prog TT S 208 [217, 228, 239, 250, 261, 266] r45_51 k E m Q ↔ Rg Tryd.prog TT S 208 [217, 228, 239, 250, 261, 266] [60, 61, 62] [] (lgo E [0, 1] (lops Tryd.prog (callw Tryd.prog TT S) [(some 60), (some 61), (some 62)] (L45_51).1 E m)) k E Q := w_plain (by kernel_rfl) (L45_51).2
noncomputable def L45_52 : {l : List Oper // (opsOf r45_52).map strip = l} := by refine ⟨?l, ?h⟩; case h => simp only [r45_52, c45, bodyOf, Tryd.f45, Code.sub, opsOf, List.map_cons, List.map_nil, strip]; rfl
theorem w45_52 : W Tryd.prog TT S 208 [217, 228, 239, 250, 261, 266] r45_52 k E m Q ↔ Rg Tryd.prog TT S 208 [217, 228, 239, 250, 261, 266] [64, 65, 66, 67, 68, 69, 70, 71, 72, 73, 63] [] (lgo E [0] (lops Tryd.prog (callw Tryd.prog TT S) [(some 64), (some 65), (some 66), (some 67), (some 68), (some 69), (some 70), (some 71), (some 72), (some 73), (some 63)] (L45_52).1 E m)) k E Q := w_plain (by kernel_rfl) (L45_52).2
noncomputable def L45_53 : {l : List Oper // (opsOf r45_53).map strip = l} := by refine ⟨?l, ?h⟩; case h => simp only [r45_53, c45, bodyOf, Tryd.f45, Code.sub, opsOf, List.map_cons, List.map_nil, strip]; rfl
theorem w45_53 : W Tryd.prog TT S 208 [217, 228, 239, 250, 261, 266] r45_53 k E m Q ↔ Rg Tryd.prog TT S 208 [217, 228, 239, 250, 261, 266] [74, 75, 76, 77, 78, 79, 80] [] (lgo E [1, 0] (lops Tryd.prog (callw Tryd.prog TT S) [(some 74), (some 75), (some 76), (some 77), (some 78), (some 79), (some 80)] (L45_53).1 E m)) k E Q := w_plain (by kernel_rfl) (L45_53).2
noncomputable def L45_54 : {l : List Oper // (opsOf r45_54).map strip = l} := by refine ⟨?l, ?h⟩; case h => simp only [r45_54, c45, bodyOf, Tryd.f45, Code.sub, opsOf, List.map_cons, List.map_nil, strip]; rfl
theorem w45_54 : W Tryd.prog TT S 208 [217, 228, 239, 250, 261, 266] r45_54 k E m Q ↔ Rg Tryd.prog TT S 208 [217, 228, 239, 250, 261, 266] [81, 82, 83, 84, 85, 86, 87, 88, 89, 90, 91] [] (lgo E [1, 0] (lops Tryd.prog (callw Tryd.prog TT S) [(some 81), (some 82), (some 83), (some 84), (some 85), (some 86), (some 87), (some 88), (some 89), (some 90), (some 91)] (L45_54).1 E m)) k E Q := w_plain (by kernel_rfl) (L45_54).2
noncomputable def L45_55 : {l : List Oper // (opsOf r45_55).map strip = l} := by refine ⟨?l, ?h⟩; case h => simp only [r45_55, c45, bodyOf, Tryd.f45, Code.sub, opsOf, List.map_cons, List.map_nil, strip]; rfl
theorem w45_55 : W Tryd.prog TT S 208 [217, 228, 239, 250, 261, 266] r45_55 k E m Q ↔ Rg Tryd.prog TT S 208 [217, 228, 239, 250, 261, 266] [92, 93, 94] [] (lgo E [0, 1] (lops Tryd.prog (callw Tryd.prog TT S) [(some 92), (some 93), (some 94)] (L45_55).1 E m)) k E Q := w_plain (by kernel_rfl) (L45_55).2
noncomputable def L45_56 : {l : List Oper // (opsOf r45_56).map strip = l} := by refine ⟨?l, ?h⟩; case h => simp only [r45_56, c45, bodyOf, Tryd.f45, Code.sub, opsOf, List.map_cons, List.map_nil, strip]; rfl
theorem w45_56 : W Tryd.prog TT S 208 [217, 228, 239, 250, 261, 266] r45_56 k E m Q ↔ Rg Tryd.prog TT S 208 [217, 228, 239, 250, 261, 266] [31, 32, 33] [] (lgo E [0, 1] (lops Tryd.prog (callw Tryd.prog TT S) [(some 31), (some 32), (some 33)] (L45_56).1 E m)) k E Q := w_plain (by kernel_rfl) (L45_56).2
theorem k45 : FnIs TT 45 c45 [] 3 := ⟨Tryd.f45, by kernel_rfl, by simp only [Tryd.f45, c45, bodyOf], by kernel_rfl, of_decide_eq_true (by kernel_rfl)⟩

/- (*turnstonehand.maker).leaf -/
noncomputable def c46 : Code := bodyOf Tryd.f46
noncomputable def r46_0 : Code := Code.sub [0] c46
noncomputable def r46_1 : Code := Code.sub [1, 0, 0] c46
noncomputable def r46_2 : Code := Code.sub [1, 0, 1, 0] c46
noncomputable def r46_3 : Code := Code.sub [1, 0, 1, 1, 0, 0] c46
noncomputable def r46_4 : Code := Code.sub [1, 1, 0, 0] c46
noncomputable def r46_5 : Code := Code.sub [1, 1, 0, 1, 0, 0] c46
noncomputable def r46_6 : Code := Code.sub [1, 1, 0, 1, 0, 1, 0, 0] c46
noncomputable def r46_7 : Code := Code.sub [1, 1, 0, 1, 0, 1, 1, 0] c46
noncomputable def r46_8 : Code := Code.sub [1, 1, 0, 1, 0, 1, 1, 1, 0, 0] c46
noncomputable def r46_9 : Code := Code.sub [1, 1, 0, 1, 0, 1, 1, 1, 1, 0] c46
noncomputable def r46_10 : Code := Code.sub [1, 1, 0, 1, 0, 1, 1, 1, 1, 1, 0, 0] c46
noncomputable def r46_11 : Code := Code.sub [1, 1, 0, 1, 0, 1, 1, 1, 1, 1, 1, 0] c46
noncomputable def r46_12 : Code := Code.sub [1, 1, 0, 1, 0, 1, 1, 1, 1, 1, 1, 1, 0, 0] c46
noncomputable def r46_13 : Code := Code.sub [1, 1, 0, 1, 0, 1, 1, 1, 1, 1, 1, 1, 1, 0] c46
noncomputable def r46_14 : Code := Code.sub [1, 1, 0, 1, 0, 1, 1, 1, 1, 1, 1, 1, 1, 1, 0, 0] c46
noncomputable def r46_15 : Code := Code.sub [1, 1, 0, 1, 0, 1, 1, 1, 1, 1, 1, 1, 1, 1, 1, 0] c46
noncomputable def r46_16 : Code := Code.sub [1, 1, 0, 1, 0, 1, 1, 1, 1, 1, 1, 1, 1, 1, 1, 1, 0, 0] c46
noncomputable def r46_17 : Code := Code.sub [1, 1, 1, 0] c46
theorem body46 : c46 = (.seq r46_0 (.seq (.seq r46_1 (.seq r46_2 (.cond (.tmp 15) (.seq r46_3 .ret) .skip))) (.seq (.seq r46_4 (.block 0 (.seq r46_5 (.cond (.tmp 18) (.seq r46_6 .ret) (.seq r46_7 (.cond (.tmp 24) (.seq r46_8 .ret) (.seq r46_9 (.cond (.tmp 30) (.seq r46_10 .ret) (.seq r46_11 (.cond (.tmp 36) (.seq r46_12 .ret) (.seq r46_13 (.cond (.tmp 38) (.seq r46_14 .ret) (.seq r46_15 (.cond (.tmp 40) (.seq r46_16 .ret) .skip)))))))))))))) (.seq r46_17 .ret)))) := by kernel_rfl
noncomputable def L46_0 : {l : List Oper // (opsOf r46_0).map strip = l} := by refine ⟨?l, ?h⟩; case h => simp only [r46_0, c46, bodyOf, Tryd.f46, Code.sub, opsOf, List.map_cons, List.map_nil, strip]; rfl
theorem w46_0 : W Tryd.prog TT S 18 [18, 24, 30, 36, 38, 40] r46_0 k E m Q ↔ Rg Tryd.prog TT S 18 [18, 24, 30, 36, 38, 40] [4] [] (lgo E [] (lops Tryd.prog (callw Tryd.prog TT S) [(some 4)] (L46_0).1 E m)) k E Q := w_plain (by kernel_rfl) (L46_0).2
noncomputable def L46_1 : {l : List Oper // (opsOf r46_1).map strip = l} := by refine ⟨?l, ?h⟩; case h => simp only [r46_1, c46, bodyOf, Tryd.f46, Code.sub, opsOf, List.map_cons, List.map_nil, strip]; rfl
theorem w46_1 : W Tryd.prog TT S 18 [18, 24, 30, 36, 38, 40] r46_1 k E m Q ↔ Rg Tryd.prog TT S 18 [18, 24, 30, 36, 38, 40] [6, 7, 8, 5] [] (lgo E [0, 1] (lops Tryd.prog (callw Tryd.prog TT S) [(some 6), (some 7), (some 8), (some 5)] (L46_1).1 E m)) k E Q := w_plain (by kernel_rfl) (L46_1).2
noncomputable def L46_2 : {l : List Oper // (opsOf r46_2).map strip = l} := by refine ⟨?l, ?h⟩; case h => simp only [r46_2, c46, bodyOf, Tryd.f46, Code.sub, opsOf, List.map_cons, List.map_nil, strip]; rfl
theorem w46_2 : W Tryd.prog TT S 18 [18, 24, 30, 36, 38, 40] r46_2 k E m Q ↔ Rg Tryd.prog TT S 18 [18, 24, 30, 36, 38, 40] [9, 10, 11, 12, 13, 14, 15] [] (lgo E [5, 0] (lops Tryd.prog (callw Tryd.prog TT S) [(some 9), (some 10), (some 11), (some 12), (some 13), (some 14), (some 15)] (L46_2).1 E m)) k E Q := w_plain (by kernel_rfl) (L46_2).2
noncomputable def L46_3 : {l : List Oper // (opsOf r46_3).map strip = l} := by refine ⟨?l, ?h⟩; case h => simp only [r46_3, c46, bodyOf, Tryd.f46, Code.sub, opsOf, List.map_cons, List.map_nil, strip]; rfl
theorem w46_3 : W Tryd.prog TT S 18 [18, 24, 30, 36, 38, 40] r46_3 k E m Q ↔ Rg Tryd.prog TT S 18 [18, 24, 30, 36, 38, 40] [16, 4] [] (lgo E [5] (lops Tryd.prog (callw Tryd.prog TT S) [(some 16), (some 4)] (L46_3).1 E m)) k E Q := w_plain (by kernel_rfl) (L46_3).2
noncomputable def L46_4 : {l : List Oper // (opsOf r46_4).map strip = l} := by refine ⟨?l, ?h⟩; case h => simp only [r46_4, c46, bodyOf, Tryd.f46, Code.sub, opsOf, List.map_cons, List.map_nil, strip]; rfl
theorem w46_4 : W Tryd.prog TT S 18 [18, 24, 30, 36, 38, 40] r46_4 k E m Q ↔ Rg Tryd.prog TT S 18 [18, 24, 30, 36, 38, 40] [17] [] (lgo E [1] (lops Tryd.prog (callw Tryd.prog TT S) [(some 17)] (L46_4).1 E m)) k E Q := w_plain (by kernel_rfl) (L46_4).2
noncomputable def L46_5 : {l : List Oper // (opsOf r46_5).map strip = l} := by refine ⟨?l, ?h⟩; case h => simp only [r46_5, c46, bodyOf, Tryd.f46, Code.sub, opsOf, List.map_cons, List.map_nil, strip]; rfl
theorem w46_5 : W Tryd.prog TT S 18 [18, 24, 30, 36, 38, 40] r46_5 k E m Q ↔ Rg Tryd.prog TT S 18 [18, 24, 30, 36, 38, 40] [] [18] (lgo E [17] (lops Tryd.prog (callw Tryd.prog TT S) [(some 19), (some 18)] (L46_5).1 E m)) k E Q := w_plain (by kernel_rfl) (L46_5).2
noncomputable def L46_6 : {l : List Oper // (opsOf r46_6).map strip = l} := by refine ⟨?l, ?h⟩; case h => simp only [r46_6, c46, bodyOf, Tryd.f46, Code.sub, opsOf, List.map_cons, List.map_nil, strip]; rfl
theorem w46_6 : W Tryd.prog TT S 18 [18, 24, 30, 36, 38, 40] r46_6 k E m Q ↔ Rg Tryd.prog TT S 18 [18, 24, 30, 36, 38, 40] [4] [] (lgo E [0] (lops Tryd.prog (callw Tryd.prog TT S) [(some 20), (some 21), (some 22), (some 23), (some 4)] (L46_6).1 E m)) k E Q := w_plain (by kernel_rfl) (L46_6).2
noncomputable def L46_7 : {l : List Oper // (opsOf r46_7).map strip = l} := by refine ⟨?l, ?h⟩; case h => simp only [r46_7, c46, bodyOf, Tryd.f46, Code.sub, opsOf, List.map_cons, List.map_nil, strip]; rfl
theorem w46_7 : W Tryd.prog TT S 18 [18, 24, 30, 36, 38, 40] r46_7 k E m Q ↔ Rg Tryd.prog TT S 18 [18, 24, 30, 36, 38, 40] [] [24] (lgo E [17] (lops Tryd.prog (callw Tryd.prog TT S) [(some 25), (some 24)] (L46_7).1 E m)) k E Q := w_plain (by kernel_rfl) (L46_7).2
noncomputable def L46_8 : {l : List Oper // (opsOf r46_8).map strip = l} := by refine ⟨?l, ?h⟩; case h => simp only [r46_8, c46, bodyOf, Tryd.f46, Code.sub, opsOf, List.map_cons, List.map_nil, strip]; rfl
theorem w46_8 : W Tryd.prog TT S 18 [18, 24, 30, 36, 38, 40] r46_8 k E m Q ↔ Rg Tryd.prog TT S 18 [18, 24, 30, 36, 38, 40] [4] [] (lgo E [0] (lops Tryd.prog (callw Tryd.prog TT S) [(some 26), (some 27), (some 28), (some 29), (some 4)] (L46_8).1 E m)) k E Q := w_plain (by kernel_rfl) (L46_8).2
noncomputable def L46_9 : {l : List Oper // (opsOf r46_9).map strip = l} := by refine ⟨?l, ?h⟩; case h => simp only [r46_9, c46, bodyOf, Tryd.f46, Code.sub, opsOf, List.map_cons, List.map_nil, strip]; rfl
theorem w46_9 : W Tryd.prog TT S 18 [18, 24, 30, 36, 38, 40] r46_9 k E m Q ↔ Rg Tryd.prog TT S 18 [18, 24, 30, 36, 38, 40] [] [30] (lgo E [17] (lops Tryd.prog (callw Tryd.prog TT S) [(some 31), (some 30)] (L46_9).1 E m)) k E Q := w_plain (by kernel_rfl) (L46_9).2
noncomputable def L46_10 : {l : List Oper // (opsOf r46_10).map strip = l} := by refine ⟨?l, ?h⟩; case h => simp only [r46_10, c46, bodyOf, Tryd.f46, Code.sub, opsOf, List.map_cons, List.map_nil, strip]; rfl
theorem w46_10 : W Tryd.prog TT S 18 [18, 24, 30, 36, 38, 40] r46_10 k E m Q ↔ Rg Tryd.prog TT S 18 [18, 24, 30, 36, 38, 40] [4] [] (lgo E [0] (lops Tryd.prog (callw Tryd.prog TT S) [(some 32), (some 33), (some 34), (some 35), (some 4)] (L46_10).1 E m)) k E Q := w_plain (by kernel_rfl) (L46_10).2
noncomputable def L46_11 : {l : List Oper // (opsOf r46_11).map strip = l} := by refine ⟨?l, ?h⟩; case h => simp only [r46_11, c46, bodyOf, Tryd.f46, Code.sub, opsOf, List.map_cons, List.map_nil, strip]; rfl
theorem w46_11 : W Tryd.prog TT S 18 [18, 24, 30, 36, 38, 40] r46_11 k E m Q ↔ Rg Tryd.prog TT S 18 [18, 24, 30, 36, 38, 40] [] [36] (lgo E [17] (lops Tryd.prog (callw Tryd.prog TT S) [(some 37), (some 36)] (L46_11).1 E m)) k E Q := w_plain (by kernel_rfl) (L46_11).2
noncomputable def L46_12 : {l : List Oper // (opsOf r46_12).map strip = l} := by refine ⟨?l, ?h⟩; case h => simp only [r46_12, c46, bodyOf, Tryd.f46, Code.sub, opsOf, List.map_cons, List.map_nil, strip]; rfl
theorem w46_12 : W Tryd.prog TT S 18 [18, 24, 30, 36, 38, 40] r46_12 k E m Q ↔ Rg Tryd.prog TT S 18 [18, 24, 30, 36, 38, 40] [4] [] (lgo E [] (lops Tryd.prog (callw Tryd.prog TT S) [(some 4)] (L46_12).1 E m)) k E Q := w_plain (by kernel_rfl) (L46_12).2
noncomputable def L46_13 : {l : List Oper // (opsOf r46_13).map strip = l} := by refine ⟨?l, ?h⟩; case h => simp only [r46_13, c46, bodyOf, Tryd.f46, Code.sub, opsOf, List.map_cons, List.map_nil, strip]; rfl
theorem w46_13 : W Tryd.prog TT S 18 [18, 24, 30, 36, 38, 40] r46_13 k E m Q ↔ Rg Tryd.prog TT S 18 [18, 24, 30, 36, 38, 40] [] [38] (lgo E [17] (lops Tryd.prog (callw Tryd.prog TT S) [(some 39), (some 38)] (L46_13).1 E m)) k E Q := w_plain (by kernel_rfl) (L46_13).2
noncomputable def L46_14 : {l : List Oper // (opsOf r46_14).map strip = l} := by refine ⟨?l, ?h⟩; case h => simp only [r46_14, c46, bodyOf, Tryd.f46, Code.sub, opsOf, List.map_cons, List.map_nil, strip]; rfl
theorem w46_14 : W Tryd.prog TT S 18 [18, 24, 30, 36, 38, 40] r46_14 k E m Q ↔ Rg Tryd.prog TT S 18 [18, 24, 30, 36, 38, 40] [4] [] (lgo E [] (lops Tryd.prog (callw Tryd.prog TT S) [(some 4)] (L46_14).1 E m)) k E Q := w_plain (by kernel_rfl) (L46_14).2
noncomputable def L46_15 : {l : List Oper // (opsOf r46_15).map strip = l} := by refine ⟨?l, ?h⟩; case h => simp only [r46_15, c46, bodyOf, Tryd.f46, Code.sub, opsOf, List.map_cons, List.map_nil, strip]; rfl
theorem w46_15 : W Tryd.prog TT S 18 [18, 24, 30, 36, 38, 40] r46_15 k E m Q ↔ Rg Tryd.prog TT S 18 [18, 24, 30, 36, 38, 40] [] [40] (lgo E [17] (lops Tryd.prog (callw Tryd.prog TT S) [(some 41), (some 40)] (L46_15).1 E m)) k E Q := w_plain (by kernel_rfl) (L46_15).2
noncomputable def L46_16 : {l : List Oper // (opsOf r46_16).map strip = l} := by refine ⟨?l, ?h⟩; case h => simp only [r46_16, c46, bodyOf, Tryd.f46, Code.sub, opsOf, List.map_cons, List.map_nil, strip]; rfl
theorem w46_16 : W Tryd.prog TT S 18 [18, 24, 30, 36, 38, 40] r46_16 k E m Q ↔ Rg Tryd.prog TT S 18 [18, 24, 30, 36, 38, 40] [4] [] (lgo E [] (lops Tryd.prog (callw Tryd.prog TT S) [(some 4)] (L46_16).1 E m)) k E Q := w_plain (by kernel_rfl) (L46_16).2
noncomputable def L46_17 : {l : List Oper // (opsOf r46_17).map strip = l} := by refine ⟨?l, ?h⟩; case h => simp only [r46_17, c46, bodyOf, Tryd.f46, Code.sub, opsOf, List.map_cons, List.map_nil, strip]; rfl
theorem w46_17 : W Tryd.prog TT S 18 [18, 24, 30, 36, 38, 40] r46_17 k E m Q ↔ Rg Tryd.prog TT S 18 [18, 24, 30, 36, 38, 40] [4] [] (lgo E [] (lops Tryd.prog (callw Tryd.prog TT S) [(some 4)] (L46_17).1 E m)) k E Q := w_plain (by kernel_rfl) (L46_17).2
theorem k46 : FnIs TT 46 c46 [.tmp 4] 2 := ⟨Tryd.f46, by kernel_rfl, by simp only [Tryd.f46, c46, bodyOf], by kernel_rfl, of_decide_eq_true (by kernel_rfl)⟩

/- (*turnstonehand.maker).expr$1 -/
noncomputable def c47 : Code := bodyOf Tryd.f47
noncomputable def r47_0 : Code := Code.sub [0] c47
noncomputable def r47_1 : Code := Code.sub [1, 0] c47
theorem body47 : c47 = (.seq r47_0 (.seq r47_1 .ret)) := by kernel_rfl
noncomputable def L47_0 : {l : List Oper // (opsOf r47_0).map strip = l} := by refine ⟨?l, ?h⟩; case h => simp only [r47_0, c47, bodyOf, Tryd.f47, Code.sub, opsOf, List.map_cons, List.map_nil, strip]; rfl
theorem w47_0 : W Tryd.prog TT S 5 [] r47_0 k E m Q ↔ Rg Tryd.prog TT S 5 [] [4] [] (lgo E [] (lops Tryd.prog (callw Tryd.prog TT S) [(some 4)] (L47_0).1 E m)) k E Q := w_plain (by kernel_rfl) (L47_0).2
noncomputable def L47_1 : {l : List Oper // (opsOf r47_1).map strip = l} := by refine ⟨?l, ?h⟩; case h => simp only [r47_1, c47, bodyOf, Tryd.f47, Code.sub, opsOf, List.map_cons, List.map_nil, strip]; rfl
theorem w47_1 : W Tryd.prog TT S 5 [] r47_1 k E m Q ↔ Rg Tryd.prog TT S 5 [] [4] [] (lgo E [1, 0, 2] (lops Tryd.prog (callw Tryd.prog TT S) [(some 5), (some 6), (some 7), (some 8), (some 9), (some 4)] (L47_1).1 E m)) k E Q := w_plain (by kernel_rfl) (L47_1).2
theorem k47 : FnIs TT 47 c47 [.tmp 4] 3 := ⟨Tryd.f47, by kernel_rfl, by simp only [Tryd.f47, c47, bodyOf], by kernel_rfl, of_decide_eq_true (by kernel_rfl)⟩

/- (*turnstonehand.maker).declare -/
noncomputable def c50 : Code := bodyOf Tryd.f50
noncomputable def r50_0 : Code := Code.sub [0] c50
noncomputable def r50_1 : Code := Code.sub [1, 0] c50
noncomputable def r50_2 : Code := Code.sub [1, 1, 0, 0] c50
noncomputable def r50_3 : Code := Code.sub [1, 1, 0, 1, 0] c50
noncomputable def r50_4 : Code := Code.sub [1, 1, 0, 1, 1] c50
noncomputable def r50_5 : Code := Code.sub [1, 1, 1] c50
theorem body50 : c50 = (.seq r50_0 (.seq r50_1 (.seq (.seq r50_2 (.cond (.tmp 23) r50_3 r50_4)) r50_5))) := by kernel_rfl
noncomputable def L50_0 : {l : List Oper // (opsOf r50_0).map strip = l} := by refine ⟨?l, ?h⟩; case h => simp only [r50_0, c50, bodyOf, Tryd.f50, Code.sub, opsOf, List.map_cons, List.map_nil, strip]; rfl
theorem w50_0 : W Tryd.prog TT S 9 [23] r50_0 k E m Q ↔ Rg Tryd.prog TT S 9 [23] [8] [] (lgo E [0] (lops Tryd.prog (callw Tryd.prog TT S) [(some 9), (some 10), (some 11), (some 12), (some 13), (some 14), (some 8)] (L50_0).1 E m)) k E Q := w_plain (by kernel_rfl) (L50_0).2
noncomputable def L50_1 : {l : List Oper // (opsOf r50_1).map strip = l} := by refine ⟨?l, ?h⟩; case h => simp only [r50_1, c50, bodyOf, Tryd.f50, Code.sub, opsOf, List.map_cons, List.map_nil, strip]; rfl
theorem w50_1 : W Tryd.prog TT S 9 [23] r50_1 k E m Q ↔ Rg Tryd.prog TT S 9 [23] [] [] (lgo E [0] (lops Tryd.prog (callw Tryd.prog TT S) [(some 15), (some 16), (some 17), (some 18), (some 19), (some 20), (some 21), none] (L50_1).1 E m)) k E Q := w_plain (by kernel_rfl) (L50_1).2
noncomputable def L50_2 : {l : List Oper // (opsOf r50_2).map strip = l} := by refine ⟨?l, ?h⟩; case h => simp only [r50_2, c50, bodyOf, Tryd.f50, Code.sub, opsOf, List.map_cons, List.map_nil, strip]; rfl
theorem w50_2 : W Tryd.prog TT S 9 [23] r50_2 k E m Q ↔ Rg Tryd.prog TT S 9 [23] [] [23] (lgo E [1] (lops Tryd.prog (callw Tryd.prog TT S) [(some 22), (some 23)] (L50_2).1 E m)) k E Q := w_plain (by kernel_rfl) (L50_2).2
noncomputable def L50_3 : {l : List Oper // (opsOf r50_3).map strip = l} := by refine ⟨?l, ?h⟩; case h => simp only [r50_3, c50, bodyOf, Tryd.f50, Code.sub, opsOf, List.map_cons, List.map_nil, strip]; rfl
theorem w50_3 : W Tryd.prog TT S 9 [23] r50_3 k E m Q ↔ Rg Tryd.prog TT S 9 [23] [] [] (lgo E [0, 2, 8, 3] (lops Tryd.prog (callw Tryd.prog TT S) [(some 24), (some 25), (some 26), (some 27), (some 28), (some 29), (some 30), (some 31)] (L50_3).1 E m)) k E Q := w_plain (by kernel_rfl) (L50_3).2
noncomputable def L50_4 : {l : List Oper // (opsOf r50_4).map strip = l} := by refine ⟨?l, ?h⟩; case h => simp only [r50_4, c50, bodyOf, Tryd.f50, Code.sub, opsOf, List.map_cons, List.map_nil, strip]; rfl
theorem w50_4 : W Tryd.prog TT S 9 [23] r50_4 k E m Q ↔ Rg Tryd.prog TT S 9 [23] [] [] (lgo E [0, 2, 8, 3] (lops Tryd.prog (callw Tryd.prog TT S) [(some 32), (some 33), (some 34), (some 35), (some 36), (some 37), (some 38)] (L50_4).1 E m)) k E Q := w_plain (by kernel_rfl) (L50_4).2
theorem can50_5 : canonOps (opsOf r50_5) = List.filterMap (fun i => ((opsOf r50_5)[i]?).map (renum [0, 1, 2, 3, 4, 6, 7, 8, 9, 10, 11, 12, 5, 13, 14, 15, 16, 17, 18])) [0, 1, 2, 3, 4, 6, 7, 8, 9, 10, 11, 12, 5, 13, 14, 15, 16, 17, 18] := by kernel_rfl
noncomputable def L50_5 : {l : List Oper // (canonOps (opsOf r50_5)).map strip = l} := by refine ⟨?l, (congrArg (List.map strip) can50_5).trans ?h⟩; case h => simp only [r50_5, c50, bodyOf, Tryd.f50, Code.sub, opsOf, List.filterMap_cons, List.filterMap_nil, List.getElem?_cons_succ, List.getElem?_cons_zero, Option.map_some, renum, List.map_cons, List.map_nil, strip]; rfl
theorem w50_5 : W Tryd.prog TT S 9 [23] r50_5 k E m Q ↔ Rg Tryd.prog TT S 9 [23] [] [] (lgo E [0, 1, 8] (lloud Tryd.prog (callw Tryd.prog TT S) [(some 39), (some 40), (some 41), (some 42), (some 43), (some 45), (some 46), (some 47), (some 48), (some 49), (some 50), (some 51), (some 44), (some 52), (some 53), (some 54), (some 55), (some 56), none] (L50_5).1 [(3, [12, 13, 15, 16, 18]), (8, [12, 13]), (11, [12, 13])] (lstates Tryd.prog (callw Tryd.prog TT S) [(some 39), (some 40), (some 41), (some 42), (some 43), (some 45), (some 46), (some 47), (some 48), (some 49), (some 50), (some 51), (some 44), (some 52), (some 53), (some 54), (some 55), (some 56), none] (L50_5).1 E m))) k E Q := w_loud (by kernel_rfl) (L50_5).2
theorem k50 : FnIs TT 50 c50 [] 4 := ⟨Tryd.f50, by kernel_rfl, by simp only [Tryd.f50, c50, bodyOf], by kernel_rfl, of_decide_eq_true (by kernel_rfl)⟩

/- (*turnstonehand.maker).v -/
noncomputable def c51 : Code := bodyOf Tryd.f51
noncomputable def r51_0 : Code := Code.sub [0] c51
noncomputable def r51_1 : Code := Code.sub [1, 0] c51
noncomputable def r51_2 : Code := Code.sub [1, 1, 0, 0] c51
noncomputable def r51_3 : Code := Code.sub [1, 1, 0, 1, 0, 0] c51
noncomputable def r51_4 : Code := Code.sub [1, 1, 1, 0] c51
theorem body51 : c51 = (.seq r51_0 (.seq r51_1 (.seq (.seq r51_2 (.cond (.tmp 15) (.seq r51_3 .ret) .skip)) (.seq r51_4 .ret)))) := by kernel_rfl
noncomputable def L51_0 : {l : List Oper // (opsOf r51_0).map strip = l} := by refine ⟨?l, ?h⟩; case h => simp only [r51_0, c51, bodyOf, Tryd.f51, Code.sub, opsOf, List.map_cons, List.map_nil, strip]; rfl
theorem w51_0 : W Tryd.prog TT S 6 [15] r51_0 k E m Q ↔ Rg Tryd.prog TT S 6 [15] [4] [] (lgo E [] (lops Tryd.prog (callw Tryd.prog TT S) [(some 4)] (L51_0).1 E m)) k E Q := w_plain (by kernel_rfl) (L51_0).2
noncomputable def L51_1 : {l : List Oper // (opsOf r51_1).map strip = l} := by refine ⟨?l, ?h⟩; case h => simp only [r51_1, c51, bodyOf, Tryd.f51, Code.sub, opsOf, List.map_cons, List.map_nil, strip]; rfl
theorem w51_1 : W Tryd.prog TT S 6 [15] r51_1 k E m Q ↔ Rg Tryd.prog TT S 6 [15] [5] [] (lgo E [0, 1] (lops Tryd.prog (callw Tryd.prog TT S) [(some 6), (some 7), (some 8), (some 9), (some 10), (some 11), (some 12), (some 5)] (L51_1).1 E m)) k E Q := w_plain (by kernel_rfl) (L51_1).2
noncomputable def L51_2 : {l : List Oper // (opsOf r51_2).map strip = l} := by refine ⟨?l, ?h⟩; case h => simp only [r51_2, c51, bodyOf, Tryd.f51, Code.sub, opsOf, List.map_cons, List.map_nil, strip]; rfl
theorem w51_2 : W Tryd.prog TT S 6 [15] r51_2 k E m Q ↔ Rg Tryd.prog TT S 6 [15] [] [15] (lgo E [5] (lops Tryd.prog (callw Tryd.prog TT S) [(some 13), (some 14), (some 15)] (L51_2).1 E m)) k E Q := w_plain (by kernel_rfl) (L51_2).2
noncomputable def L51_3 : {l : List Oper // (opsOf r51_3).map strip = l} := by refine ⟨?l, ?h⟩; case h => simp only [r51_3, c51, bodyOf, Tryd.f51, Code.sub, opsOf, List.map_cons, List.map_nil, strip]; rfl
theorem w51_3 : W Tryd.prog TT S 6 [15] r51_3 k E m Q ↔ Rg Tryd.prog TT S 6 [15] [4] [] (lgo E [] (lops Tryd.prog (callw Tryd.prog TT S) [(some 4)] (L51_3).1 E m)) k E Q := w_plain (by kernel_rfl) (L51_3).2
noncomputable def L51_4 : {l : List Oper // (opsOf r51_4).map strip = l} := by refine ⟨?l, ?h⟩; case h => simp only [r51_4, c51, bodyOf, Tryd.f51, Code.sub, opsOf, List.map_cons, List.map_nil, strip]; rfl
theorem w51_4 : W Tryd.prog TT S 6 [15] r51_4 k E m Q ↔ Rg Tryd.prog TT S 6 [15] [4] [] (lgo E [0, 5] (lops Tryd.prog (callw Tryd.prog TT S) [(some 16), (some 17), (some 18), (some 19), (some 20), (some 21), (some 22), (some 4)] (L51_4).1 E m)) k E Q := w_plain (by kernel_rfl) (L51_4).2
theorem k51 : FnIs TT 51 c51 [.tmp 4] 2 := ⟨Tryd.f51, by kernel_rfl, by simp only [Tryd.f51, c51, bodyOf], by kernel_rfl, of_decide_eq_true (by kernel_rfl)⟩

/- (*turnstonehand.maker).loop -/
noncomputable def c52 : Code := bodyOf Tryd.f52
noncomputable def r52_0 : Code := Code.sub [0, 0] c52
noncomputable def r52_1 : Code := Code.sub [1, 0] c52
noncomputable def r52_2 : Code := Code.sub [1, 1, 0] c52
noncomputable def r52_3 : Code := Code.sub [1, 1, 1, 0] c52
noncomputable def r52_4 : Code := Code.sub [1, 1, 1, 1, 0] c52
noncomputable def r52_5 : Code := Code.sub [1, 1, 1, 1, 1, 0] c52
noncomputable def r52_6 : Code := Code.sub [1, 1, 1, 1, 1, 1, 0, 0] c52
noncomputable def r52_7 : Code := Code.sub [1, 1, 1, 1, 1, 1, 0, 1, 0] c52
noncomputable def r52_8 : Code := Code.sub [1, 1, 1, 1, 1, 1, 0, 1, 1] c52
noncomputable def r52_9 : Code := Code.sub [1, 1, 1, 1, 1, 1, 1, 0] c52
noncomputable def r52_10 : Code := Code.sub [1, 1, 1, 1, 1, 1, 1, 1, 0] c52
noncomputable def r52_11 : Code := Code.sub [1, 1, 1, 1, 1, 1, 1, 1, 1, 0] c52
noncomputable def r52_12 : Code := Code.sub [1, 1, 1, 1, 1, 1, 1, 1, 1, 1, 0] c52
noncomputable def r52_13 : Code := Code.sub [1, 1, 1, 1, 1, 1, 1, 1, 1, 1, 1, 0] c52
noncomputable def r52_14 : Code := Code.sub [1, 1, 1, 1, 1, 1, 1, 1, 1, 1, 1, 1] c52
theorem body52 : c52 = (.seq (.seq r52_0 (.cond (.tmp 9) .ret .skip)) (.seq r52_1 (.seq r52_2 (.seq r52_3 (.seq r52_4 (.seq r52_5 (.seq (.seq r52_6 (.cond (.tmp 52) r52_7 r52_8)) (.seq r52_9 (.seq r52_10 (.seq r52_11 (.seq r52_12 (.seq r52_13 r52_14)))))))))))) := by kernel_rfl
noncomputable def L52_0 : {l : List Oper // (opsOf r52_0).map strip = l} := by refine ⟨?l, ?h⟩; case h => simp only [r52_0, c52, bodyOf, Tryd.f52, Code.sub, opsOf, List.map_cons, List.map_nil, strip]; rfl
theorem w52_0 : W Tryd.prog TT S 8 [9, 52] r52_0 k E m Q ↔ Rg Tryd.prog TT S 8 [9, 52] [] [9] (lgo E [2] (lops Tryd.prog (callw Tryd.prog TT S) [(some 8), (some 9)] (L52_0).1 E m)) k E Q := w_plain (by kernel_rfl) (L52_0).2
noncomputable def L52_1 : {l : List Oper // (opsOf r52_1).map strip = l} := by refine ⟨?l, ?h⟩; case h => simp only [r52_1, c52, bodyOf, Tryd.f52, Code.sub, opsOf, List.map_cons, List.map_nil, strip]; rfl
theorem w52_1 : W Tryd.prog TT S 8 [9, 52] r52_1 k E m Q ↔ Rg Tryd.prog TT S 8 [9, 52] [6] [] (lgo E [0] (lops Tryd.prog (callw Tryd.prog TT S) [(some 10), (some 11), (some 12), (some 13), (some 14), (some 15), (some 6)] (L52_1).1 E m)) k E Q := w_plain (by kernel_rfl) (L52_1).2
noncomputable def L52_2 : {l : List Oper // (opsOf r52_2).map strip = l} := by refine ⟨?l, ?h⟩; case h => simp only [r52_2, c52, bodyOf, Tryd.f52, Code.sub, opsOf, List.map_cons, List.map_nil, strip]; rfl
theorem w52_2 : W Tryd.prog TT S 8 [9, 52] r52_2 k E m Q ↔ Rg Tryd.prog TT S 8 [9, 52] [] [] (lgo E [0] (lops Tryd.prog (callw Tryd.prog TT S) [(some 16), (some 17), (some 18), (some 19), (some 20), (some 21), (some 22), none] (L52_2).1 E m)) k E Q := w_plain (by kernel_rfl) (L52_2).2
noncomputable def L52_3 : {l : List Oper // (opsOf r52_3).map strip = l} := by refine ⟨?l, ?h⟩; case h => simp only [r52_3, c52, bodyOf, Tryd.f52, Code.sub, opsOf, List.map_cons, List.map_nil, strip]; rfl
theorem w52_3 : W Tryd.prog TT S 8 [9, 52] r52_3 k E m Q ↔ Rg Tryd.prog TT S 8 [9, 52] [7] [] (lgo E [0] (lops Tryd.prog (callw Tryd.prog TT S) [(some 23), (some 24), (some 25), (some 26), (some 27), (some 28), (some 7)] (L52_3).1 E m)) k E Q := w_plain (by kernel_rfl) (L52_3).2
noncomputable def L52_4 : {l : List Oper // (opsOf r52_4).map strip = l} := by refine ⟨?l, ?h⟩; case h => simp only [r52_4, c52, bodyOf, Tryd.f52, Code.sub, opsOf, List.map_cons, List.map_nil, strip]; rfl
theorem w52_4 : W Tryd.prog TT S 8 [9, 52] r52_4 k E m Q ↔ Rg Tryd.prog TT S 8 [9, 52] [] [] (lgo E [0, 1, 6] (lops Tryd.prog (callw Tryd.prog TT S) [(some 29), (some 30), (some 31), (some 32), (some 33)] (L52_4).1 E m)) k E Q := w_plain (by kernel_rfl) (L52_4).2
theorem can52_5 : canonOps (opsOf r52_5) = List.filterMap (fun i => ((opsOf r52_5)[i]?).map (renum [0, 1, 2, 3, 5, 6, 7, 8, 9, 10, 4, 11, 12, 13, 14, 15, 16])) [0, 1, 2, 3, 5, 6, 7, 8, 9, 10, 4, 11, 12, 13, 14, 15, 16] := by kernel_rfl
noncomputable def L52_5 : {l : List Oper // (canonOps (opsOf r52_5)).map strip = l} := by refine ⟨?l, (congrArg (List.map strip) can52_5).trans ?h⟩; case h => simp only [r52_5, c52, bodyOf, Tryd.f52, Code.sub, opsOf, List.filterMap_cons, List.filterMap_nil, List.getElem?_cons_succ, List.getElem?_cons_zero, Option.map_some, renum, List.map_cons, List.map_nil, strip]; rfl
theorem w52_5 : W Tryd.prog TT S 8 [9, 52] r52_5 k E m Q ↔ Rg Tryd.prog TT S 8 [9, 52] [] [] (lgo E [0, 6] (lloud Tryd.prog (callw Tryd.prog TT S) [(some 34), (some 35), (some 36), (some 37), (some 39), (some 40), (some 41), (some 42), (some 43), (some 44), (some 38), (some 45), (some 46), (some 47), (some 48), (some 49), none] (L52_5).1 [(3, [10, 11, 13, 14, 16]), (7, [10, 11]), (9, [10, 11])] (lstates Tryd.prog (callw Tryd.prog TT S) [(some 34), (some 35), (some 36), (some 37), (some 39), (some 40), (some 41), (some 42), (some 43), (some 44), (some 38), (some 45), (some 46), (some 47), (some 48), (some 49), none] (L52_5).1 E m))) k E Q := w_loud (by kernel_rfl) (L52_5).2
noncomputable def L52_6 : {l : List Oper // (opsOf r52_6).map strip = l} := by refine ⟨?l, ?h⟩; case h => simp only [r52_6, c52, bodyOf, Tryd.f52, Code.sub, opsOf, List.map_cons, List.map_nil, strip]; rfl
theorem w52_6 : W Tryd.prog TT S 8 [9, 52] r52_6 k E m Q ↔ Rg Tryd.prog TT S 8 [9, 52] [] [52] (lgo E [0] (lops Tryd.prog (callw Tryd.prog TT S) [(some 50), (some 51), (some 52)] (L52_6).1 E m)) k E Q := w_plain (by kernel_rfl) (L52_6).2
noncomputable def L52_7 : {l : List Oper // (opsOf r52_7).map strip = l} := by refine ⟨?l, ?h⟩; case h => simp only [r52_7, c52, bodyOf, Tryd.f52, Code.sub, opsOf, List.map_cons, List.map_nil, strip]; rfl
theorem w52_7 : W Tryd.prog TT S 8 [9, 52] r52_7 k E m Q ↔ Rg Tryd.prog TT S 8 [9, 52] [] [] (lgo E [1, 0] (lops Tryd.prog (callw Tryd.prog TT S) [(some 53), (some 54), (some 55), (some 56), (some 57), (some 58), (some 59)] (L52_7).1 E m)) k E Q := w_plain (by kernel_rfl) (L52_7).2
noncomputable def L52_8 : {l : List Oper // (opsOf r52_8).map strip = l} := by refine ⟨?l, ?h⟩; case h => simp only [r52_8, c52, bodyOf, Tryd.f52, Code.sub, opsOf, List.map_cons, List.map_nil, strip]; rfl
theorem w52_8 : W Tryd.prog TT S 8 [9, 52] r52_8 k E m Q ↔ Rg Tryd.prog TT S 8 [9, 52] [] [] (lgo E [1, 6, 0] (lops Tryd.prog (callw Tryd.prog TT S) [(some 60), (some 61), (some 62), (some 63), (some 64), (some 65), (some 66), (some 67), (some 68), (some 69), (some 70), (some 71)] (L52_8).1 E m)) k E Q := w_plain (by kernel_rfl) (L52_8).2
noncomputable def L52_9 : {l : List Oper // (opsOf r52_9).map strip = l} := by refine ⟨?l, ?h⟩; case h => simp only [r52_9, c52, bodyOf, Tryd.f52, Code.sub, opsOf, List.map_cons, List.map_nil, strip]; rfl
theorem w52_9 : W Tryd.prog TT S 8 [9, 52] r52_9 k E m Q ↔ Rg Tryd.prog TT S 8 [9, 52] [] [] (lgo E [0, 1, 6] (lops Tryd.prog (callw Tryd.prog TT S) [(some 72), (some 73), (some 74), (some 75), (some 76), (some 77), (some 78), (some 79), (some 80)] (L52_9).1 E m)) k E Q := w_plain (by kernel_rfl) (L52_9).2
noncomputable def L52_10 : {l : List Oper // (opsOf r52_10).map strip = l} := by refine ⟨?l, ?h⟩; case h => simp only [r52_10, c52, bodyOf, Tryd.f52, Code.sub, opsOf, List.map_cons, List.map_nil, strip]; rfl
theorem w52_10 : W Tryd.prog TT S 8 [9, 52] r52_10 k E m Q ↔ Rg Tryd.prog TT S 8 [9, 52] [] [] (lgo E [0] (lops Tryd.prog (callw Tryd.prog TT S) [(some 81), (some 82), (some 83), (some 84), (some 85), (some 86), (some 87), none] (L52_10).1 E m)) k E Q := w_plain (by kernel_rfl) (L52_10).2
noncomputable def L52_11 : {l : List Oper // (opsOf r52_11).map strip = l} := by refine ⟨?l, ?h⟩; case h => simp only [r52_11, c52, bodyOf, Tryd.f52, Code.sub, opsOf, List.map_cons, List.map_nil, strip]; rfl
theorem w52_11 : W Tryd.prog TT S 8 [9, 52] r52_11 k E m Q ↔ Rg Tryd.prog TT S 8 [9, 52] [] [] (lgo E [0, 1, 2] (lops Tryd.prog (callw Tryd.prog TT S) [(some 88), (some 89), (some 90), (some 91), (some 92), (some 93)] (L52_11).1 E m)) k E Q := w_plain (by kernel_rfl) (L52_11).2
noncomputable def L52_12 : {l : List Oper // (opsOf r52_12).map strip = l} := by refine ⟨?l, ?h⟩; case h => simp only [r52_12, c52, bodyOf, Tryd.f52, Code.sub, opsOf, List.map_cons, List.map_nil, strip]; rfl
theorem w52_12 : W Tryd.prog TT S 8 [9, 52] r52_12 k E m Q ↔ Rg Tryd.prog TT S 8 [9, 52] [] [] (lgo E [0] (lops Tryd.prog (callw Tryd.prog TT S) [(some 94), (some 95), (some 96), (some 97), (some 98), (some 99), (some 100), none] (L52_12).1 E m)) k E Q := w_plain (by kernel_rfl) (L52_12).2
noncomputable def L52_13 : {l : List Oper // (opsOf r52_13).map strip = l} := by refine ⟨?l, ?h⟩; case h => simp only [r52_13, c52, bodyOf, Tryd.f52, Code.sub, opsOf, List.map_cons, List.map_nil, strip]; rfl
theorem w52_13 : W Tryd.prog TT S 8 [9, 52] r52_13 k E m Q ↔ Rg Tryd.prog TT S 8 [9, 52] [] [] (lgo E [0, 1] (lops Tryd.prog (callw Tryd.prog TT S) [(some 101), (some 102), (some 103)] (L52_13).1 E m)) k E Q := w_plain (by kernel_rfl) (L52_13).2
noncomputable def L52_14 : {l : List Oper // (opsOf r52_14).map strip = l} := by refine ⟨?l, ?h⟩; case h => simp only [r52_14, c52, bodyOf, Tryd.f52, Code.sub, opsOf, List.map_cons, List.map_nil, strip]; rfl
theorem w52_14 : W Tryd.prog TT S 8 [9, 52] r52_14 k E m Q ↔ Rg Tryd.prog TT S 8 [9, 52] [] [] (lgo E [0, 7] (lops Tryd.prog (callw Tryd.prog TT S) [(some 104), (some 105), (some 106), (some 107), none] (L52_14).1 E m)) k E Q := w_plain (by kernel_rfl) (L52_14).2
theorem k52 : FnIs TT 52 c52 [] 3 := ⟨Tryd.f52, by kernel_rfl, by simp only [Tryd.f52, c52, bodyOf], by kernel_rfl, of_decide_eq_true (by kernel_rfl)⟩

/- turnstonehand.Digits -/
noncomputable def c53 : Code := bodyOf Tryd.f53
noncomputable def r53_0 : Code := Code.sub [0] c53
noncomputable def r53_1 : Code := Code.sub [1, 0, 0] c53
noncomputable def r53_2 : Code := Code.sub [1, 0, 1, 0, 0] c53
noncomputable def r53_3 : Code := Code.sub [1, 1, 0] c53
theorem body53 : c53 = (.seq r53_0 (.seq (.seq r53_1 (.cond (.tmp 4) (.seq r53_2 .ret) .skip)) (.seq r53_3 .ret))) := by kernel_rfl
noncomputable def L53_0 : {l : List Oper // (opsOf r53_0).map strip = l} := by refine ⟨?l, ?h⟩; case h => simp only [r53_0, c53, bodyOf, Tryd.f53, Code.sub, opsOf, List.map_cons, List.map_nil, strip]; rfl
theorem w53_0 : W Tryd.prog TT S 3 [4] r53_0 k E m Q ↔ Rg Tryd.prog TT S 3 [4] [2] [] (lgo E [] (lops Tryd.prog (callw Tryd.prog TT S) [(some 2)] (L53_0).1 E m)) k E Q := w_plain (by kernel_rfl) (L53_0).2
noncomputable def L53_1 : {l : List Oper // (opsOf r53_1).map strip = l} := by refine ⟨?l, ?h⟩; case h => simp only [r53_1, c53, bodyOf, Tryd.f53, Code.sub, opsOf, List.map_cons, List.map_nil, strip]; rfl
theorem w53_1 : W Tryd.prog TT S 3 [4] r53_1 k E m Q ↔ Rg Tryd.prog TT S 3 [4] [] [4] (lgo E [0] (lops Tryd.prog (callw Tryd.prog TT S) [(some 3), (some 4)] (L53_1).1 E m)) k E Q := w_plain (by kernel_rfl) (L53_1).2
noncomputable def L53_2 : {l : List Oper // (opsOf r53_2).map strip = l} := by refine ⟨?l, ?h⟩; case h => simp only [r53_2, c53, bodyOf, Tryd.f53, Code.sub, opsOf, List.map_cons, List.map_nil, strip]; rfl
theorem w53_2 : W Tryd.prog TT S 3 [4] r53_2 k E m Q ↔ Rg Tryd.prog TT S 3 [4] [2] [] (lgo E [0] (lops Tryd.prog (callw Tryd.prog TT S) [(some 5), (some 6), (some 7), (some 8), (some 9), (some 10), (some 2)] (L53_2).1 E m)) k E Q := w_plain (by kernel_rfl) (L53_2).2
noncomputable def L53_3 : {l : List Oper // (opsOf r53_3).map strip = l} := by refine ⟨?l, ?h⟩; case h => simp only [r53_3, c53, bodyOf, Tryd.f53, Code.sub, opsOf, List.map_cons, List.map_nil, strip]; rfl
theorem w53_3 : W Tryd.prog TT S 3 [4] r53_3 k E m Q ↔ Rg Tryd.prog TT S 3 [4] [2] [] (lgo E [0] (lops Tryd.prog (callw Tryd.prog TT S) [(some 11), (some 12), (some 13), (some 14), (some 15), (some 16), (some 17), (some 2)] (L53_3).1 E m)) k E Q := w_plain (by kernel_rfl) (L53_3).2
theorem k53 : FnIs TT 53 c53 [.tmp 2] 1 := ⟨Tryd.f53, by kernel_rfl, by simp only [Tryd.f53, c53, bodyOf], by kernel_rfl, of_decide_eq_true (by kernel_rfl)⟩

attribute [simp] body4 w4_0 L4_0 w4_1 L4_1 w4_2 L4_2 w4_3 L4_3 w4_4 L4_4 w4_5 L4_5 w4_6 L4_6 w4_7 L4_7 w4_8 L4_8 w4_9 L4_9 w4_10 L4_10 w4_11 L4_11 w4_12 L4_12 w4_13 L4_13 w4_14 L4_14 w4_15 L4_15 w4_16 L4_16 w4_17 L4_17 w4_18 L4_18 w4_19 L4_19 w4_20 L4_20 w4_21 L4_21 w4_22 L4_22 w4_23 L4_23
attribute [simp] body12 w12_0 L12_0 w12_1 L12_1 w12_2 L12_2 w12_3 L12_3 w12_4 L12_4 w12_5 L12_5 w12_6 L12_6 w12_7 L12_7 w12_8 L12_8 w12_9 L12_9 w12_10 L12_10 w12_11 L12_11
attribute [simp] body20 w20_0 L20_0
attribute [simp] body21 w21_0 L21_0 w21_1 L21_1 w21_2 L21_2 w21_3 L21_3 w21_4 L21_4 w21_5 L21_5 w21_6 L21_6 w21_7 L21_7 w21_8 L21_8 w21_9 L21_9 w21_10 L21_10 w21_11 L21_11 w21_12 L21_12 w21_13 L21_13 w21_14 L21_14 w21_15 L21_15
attribute [simp] body22 w22_0 L22_0 w22_1 L22_1 w22_2 L22_2 w22_3 L22_3 w22_4 L22_4
attribute [simp] body33 w33_0 L33_0 w33_1 L33_1 w33_2 L33_2 w33_3 L33_3 w33_4 L33_4 w33_5 L33_5 w33_6 L33_6
attribute [simp] body34 w34_0 L34_0 w34_1 L34_1 w34_2 L34_2 w34_3 L34_3 w34_4 L34_4 w34_5 L34_5
attribute [simp] body35 w35_0 L35_0 w35_1 L35_1 w35_2 L35_2 w35_3 L35_3 w35_4 L35_4 w35_5 L35_5 w35_6 L35_6 w35_7 L35_7 w35_8 L35_8 w35_9 L35_9 w35_10 L35_10 w35_11 L35_11 w35_12 L35_12 w35_13 L35_13 w35_14 L35_14 w35_15 L35_15 w35_16 L35_16 w35_17 L35_17 w35_18 L35_18 w35_19 L35_19 w35_20 L35_20 w35_21 L35_21 w35_22 L35_22 w35_23 L35_23 w35_24 L35_24 w35_25 L35_25 w35_26 L35_26 w35_27 L35_27 w35_28 L35_28 w35_29 L35_29 w35_30 L35_30 w35_31 L35_31 w35_32 L35_32 w35_33 L35_33 w35_34 L35_34 w35_35 L35_35 w35_36 L35_36 w35_37 L35_37 w35_38 L35_38 w35_39 L35_39 w35_40 L35_40 w35_41 L35_41 w35_42 L35_42 w35_43 L35_43 w35_44 L35_44 w35_45 L35_45 w35_46 L35_46 w35_47 L35_47 w35_48 L35_48 w35_49 L35_49 w35_50 L35_50 w35_51 L35_51 w35_52 L35_52 w35_53 L35_53 w35_54 L35_54 w35_55 L35_55 w35_56 L35_56 w35_57 L35_57 w35_58 L35_58 w35_59 L35_59 w35_60 L35_60 w35_61 L35_61 w35_62 L35_62 w35_63 L35_63 w35_64 L35_64 w35_65 L35_65 w35_66 L35_66 w35_67 L35_67 w35_68 L35_68 w35_69 L35_69 w35_70 L35_70 w35_71 L35_71 w35_72 L35_72 w35_73 L35_73 w35_74 L35_74 w35_75 L35_75 w35_76 L35_76 w35_77 L35_77 w35_78 L35_78 w35_79 L35_79 w35_80 L35_80 w35_81 L35_81 w35_82 L35_82 w35_83 L35_83 w35_84 L35_84 w35_85 L35_85
attribute [simp] body45 w45_0 L45_0 w45_1 L45_1 w45_2 L45_2 w45_3 L45_3 w45_4 L45_4 w45_5 L45_5 w45_6 L45_6 w45_7 L45_7 w45_8 L45_8 w45_9 L45_9 w45_10 L45_10 w45_11 L45_11 w45_12 L45_12 w45_13 L45_13 w45_14 L45_14 w45_15 L45_15 w45_16 L45_16 w45_17 L45_17 w45_18 L45_18 w45_19 L45_19 w45_20 L45_20 w45_21 L45_21 w45_22 L45_22 w45_23 L45_23 w45_24 L45_24 w45_25 L45_25 w45_26 L45_26 w45_27 L45_27 w45_28 L45_28 w45_29 L45_29 w45_30 L45_30 w45_31 L45_31 w45_32 L45_32 w45_33 L45_33 w45_34 L45_34 w45_35 L45_35 w45_36 L45_36 w45_37 L45_37 w45_38 L45_38 w45_39 L45_39 w45_40 L45_40 w45_41 L45_41 w45_42 L45_42 w45_43 L45_43 w45_44 L45_44 w45_45 L45_45 w45_46 L45_46 w45_47 L45_47 w45_48 L45_48 w45_49 L45_49 w45_50 L45_50 w45_51 L45_51 w45_52 L45_52 w45_53 L45_53 w45_54 L45_54 w45_55 L45_55 w45_56 L45_56
attribute [simp] body46 w46_0 L46_0 w46_1 L46_1 w46_2 L46_2 w46_3 L46_3 w46_4 L46_4 w46_5 L46_5 w46_6 L46_6 w46_7 L46_7 w46_8 L46_8 w46_9 L46_9 w46_10 L46_10 w46_11 L46_11 w46_12 L46_12 w46_13 L46_13 w46_14 L46_14 w46_15 L46_15 w46_16 L46_16 w46_17 L46_17
attribute [simp] body47 w47_0 L47_0 w47_1 L47_1
attribute [simp] body50 w50_0 L50_0 w50_1 L50_1 w50_2 L50_2 w50_3 L50_3 w50_4 L50_4 w50_5 L50_5
attribute [simp] body51 w51_0 L51_0 w51_1 L51_1 w51_2 L51_2 w51_3 L51_3 w51_4 L51_4
attribute [simp] body52 w52_0 L52_0 w52_1 L52_1 w52_2 L52_2 w52_3 L52_3 w52_4 L52_4 w52_5 L52_5 w52_6 L52_6 w52_7 L52_7 w52_8 L52_8 w52_9 L52_9 w52_10 L52_10 w52_11 L52_11 w52_12 L52_12 w52_13 L52_13 w52_14 L52_14
attribute [simp] body53 w53_0 L53_0 w53_1 L53_1 w53_2 L53_2 w53_3 L53_3
end Go.Proofs.YtgomgdbapgibjaaDoor.gen
