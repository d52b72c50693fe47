/-
  This text names the regions of the functions that are walked, with the slots that they read and set, and the facts of the types.
  No condition.
-/
import Derived.Test.YtgomgdbapgibjaaDoorProg
import Derived.Test.YtgomgdbapgibjaaDoorShD
set_option maxRecDepth 100000
set_option linter.unusedSimpArgs false
set_option linter.unusedVariables false
namespace Go.Proofs.YtgomgdbapgibjaaDoor.gen
open Go.Sh
def fns : List FuncId := [3, 4, 5, 6, 7, 8, 9, 10, 11, 12, 13, 14, 15, 16, 17, 18, 19, 20, 21, 22, 23, 24, 25, 26, 27, 28, 29, 30, 31, 32, 33, 34, 35, 36, 37, 38, 39, 40, 41, 42, 43, 44, 45, 46, 47, 48, 49, 50, 51, 52, 53]
noncomputable def TT : FuncId → Option Func := Sh.tabOf Tryd.prog fns
variable {S : Sums} {m : Mem} {k : List Fr} {E : LEnv} {Q : Post}
abbrev Lt (c : Code) := {l : List Oper // (opsOf c).map strip = l}
abbrev Lc (c : Code) := {l : List Oper // (canonOps (opsOf c)).map strip = l}
abbrev Wp (c : Code) (nv : Nat) (C ups cs nd : List Nat) (ds : List (Option Nat)) (l : List Oper) : Prop := ∀ {S : Sums} {m : Mem} {k : List Fr} {E : LEnv} {Q : Post}, W Tryd.prog TT S nv C c k E m Q ↔ Rg Tryd.prog TT S nv C ups cs (lgo E nd (lops Tryd.prog (callw Tryd.prog TT S) ds l E m)) k E Q
abbrev Wd (c : Code) (nv : Nat) (C ups cs nd : List Nat) (ds : List (Option Nat)) (l : List Oper) (places : List (Nat × List Nat)) : Prop := ∀ {S : Sums} {m : Mem} {k : List Fr} {E : LEnv} {Q : Post}, W Tryd.prog TT S nv C c k E m Q ↔ Rg Tryd.prog TT S nv C ups cs (lgo E nd (lloud Tryd.prog (callw Tryd.prog TT S) ds l places (lstates Tryd.prog (callw Tryd.prog TT S) ds l E m))) k E Q
theorem ag31 : aggOk Tryd.prog 31 [(3, 0), (9, 1), (2, 2), (3, 3), (3, 4)] = true := by kernel_rfl
theorem ap31 : apOk Tryd.prog 31 5 48 = true := by kernel_rfl
theorem ap48 : apOk Tryd.prog 48 1 24 = true := by kernel_rfl
theorem ap5 : apOk Tryd.prog 5 1 1 = true := by kernel_rfl
theorem ap9 : apOk Tryd.prog 9 1 16 = true := by kernel_rfl
theorem b3 : (Tryd.prog.info? 3).isSome = true := by kernel_rfl
theorem b31 : (Tryd.prog.info? 31).isSome = true := by kernel_rfl
theorem b42 : (Tryd.prog.info? 42).isSome = true := by kernel_rfl
theorem b45 : (Tryd.prog.info? 45).isSome = true := by kernel_rfl
theorem b52 : (Tryd.prog.info? 52).isSome = true := by kernel_rfl
theorem b57 : (Tryd.prog.info? 57).isSome = true := by kernel_rfl
theorem bo31 : buildOk Tryd.prog 31 [.int .i64 0, .string ⟨#[]⟩, .int .i64 0, .int .i64 0, .int .i64 0] [(0, 1), (1, 1), (2, 1), (3, 1), (4, 1)] = true := by kernel_rfl
theorem bo45 : buildOk Tryd.prog 45 [.slice none 0 0, .int .i64 0, .slice none 0 0, .int .i64 0, .int .i64 0, .int .i64 0, .string ⟨#[]⟩, .int .i64 0, .bool false] [(0, 1), (1, 1), (2, 1), (3, 1), (4, 1), (5, 1), (6, 1), (7, 1), (8, 1)] = true := by kernel_rfl
theorem bo52 : buildOk Tryd.prog 52 [.string ⟨#[]⟩, .int .i64 0, .int .i64 0, .int .i64 0, .slice none 0 0, .int .i64 0, .int .i64 0, .string ⟨#[]⟩, .int .i64 0, .int .i64 0, .int .i64 0] [(0, 1), (1, 1), (2, 1), (3, 1), (4, 1), (5, 1), (6, 5)] = true := by kernel_rfl
theorem bo57 : buildOk Tryd.prog 57 [.slice none 0 0, .int .i64 0, .int .i64 0, .bool false] [(0, 1), (1, 1), (2, 1), (3, 1)] = true := by kernel_rfl
theorem bs3 : bsOk Tryd.prog 3 [.int .i64 0] = true := by kernel_rfl
theorem bs31 : bsOk Tryd.prog 31 [.int .i64 0, .string ⟨#[]⟩, .int .i64 0, .int .i64 0, .int .i64 0] = true := by kernel_rfl
theorem bs48 : bsOk Tryd.prog 48 [.slice none 0 0] = true := by kernel_rfl
theorem bs5 : bsOk Tryd.prog 5 [.int .u8 0] = true := by kernel_rfl
theorem bs9 : bsOk Tryd.prog 9 [.string ⟨#[]⟩] = true := by kernel_rfl
theorem fa31_0 : faOk Tryd.prog 31 0 0 = true := by kernel_rfl
theorem fa31_1 : faOk Tryd.prog 31 1 1 = true := by kernel_rfl
theorem fa31_3 : faOk Tryd.prog 31 3 3 = true := by kernel_rfl
theorem fa31_4 : faOk Tryd.prog 31 4 4 = true := by kernel_rfl
theorem fa45_0 : faOk Tryd.prog 45 0 0 = true := by kernel_rfl
theorem fa45_1 : faOk Tryd.prog 45 1 1 = true := by kernel_rfl
theorem fa45_2 : faOk Tryd.prog 45 2 2 = true := by kernel_rfl
theorem fa45_3 : faOk Tryd.prog 45 3 3 = true := by kernel_rfl
theorem fa45_4 : faOk Tryd.prog 45 4 4 = true := by kernel_rfl
theorem fa45_5 : faOk Tryd.prog 45 5 5 = true := by kernel_rfl
theorem fa45_6 : faOk Tryd.prog 45 6 6 = true := by kernel_rfl
theorem fa45_7 : faOk Tryd.prog 45 7 7 = true := by kernel_rfl
theorem fa45_8 : faOk Tryd.prog 45 8 8 = true := by kernel_rfl
theorem fa52_0 : faOk Tryd.prog 52 0 0 = true := by kernel_rfl
theorem fa52_1 : faOk Tryd.prog 52 1 1 = true := by kernel_rfl
theorem fa52_2 : faOk Tryd.prog 52 2 2 = true := by kernel_rfl
theorem fa52_3 : faOk Tryd.prog 52 3 3 = true := by kernel_rfl
theorem fa52_4 : faOk Tryd.prog 52 4 4 = true := by kernel_rfl
theorem fa52_5 : faOk Tryd.prog 52 5 5 = true := by kernel_rfl
theorem fa52_6 : faOk Tryd.prog 52 6 6 = true := by kernel_rfl
theorem fa57_0 : faOk Tryd.prog 57 0 0 = true := by kernel_rfl
theorem fa57_1 : faOk Tryd.prog 57 1 1 = true := by kernel_rfl
theorem fa57_2 : faOk Tryd.prog 57 2 2 = true := by kernel_rfl
theorem fa57_3 : faOk Tryd.prog 57 3 3 = true := by kernel_rfl
theorem ld22 : ldOk Tryd.prog 22 = true := by kernel_rfl
theorem ld29 : ldOk Tryd.prog 29 = true := by kernel_rfl
theorem ld3 : ldOk Tryd.prog 3 = true := by kernel_rfl
theorem ld31 : agOk Tryd.prog 31 5 = true := by kernel_rfl
theorem ld32 : ldOk Tryd.prog 32 = true := by kernel_rfl
theorem ld4 : ldOk Tryd.prog 4 = true := by kernel_rfl
theorem ld42 : ldOk Tryd.prog 42 = true := by kernel_rfl
theorem ld43 : ldOk Tryd.prog 43 = true := by kernel_rfl
theorem ld48 : ldOk Tryd.prog 48 = true := by kernel_rfl
theorem ld9 : ldOk Tryd.prog 9 = true := by kernel_rfl
theorem sz29 : sizeOfT Tryd.prog 29 = some 1 := by kernel_rfl
theorem sz3 : sizeOfT Tryd.prog 3 = some 1 := by kernel_rfl
theorem sz31 : sizeOfT Tryd.prog 31 = some 5 := by kernel_rfl
theorem sz32 : sizeOfT Tryd.prog 32 = some 1 := by kernel_rfl
theorem sz4 : sizeOfT Tryd.prog 4 = some 1 := by kernel_rfl
theorem sz43 : sizeOfT Tryd.prog 43 = some 1 := by kernel_rfl
theorem sz48 : sizeOfT Tryd.prog 48 = some 1 := by kernel_rfl
theorem sz5 : sizeOfT Tryd.prog 5 = some 1 := by kernel_rfl
theorem sz69 : sizeOfT Tryd.prog 69 = some 27 := by kernel_rfl
theorem sz9 : sizeOfT Tryd.prog 9 = some 1 := by kernel_rfl
theorem u2 : Tryd.prog.underlying 2 = some (.int .i64) := by kernel_rfl
theorem u22 : Tryd.prog.underlying 22 = some (.slice 3) := by kernel_rfl
theorem u29 : Tryd.prog.underlying 29 = some (.slice 31) := by kernel_rfl
theorem u3 : Tryd.prog.underlying 3 = some (.int .i64) := by kernel_rfl
theorem u38 : Tryd.prog.underlying 38 = some (.array 44 9) := by kernel_rfl
theorem u39 : Tryd.prog.underlying 39 = some (.slice 5) := by kernel_rfl
theorem u4 : Tryd.prog.underlying 4 = some .bool := by kernel_rfl
theorem u40 : Tryd.prog.underlying 40 = some (.array 8 9) := by kernel_rfl
theorem u43 : Tryd.prog.underlying 43 = some (.slice 48) := by kernel_rfl
theorem u48 : Tryd.prog.underlying 48 = some (.slice 9) := by kernel_rfl
theorem u5 : Tryd.prog.underlying 5 = some (.int .u8) := by kernel_rfl
theorem u69 : Tryd.prog.underlying 69 = some (.array 27 9) := by kernel_rfl
theorem u70 : Tryd.prog.underlying 70 = some (.array 6 9) := by kernel_rfl
theorem u71 : Tryd.prog.underlying 71 = some (.array 2 9) := by kernel_rfl
theorem u72 : Tryd.prog.underlying 72 = some (.array 2 3) := by kernel_rfl
theorem u73 : Tryd.prog.underlying 73 = some (.array 4 9) := by kernel_rfl
theorem u75 : Tryd.prog.underlying 75 = some (.int .u64) := by kernel_rfl
theorem u79 : Tryd.prog.underlying 79 = some (.array 9 9) := by kernel_rfl
theorem u9 : Tryd.prog.underlying 9 = some .string := by kernel_rfl
theorem zo31 : zeroOk Tryd.prog 31 [.int .i64 0, .string ⟨#[]⟩, .int .i64 0, .int .i64 0, .int .i64 0] = true := by kernel_rfl
theorem zo40 : zeroOk Tryd.prog 40 (repl [.string ⟨#[]⟩] 8) = true := by kernel_rfl
theorem zo69 : zeroOk Tryd.prog 69 [.string ⟨#[]⟩, .string ⟨#[]⟩, .string ⟨#[]⟩, .string ⟨#[]⟩, .string ⟨#[]⟩, .string ⟨#[]⟩, .string ⟨#[]⟩, .string ⟨#[]⟩, .string ⟨#[]⟩, .string ⟨#[]⟩, .string ⟨#[]⟩, .string ⟨#[]⟩, .string ⟨#[]⟩, .string ⟨#[]⟩, .string ⟨#[]⟩, .string ⟨#[]⟩, .string ⟨#[]⟩, .string ⟨#[]⟩, .string ⟨#[]⟩, .string ⟨#[]⟩, .string ⟨#[]⟩, .string ⟨#[]⟩, .string ⟨#[]⟩, .string ⟨#[]⟩, .string ⟨#[]⟩, .string ⟨#[]⟩, .string ⟨#[]⟩] = true := by kernel_rfl
theorem zo70 : zeroOk Tryd.prog 70 (repl [.string ⟨#[]⟩] 6) = true := by kernel_rfl
theorem zo71 : zeroOk Tryd.prog 71 (repl [.string ⟨#[]⟩] 2) = true := by kernel_rfl
theorem zo72 : zeroOk Tryd.prog 72 (repl [.int .i64 0] 2) = true := by kernel_rfl
theorem zo73 : zeroOk Tryd.prog 73 (repl [.string ⟨#[]⟩] 4) = true := by kernel_rfl
theorem zo79 : zeroOk Tryd.prog 79 (repl [.string ⟨#[]⟩] 9) = true := by kernel_rfl
noncomputable def c7 : Code := bodyOf Tryd.f7
noncomputable def r7_0 : Code := Code.sub [0] c7
noncomputable def r7_1 : Code := Code.sub [1, 0] c7
noncomputable def r7_2 : Code := Code.sub [1, 1, 0, 0] c7
noncomputable def r7_3 : Code := Code.sub [1, 1, 0, 1, 0] c7
noncomputable def r7_4 : Code := Code.sub [1, 1, 1, 0] c7
theorem body7 : c7 = (.seq r7_0 (.seq r7_1 (.seq (.seq r7_2 (.cond (.tmp 9) r7_3 .skip)) (.seq r7_4 .ret)))) := by kernel_rfl
noncomputable def L7_0 : Lt r7_0 := by refine ⟨?l, ?h⟩; case h => simp only [r7_0, c7, bodyOf, Tryd.f7, Code.sub, opsOf, List.map_cons, List.map_nil, strip]; rfl
theorem w7_0 : Wp r7_0 5 [9] [4] [] [] [some 4] (L7_0).1 := w_plain (by kernel_rfl) (L7_0).2
noncomputable def L7_1 : Lt r7_1 := by refine ⟨?l, ?h⟩; case h => simp only [r7_1, c7, bodyOf, Tryd.f7, Code.sub, opsOf, List.map_cons, List.map_nil, strip]; rfl
theorem w7_1 : Wp r7_1 5 [9] [0] [] [0, 1] [some 5, some 6, some 7, some 0] (L7_1).1 := w_plain (by kernel_rfl) (L7_1).2
noncomputable def L7_2 : Lt r7_2 := by refine ⟨?l, ?h⟩; case h => simp only [r7_2, c7, bodyOf, Tryd.f7, Code.sub, opsOf, List.map_cons, List.map_nil, strip]; rfl
theorem w7_2 : Wp r7_2 5 [9] [] [9] [0] [some 8, some 9] (L7_2).1 := w_plain (by kernel_rfl) (L7_2).2
noncomputable def L7_3 : Lt r7_3 := by refine ⟨?l, ?h⟩; case h => simp only [r7_3, c7, bodyOf, Tryd.f7, Code.sub, opsOf, List.map_cons, List.map_nil, strip]; rfl
theorem w7_3 : Wp r7_3 5 [9] [0] [] [0, 1] [some 10, some 11, some 12, some 0] (L7_3).1 := w_plain (by kernel_rfl) (L7_3).2
noncomputable def L7_4 : Lt r7_4 := by refine ⟨?l, ?h⟩; case h => simp only [r7_4, c7, bodyOf, Tryd.f7, Code.sub, opsOf, List.map_cons, List.map_nil, strip]; rfl
theorem w7_4 : Wp r7_4 5 [9] [4] [] [0] [some 13, some 4] (L7_4).1 := w_plain (by kernel_rfl) (L7_4).2
theorem k7 : FnIs TT 7 c7 [.tmp 4] 2 := ⟨Tryd.f7, by kernel_rfl, by simp only [Tryd.f7, c7, bodyOf], by kernel_rfl, of_decide_eq_true (by kernel_rfl)⟩
noncomputable def c8 : Code := bodyOf Tryd.f8
noncomputable def r8_0 : Code := Code.sub [0] c8
noncomputable def r8_1 : Code := Code.sub [1, 0] c8
noncomputable def r8_2 : Code := Code.sub [1, 1, 0, 0] c8
noncomputable def r8_3 : Code := Code.sub [1, 1, 0, 1, 0, 0, 0, 0] c8
noncomputable def r8_4 : Code := Code.sub [1, 1, 0, 1, 0, 0, 1, 0, 0] c8
noncomputable def r8_5 : Code := Code.sub [1, 1, 0, 1, 0, 0, 1, 1] c8
noncomputable def r8_6 : Code := Code.sub [1, 1, 1, 0] c8
theorem body8 : c8 = (.seq r8_0 (.seq r8_1 (.seq (.seq r8_2 (.block 0 (.loop (.seq (.seq r8_3 (.cond (.tmp 12) .skip (.exit 0))) (.seq (.block 1 r8_4) r8_5))))) (.seq r8_6 .ret)))) := by kernel_rfl
noncomputable def L8_0 : Lt r8_0 := by refine ⟨?l, ?h⟩; case h => simp only [r8_0, c8, bodyOf, Tryd.f8, Code.sub, opsOf, List.map_cons, List.map_nil, strip]; rfl
theorem w8_0 : Wp r8_0 5 [12] [2] [] [] [some 2] (L8_0).1 := w_plain (by kernel_rfl) (L8_0).2
noncomputable def L8_1 : Lt r8_1 := by refine ⟨?l, ?h⟩; case h => simp only [r8_1, c8, bodyOf, Tryd.f8, Code.sub, opsOf, List.map_cons, List.map_nil, strip]; rfl
theorem w8_1 : Wp r8_1 5 [12] [3] [] [] [some 3] (L8_1).1 := w_plain (by kernel_rfl) (L8_1).2
noncomputable def L8_2 : Lt r8_2 := by refine ⟨?l, ?h⟩; case h => simp only [r8_2, c8, bodyOf, Tryd.f8, Code.sub, opsOf, List.map_cons, List.map_nil, strip]; rfl
theorem w8_2 : Wp r8_2 5 [12] [4] [] [] [some 4] (L8_2).1 := w_plain (by kernel_rfl) (L8_2).2
noncomputable def L8_3 : Lt r8_3 := by refine ⟨?l, ?h⟩; case h => simp only [r8_3, c8, bodyOf, Tryd.f8, Code.sub, opsOf, List.map_cons, List.map_nil, strip]; rfl
theorem w8_3 : Wp r8_3 5 [12] [] [12] [0, 4] [some 5, some 6, some 7, some 8, some 9, some 10, some 11, some 12] (L8_3).1 := w_plain (by kernel_rfl) (L8_3).2
noncomputable def L8_4 : Lt r8_4 := by refine ⟨?l, ?h⟩; case h => simp only [r8_4, c8, bodyOf, Tryd.f8, Code.sub, opsOf, List.map_cons, List.map_nil, strip]; rfl
theorem w8_4 : Wp r8_4 5 [12] [3] [] [3, 0, 4] [some 15, some 16, some 17, some 18, some 19, some 20, some 21, some 22, some 23, some 24, some 3] (L8_4).1 := w_plain (by kernel_rfl) (L8_4).2
noncomputable def L8_5 : Lt r8_5 := by refine ⟨?l, ?h⟩; case h => simp only [r8_5, c8, bodyOf, Tryd.f8, Code.sub, opsOf, List.map_cons, List.map_nil, strip]; rfl
theorem w8_5 : Wp r8_5 5 [12] [4] [] [4] [some 13, some 14, some 4] (L8_5).1 := w_plain (by kernel_rfl) (L8_5).2
noncomputable def L8_6 : Lt r8_6 := by refine ⟨?l, ?h⟩; case h => simp only [r8_6, c8, bodyOf, Tryd.f8, Code.sub, opsOf, List.map_cons, List.map_nil, strip]; rfl
theorem w8_6 : Wp r8_6 5 [12] [2] [] [3] [some 25, some 2] (L8_6).1 := w_plain (by kernel_rfl) (L8_6).2
theorem k8 : FnIs TT 8 c8 [.tmp 2] 1 := ⟨Tryd.f8, by kernel_rfl, by simp only [Tryd.f8, c8, bodyOf], by kernel_rfl, of_decide_eq_true (by kernel_rfl)⟩
noncomputable def c11 : Code := bodyOf Tryd.f11
noncomputable def r11_0 : Code := Code.sub [0] c11
noncomputable def r11_1 : Code := Code.sub [1, 0] c11
noncomputable def r11_2 : Code := Code.sub [1, 1, 0] c11
noncomputable def r11_3 : Code := Code.sub [1, 1, 1, 0] c11
theorem body11 : c11 = (.seq r11_0 (.seq r11_1 (.seq r11_2 (.seq r11_3 .ret)))) := by kernel_rfl
noncomputable def L11_0 : Lt r11_0 := by refine ⟨?l, ?h⟩; case h => simp only [r11_0, c11, bodyOf, Tryd.f11, Code.sub, opsOf, List.map_cons, List.map_nil, strip]; rfl
theorem w11_0 : Wp r11_0 9 [] [2] [] [] [some 2] (L11_0).1 := w_plain (by kernel_rfl) (L11_0).2
noncomputable def L11_1 : Lt r11_1 := by refine ⟨?l, ?h⟩; case h => simp only [r11_1, c11, bodyOf, Tryd.f11, Code.sub, opsOf, List.map_cons, List.map_nil, strip]; rfl
theorem w11_1 : Wp r11_1 9 [] [4, 3, 5] [] [0] [some 10, some 11, some 9, some 12, some 13, some 14, some 4, some 3, none, some 5] (L11_1).1 := w_plain (by kernel_rfl) (L11_1).2
noncomputable def L11_2 : Lt r11_2 := by refine ⟨?l, ?h⟩; case h => simp only [r11_2, c11, bodyOf, Tryd.f11, Code.sub, opsOf, List.map_cons, List.map_nil, strip]; rfl
theorem w11_2 : Wp r11_2 9 [] [7, 6, 8] [] [0] [some 16, some 17, some 15, some 18, some 19, some 20, some 7, some 6, none, some 8] (L11_2).1 := w_plain (by kernel_rfl) (L11_2).2
noncomputable def L11_3 : Lt r11_3 := by refine ⟨?l, ?h⟩; case h => simp only [r11_3, c11, bodyOf, Tryd.f11, Code.sub, opsOf, List.map_cons, List.map_nil, strip]; rfl
theorem w11_3 : Wp r11_3 9 [] [2] [] [3, 6, 4, 7, 5, 8] [some 21, some 22, some 23, some 24, some 25, some 26, some 27, some 28, some 29, some 30, some 31, some 32, some 33, some 2] (L11_3).1 := w_plain (by kernel_rfl) (L11_3).2
theorem k11 : FnIs TT 11 c11 [.tmp 2] 1 := ⟨Tryd.f11, by kernel_rfl, by simp only [Tryd.f11, c11, bodyOf], by kernel_rfl, of_decide_eq_true (by kernel_rfl)⟩
noncomputable def c13 : Code := bodyOf Tryd.f13
noncomputable def r13_0 : Code := Code.sub [0] c13
noncomputable def r13_1 : Code := Code.sub [1, 0, 0] c13
noncomputable def r13_2 : Code := Code.sub [1, 0, 1, 0, 0] c13
noncomputable def r13_3 : Code := Code.sub [1, 1, 0] c13
noncomputable def r13_4 : Code := Code.sub [1, 1, 1, 0, 0, 0, 0, 0] c13
noncomputable def r13_5 : Code := Code.sub [1, 1, 1, 0, 0, 0, 1, 0] c13
noncomputable def r13_6 : Code := Code.sub [1, 1, 1, 1, 0, 0] c13
noncomputable def r13_7 : Code := Code.sub [1, 1, 1, 1, 0, 1, 0] c13
noncomputable def r13_8 : Code := Code.sub [1, 1, 1, 1, 1, 0, 0] c13
noncomputable def r13_9 : Code := Code.sub [1, 1, 1, 1, 1, 0, 1, 0] c13
noncomputable def r13_10 : Code := Code.sub [1, 1, 1, 1, 1, 1, 0, 0] c13
noncomputable def r13_11 : Code := Code.sub [1, 1, 1, 1, 1, 1, 0, 1, 0, 0] c13
noncomputable def r13_12 : Code := Code.sub [1, 1, 1, 1, 1, 1, 1, 0] c13
theorem body13 : c13 = (.seq r13_0 (.seq (.seq r13_1 (.cond (.tmp 8) (.seq r13_2 .ret) .skip)) (.seq r13_3 (.seq (.block 0 (.loop (.seq (.seq r13_4 (.cond (.tmp 26) .skip (.exit 0))) (.block 1 r13_5)))) (.seq (.seq r13_6 (.cond (.tmp 37) r13_7 .skip)) (.seq (.seq r13_8 (.cond (.tmp 44) r13_9 .skip)) (.seq (.seq r13_10 (.cond (.tmp 51) (.seq r13_11 .ret) .skip)) (.seq r13_12 .ret)))))))) := by kernel_rfl
noncomputable def L13_0 : Lt r13_0 := by refine ⟨?l, ?h⟩; case h => simp only [r13_0, c13, bodyOf, Tryd.f13, Code.sub, opsOf, List.map_cons, List.map_nil, strip]; rfl
theorem w13_0 : Wp r13_0 6 [8, 26, 37, 44, 51] [2, 3, 4] [] [] [some 2, some 3, some 4] (L13_0).1 := w_plain (by kernel_rfl) (L13_0).2
noncomputable def L13_1 : Lt r13_1 := by refine ⟨?l, ?h⟩; case h => simp only [r13_1, c13, bodyOf, Tryd.f13, Code.sub, opsOf, List.map_cons, List.map_nil, strip]; rfl
theorem w13_1 : Wp r13_1 6 [8, 26, 37, 44, 51] [] [8] [0] [some 6, some 7, some 8] (L13_1).1 := w_plain (by kernel_rfl) (L13_1).2
noncomputable def L13_2 : Lt r13_2 := by refine ⟨?l, ?h⟩; case h => simp only [r13_2, c13, bodyOf, Tryd.f13, Code.sub, opsOf, List.map_cons, List.map_nil, strip]; rfl
theorem w13_2 : Wp r13_2 6 [8, 26, 37, 44, 51] [2, 4] [] [3] [some 9, some 2, none, some 4] (L13_2).1 := w_plain (by kernel_rfl) (L13_2).2
noncomputable def L13_3 : Lt r13_3 := by refine ⟨?l, ?h⟩; case h => simp only [r13_3, c13, bodyOf, Tryd.f13, Code.sub, opsOf, List.map_cons, List.map_nil, strip]; rfl
theorem w13_3 : Wp r13_3 6 [8, 26, 37, 44, 51] [5] [] [0] [some 10, some 11, some 12, some 5] (L13_3).1 := w_plain (by kernel_rfl) (L13_3).2
noncomputable def L13_4 : Lt r13_4 := by refine ⟨?l, ?h⟩; case h => simp only [r13_4, c13, bodyOf, Tryd.f13, Code.sub, opsOf, List.map_cons, List.map_nil, strip]; rfl
theorem w13_4 : Wp r13_4 6 [8, 26, 37, 44, 51] [] [26] [0, 5] [some 13, some 14, some 15, some 16, some 17, some 18, some 19, some 20, some 21, some 22, some 23, some 24, some 25, some 26] (L13_4).1 := w_plain (by kernel_rfl) (L13_4).2
noncomputable def L13_5 : Lt r13_5 := by refine ⟨?l, ?h⟩; case h => simp only [r13_5, c13, bodyOf, Tryd.f13, Code.sub, opsOf, List.map_cons, List.map_nil, strip]; rfl
theorem w13_5 : Wp r13_5 6 [8, 26, 37, 44, 51] [] [] [5] [some 27, some 28] (L13_5).1 := w_plain (by kernel_rfl) (L13_5).2
noncomputable def L13_6 : Lt r13_6 := by refine ⟨?l, ?h⟩; case h => simp only [r13_6, c13, bodyOf, Tryd.f13, Code.sub, opsOf, List.map_cons, List.map_nil, strip]; rfl
theorem w13_6 : Wp r13_6 6 [8, 26, 37, 44, 51] [] [37] [5] [some 29, some 30, some 31, some 32, some 33, some 34, some 35, some 36, some 37] (L13_6).1 := w_plain (by kernel_rfl) (L13_6).2
noncomputable def L13_7 : Lt r13_7 := by refine ⟨?l, ?h⟩; case h => simp only [r13_7, c13, bodyOf, Tryd.f13, Code.sub, opsOf, List.map_cons, List.map_nil, strip]; rfl
theorem w13_7 : Wp r13_7 6 [8, 26, 37, 44, 51] [] [] [5] [some 38, some 39] (L13_7).1 := w_plain (by kernel_rfl) (L13_7).2
noncomputable def L13_8 : Lt r13_8 := by refine ⟨?l, ?h⟩; case h => simp only [r13_8, c13, bodyOf, Tryd.f13, Code.sub, opsOf, List.map_cons, List.map_nil, strip]; rfl
theorem w13_8 : Wp r13_8 6 [8, 26, 37, 44, 51] [] [44] [5] [some 40, some 41, some 42, some 43, some 44] (L13_8).1 := w_plain (by kernel_rfl) (L13_8).2
noncomputable def L13_9 : Lt r13_9 := by refine ⟨?l, ?h⟩; case h => simp only [r13_9, c13, bodyOf, Tryd.f13, Code.sub, opsOf, List.map_cons, List.map_nil, strip]; rfl
theorem w13_9 : Wp r13_9 6 [8, 26, 37, 44, 51] [] [] [5] [some 45, some 46] (L13_9).1 := w_plain (by kernel_rfl) (L13_9).2
noncomputable def L13_10 : Lt r13_10 := by refine ⟨?l, ?h⟩; case h => simp only [r13_10, c13, bodyOf, Tryd.f13, Code.sub, opsOf, List.map_cons, List.map_nil, strip]; rfl
theorem w13_10 : Wp r13_10 6 [8, 26, 37, 44, 51] [] [51] [5] [some 47, some 48, some 49, some 50, some 51] (L13_10).1 := w_plain (by kernel_rfl) (L13_10).2
theorem can13_11 : canonOps (opsOf r13_11) = opsOf r13_11 := by kernel_rfl
noncomputable def L13_11 : Lc r13_11 := by refine ⟨?l, (congrArg (List.map strip) can13_11).trans ?h⟩; case h => simp only [r13_11, c13, bodyOf, Tryd.f13, Code.sub, opsOf, List.map_cons, List.map_nil, strip]; rfl
theorem w13_11 : Wd r13_11 6 [8, 26, 37, 44, 51] [2, 4] [] [5, 3] [some 52, some 53, some 54, some 55, some 56, some 57, some 58, some 59, some 2, none, some 4] (L13_11).1 [(3, [9]), (7, [9, 11])] := w_loud (by kernel_rfl) (L13_11).2
noncomputable def L13_12 : Lt r13_12 := by refine ⟨?l, ?h⟩; case h => simp only [r13_12, c13, bodyOf, Tryd.f13, Code.sub, opsOf, List.map_cons, List.map_nil, strip]; rfl
theorem w13_12 : Wp r13_12 6 [8, 26, 37, 44, 51] [2, 4] [] [5, 3] [some 60, some 61, some 62, some 63, some 64, some 2, none, some 4] (L13_12).1 := w_plain (by kernel_rfl) (L13_12).2
theorem k13 : FnIs TT 13 c13 [.tmp 2, .cell 3 31, .tmp 4] 1 := ⟨Tryd.f13, by kernel_rfl, by simp only [Tryd.f13, c13, bodyOf], by kernel_rfl, of_decide_eq_true (by kernel_rfl)⟩
noncomputable def c14 : Code := bodyOf Tryd.f14
noncomputable def r14_0 : Code := Code.sub [0] c14
noncomputable def r14_1 : Code := Code.sub [1, 0, 0] c14
noncomputable def r14_2 : Code := Code.sub [1, 0, 1, 0, 0, 0] c14
noncomputable def r14_3 : Code := Code.sub [1, 0, 1, 0, 0, 1, 1, 0] c14
noncomputable def r14_4 : Code := Code.sub [1, 0, 1, 0, 0, 1, 1, 1, 1, 0] c14
noncomputable def r14_5 : Code := Code.sub [1, 0, 1, 0, 0, 1, 1, 1, 1, 1, 1, 0] c14
noncomputable def r14_6 : Code := Code.sub [1, 0, 1, 0, 0, 1, 1, 1, 1, 1, 1, 1, 1, 0] c14
noncomputable def r14_7 : Code := Code.sub [1, 0, 1, 0, 0, 1, 1, 1, 1, 1, 1, 1, 1, 1, 1, 0] c14
noncomputable def r14_8 : Code := Code.sub [1, 0, 1, 0, 0, 1, 1, 1, 1, 1, 1, 1, 1, 1, 1, 1, 1, 0] c14
noncomputable def r14_9 : Code := Code.sub [1, 0, 1, 0, 0, 1, 1, 1, 1, 1, 1, 1, 1, 1, 1, 1, 1, 1, 1, 0] c14
noncomputable def r14_10 : Code := Code.sub [1, 0, 1, 0, 0, 1, 1, 1, 1, 1, 1, 1, 1, 1, 1, 1, 1, 1, 1, 1, 1, 0] c14
noncomputable def r14_11 : Code := Code.sub [1, 0, 1, 0, 0, 1, 1, 1, 1, 1, 1, 1, 1, 1, 1, 1, 1, 1, 1, 1, 1, 1, 1, 0] c14
noncomputable def r14_12 : Code := Code.sub [1, 0, 1, 0, 0, 1, 1, 1, 1, 1, 1, 1, 1, 1, 1, 1, 1, 1, 1, 1, 1, 1, 1, 1, 1, 0] c14
noncomputable def r14_13 : Code := Code.sub [1, 0, 1, 0, 0, 1, 1, 1, 1, 1, 1, 1, 1, 1, 1, 1, 1, 1, 1, 1, 1, 1, 1, 1, 1, 1, 1, 0] c14
noncomputable def r14_14 : Code := Code.sub [1, 0, 1, 0, 0, 1, 1, 1, 1, 1, 1, 1, 1, 1, 1, 1, 1, 1, 1, 1, 1, 1, 1, 1, 1, 1, 1, 1, 1, 0] c14
noncomputable def r14_15 : Code := Code.sub [1, 0, 1, 0, 0, 1, 1, 1, 1, 1, 1, 1, 1, 1, 1, 1, 1, 1, 1, 1, 1, 1, 1, 1, 1, 1, 1, 1, 1, 1, 1, 0] c14
noncomputable def r14_16 : Code := Code.sub [1, 0, 1, 0, 0, 1, 1, 1, 1, 1, 1, 1, 1, 1, 1, 1, 1, 1, 1, 1, 1, 1, 1, 1, 1, 1, 1, 1, 1, 1, 1, 1, 1, 0] c14
noncomputable def r14_17 : Code := Code.sub [1, 0, 1, 0, 0, 1, 1, 1, 1, 1, 1, 1, 1, 1, 1, 1, 1, 1, 1, 1, 1, 1, 1, 1, 1, 1, 1, 1, 1, 1, 1, 1, 1, 1, 1, 0] c14
noncomputable def r14_18 : Code := Code.sub [1, 0, 1, 0, 0, 1, 1, 1, 1, 1, 1, 1, 1, 1, 1, 1, 1, 1, 1, 1, 1, 1, 1, 1, 1, 1, 1, 1, 1, 1, 1, 1, 1, 1, 1, 1, 1, 0] c14
noncomputable def r14_19 : Code := Code.sub [1, 0, 1, 0, 0, 1, 1, 1, 1, 1, 1, 1, 1, 1, 1, 1, 1, 1, 1, 1, 1, 1, 1, 1, 1, 1, 1, 1, 1, 1, 1, 1, 1, 1, 1, 1, 1, 1, 1, 0] c14
noncomputable def r14_20 : Code := Code.sub [1, 0, 1, 0, 0, 1, 1, 1, 1, 1, 1, 1, 1, 1, 1, 1, 1, 1, 1, 1, 1, 1, 1, 1, 1, 1, 1, 1, 1, 1, 1, 1, 1, 1, 1, 1, 1, 1, 1, 1, 1, 0] c14
noncomputable def r14_21 : Code := Code.sub [1, 0, 1, 0, 0, 1, 1, 1, 1, 1, 1, 1, 1, 1, 1, 1, 1, 1, 1, 1, 1, 1, 1, 1, 1, 1, 1, 1, 1, 1, 1, 1, 1, 1, 1, 1, 1, 1, 1, 1, 1, 1, 1, 0] c14
noncomputable def r14_22 : Code := Code.sub [1, 0, 1, 0, 0, 1, 1, 1, 1, 1, 1, 1, 1, 1, 1, 1, 1, 1, 1, 1, 1, 1, 1, 1, 1, 1, 1, 1, 1, 1, 1, 1, 1, 1, 1, 1, 1, 1, 1, 1, 1, 1, 1, 1, 1, 0] c14
noncomputable def r14_23 : Code := Code.sub [1, 0, 1, 0, 0, 1, 1, 1, 1, 1, 1, 1, 1, 1, 1, 1, 1, 1, 1, 1, 1, 1, 1, 1, 1, 1, 1, 1, 1, 1, 1, 1, 1, 1, 1, 1, 1, 1, 1, 1, 1, 1, 1, 1, 1, 1, 1] c14
noncomputable def r14_24 : Code := Code.sub [1, 0, 1, 0, 1, 0, 0] c14
noncomputable def r14_25 : Code := Code.sub [1, 1, 0] c14
theorem body14 : c14 = (.seq r14_0 (.seq (.seq r14_1 (.block 0 (.seq (.seq r14_2 (.cond (.tmp 4) .skip (.seq r14_3 (.cond (.tmp 4) .skip (.seq r14_4 (.cond (.tmp 4) .skip (.seq r14_5 (.cond (.tmp 4) .skip (.seq r14_6 (.cond (.tmp 4) .skip (.seq r14_7 (.cond (.tmp 4) .skip (.seq r14_8 (.cond (.tmp 4) .skip (.seq r14_9 (.cond (.tmp 4) .skip (.seq r14_10 (.cond (.tmp 4) .skip (.seq r14_11 (.cond (.tmp 4) .skip (.seq r14_12 (.cond (.tmp 4) .skip (.seq r14_13 (.cond (.tmp 4) .skip (.seq r14_14 (.cond (.tmp 4) .skip (.seq r14_15 (.cond (.tmp 4) .skip (.seq r14_16 (.cond (.tmp 4) .skip (.seq r14_17 (.cond (.tmp 4) .skip (.seq r14_18 (.cond (.tmp 4) .skip (.seq r14_19 (.cond (.tmp 4) .skip (.seq r14_20 (.cond (.tmp 4) .skip (.seq r14_21 (.cond (.tmp 4) .skip (.seq r14_22 (.cond (.tmp 4) .skip r14_23)))))))))))))))))))))))))))))))))))))))))) (.cond (.tmp 4) (.seq r14_24 .ret) .skip)))) (.seq r14_25 .ret))) := by kernel_rfl
noncomputable def L14_0 : Lt r14_0 := by refine ⟨?l, ?h⟩; case h => simp only [r14_0, c14, bodyOf, Tryd.f14, Code.sub, opsOf, List.map_cons, List.map_nil, strip]; rfl
theorem w14_0 : Wp r14_0 4 [4, 4, 4, 4, 4, 4, 4, 4, 4, 4, 4, 4, 4, 4, 4, 4, 4, 4, 4, 4, 4, 4] [2] [] [] [some 2] (L14_0).1 := w_plain (by kernel_rfl) (L14_0).2
noncomputable def L14_1 : Lt r14_1 := by refine ⟨?l, ?h⟩; case h => simp only [r14_1, c14, bodyOf, Tryd.f14, Code.sub, opsOf, List.map_cons, List.map_nil, strip]; rfl
theorem w14_1 : Wp r14_1 4 [4, 4, 4, 4, 4, 4, 4, 4, 4, 4, 4, 4, 4, 4, 4, 4, 4, 4, 4, 4, 4, 4] [3] [] [0] [some 3] (L14_1).1 := w_plain (by kernel_rfl) (L14_1).2
noncomputable def L14_2 : Lt r14_2 := by refine ⟨?l, ?h⟩; case h => simp only [r14_2, c14, bodyOf, Tryd.f14, Code.sub, opsOf, List.map_cons, List.map_nil, strip]; rfl
theorem w14_2 : Wp r14_2 4 [4, 4, 4, 4, 4, 4, 4, 4, 4, 4, 4, 4, 4, 4, 4, 4, 4, 4, 4, 4, 4, 4] [] [4] [3] [some 5, some 4] (L14_2).1 := w_plain (by kernel_rfl) (L14_2).2
noncomputable def L14_3 : Lt r14_3 := by refine ⟨?l, ?h⟩; case h => simp only [r14_3, c14, bodyOf, Tryd.f14, Code.sub, opsOf, List.map_cons, List.map_nil, strip]; rfl
theorem w14_3 : Wp r14_3 4 [4, 4, 4, 4, 4, 4, 4, 4, 4, 4, 4, 4, 4, 4, 4, 4, 4, 4, 4, 4, 4, 4] [] [4] [3] [some 6, some 4] (L14_3).1 := w_plain (by kernel_rfl) (L14_3).2
noncomputable def L14_4 : Lt r14_4 := by refine ⟨?l, ?h⟩; case h => simp only [r14_4, c14, bodyOf, Tryd.f14, Code.sub, opsOf, List.map_cons, List.map_nil, strip]; rfl
theorem w14_4 : Wp r14_4 4 [4, 4, 4, 4, 4, 4, 4, 4, 4, 4, 4, 4, 4, 4, 4, 4, 4, 4, 4, 4, 4, 4] [] [4] [3] [some 7, some 4] (L14_4).1 := w_plain (by kernel_rfl) (L14_4).2
noncomputable def L14_5 : Lt r14_5 := by refine ⟨?l, ?h⟩; case h => simp only [r14_5, c14, bodyOf, Tryd.f14, Code.sub, opsOf, List.map_cons, List.map_nil, strip]; rfl
theorem w14_5 : Wp r14_5 4 [4, 4, 4, 4, 4, 4, 4, 4, 4, 4, 4, 4, 4, 4, 4, 4, 4, 4, 4, 4, 4, 4] [] [4] [3] [some 8, some 4] (L14_5).1 := w_plain (by kernel_rfl) (L14_5).2
noncomputable def L14_6 : Lt r14_6 := by refine ⟨?l, ?h⟩; case h => simp only [r14_6, c14, bodyOf, Tryd.f14, Code.sub, opsOf, List.map_cons, List.map_nil, strip]; rfl
theorem w14_6 : Wp r14_6 4 [4, 4, 4, 4, 4, 4, 4, 4, 4, 4, 4, 4, 4, 4, 4, 4, 4, 4, 4, 4, 4, 4] [] [4] [3] [some 9, some 4] (L14_6).1 := w_plain (by kernel_rfl) (L14_6).2
noncomputable def L14_7 : Lt r14_7 := by refine ⟨?l, ?h⟩; case h => simp only [r14_7, c14, bodyOf, Tryd.f14, Code.sub, opsOf, List.map_cons, List.map_nil, strip]; rfl
theorem w14_7 : Wp r14_7 4 [4, 4, 4, 4, 4, 4, 4, 4, 4, 4, 4, 4, 4, 4, 4, 4, 4, 4, 4, 4, 4, 4] [] [4] [3] [some 10, some 4] (L14_7).1 := w_plain (by kernel_rfl) (L14_7).2
noncomputable def L14_8 : Lt r14_8 := by refine ⟨?l, ?h⟩; case h => simp only [r14_8, c14, bodyOf, Tryd.f14, Code.sub, opsOf, List.map_cons, List.map_nil, strip]; rfl
theorem w14_8 : Wp r14_8 4 [4, 4, 4, 4, 4, 4, 4, 4, 4, 4, 4, 4, 4, 4, 4, 4, 4, 4, 4, 4, 4, 4] [] [4] [3] [some 11, some 4] (L14_8).1 := w_plain (by kernel_rfl) (L14_8).2
noncomputable def L14_9 : Lt r14_9 := by refine ⟨?l, ?h⟩; case h => simp only [r14_9, c14, bodyOf, Tryd.f14, Code.sub, opsOf, List.map_cons, List.map_nil, strip]; rfl
theorem w14_9 : Wp r14_9 4 [4, 4, 4, 4, 4, 4, 4, 4, 4, 4, 4, 4, 4, 4, 4, 4, 4, 4, 4, 4, 4, 4] [] [4] [3] [some 12, some 4] (L14_9).1 := w_plain (by kernel_rfl) (L14_9).2
noncomputable def L14_10 : Lt r14_10 := by refine ⟨?l, ?h⟩; case h => simp only [r14_10, c14, bodyOf, Tryd.f14, Code.sub, opsOf, List.map_cons, List.map_nil, strip]; rfl
theorem w14_10 : Wp r14_10 4 [4, 4, 4, 4, 4, 4, 4, 4, 4, 4, 4, 4, 4, 4, 4, 4, 4, 4, 4, 4, 4, 4] [] [4] [3] [some 13, some 4] (L14_10).1 := w_plain (by kernel_rfl) (L14_10).2
noncomputable def L14_11 : Lt r14_11 := by refine ⟨?l, ?h⟩; case h => simp only [r14_11, c14, bodyOf, Tryd.f14, Code.sub, opsOf, List.map_cons, List.map_nil, strip]; rfl
theorem w14_11 : Wp r14_11 4 [4, 4, 4, 4, 4, 4, 4, 4, 4, 4, 4, 4, 4, 4, 4, 4, 4, 4, 4, 4, 4, 4] [] [4] [3] [some 14, some 4] (L14_11).1 := w_plain (by kernel_rfl) (L14_11).2
noncomputable def L14_12 : Lt r14_12 := by refine ⟨?l, ?h⟩; case h => simp only [r14_12, c14, bodyOf, Tryd.f14, Code.sub, opsOf, List.map_cons, List.map_nil, strip]; rfl
theorem w14_12 : Wp r14_12 4 [4, 4, 4, 4, 4, 4, 4, 4, 4, 4, 4, 4, 4, 4, 4, 4, 4, 4, 4, 4, 4, 4] [] [4] [3] [some 15, some 4] (L14_12).1 := w_plain (by kernel_rfl) (L14_12).2
noncomputable def L14_13 : Lt r14_13 := by refine ⟨?l, ?h⟩; case h => simp only [r14_13, c14, bodyOf, Tryd.f14, Code.sub, opsOf, List.map_cons, List.map_nil, strip]; rfl
theorem w14_13 : Wp r14_13 4 [4, 4, 4, 4, 4, 4, 4, 4, 4, 4, 4, 4, 4, 4, 4, 4, 4, 4, 4, 4, 4, 4] [] [4] [3] [some 16, some 4] (L14_13).1 := w_plain (by kernel_rfl) (L14_13).2
noncomputable def L14_14 : Lt r14_14 := by refine ⟨?l, ?h⟩; case h => simp only [r14_14, c14, bodyOf, Tryd.f14, Code.sub, opsOf, List.map_cons, List.map_nil, strip]; rfl
theorem w14_14 : Wp r14_14 4 [4, 4, 4, 4, 4, 4, 4, 4, 4, 4, 4, 4, 4, 4, 4, 4, 4, 4, 4, 4, 4, 4] [] [4] [3] [some 17, some 4] (L14_14).1 := w_plain (by kernel_rfl) (L14_14).2
noncomputable def L14_15 : Lt r14_15 := by refine ⟨?l, ?h⟩; case h => simp only [r14_15, c14, bodyOf, Tryd.f14, Code.sub, opsOf, List.map_cons, List.map_nil, strip]; rfl
theorem w14_15 : Wp r14_15 4 [4, 4, 4, 4, 4, 4, 4, 4, 4, 4, 4, 4, 4, 4, 4, 4, 4, 4, 4, 4, 4, 4] [] [4] [3] [some 18, some 4] (L14_15).1 := w_plain (by kernel_rfl) (L14_15).2
noncomputable def L14_16 : Lt r14_16 := by refine ⟨?l, ?h⟩; case h => simp only [r14_16, c14, bodyOf, Tryd.f14, Code.sub, opsOf, List.map_cons, List.map_nil, strip]; rfl
theorem w14_16 : Wp r14_16 4 [4, 4, 4, 4, 4, 4, 4, 4, 4, 4, 4, 4, 4, 4, 4, 4, 4, 4, 4, 4, 4, 4] [] [4] [3] [some 19, some 4] (L14_16).1 := w_plain (by kernel_rfl) (L14_16).2
noncomputable def L14_17 : Lt r14_17 := by refine ⟨?l, ?h⟩; case h => simp only [r14_17, c14, bodyOf, Tryd.f14, Code.sub, opsOf, List.map_cons, List.map_nil, strip]; rfl
theorem w14_17 : Wp r14_17 4 [4, 4, 4, 4, 4, 4, 4, 4, 4, 4, 4, 4, 4, 4, 4, 4, 4, 4, 4, 4, 4, 4] [] [4] [3] [some 20, some 4] (L14_17).1 := w_plain (by kernel_rfl) (L14_17).2
noncomputable def L14_18 : Lt r14_18 := by refine ⟨?l, ?h⟩; case h => simp only [r14_18, c14, bodyOf, Tryd.f14, Code.sub, opsOf, List.map_cons, List.map_nil, strip]; rfl
theorem w14_18 : Wp r14_18 4 [4, 4, 4, 4, 4, 4, 4, 4, 4, 4, 4, 4, 4, 4, 4, 4, 4, 4, 4, 4, 4, 4] [] [4] [3] [some 21, some 4] (L14_18).1 := w_plain (by kernel_rfl) (L14_18).2
noncomputable def L14_19 : Lt r14_19 := by refine ⟨?l, ?h⟩; case h => simp only [r14_19, c14, bodyOf, Tryd.f14, Code.sub, opsOf, List.map_cons, List.map_nil, strip]; rfl
theorem w14_19 : Wp r14_19 4 [4, 4, 4, 4, 4, 4, 4, 4, 4, 4, 4, 4, 4, 4, 4, 4, 4, 4, 4, 4, 4, 4] [] [4] [3] [some 22, some 4] (L14_19).1 := w_plain (by kernel_rfl) (L14_19).2
noncomputable def L14_20 : Lt r14_20 := by refine ⟨?l, ?h⟩; case h => simp only [r14_20, c14, bodyOf, Tryd.f14, Code.sub, opsOf, List.map_cons, List.map_nil, strip]; rfl
theorem w14_20 : Wp r14_20 4 [4, 4, 4, 4, 4, 4, 4, 4, 4, 4, 4, 4, 4, 4, 4, 4, 4, 4, 4, 4, 4, 4] [] [4] [3] [some 23, some 4] (L14_20).1 := w_plain (by kernel_rfl) (L14_20).2
noncomputable def L14_21 : Lt r14_21 := by refine ⟨?l, ?h⟩; case h => simp only [r14_21, c14, bodyOf, Tryd.f14, Code.sub, opsOf, List.map_cons, List.map_nil, strip]; rfl
theorem w14_21 : Wp r14_21 4 [4, 4, 4, 4, 4, 4, 4, 4, 4, 4, 4, 4, 4, 4, 4, 4, 4, 4, 4, 4, 4, 4] [] [4] [3] [some 24, some 4] (L14_21).1 := w_plain (by kernel_rfl) (L14_21).2
noncomputable def L14_22 : Lt r14_22 := by refine ⟨?l, ?h⟩; case h => simp only [r14_22, c14, bodyOf, Tryd.f14, Code.sub, opsOf, List.map_cons, List.map_nil, strip]; rfl
theorem w14_22 : Wp r14_22 4 [4, 4, 4, 4, 4, 4, 4, 4, 4, 4, 4, 4, 4, 4, 4, 4, 4, 4, 4, 4, 4, 4] [] [4] [3] [some 25, some 4] (L14_22).1 := w_plain (by kernel_rfl) (L14_22).2
noncomputable def L14_23 : Lt r14_23 := by refine ⟨?l, ?h⟩; case h => simp only [r14_23, c14, bodyOf, Tryd.f14, Code.sub, opsOf, List.map_cons, List.map_nil, strip]; rfl
theorem w14_23 : Wp r14_23 4 [4, 4, 4, 4, 4, 4, 4, 4, 4, 4, 4, 4, 4, 4, 4, 4, 4, 4, 4, 4, 4, 4] [] [4] [3] [some 26, some 4] (L14_23).1 := w_plain (by kernel_rfl) (L14_23).2
noncomputable def L14_24 : Lt r14_24 := by refine ⟨?l, ?h⟩; case h => simp only [r14_24, c14, bodyOf, Tryd.f14, Code.sub, opsOf, List.map_cons, List.map_nil, strip]; rfl
theorem w14_24 : Wp r14_24 4 [4, 4, 4, 4, 4, 4, 4, 4, 4, 4, 4, 4, 4, 4, 4, 4, 4, 4, 4, 4, 4, 4] [2] [] [] [some 2] (L14_24).1 := w_plain (by kernel_rfl) (L14_24).2
noncomputable def L14_25 : Lt r14_25 := by refine ⟨?l, ?h⟩; case h => simp only [r14_25, c14, bodyOf, Tryd.f14, Code.sub, opsOf, List.map_cons, List.map_nil, strip]; rfl
theorem w14_25 : Wp r14_25 4 [4, 4, 4, 4, 4, 4, 4, 4, 4, 4, 4, 4, 4, 4, 4, 4, 4, 4, 4, 4, 4, 4] [2] [] [] [some 2] (L14_25).1 := w_plain (by kernel_rfl) (L14_25).2
theorem k14 : FnIs TT 14 c14 [.tmp 2] 1 := ⟨Tryd.f14, by kernel_rfl, by simp only [Tryd.f14, c14, bodyOf], by kernel_rfl, of_decide_eq_true (by kernel_rfl)⟩
noncomputable def c15 : Code := bodyOf Tryd.f15
noncomputable def r15_0 : Code := Code.sub [0] c15
noncomputable def r15_1 : Code := Code.sub [1, 0, 0] c15
noncomputable def r15_2 : Code := Code.sub [1, 0, 1, 0, 0, 0] c15
noncomputable def r15_3 : Code := Code.sub [1, 0, 1, 0, 0, 1, 1, 0] c15
noncomputable def r15_4 : Code := Code.sub [1, 0, 1, 0, 0, 1, 1, 1, 1, 0] c15
noncomputable def r15_5 : Code := Code.sub [1, 0, 1, 0, 0, 1, 1, 1, 1, 1, 1, 0] c15
noncomputable def r15_6 : Code := Code.sub [1, 0, 1, 0, 0, 1, 1, 1, 1, 1, 1, 1, 1, 0] c15
noncomputable def r15_7 : Code := Code.sub [1, 0, 1, 0, 0, 1, 1, 1, 1, 1, 1, 1, 1, 1, 1, 0] c15
noncomputable def r15_8 : Code := Code.sub [1, 0, 1, 0, 0, 1, 1, 1, 1, 1, 1, 1, 1, 1, 1, 1, 1, 0] c15
noncomputable def r15_9 : Code := Code.sub [1, 0, 1, 0, 0, 1, 1, 1, 1, 1, 1, 1, 1, 1, 1, 1, 1, 1, 1, 0] c15
noncomputable def r15_10 : Code := Code.sub [1, 0, 1, 0, 0, 1, 1, 1, 1, 1, 1, 1, 1, 1, 1, 1, 1, 1, 1, 1, 1, 0] c15
noncomputable def r15_11 : Code := Code.sub [1, 0, 1, 0, 0, 1, 1, 1, 1, 1, 1, 1, 1, 1, 1, 1, 1, 1, 1, 1, 1, 1, 1, 0] c15
noncomputable def r15_12 : Code := Code.sub [1, 0, 1, 0, 0, 1, 1, 1, 1, 1, 1, 1, 1, 1, 1, 1, 1, 1, 1, 1, 1, 1, 1, 1, 1, 0] c15
noncomputable def r15_13 : Code := Code.sub [1, 0, 1, 0, 0, 1, 1, 1, 1, 1, 1, 1, 1, 1, 1, 1, 1, 1, 1, 1, 1, 1, 1, 1, 1, 1, 1, 0] c15
noncomputable def r15_14 : Code := Code.sub [1, 0, 1, 0, 0, 1, 1, 1, 1, 1, 1, 1, 1, 1, 1, 1, 1, 1, 1, 1, 1, 1, 1, 1, 1, 1, 1, 1, 1, 0] c15
noncomputable def r15_15 : Code := Code.sub [1, 0, 1, 0, 0, 1, 1, 1, 1, 1, 1, 1, 1, 1, 1, 1, 1, 1, 1, 1, 1, 1, 1, 1, 1, 1, 1, 1, 1, 1, 1, 0] c15
noncomputable def r15_16 : Code := Code.sub [1, 0, 1, 0, 0, 1, 1, 1, 1, 1, 1, 1, 1, 1, 1, 1, 1, 1, 1, 1, 1, 1, 1, 1, 1, 1, 1, 1, 1, 1, 1, 1, 1, 0] c15
noncomputable def r15_17 : Code := Code.sub [1, 0, 1, 0, 0, 1, 1, 1, 1, 1, 1, 1, 1, 1, 1, 1, 1, 1, 1, 1, 1, 1, 1, 1, 1, 1, 1, 1, 1, 1, 1, 1, 1, 1, 1, 0] c15
noncomputable def r15_18 : Code := Code.sub [1, 0, 1, 0, 0, 1, 1, 1, 1, 1, 1, 1, 1, 1, 1, 1, 1, 1, 1, 1, 1, 1, 1, 1, 1, 1, 1, 1, 1, 1, 1, 1, 1, 1, 1, 1, 1, 0] c15
noncomputable def r15_19 : Code := Code.sub [1, 0, 1, 0, 0, 1, 1, 1, 1, 1, 1, 1, 1, 1, 1, 1, 1, 1, 1, 1, 1, 1, 1, 1, 1, 1, 1, 1, 1, 1, 1, 1, 1, 1, 1, 1, 1, 1, 1, 0] c15
noncomputable def r15_20 : Code := Code.sub [1, 0, 1, 0, 0, 1, 1, 1, 1, 1, 1, 1, 1, 1, 1, 1, 1, 1, 1, 1, 1, 1, 1, 1, 1, 1, 1, 1, 1, 1, 1, 1, 1, 1, 1, 1, 1, 1, 1, 1, 1, 0] c15
noncomputable def r15_21 : Code := Code.sub [1, 0, 1, 0, 0, 1, 1, 1, 1, 1, 1, 1, 1, 1, 1, 1, 1, 1, 1, 1, 1, 1, 1, 1, 1, 1, 1, 1, 1, 1, 1, 1, 1, 1, 1, 1, 1, 1, 1, 1, 1, 1, 1, 0] c15
noncomputable def r15_22 : Code := Code.sub [1, 0, 1, 0, 0, 1, 1, 1, 1, 1, 1, 1, 1, 1, 1, 1, 1, 1, 1, 1, 1, 1, 1, 1, 1, 1, 1, 1, 1, 1, 1, 1, 1, 1, 1, 1, 1, 1, 1, 1, 1, 1, 1, 1, 1, 0] c15
noncomputable def r15_23 : Code := Code.sub [1, 0, 1, 0, 0, 1, 1, 1, 1, 1, 1, 1, 1, 1, 1, 1, 1, 1, 1, 1, 1, 1, 1, 1, 1, 1, 1, 1, 1, 1, 1, 1, 1, 1, 1, 1, 1, 1, 1, 1, 1, 1, 1, 1, 1, 1, 1] c15
noncomputable def r15_24 : Code := Code.sub [1, 0, 1, 0, 1, 0, 0] c15
noncomputable def r15_25 : Code := Code.sub [1, 1, 0] c15
theorem body15 : c15 = (.seq r15_0 (.seq (.seq r15_1 (.block 0 (.seq (.seq r15_2 (.cond (.tmp 4) .skip (.seq r15_3 (.cond (.tmp 4) .skip (.seq r15_4 (.cond (.tmp 4) .skip (.seq r15_5 (.cond (.tmp 4) .skip (.seq r15_6 (.cond (.tmp 4) .skip (.seq r15_7 (.cond (.tmp 4) .skip (.seq r15_8 (.cond (.tmp 4) .skip (.seq r15_9 (.cond (.tmp 4) .skip (.seq r15_10 (.cond (.tmp 4) .skip (.seq r15_11 (.cond (.tmp 4) .skip (.seq r15_12 (.cond (.tmp 4) .skip (.seq r15_13 (.cond (.tmp 4) .skip (.seq r15_14 (.cond (.tmp 4) .skip (.seq r15_15 (.cond (.tmp 4) .skip (.seq r15_16 (.cond (.tmp 4) .skip (.seq r15_17 (.cond (.tmp 4) .skip (.seq r15_18 (.cond (.tmp 4) .skip (.seq r15_19 (.cond (.tmp 4) .skip (.seq r15_20 (.cond (.tmp 4) .skip (.seq r15_21 (.cond (.tmp 4) .skip (.seq r15_22 (.cond (.tmp 4) .skip r15_23)))))))))))))))))))))))))))))))))))))))))) (.cond (.tmp 4) (.seq r15_24 .ret) .skip)))) (.seq r15_25 .ret))) := by kernel_rfl
noncomputable def L15_0 : Lt r15_0 := by refine ⟨?l, ?h⟩; case h => simp only [r15_0, c15, bodyOf, Tryd.f15, Code.sub, opsOf, List.map_cons, List.map_nil, strip]; rfl
theorem w15_0 : Wp r15_0 4 [4, 4, 4, 4, 4, 4, 4, 4, 4, 4, 4, 4, 4, 4, 4, 4, 4, 4, 4, 4, 4, 4] [2] [] [] [some 2] (L15_0).1 := w_plain (by kernel_rfl) (L15_0).2
noncomputable def L15_1 : Lt r15_1 := by refine ⟨?l, ?h⟩; case h => simp only [r15_1, c15, bodyOf, Tryd.f15, Code.sub, opsOf, List.map_cons, List.map_nil, strip]; rfl
theorem w15_1 : Wp r15_1 4 [4, 4, 4, 4, 4, 4, 4, 4, 4, 4, 4, 4, 4, 4, 4, 4, 4, 4, 4, 4, 4, 4] [3] [] [0] [some 3] (L15_1).1 := w_plain (by kernel_rfl) (L15_1).2
noncomputable def L15_2 : Lt r15_2 := by refine ⟨?l, ?h⟩; case h => simp only [r15_2, c15, bodyOf, Tryd.f15, Code.sub, opsOf, List.map_cons, List.map_nil, strip]; rfl
theorem w15_2 : Wp r15_2 4 [4, 4, 4, 4, 4, 4, 4, 4, 4, 4, 4, 4, 4, 4, 4, 4, 4, 4, 4, 4, 4, 4] [] [4] [3] [some 5, some 4] (L15_2).1 := w_plain (by kernel_rfl) (L15_2).2
noncomputable def L15_3 : Lt r15_3 := by refine ⟨?l, ?h⟩; case h => simp only [r15_3, c15, bodyOf, Tryd.f15, Code.sub, opsOf, List.map_cons, List.map_nil, strip]; rfl
theorem w15_3 : Wp r15_3 4 [4, 4, 4, 4, 4, 4, 4, 4, 4, 4, 4, 4, 4, 4, 4, 4, 4, 4, 4, 4, 4, 4] [] [4] [3] [some 6, some 4] (L15_3).1 := w_plain (by kernel_rfl) (L15_3).2
noncomputable def L15_4 : Lt r15_4 := by refine ⟨?l, ?h⟩; case h => simp only [r15_4, c15, bodyOf, Tryd.f15, Code.sub, opsOf, List.map_cons, List.map_nil, strip]; rfl
theorem w15_4 : Wp r15_4 4 [4, 4, 4, 4, 4, 4, 4, 4, 4, 4, 4, 4, 4, 4, 4, 4, 4, 4, 4, 4, 4, 4] [] [4] [3] [some 7, some 4] (L15_4).1 := w_plain (by kernel_rfl) (L15_4).2
noncomputable def L15_5 : Lt r15_5 := by refine ⟨?l, ?h⟩; case h => simp only [r15_5, c15, bodyOf, Tryd.f15, Code.sub, opsOf, List.map_cons, List.map_nil, strip]; rfl
theorem w15_5 : Wp r15_5 4 [4, 4, 4, 4, 4, 4, 4, 4, 4, 4, 4, 4, 4, 4, 4, 4, 4, 4, 4, 4, 4, 4] [] [4] [3] [some 8, some 4] (L15_5).1 := w_plain (by kernel_rfl) (L15_5).2
noncomputable def L15_6 : Lt r15_6 := by refine ⟨?l, ?h⟩; case h => simp only [r15_6, c15, bodyOf, Tryd.f15, Code.sub, opsOf, List.map_cons, List.map_nil, strip]; rfl
theorem w15_6 : Wp r15_6 4 [4, 4, 4, 4, 4, 4, 4, 4, 4, 4, 4, 4, 4, 4, 4, 4, 4, 4, 4, 4, 4, 4] [] [4] [3] [some 9, some 4] (L15_6).1 := w_plain (by kernel_rfl) (L15_6).2
noncomputable def L15_7 : Lt r15_7 := by refine ⟨?l, ?h⟩; case h => simp only [r15_7, c15, bodyOf, Tryd.f15, Code.sub, opsOf, List.map_cons, List.map_nil, strip]; rfl
theorem w15_7 : Wp r15_7 4 [4, 4, 4, 4, 4, 4, 4, 4, 4, 4, 4, 4, 4, 4, 4, 4, 4, 4, 4, 4, 4, 4] [] [4] [3] [some 10, some 4] (L15_7).1 := w_plain (by kernel_rfl) (L15_7).2
noncomputable def L15_8 : Lt r15_8 := by refine ⟨?l, ?h⟩; case h => simp only [r15_8, c15, bodyOf, Tryd.f15, Code.sub, opsOf, List.map_cons, List.map_nil, strip]; rfl
theorem w15_8 : Wp r15_8 4 [4, 4, 4, 4, 4, 4, 4, 4, 4, 4, 4, 4, 4, 4, 4, 4, 4, 4, 4, 4, 4, 4] [] [4] [3] [some 11, some 4] (L15_8).1 := w_plain (by kernel_rfl) (L15_8).2
noncomputable def L15_9 : Lt r15_9 := by refine ⟨?l, ?h⟩; case h => simp only [r15_9, c15, bodyOf, Tryd.f15, Code.sub, opsOf, List.map_cons, List.map_nil, strip]; rfl
theorem w15_9 : Wp r15_9 4 [4, 4, 4, 4, 4, 4, 4, 4, 4, 4, 4, 4, 4, 4, 4, 4, 4, 4, 4, 4, 4, 4] [] [4] [3] [some 12, some 4] (L15_9).1 := w_plain (by kernel_rfl) (L15_9).2
noncomputable def L15_10 : Lt r15_10 := by refine ⟨?l, ?h⟩; case h => simp only [r15_10, c15, bodyOf, Tryd.f15, Code.sub, opsOf, List.map_cons, List.map_nil, strip]; rfl
theorem w15_10 : Wp r15_10 4 [4, 4, 4, 4, 4, 4, 4, 4, 4, 4, 4, 4, 4, 4, 4, 4, 4, 4, 4, 4, 4, 4] [] [4] [3] [some 13, some 4] (L15_10).1 := w_plain (by kernel_rfl) (L15_10).2
noncomputable def L15_11 : Lt r15_11 := by refine ⟨?l, ?h⟩; case h => simp only [r15_11, c15, bodyOf, Tryd.f15, Code.sub, opsOf, List.map_cons, List.map_nil, strip]; rfl
theorem w15_11 : Wp r15_11 4 [4, 4, 4, 4, 4, 4, 4, 4, 4, 4, 4, 4, 4, 4, 4, 4, 4, 4, 4, 4, 4, 4] [] [4] [3] [some 14, some 4] (L15_11).1 := w_plain (by kernel_rfl) (L15_11).2
noncomputable def L15_12 : Lt r15_12 := by refine ⟨?l, ?h⟩; case h => simp only [r15_12, c15, bodyOf, Tryd.f15, Code.sub, opsOf, List.map_cons, List.map_nil, strip]; rfl
theorem w15_12 : Wp r15_12 4 [4, 4, 4, 4, 4, 4, 4, 4, 4, 4, 4, 4, 4, 4, 4, 4, 4, 4, 4, 4, 4, 4] [] [4] [3] [some 15, some 4] (L15_12).1 := w_plain (by kernel_rfl) (L15_12).2
noncomputable def L15_13 : Lt r15_13 := by refine ⟨?l, ?h⟩; case h => simp only [r15_13, c15, bodyOf, Tryd.f15, Code.sub, opsOf, List.map_cons, List.map_nil, strip]; rfl
theorem w15_13 : Wp r15_13 4 [4, 4, 4, 4, 4, 4, 4, 4, 4, 4, 4, 4, 4, 4, 4, 4, 4, 4, 4, 4, 4, 4] [] [4] [3] [some 16, some 4] (L15_13).1 := w_plain (by kernel_rfl) (L15_13).2
noncomputable def L15_14 : Lt r15_14 := by refine ⟨?l, ?h⟩; case h => simp only [r15_14, c15, bodyOf, Tryd.f15, Code.sub, opsOf, List.map_cons, List.map_nil, strip]; rfl
theorem w15_14 : Wp r15_14 4 [4, 4, 4, 4, 4, 4, 4, 4, 4, 4, 4, 4, 4, 4, 4, 4, 4, 4, 4, 4, 4, 4] [] [4] [3] [some 17, some 4] (L15_14).1 := w_plain (by kernel_rfl) (L15_14).2
noncomputable def L15_15 : Lt r15_15 := by refine ⟨?l, ?h⟩; case h => simp only [r15_15, c15, bodyOf, Tryd.f15, Code.sub, opsOf, List.map_cons, List.map_nil, strip]; rfl
theorem w15_15 : Wp r15_15 4 [4, 4, 4, 4, 4, 4, 4, 4, 4, 4, 4, 4, 4, 4, 4, 4, 4, 4, 4, 4, 4, 4] [] [4] [3] [some 18, some 4] (L15_15).1 := w_plain (by kernel_rfl) (L15_15).2
noncomputable def L15_16 : Lt r15_16 := by refine ⟨?l, ?h⟩; case h => simp only [r15_16, c15, bodyOf, Tryd.f15, Code.sub, opsOf, List.map_cons, List.map_nil, strip]; rfl
theorem w15_16 : Wp r15_16 4 [4, 4, 4, 4, 4, 4, 4, 4, 4, 4, 4, 4, 4, 4, 4, 4, 4, 4, 4, 4, 4, 4] [] [4] [3] [some 19, some 4] (L15_16).1 := w_plain (by kernel_rfl) (L15_16).2
noncomputable def L15_17 : Lt r15_17 := by refine ⟨?l, ?h⟩; case h => simp only [r15_17, c15, bodyOf, Tryd.f15, Code.sub, opsOf, List.map_cons, List.map_nil, strip]; rfl
theorem w15_17 : Wp r15_17 4 [4, 4, 4, 4, 4, 4, 4, 4, 4, 4, 4, 4, 4, 4, 4, 4, 4, 4, 4, 4, 4, 4] [] [4] [3] [some 20, some 4] (L15_17).1 := w_plain (by kernel_rfl) (L15_17).2
noncomputable def L15_18 : Lt r15_18 := by refine ⟨?l, ?h⟩; case h => simp only [r15_18, c15, bodyOf, Tryd.f15, Code.sub, opsOf, List.map_cons, List.map_nil, strip]; rfl
theorem w15_18 : Wp r15_18 4 [4, 4, 4, 4, 4, 4, 4, 4, 4, 4, 4, 4, 4, 4, 4, 4, 4, 4, 4, 4, 4, 4] [] [4] [3] [some 21, some 4] (L15_18).1 := w_plain (by kernel_rfl) (L15_18).2
noncomputable def L15_19 : Lt r15_19 := by refine ⟨?l, ?h⟩; case h => simp only [r15_19, c15, bodyOf, Tryd.f15, Code.sub, opsOf, List.map_cons, List.map_nil, strip]; rfl
theorem w15_19 : Wp r15_19 4 [4, 4, 4, 4, 4, 4, 4, 4, 4, 4, 4, 4, 4, 4, 4, 4, 4, 4, 4, 4, 4, 4] [] [4] [3] [some 22, some 4] (L15_19).1 := w_plain (by kernel_rfl) (L15_19).2
noncomputable def L15_20 : Lt r15_20 := by refine ⟨?l, ?h⟩; case h => simp only [r15_20, c15, bodyOf, Tryd.f15, Code.sub, opsOf, List.map_cons, List.map_nil, strip]; rfl
theorem w15_20 : Wp r15_20 4 [4, 4, 4, 4, 4, 4, 4, 4, 4, 4, 4, 4, 4, 4, 4, 4, 4, 4, 4, 4, 4, 4] [] [4] [3] [some 23, some 4] (L15_20).1 := w_plain (by kernel_rfl) (L15_20).2
noncomputable def L15_21 : Lt r15_21 := by refine ⟨?l, ?h⟩; case h => simp only [r15_21, c15, bodyOf, Tryd.f15, Code.sub, opsOf, List.map_cons, List.map_nil, strip]; rfl
theorem w15_21 : Wp r15_21 4 [4, 4, 4, 4, 4, 4, 4, 4, 4, 4, 4, 4, 4, 4, 4, 4, 4, 4, 4, 4, 4, 4] [] [4] [3] [some 24, some 4] (L15_21).1 := w_plain (by kernel_rfl) (L15_21).2
noncomputable def L15_22 : Lt r15_22 := by refine ⟨?l, ?h⟩; case h => simp only [r15_22, c15, bodyOf, Tryd.f15, Code.sub, opsOf, List.map_cons, List.map_nil, strip]; rfl
theorem w15_22 : Wp r15_22 4 [4, 4, 4, 4, 4, 4, 4, 4, 4, 4, 4, 4, 4, 4, 4, 4, 4, 4, 4, 4, 4, 4] [] [4] [3] [some 25, some 4] (L15_22).1 := w_plain (by kernel_rfl) (L15_22).2
noncomputable def L15_23 : Lt r15_23 := by refine ⟨?l, ?h⟩; case h => simp only [r15_23, c15, bodyOf, Tryd.f15, Code.sub, opsOf, List.map_cons, List.map_nil, strip]; rfl
theorem w15_23 : Wp r15_23 4 [4, 4, 4, 4, 4, 4, 4, 4, 4, 4, 4, 4, 4, 4, 4, 4, 4, 4, 4, 4, 4, 4] [] [4] [3] [some 26, some 4] (L15_23).1 := w_plain (by kernel_rfl) (L15_23).2
noncomputable def L15_24 : Lt r15_24 := by refine ⟨?l, ?h⟩; case h => simp only [r15_24, c15, bodyOf, Tryd.f15, Code.sub, opsOf, List.map_cons, List.map_nil, strip]; rfl
theorem w15_24 : Wp r15_24 4 [4, 4, 4, 4, 4, 4, 4, 4, 4, 4, 4, 4, 4, 4, 4, 4, 4, 4, 4, 4, 4, 4] [2] [] [] [some 2] (L15_24).1 := w_plain (by kernel_rfl) (L15_24).2
noncomputable def L15_25 : Lt r15_25 := by refine ⟨?l, ?h⟩; case h => simp only [r15_25, c15, bodyOf, Tryd.f15, Code.sub, opsOf, List.map_cons, List.map_nil, strip]; rfl
theorem w15_25 : Wp r15_25 4 [4, 4, 4, 4, 4, 4, 4, 4, 4, 4, 4, 4, 4, 4, 4, 4, 4, 4, 4, 4, 4, 4] [2] [] [] [some 2] (L15_25).1 := w_plain (by kernel_rfl) (L15_25).2
theorem k15 : FnIs TT 15 c15 [.tmp 2] 1 := ⟨Tryd.f15, by kernel_rfl, by simp only [Tryd.f15, c15, bodyOf], by kernel_rfl, of_decide_eq_true (by kernel_rfl)⟩
noncomputable def c18 : Code := bodyOf Tryd.f18
noncomputable def r18_0 : Code := Code.sub [0] c18
noncomputable def r18_1 : Code := Code.sub [1, 0, 0] c18
noncomputable def r18_2 : Code := Code.sub [1, 0, 1, 0, 0] c18
noncomputable def r18_3 : Code := Code.sub [1, 1, 0] c18
noncomputable def r18_4 : Code := Code.sub [1, 1, 1, 0, 0] c18
noncomputable def r18_5 : Code := Code.sub [1, 1, 1, 0, 1, 0, 0, 0, 0] c18
noncomputable def r18_6 : Code := Code.sub [1, 1, 1, 0, 1, 0, 0, 1, 0, 0, 0] c18
noncomputable def r18_7 : Code := Code.sub [1, 1, 1, 0, 1, 0, 0, 1, 0, 1, 0] c18
noncomputable def r18_8 : Code := Code.sub [1, 1, 1, 0, 1, 0, 0, 1, 0, 1, 1, 0, 0] c18
noncomputable def r18_9 : Code := Code.sub [1, 1, 1, 0, 1, 0, 0, 1, 0, 1, 1, 0, 1, 0, 0, 0] c18
noncomputable def r18_10 : Code := Code.sub [1, 1, 1, 0, 1, 0, 0, 1, 0, 1, 1, 0, 1, 0, 0, 1, 0] c18
noncomputable def r18_11 : Code := Code.sub [1, 1, 1, 0, 1, 0, 0, 1, 0, 1, 1, 0, 1, 0, 1, 0, 0] c18
noncomputable def r18_12 : Code := Code.sub [1, 1, 1, 0, 1, 0, 0, 1, 0, 1, 1, 0, 1, 0, 1, 1, 0] c18
noncomputable def r18_13 : Code := Code.sub [1, 1, 1, 0, 1, 0, 0, 1, 0, 1, 1, 0, 1, 0, 1, 1, 1, 0] c18
noncomputable def r18_14 : Code := Code.sub [1, 1, 1, 0, 1, 0, 0, 1, 0, 1, 1, 0, 1, 0, 1, 1, 1, 1, 0] c18
noncomputable def r18_15 : Code := Code.sub [1, 1, 1, 0, 1, 0, 0, 1, 0, 1, 1, 1, 0, 0] c18
noncomputable def r18_16 : Code := Code.sub [1, 1, 1, 0, 1, 0, 0, 1, 0, 1, 1, 1, 0, 1, 0, 0] c18
noncomputable def r18_17 : Code := Code.sub [1, 1, 1, 0, 1, 0, 0, 1, 0, 1, 1, 1, 0, 1, 0, 1, 0] c18
noncomputable def r18_18 : Code := Code.sub [1, 1, 1, 0, 1, 0, 0, 1, 0, 1, 1, 1, 1, 0, 0] c18
noncomputable def r18_19 : Code := Code.sub [1, 1, 1, 0, 1, 0, 0, 1, 0, 1, 1, 1, 1, 0, 1, 0, 0, 0, 0, 0, 0] c18
noncomputable def r18_20 : Code := Code.sub [1, 1, 1, 0, 1, 0, 0, 1, 0, 1, 1, 1, 1, 0, 1, 0, 0, 0, 0, 1, 0, 0] c18
noncomputable def r18_21 : Code := Code.sub [1, 1, 1, 0, 1, 0, 0, 1, 0, 1, 1, 1, 1, 0, 1, 0, 0, 0, 0, 1, 0, 1] c18
noncomputable def r18_22 : Code := Code.sub [1, 1, 1, 0, 1, 0, 0, 1, 0, 1, 1, 1, 1, 1, 0] c18
noncomputable def r18_23 : Code := Code.sub [1, 1, 1, 0, 1, 0, 0, 1, 0, 1, 1, 1, 1, 1, 1, 0, 0] c18
noncomputable def r18_24 : Code := Code.sub [1, 1, 1, 0, 1, 0, 0, 1, 0, 1, 1, 1, 1, 1, 1, 0, 1, 0, 0] c18
noncomputable def r18_25 : Code := Code.sub [1, 1, 1, 0, 1, 0, 0, 1, 0, 1, 1, 1, 1, 1, 1, 1, 0] c18
noncomputable def r18_26 : Code := Code.sub [1, 1, 1, 0, 1, 0, 0, 1, 0, 1, 1, 1, 1, 1, 1, 1, 1, 0, 0] c18
noncomputable def r18_27 : Code := Code.sub [1, 1, 1, 0, 1, 0, 0, 1, 0, 1, 1, 1, 1, 1, 1, 1, 1, 1, 0] c18
noncomputable def r18_28 : Code := Code.sub [1, 1, 1, 0, 1, 0, 0, 1, 0, 1, 1, 1, 1, 1, 1, 1, 1, 1, 1] c18
noncomputable def r18_29 : Code := Code.sub [1, 1, 1, 1, 0, 0] c18
noncomputable def r18_30 : Code := Code.sub [1, 1, 1, 1, 0, 1, 0] c18
noncomputable def r18_31 : Code := Code.sub [1, 1, 1, 1, 1, 0, 0] c18
noncomputable def r18_32 : Code := Code.sub [1, 1, 1, 1, 1, 0, 1, 0] c18
noncomputable def r18_33 : Code := Code.sub [1, 1, 1, 1, 1, 1, 0, 0] c18
noncomputable def r18_34 : Code := Code.sub [1, 1, 1, 1, 1, 1, 0, 1, 0, 0] c18
noncomputable def r18_35 : Code := Code.sub [1, 1, 1, 1, 1, 1, 1, 0] c18
theorem body18 : c18 = (.seq r18_0 (.seq (.seq r18_1 (.cond (.tmp 13) (.seq r18_2 .ret) .skip)) (.seq r18_3 (.seq (.seq r18_4 (.block 0 (.loop (.seq (.seq r18_5 (.cond (.tmp 20) .skip (.exit 0))) (.block 1 (.seq (.seq r18_6 (.cond (.tmp 24) (.exit 0) .skip)) (.seq r18_7 (.seq (.seq r18_8 (.cond (.tmp 29) (.seq (.seq r18_9 (.cond (.tmp 50) r18_10 .skip)) (.seq (.seq r18_11 (.cond (.tmp 57) (.exit 0) .skip)) (.seq r18_12 (.seq r18_13 (.seq r18_14 (.exit 1)))))) .skip)) (.seq (.seq r18_15 (.cond (.tmp 79) (.seq r18_16 (.seq r18_17 (.exit 1))) .skip)) (.seq (.seq r18_18 (.cond (.tmp 104) (.seq (.block 2 (.loop (.seq (.seq r18_19 (.cond (.tmp 114) .skip (.exit 2))) (.block 3 (.seq r18_20 r18_21))))) (.exit 1)) .skip)) (.seq r18_22 (.seq (.seq r18_23 (.cond (.tmp 133) (.seq r18_24 .ret) .skip)) (.seq r18_25 (.seq (.seq r18_26 (.cond (.tmp 150) (.exit 0) .skip)) (.seq r18_27 r18_28))))))))))))))) (.seq (.seq r18_29 (.cond (.tmp 190) r18_30 .skip)) (.seq (.seq r18_31 (.cond (.tmp 198) r18_32 .skip)) (.seq (.seq r18_33 (.cond (.tmp 205) (.seq r18_34 .ret) .skip)) (.seq r18_35 .ret)))))))) := by kernel_rfl
noncomputable def L18_0 : Lt r18_0 := by refine ⟨?l, ?h⟩; case h => simp only [r18_0, c18, bodyOf, Tryd.f18, Code.sub, opsOf, List.map_cons, List.map_nil, strip]; rfl
theorem w18_0 : Wp r18_0 11 [13, 20, 24, 29, 50, 57, 79, 104, 114, 133, 150, 190, 198, 205] [2, 3, 4] [] [] [some 2, some 3, some 4] (L18_0).1 := w_plain (by kernel_rfl) (L18_0).2
noncomputable def L18_1 : Lt r18_1 := by refine ⟨?l, ?h⟩; case h => simp only [r18_1, c18, bodyOf, Tryd.f18, Code.sub, opsOf, List.map_cons, List.map_nil, strip]; rfl
theorem w18_1 : Wp r18_1 11 [13, 20, 24, 29, 50, 57, 79, 104, 114, 133, 150, 190, 198, 205] [] [13] [0] [some 11, some 12, some 13] (L18_1).1 := w_plain (by kernel_rfl) (L18_1).2
noncomputable def L18_2 : Lt r18_2 := by refine ⟨?l, ?h⟩; case h => simp only [r18_2, c18, bodyOf, Tryd.f18, Code.sub, opsOf, List.map_cons, List.map_nil, strip]; rfl
theorem w18_2 : Wp r18_2 11 [13, 20, 24, 29, 50, 57, 79, 104, 114, 133, 150, 190, 198, 205] [2, 4] [] [3] [some 14, some 2, none, some 4] (L18_2).1 := w_plain (by kernel_rfl) (L18_2).2
noncomputable def L18_3 : Lt r18_3 := by refine ⟨?l, ?h⟩; case h => simp only [r18_3, c18, bodyOf, Tryd.f18, Code.sub, opsOf, List.map_cons, List.map_nil, strip]; rfl
theorem w18_3 : Wp r18_3 11 [13, 20, 24, 29, 50, 57, 79, 104, 114, 133, 150, 190, 198, 205] [5] [] [] [some 15, some 16, some 5] (L18_3).1 := w_plain (by kernel_rfl) (L18_3).2
noncomputable def L18_4 : Lt r18_4 := by refine ⟨?l, ?h⟩; case h => simp only [r18_4, c18, bodyOf, Tryd.f18, Code.sub, opsOf, List.map_cons, List.map_nil, strip]; rfl
theorem w18_4 : Wp r18_4 11 [13, 20, 24, 29, 50, 57, 79, 104, 114, 133, 150, 190, 198, 205] [6] [] [] [some 6] (L18_4).1 := w_plain (by kernel_rfl) (L18_4).2
noncomputable def L18_5 : Lt r18_5 := by refine ⟨?l, ?h⟩; case h => simp only [r18_5, c18, bodyOf, Tryd.f18, Code.sub, opsOf, List.map_cons, List.map_nil, strip]; rfl
theorem w18_5 : Wp r18_5 11 [13, 20, 24, 29, 50, 57, 79, 104, 114, 133, 150, 190, 198, 205] [] [20] [6, 0] [some 17, some 18, some 19, some 20] (L18_5).1 := w_plain (by kernel_rfl) (L18_5).2
noncomputable def L18_6 : Lt r18_6 := by refine ⟨?l, ?h⟩; case h => simp only [r18_6, c18, bodyOf, Tryd.f18, Code.sub, opsOf, List.map_cons, List.map_nil, strip]; rfl
theorem w18_6 : Wp r18_6 11 [13, 20, 24, 29, 50, 57, 79, 104, 114, 133, 150, 190, 198, 205] [] [24] [5] [some 21, some 22, some 23, some 24] (L18_6).1 := w_plain (by kernel_rfl) (L18_6).2
noncomputable def L18_7 : Lt r18_7 := by refine ⟨?l, ?h⟩; case h => simp only [r18_7, c18, bodyOf, Tryd.f18, Code.sub, opsOf, List.map_cons, List.map_nil, strip]; rfl
theorem w18_7 : Wp r18_7 11 [13, 20, 24, 29, 50, 57, 79, 104, 114, 133, 150, 190, 198, 205] [7] [] [0, 6] [some 25, some 26, some 27, some 7] (L18_7).1 := w_plain (by kernel_rfl) (L18_7).2
noncomputable def L18_8 : Lt r18_8 := by refine ⟨?l, ?h⟩; case h => simp only [r18_8, c18, bodyOf, Tryd.f18, Code.sub, opsOf, List.map_cons, List.map_nil, strip]; rfl
theorem w18_8 : Wp r18_8 11 [13, 20, 24, 29, 50, 57, 79, 104, 114, 133, 150, 190, 198, 205] [] [29] [7] [some 28, some 29] (L18_8).1 := w_plain (by kernel_rfl) (L18_8).2
theorem can18_9 : canonOps (opsOf r18_9) = opsOf r18_9 := by kernel_rfl
noncomputable def L18_9 : Lc r18_9 := by refine ⟨?l, (congrArg (List.map strip) can18_9).trans ?h⟩; case h => simp only [r18_9, c18, bodyOf, Tryd.f18, Code.sub, opsOf, List.map_cons, List.map_nil, strip]; rfl
theorem w18_9 : Wd r18_9 11 [13, 20, 24, 29, 50, 57, 79, 104, 114, 133, 150, 190, 198, 205] [] [50] [5] [some 30, some 31, some 32, some 33, some 34, some 35, some 36, some 37, some 38, some 39, some 40, some 41, some 42, some 43, some 44, some 45, some 46, some 47, some 48, some 49, some 50] (L18_9).1 [(3, [19]), (4, [19]), (10, [19]), (14, [19]), (15, [19]), (18, [19])] := w_loud (by kernel_rfl) (L18_9).2
noncomputable def L18_10 : Lt r18_10 := by refine ⟨?l, ?h⟩; case h => simp only [r18_10, c18, bodyOf, Tryd.f18, Code.sub, opsOf, List.map_cons, List.map_nil, strip]; rfl
theorem w18_10 : Wp r18_10 11 [13, 20, 24, 29, 50, 57, 79, 104, 114, 133, 150, 190, 198, 205] [] [] [5] [some 51, some 52, some 53] (L18_10).1 := w_plain (by kernel_rfl) (L18_10).2
noncomputable def L18_11 : Lt r18_11 := by refine ⟨?l, ?h⟩; case h => simp only [r18_11, c18, bodyOf, Tryd.f18, Code.sub, opsOf, List.map_cons, List.map_nil, strip]; rfl
theorem w18_11 : Wp r18_11 11 [13, 20, 24, 29, 50, 57, 79, 104, 114, 133, 150, 190, 198, 205] [] [57] [5] [some 54, some 55, some 56, some 57] (L18_11).1 := w_plain (by kernel_rfl) (L18_11).2
noncomputable def L18_12 : Lt r18_12 := by refine ⟨?l, ?h⟩; case h => simp only [r18_12, c18, bodyOf, Tryd.f18, Code.sub, opsOf, List.map_cons, List.map_nil, strip]; rfl
theorem w18_12 : Wp r18_12 11 [13, 20, 24, 29, 50, 57, 79, 104, 114, 133, 150, 190, 198, 205] [] [] [5] [some 58, some 59, some 60, some 61, some 62, some 63, some 64, none] (L18_12).1 := w_plain (by kernel_rfl) (L18_12).2
noncomputable def L18_13 : Lt r18_13 := by refine ⟨?l, ?h⟩; case h => simp only [r18_13, c18, bodyOf, Tryd.f18, Code.sub, opsOf, List.map_cons, List.map_nil, strip]; rfl
theorem w18_13 : Wp r18_13 11 [13, 20, 24, 29, 50, 57, 79, 104, 114, 133, 150, 190, 198, 205] [] [] [5] [some 65, some 66, some 67, none] (L18_13).1 := w_plain (by kernel_rfl) (L18_13).2
noncomputable def L18_14 : Lt r18_14 := by refine ⟨?l, ?h⟩; case h => simp only [r18_14, c18, bodyOf, Tryd.f18, Code.sub, opsOf, List.map_cons, List.map_nil, strip]; rfl
theorem w18_14 : Wp r18_14 11 [13, 20, 24, 29, 50, 57, 79, 104, 114, 133, 150, 190, 198, 205] [6] [] [6] [some 68, some 69, some 6] (L18_14).1 := w_plain (by kernel_rfl) (L18_14).2
noncomputable def L18_15 : Lt r18_15 := by refine ⟨?l, ?h⟩; case h => simp only [r18_15, c18, bodyOf, Tryd.f18, Code.sub, opsOf, List.map_cons, List.map_nil, strip]; rfl
theorem w18_15 : Wp r18_15 11 [13, 20, 24, 29, 50, 57, 79, 104, 114, 133, 150, 190, 198, 205] [] [79] [7] [some 70, some 71, some 72, some 73, some 74, some 75, some 76, some 77, some 78, some 79] (L18_15).1 := w_plain (by kernel_rfl) (L18_15).2
noncomputable def L18_16 : Lt r18_16 := by refine ⟨?l, ?h⟩; case h => simp only [r18_16, c18, bodyOf, Tryd.f18, Code.sub, opsOf, List.map_cons, List.map_nil, strip]; rfl
theorem w18_16 : Wp r18_16 11 [13, 20, 24, 29, 50, 57, 79, 104, 114, 133, 150, 190, 198, 205] [6] [] [6] [some 80, some 81, some 6] (L18_16).1 := w_plain (by kernel_rfl) (L18_16).2
noncomputable def L18_17 : Lt r18_17 := by refine ⟨?l, ?h⟩; case h => simp only [r18_17, c18, bodyOf, Tryd.f18, Code.sub, opsOf, List.map_cons, List.map_nil, strip]; rfl
theorem w18_17 : Wp r18_17 11 [13, 20, 24, 29, 50, 57, 79, 104, 114, 133, 150, 190, 198, 205] [] [] [5] [some 82, some 83, some 84, some 85, some 86, some 87, some 88, none] (L18_17).1 := w_plain (by kernel_rfl) (L18_17).2
noncomputable def L18_18 : Lt r18_18 := by refine ⟨?l, ?h⟩; case h => simp only [r18_18, c18, bodyOf, Tryd.f18, Code.sub, opsOf, List.map_cons, List.map_nil, strip]; rfl
theorem w18_18 : Wp r18_18 11 [13, 20, 24, 29, 50, 57, 79, 104, 114, 133, 150, 190, 198, 205] [] [104] [7, 0, 6] [some 89, some 90, some 91, some 92, some 93, some 94, some 95, some 96, some 97, some 98, some 99, some 100, some 101, some 102, some 103, some 104] (L18_18).1 := w_plain (by kernel_rfl) (L18_18).2
noncomputable def L18_19 : Lt r18_19 := by refine ⟨?l, ?h⟩; case h => simp only [r18_19, c18, bodyOf, Tryd.f18, Code.sub, opsOf, List.map_cons, List.map_nil, strip]; rfl
theorem w18_19 : Wp r18_19 11 [13, 20, 24, 29, 50, 57, 79, 104, 114, 133, 150, 190, 198, 205] [] [114] [0, 6] [some 105, some 106, some 107, some 108, some 109, some 110, some 111, some 112, some 113, some 114] (L18_19).1 := w_plain (by kernel_rfl) (L18_19).2
noncomputable def L18_20 : Lt r18_20 := by refine ⟨?l, ?h⟩; case h => simp only [r18_20, c18, bodyOf, Tryd.f18, Code.sub, opsOf, List.map_cons, List.map_nil, strip]; rfl
theorem w18_20 : Wp r18_20 11 [13, 20, 24, 29, 50, 57, 79, 104, 114, 133, 150, 190, 198, 205] [6] [] [6] [some 115, some 116, some 6] (L18_20).1 := w_plain (by kernel_rfl) (L18_20).2
noncomputable def L18_21 : Lt r18_21 := by refine ⟨?l, ?h⟩; case h => simp only [r18_21, c18, bodyOf, Tryd.f18, Code.sub, opsOf, List.map_cons, List.map_nil, strip]; rfl
theorem w18_21 : Wp r18_21 11 [13, 20, 24, 29, 50, 57, 79, 104, 114, 133, 150, 190, 198, 205] [] [] [5] [some 117, some 118, some 119, some 120, some 121, some 122, some 123, none] (L18_21).1 := w_plain (by kernel_rfl) (L18_21).2
noncomputable def L18_22 : Lt r18_22 := by refine ⟨?l, ?h⟩; case h => simp only [r18_22, c18, bodyOf, Tryd.f18, Code.sub, opsOf, List.map_cons, List.map_nil, strip]; rfl
theorem w18_22 : Wp r18_22 11 [13, 20, 24, 29, 50, 57, 79, 104, 114, 133, 150, 190, 198, 205] [8, 9, 10] [] [0, 6] [some 125, some 126, some 127, some 128, some 124, some 129, some 130, some 131, some 8, none, some 9, some 10] (L18_22).1 := w_plain (by kernel_rfl) (L18_22).2
noncomputable def L18_23 : Lt r18_23 := by refine ⟨?l, ?h⟩; case h => simp only [r18_23, c18, bodyOf, Tryd.f18, Code.sub, opsOf, List.map_cons, List.map_nil, strip]; rfl
theorem w18_23 : Wp r18_23 11 [13, 20, 24, 29, 50, 57, 79, 104, 114, 133, 150, 190, 198, 205] [] [133] [10] [some 132, some 133] (L18_23).1 := w_plain (by kernel_rfl) (L18_23).2
theorem can18_24 : canonOps (opsOf r18_24) = opsOf r18_24 := by kernel_rfl
noncomputable def L18_24 : Lc r18_24 := by refine ⟨?l, (congrArg (List.map strip) can18_24).trans ?h⟩; case h => simp only [r18_24, c18, bodyOf, Tryd.f18, Code.sub, opsOf, List.map_cons, List.map_nil, strip]; rfl
theorem w18_24 : Wd r18_24 11 [13, 20, 24, 29, 50, 57, 79, 104, 114, 133, 150, 190, 198, 205] [2, 4] [] [5, 10, 3] [some 134, some 135, some 136, some 137, some 138, some 139, some 140, some 141, some 142, some 143, some 2, none, some 4] (L18_24).1 [(3, [11]), (7, [11])] := w_loud (by kernel_rfl) (L18_24).2
noncomputable def L18_25 : Lt r18_25 := by refine ⟨?l, ?h⟩; case h => simp only [r18_25, c18, bodyOf, Tryd.f18, Code.sub, opsOf, List.map_cons, List.map_nil, strip]; rfl
theorem w18_25 : Wp r18_25 11 [13, 20, 24, 29, 50, 57, 79, 104, 114, 133, 150, 190, 198, 205] [] [] [5, 8] [some 144, some 145, some 146] (L18_25).1 := w_plain (by kernel_rfl) (L18_25).2
noncomputable def L18_26 : Lt r18_26 := by refine ⟨?l, ?h⟩; case h => simp only [r18_26, c18, bodyOf, Tryd.f18, Code.sub, opsOf, List.map_cons, List.map_nil, strip]; rfl
theorem w18_26 : Wp r18_26 11 [13, 20, 24, 29, 50, 57, 79, 104, 114, 133, 150, 190, 198, 205] [] [150] [5] [some 147, some 148, some 149, some 150] (L18_26).1 := w_plain (by kernel_rfl) (L18_26).2
noncomputable def L18_27 : Lt r18_27 := by refine ⟨?l, ?h⟩; case h => simp only [r18_27, c18, bodyOf, Tryd.f18, Code.sub, opsOf, List.map_cons, List.map_nil, strip]; rfl
theorem w18_27 : Wp r18_27 11 [13, 20, 24, 29, 50, 57, 79, 104, 114, 133, 150, 190, 198, 205] [6] [] [6, 9] [some 151, some 152, some 153, some 6] (L18_27).1 := w_plain (by kernel_rfl) (L18_27).2
noncomputable def L18_28 : Lt r18_28 := by refine ⟨?l, ?h⟩; case h => simp only [r18_28, c18, bodyOf, Tryd.f18, Code.sub, opsOf, List.map_cons, List.map_nil, strip]; rfl
theorem w18_28 : Wp r18_28 11 [13, 20, 24, 29, 50, 57, 79, 104, 114, 133, 150, 190, 198, 205] [] [] [5, 9] [some 154, some 155, some 156, some 157, some 158, some 159, some 160, some 161, some 162, none] (L18_28).1 := w_plain (by kernel_rfl) (L18_28).2
theorem can18_29 : canonOps (opsOf r18_29) = opsOf r18_29 := by kernel_rfl
noncomputable def L18_29 : Lc r18_29 := by refine ⟨?l, (congrArg (List.map strip) can18_29).trans ?h⟩; case h => simp only [r18_29, c18, bodyOf, Tryd.f18, Code.sub, opsOf, List.map_cons, List.map_nil, strip]; rfl
theorem w18_29 : Wd r18_29 11 [13, 20, 24, 29, 50, 57, 79, 104, 114, 133, 150, 190, 198, 205] [] [190] [5] [some 163, some 164, some 165, some 166, some 167, some 168, some 169, some 170, some 171, some 172, some 173, some 174, some 175, some 176, some 177, some 178, some 179, some 180, some 181, some 182, some 183, some 184, some 185, some 186, some 187, some 188, some 189, some 190] (L18_29).1 [(3, [26]), (9, [26]), (10, [26]), (17, [26]), (21, [26]), (22, [26]), (25, [26])] := w_loud (by kernel_rfl) (L18_29).2
noncomputable def L18_30 : Lt r18_30 := by refine ⟨?l, ?h⟩; case h => simp only [r18_30, c18, bodyOf, Tryd.f18, Code.sub, opsOf, List.map_cons, List.map_nil, strip]; rfl
theorem w18_30 : Wp r18_30 11 [13, 20, 24, 29, 50, 57, 79, 104, 114, 133, 150, 190, 198, 205] [] [] [5] [some 191, some 192, some 193] (L18_30).1 := w_plain (by kernel_rfl) (L18_30).2
noncomputable def L18_31 : Lt r18_31 := by refine ⟨?l, ?h⟩; case h => simp only [r18_31, c18, bodyOf, Tryd.f18, Code.sub, opsOf, List.map_cons, List.map_nil, strip]; rfl
theorem w18_31 : Wp r18_31 11 [13, 20, 24, 29, 50, 57, 79, 104, 114, 133, 150, 190, 198, 205] [] [198] [5] [some 194, some 195, some 196, some 197, some 198] (L18_31).1 := w_plain (by kernel_rfl) (L18_31).2
noncomputable def L18_32 : Lt r18_32 := by refine ⟨?l, ?h⟩; case h => simp only [r18_32, c18, bodyOf, Tryd.f18, Code.sub, opsOf, List.map_cons, List.map_nil, strip]; rfl
theorem w18_32 : Wp r18_32 11 [13, 20, 24, 29, 50, 57, 79, 104, 114, 133, 150, 190, 198, 205] [] [] [5] [some 199, some 200, some 201] (L18_32).1 := w_plain (by kernel_rfl) (L18_32).2
noncomputable def L18_33 : Lt r18_33 := by refine ⟨?l, ?h⟩; case h => simp only [r18_33, c18, bodyOf, Tryd.f18, Code.sub, opsOf, List.map_cons, List.map_nil, strip]; rfl
theorem w18_33 : Wp r18_33 11 [13, 20, 24, 29, 50, 57, 79, 104, 114, 133, 150, 190, 198, 205] [] [205] [5] [some 202, some 203, some 204, some 205] (L18_33).1 := w_plain (by kernel_rfl) (L18_33).2
theorem can18_34 : canonOps (opsOf r18_34) = opsOf r18_34 := by kernel_rfl
noncomputable def L18_34 : Lc r18_34 := by refine ⟨?l, (congrArg (List.map strip) can18_34).trans ?h⟩; case h => simp only [r18_34, c18, bodyOf, Tryd.f18, Code.sub, opsOf, List.map_cons, List.map_nil, strip]; rfl
theorem w18_34 : Wd r18_34 11 [13, 20, 24, 29, 50, 57, 79, 104, 114, 133, 150, 190, 198, 205] [2, 4] [] [5, 3] [some 206, some 207, some 208, some 209, some 210, some 211, some 212, some 213, some 214, some 2, none, some 4] (L18_34).1 [(3, [10]), (7, [10])] := w_loud (by kernel_rfl) (L18_34).2
noncomputable def L18_35 : Lt r18_35 := by refine ⟨?l, ?h⟩; case h => simp only [r18_35, c18, bodyOf, Tryd.f18, Code.sub, opsOf, List.map_cons, List.map_nil, strip]; rfl
theorem w18_35 : Wp r18_35 11 [13, 20, 24, 29, 50, 57, 79, 104, 114, 133, 150, 190, 198, 205] [2, 4] [] [5, 3] [some 215, some 216, some 217, some 218, some 219, some 2, none, some 4] (L18_35).1 := w_plain (by kernel_rfl) (L18_35).2
theorem k18 : FnIs TT 18 c18 [.tmp 2, .cell 3 31, .tmp 4] 1 := ⟨Tryd.f18, by kernel_rfl, by simp only [Tryd.f18, c18, bodyOf], by kernel_rfl, of_decide_eq_true (by kernel_rfl)⟩
noncomputable def c19 : Code := bodyOf Tryd.f19
noncomputable def r19_0 : Code := Code.sub [0] c19
noncomputable def r19_1 : Code := Code.sub [1, 0, 0] c19
noncomputable def r19_2 : Code := Code.sub [1, 0, 1, 0, 0] c19
noncomputable def r19_3 : Code := Code.sub [1, 1, 0, 0] c19
noncomputable def r19_4 : Code := Code.sub [1, 1, 0, 1, 0, 0, 0, 0] c19
noncomputable def r19_5 : Code := Code.sub [1, 1, 0, 1, 0, 0, 1, 0, 0, 0] c19
noncomputable def r19_6 : Code := Code.sub [1, 1, 0, 1, 0, 0, 1, 0, 0, 1, 0, 0] c19
noncomputable def r19_7 : Code := Code.sub [1, 1, 0, 1, 0, 0, 1, 1] c19
noncomputable def r19_8 : Code := Code.sub [1, 1, 1, 0] c19
theorem body19 : c19 = (.seq r19_0 (.seq (.seq r19_1 (.cond (.tmp 10) (.seq r19_2 .ret) .skip)) (.seq (.seq r19_3 (.block 0 (.loop (.seq (.seq r19_4 (.cond (.tmp 14) .skip (.exit 0))) (.seq (.block 1 (.seq r19_5 (.cond (.tmp 25) (.seq r19_6 .ret) .skip))) r19_7))))) (.seq r19_8 .ret)))) := by kernel_rfl
noncomputable def L19_0 : Lt r19_0 := by refine ⟨?l, ?h⟩; case h => simp only [r19_0, c19, bodyOf, Tryd.f19, Code.sub, opsOf, List.map_cons, List.map_nil, strip]; rfl
theorem w19_0 : Wp r19_0 6 [10, 14, 25] [4] [] [] [some 4] (L19_0).1 := w_plain (by kernel_rfl) (L19_0).2
noncomputable def L19_1 : Lt r19_1 := by refine ⟨?l, ?h⟩; case h => simp only [r19_1, c19, bodyOf, Tryd.f19, Code.sub, opsOf, List.map_cons, List.map_nil, strip]; rfl
theorem w19_1 : Wp r19_1 6 [10, 14, 25] [] [10] [0, 1] [some 6, some 7, some 8, some 9, some 10] (L19_1).1 := w_plain (by kernel_rfl) (L19_1).2
noncomputable def L19_2 : Lt r19_2 := by refine ⟨?l, ?h⟩; case h => simp only [r19_2, c19, bodyOf, Tryd.f19, Code.sub, opsOf, List.map_cons, List.map_nil, strip]; rfl
theorem w19_2 : Wp r19_2 6 [10, 14, 25] [4] [] [] [some 4] (L19_2).1 := w_plain (by kernel_rfl) (L19_2).2
noncomputable def L19_3 : Lt r19_3 := by refine ⟨?l, ?h⟩; case h => simp only [r19_3, c19, bodyOf, Tryd.f19, Code.sub, opsOf, List.map_cons, List.map_nil, strip]; rfl
theorem w19_3 : Wp r19_3 6 [10, 14, 25] [5] [] [] [some 5] (L19_3).1 := w_plain (by kernel_rfl) (L19_3).2
noncomputable def L19_4 : Lt r19_4 := by refine ⟨?l, ?h⟩; case h => simp only [r19_4, c19, bodyOf, Tryd.f19, Code.sub, opsOf, List.map_cons, List.map_nil, strip]; rfl
theorem w19_4 : Wp r19_4 6 [10, 14, 25] [] [14] [5, 0] [some 11, some 12, some 13, some 14] (L19_4).1 := w_plain (by kernel_rfl) (L19_4).2
noncomputable def L19_5 : Lt r19_5 := by refine ⟨?l, ?h⟩; case h => simp only [r19_5, c19, bodyOf, Tryd.f19, Code.sub, opsOf, List.map_cons, List.map_nil, strip]; rfl
theorem w19_5 : Wp r19_5 6 [10, 14, 25] [] [25] [0, 1, 5] [some 17, some 18, some 19, some 20, some 21, some 22, some 23, some 24, some 25] (L19_5).1 := w_plain (by kernel_rfl) (L19_5).2
noncomputable def L19_6 : Lt r19_6 := by refine ⟨?l, ?h⟩; case h => simp only [r19_6, c19, bodyOf, Tryd.f19, Code.sub, opsOf, List.map_cons, List.map_nil, strip]; rfl
theorem w19_6 : Wp r19_6 6 [10, 14, 25] [4] [] [] [some 4] (L19_6).1 := w_plain (by kernel_rfl) (L19_6).2
noncomputable def L19_7 : Lt r19_7 := by refine ⟨?l, ?h⟩; case h => simp only [r19_7, c19, bodyOf, Tryd.f19, Code.sub, opsOf, List.map_cons, List.map_nil, strip]; rfl
theorem w19_7 : Wp r19_7 6 [10, 14, 25] [5] [] [5] [some 15, some 16, some 5] (L19_7).1 := w_plain (by kernel_rfl) (L19_7).2
noncomputable def L19_8 : Lt r19_8 := by refine ⟨?l, ?h⟩; case h => simp only [r19_8, c19, bodyOf, Tryd.f19, Code.sub, opsOf, List.map_cons, List.map_nil, strip]; rfl
theorem w19_8 : Wp r19_8 6 [10, 14, 25] [4] [] [] [some 4] (L19_8).1 := w_plain (by kernel_rfl) (L19_8).2
theorem k19 : FnIs TT 19 c19 [.tmp 4] 2 := ⟨Tryd.f19, by kernel_rfl, by simp only [Tryd.f19, c19, bodyOf], by kernel_rfl, of_decide_eq_true (by kernel_rfl)⟩
noncomputable def c23 : Code := bodyOf Tryd.f23
noncomputable def r23_0 : Code := Code.sub [0] c23
noncomputable def r23_1 : Code := Code.sub [1, 0, 0] c23
noncomputable def r23_2 : Code := Code.sub [1, 0, 1, 0, 0] c23
noncomputable def r23_3 : Code := Code.sub [1, 0, 1, 0, 1, 0, 0, 0] c23
noncomputable def r23_4 : Code := Code.sub [1, 0, 1, 0, 1, 0, 0, 1, 0] c23
noncomputable def r23_5 : Code := Code.sub [1, 0, 1, 0, 1, 0, 1, 0] c23
noncomputable def r23_6 : Code := Code.sub [1, 0, 1, 0, 1, 0, 1, 1, 0] c23
noncomputable def r23_7 : Code := Code.sub [1, 0, 1, 0, 1, 1, 0] c23
noncomputable def r23_8 : Code := Code.sub [1, 0, 1, 0, 1, 1, 1, 0, 0] c23
noncomputable def r23_9 : Code := Code.sub [1, 0, 1, 0, 1, 1, 1, 1, 0] c23
noncomputable def r23_10 : Code := Code.sub [1, 0, 1, 0, 1, 1, 1, 1, 1, 0] c23
noncomputable def r23_11 : Code := Code.sub [1, 0, 1, 0, 1, 1, 1, 1, 1, 1, 0] c23
noncomputable def r23_12 : Code := Code.sub [1, 0, 1, 0, 1, 1, 1, 1, 1, 1, 1, 0] c23
noncomputable def r23_13 : Code := Code.sub [1, 0, 1, 0, 1, 1, 1, 1, 1, 1, 1, 1, 0] c23
noncomputable def r23_14 : Code := Code.sub [1, 0, 1, 0, 1, 1, 1, 1, 1, 1, 1, 1, 1, 0] c23
noncomputable def r23_15 : Code := Code.sub [1, 0, 1, 0, 1, 1, 1, 1, 1, 1, 1, 1, 1, 1, 0] c23
noncomputable def r23_16 : Code := Code.sub [1, 0, 1, 0, 1, 1, 1, 1, 1, 1, 1, 1, 1, 1, 1, 0] c23
noncomputable def r23_17 : Code := Code.sub [1, 1] c23
theorem body23 : c23 = (.seq r23_0 (.seq (.seq r23_1 (.block 0 (.seq r23_2 (.cond (.tmp 8) (.seq (.seq r23_3 (.cond (.tmp 12) r23_4 .skip)) (.seq r23_5 (.seq r23_6 .ret))) (.seq r23_7 (.cond (.tmp 33) (.seq r23_8 .ret) (.seq r23_9 (.cond (.tmp 46) r23_10 (.seq r23_11 (.cond (.tmp 63) r23_12 (.seq r23_13 (.cond (.tmp 68) r23_14 (.seq r23_15 (.cond (.tmp 73) r23_16 .skip)))))))))))))) r23_17)) := by kernel_rfl
noncomputable def L23_0 : Lt r23_0 := by refine ⟨?l, ?h⟩; case h => simp only [r23_0, c23, bodyOf, Tryd.f23, Code.sub, opsOf, List.map_cons, List.map_nil, strip]; rfl
theorem w23_0 : Wp r23_0 4 [8, 12, 33, 46, 63, 68, 73] [2] [] [0] [some 4, some 5, some 2] (L23_0).1 := w_plain (by kernel_rfl) (L23_0).2
noncomputable def L23_1 : Lt r23_1 := by refine ⟨?l, ?h⟩; case h => simp only [r23_1, c23, bodyOf, Tryd.f23, Code.sub, opsOf, List.map_cons, List.map_nil, strip]; rfl
theorem w23_1 : Wp r23_1 4 [8, 12, 33, 46, 63, 68, 73] [3] [] [0] [some 6, some 7, some 3] (L23_1).1 := w_plain (by kernel_rfl) (L23_1).2
noncomputable def L23_2 : Lt r23_2 := by refine ⟨?l, ?h⟩; case h => simp only [r23_2, c23, bodyOf, Tryd.f23, Code.sub, opsOf, List.map_cons, List.map_nil, strip]; rfl
theorem w23_2 : Wp r23_2 4 [8, 12, 33, 46, 63, 68, 73] [] [8] [3] [some 9, some 10, some 8] (L23_2).1 := w_plain (by kernel_rfl) (L23_2).2
noncomputable def L23_3 : Lt r23_3 := by refine ⟨?l, ?h⟩; case h => simp only [r23_3, c23, bodyOf, Tryd.f23, Code.sub, opsOf, List.map_cons, List.map_nil, strip]; rfl
theorem w23_3 : Wp r23_3 4 [8, 12, 33, 46, 63, 68, 73] [] [12] [0] [some 11, some 12] (L23_3).1 := w_plain (by kernel_rfl) (L23_3).2
noncomputable def L23_4 : Lt r23_4 := by refine ⟨?l, ?h⟩; case h => simp only [r23_4, c23, bodyOf, Tryd.f23, Code.sub, opsOf, List.map_cons, List.map_nil, strip]; rfl
theorem w23_4 : Wp r23_4 4 [8, 12, 33, 46, 63, 68, 73] [] [] [0] [some 13, some 14] (L23_4).1 := w_plain (by kernel_rfl) (L23_4).2
noncomputable def L23_5 : Lt r23_5 := by refine ⟨?l, ?h⟩; case h => simp only [r23_5, c23, bodyOf, Tryd.f23, Code.sub, opsOf, List.map_cons, List.map_nil, strip]; rfl
theorem w23_5 : Wp r23_5 4 [8, 12, 33, 46, 63, 68, 73] [] [] [0] [some 15, some 16, some 17, some 18, some 19, some 20, some 21, none] (L23_5).1 := w_plain (by kernel_rfl) (L23_5).2
noncomputable def L23_6 : Lt r23_6 := by refine ⟨?l, ?h⟩; case h => simp only [r23_6, c23, bodyOf, Tryd.f23, Code.sub, opsOf, List.map_cons, List.map_nil, strip]; rfl
theorem w23_6 : Wp r23_6 4 [8, 12, 33, 46, 63, 68, 73] [] [] [0] [some 22, some 23, some 24, some 25, some 26, some 27, some 28, some 29, some 30, none, some 31, some 32, none] (L23_6).1 := w_plain (by kernel_rfl) (L23_6).2
noncomputable def L23_7 : Lt r23_7 := by refine ⟨?l, ?h⟩; case h => simp only [r23_7, c23, bodyOf, Tryd.f23, Code.sub, opsOf, List.map_cons, List.map_nil, strip]; rfl
theorem w23_7 : Wp r23_7 4 [8, 12, 33, 46, 63, 68, 73] [] [33] [3] [some 34, some 35, some 36, some 37, some 38, some 39, some 40, some 41, some 42, some 43, some 33] (L23_7).1 := w_plain (by kernel_rfl) (L23_7).2
noncomputable def L23_8 : Lt r23_8 := by refine ⟨?l, ?h⟩; case h => simp only [r23_8, c23, bodyOf, Tryd.f23, Code.sub, opsOf, List.map_cons, List.map_nil, strip]; rfl
theorem w23_8 : Wp r23_8 4 [8, 12, 33, 46, 63, 68, 73] [] [] [0] [some 44, some 45] (L23_8).1 := w_plain (by kernel_rfl) (L23_8).2
noncomputable def L23_9 : Lt r23_9 := by refine ⟨?l, ?h⟩; case h => simp only [r23_9, c23, bodyOf, Tryd.f23, Code.sub, opsOf, List.map_cons, List.map_nil, strip]; rfl
theorem w23_9 : Wp r23_9 4 [8, 12, 33, 46, 63, 68, 73] [] [46] [3, 0] [some 47, some 48, some 49, some 50, some 51, some 52, some 53, some 54, some 55, some 56, some 57, some 58, some 59, some 60, some 46] (L23_9).1 := w_plain (by kernel_rfl) (L23_9).2
noncomputable def L23_10 : Lt r23_10 := by refine ⟨?l, ?h⟩; case h => simp only [r23_10, c23, bodyOf, Tryd.f23, Code.sub, opsOf, List.map_cons, List.map_nil, strip]; rfl
theorem w23_10 : Wp r23_10 4 [8, 12, 33, 46, 63, 68, 73] [2] [] [0] [some 61, some 62, some 2] (L23_10).1 := w_plain (by kernel_rfl) (L23_10).2
noncomputable def L23_11 : Lt r23_11 := by refine ⟨?l, ?h⟩; case h => simp only [r23_11, c23, bodyOf, Tryd.f23, Code.sub, opsOf, List.map_cons, List.map_nil, strip]; rfl
theorem w23_11 : Wp r23_11 4 [8, 12, 33, 46, 63, 68, 73] [] [63] [3] [some 64, some 65, some 63] (L23_11).1 := w_plain (by kernel_rfl) (L23_11).2
noncomputable def L23_12 : Lt r23_12 := by refine ⟨?l, ?h⟩; case h => simp only [r23_12, c23, bodyOf, Tryd.f23, Code.sub, opsOf, List.map_cons, List.map_nil, strip]; rfl
theorem w23_12 : Wp r23_12 4 [8, 12, 33, 46, 63, 68, 73] [2] [] [0] [some 66, some 67, some 2] (L23_12).1 := w_plain (by kernel_rfl) (L23_12).2
noncomputable def L23_13 : Lt r23_13 := by refine ⟨?l, ?h⟩; case h => simp only [r23_13, c23, bodyOf, Tryd.f23, Code.sub, opsOf, List.map_cons, List.map_nil, strip]; rfl
theorem w23_13 : Wp r23_13 4 [8, 12, 33, 46, 63, 68, 73] [] [68] [3] [some 69, some 70, some 68] (L23_13).1 := w_plain (by kernel_rfl) (L23_13).2
noncomputable def L23_14 : Lt r23_14 := by refine ⟨?l, ?h⟩; case h => simp only [r23_14, c23, bodyOf, Tryd.f23, Code.sub, opsOf, List.map_cons, List.map_nil, strip]; rfl
theorem w23_14 : Wp r23_14 4 [8, 12, 33, 46, 63, 68, 73] [2] [] [0] [some 71, some 72, some 2] (L23_14).1 := w_plain (by kernel_rfl) (L23_14).2
noncomputable def L23_15 : Lt r23_15 := by refine ⟨?l, ?h⟩; case h => simp only [r23_15, c23, bodyOf, Tryd.f23, Code.sub, opsOf, List.map_cons, List.map_nil, strip]; rfl
theorem w23_15 : Wp r23_15 4 [8, 12, 33, 46, 63, 68, 73] [] [73] [3] [some 74, some 75, some 73] (L23_15).1 := w_plain (by kernel_rfl) (L23_15).2
noncomputable def L23_16 : Lt r23_16 := by refine ⟨?l, ?h⟩; case h => simp only [r23_16, c23, bodyOf, Tryd.f23, Code.sub, opsOf, List.map_cons, List.map_nil, strip]; rfl
theorem w23_16 : Wp r23_16 4 [8, 12, 33, 46, 63, 68, 73] [2] [] [0] [some 76, some 77, some 2] (L23_16).1 := w_plain (by kernel_rfl) (L23_16).2
noncomputable def L23_17 : Lt r23_17 := by refine ⟨?l, ?h⟩; case h => simp only [r23_17, c23, bodyOf, Tryd.f23, Code.sub, opsOf, List.map_cons, List.map_nil, strip]; rfl
theorem w23_17 : Wp r23_17 4 [8, 12, 33, 46, 63, 68, 73] [] [] [0, 2] [some 78, some 79, some 80, some 81] (L23_17).1 := w_plain (by kernel_rfl) (L23_17).2
theorem k23 : FnIs TT 23 c23 [] 1 := ⟨Tryd.f23, by kernel_rfl, by simp only [Tryd.f23, c23, bodyOf], by kernel_rfl, of_decide_eq_true (by kernel_rfl)⟩
noncomputable def c24 : Code := bodyOf Tryd.f24
noncomputable def r24_0 : Code := Code.sub [0] c24
noncomputable def r24_1 : Code := Code.sub [1, 0, 0] c24
noncomputable def r24_2 : Code := Code.sub [1, 0, 1, 0, 0] c24
noncomputable def r24_3 : Code := Code.sub [1, 1, 0] c24
noncomputable def r24_4 : Code := Code.sub [1, 1, 1, 0, 0] c24
noncomputable def r24_5 : Code := Code.sub [1, 1, 1, 0, 1, 0, 0, 0] c24
noncomputable def r24_6 : Code := Code.sub [1, 1, 1, 0, 1, 0, 0, 1, 1, 0] c24
noncomputable def r24_7 : Code := Code.sub [1, 1, 1, 0, 1, 0, 0, 1, 1, 1, 1] c24
noncomputable def r24_8 : Code := Code.sub [1, 1, 1, 0, 1, 0, 1, 0, 0] c24
noncomputable def r24_9 : Code := Code.sub [1, 1, 1, 0, 1, 0, 1, 1, 0] c24
noncomputable def r24_10 : Code := Code.sub [1, 1, 1, 0, 1, 0, 1, 1, 1, 0, 0] c24
noncomputable def r24_11 : Code := Code.sub [1, 1, 1, 0, 1, 0, 1, 1, 1, 0, 1, 0, 0, 0] c24
noncomputable def r24_12 : Code := Code.sub [1, 1, 1, 0, 1, 0, 1, 1, 1, 0, 1, 0, 0, 1, 1, 0] c24
noncomputable def r24_13 : Code := Code.sub [1, 1, 1, 0, 1, 0, 1, 1, 1, 0, 1, 0, 0, 1, 1, 1, 1, 0] c24
noncomputable def r24_14 : Code := Code.sub [1, 1, 1, 0, 1, 0, 1, 1, 1, 0, 1, 0, 0, 1, 1, 1, 1, 1, 1, 0] c24
noncomputable def r24_15 : Code := Code.sub [1, 1, 1, 0, 1, 0, 1, 1, 1, 0, 1, 0, 0, 1, 1, 1, 1, 1, 1, 1, 1, 0] c24
noncomputable def r24_16 : Code := Code.sub [1, 1, 1, 0, 1, 0, 1, 1, 1, 0, 1, 0, 0, 1, 1, 1, 1, 1, 1, 1, 1, 1, 1, 0] c24
noncomputable def r24_17 : Code := Code.sub [1, 1, 1, 0, 1, 0, 1, 1, 1, 0, 1, 0, 0, 1, 1, 1, 1, 1, 1, 1, 1, 1, 1, 1, 1, 0] c24
noncomputable def r24_18 : Code := Code.sub [1, 1, 1, 0, 1, 0, 1, 1, 1, 0, 1, 0, 0, 1, 1, 1, 1, 1, 1, 1, 1, 1, 1, 1, 1, 1, 1, 0] c24
noncomputable def r24_19 : Code := Code.sub [1, 1, 1, 0, 1, 0, 1, 1, 1, 0, 1, 0, 0, 1, 1, 1, 1, 1, 1, 1, 1, 1, 1, 1, 1, 1, 1, 1, 1] c24
noncomputable def r24_20 : Code := Code.sub [1, 1, 1, 0, 1, 0, 1, 1, 1, 0, 1, 0, 1, 0, 0] c24
noncomputable def r24_21 : Code := Code.sub [1, 1, 1, 0, 1, 0, 1, 1, 1, 1, 0] c24
noncomputable def r24_22 : Code := Code.sub [1, 1, 1, 0, 1, 0, 1, 1, 1, 1, 1, 0, 0] c24
noncomputable def r24_23 : Code := Code.sub [1, 1, 1, 1, 0] c24
theorem body24 : c24 = (.seq r24_0 (.seq (.seq r24_1 (.cond (.tmp 9) (.seq r24_2 .ret) .skip)) (.seq r24_3 (.seq (.seq r24_4 (.block 0 (.seq (.seq r24_5 (.cond (.tmp 24) .skip (.seq r24_6 (.cond (.tmp 24) .skip r24_7)))) (.cond (.tmp 24) (.seq r24_8 .ret) (.seq r24_9 (.cond (.tmp 28) (.seq r24_10 (.block 1 (.seq (.seq r24_11 (.cond (.tmp 32) .skip (.seq r24_12 (.cond (.tmp 32) .skip (.seq r24_13 (.cond (.tmp 32) .skip (.seq r24_14 (.cond (.tmp 32) .skip (.seq r24_15 (.cond (.tmp 32) .skip (.seq r24_16 (.cond (.tmp 32) .skip (.seq r24_17 (.cond (.tmp 32) .skip (.seq r24_18 (.cond (.tmp 32) .skip r24_19)))))))))))))))) (.cond (.tmp 32) (.seq r24_20 .ret) .skip)))) (.seq r24_21 (.cond (.tmp 42) (.seq r24_22 .ret) .skip)))))))) (.seq r24_23 .ret))))) := by kernel_rfl
noncomputable def L24_0 : Lt r24_0 := by refine ⟨?l, ?h⟩; case h => simp only [r24_0, c24, bodyOf, Tryd.f24, Code.sub, opsOf, List.map_cons, List.map_nil, strip]; rfl
theorem w24_0 : Wp r24_0 32 [32, 32, 32, 32, 32, 32, 32, 32, 32, 42] [2] [] [] [some 2] (L24_0).1 := w_plain (by kernel_rfl) (L24_0).2
noncomputable def L24_1 : Lt r24_1 := by refine ⟨?l, ?h⟩; case h => simp only [r24_1, c24, bodyOf, Tryd.f24, Code.sub, opsOf, List.map_cons, List.map_nil, strip]; rfl
theorem w24_1 : Wp r24_1 32 [32, 32, 32, 32, 32, 32, 32, 32, 32, 42] [4, 5, 6, 7, 8, 9] [] [0] [some 4, some 5, some 6, some 7, some 8, some 9] (L24_1).1 := w_plain (by kernel_rfl) (L24_1).2
noncomputable def L24_2 : Lt r24_2 := by refine ⟨?l, ?h⟩; case h => simp only [r24_2, c24, bodyOf, Tryd.f24, Code.sub, opsOf, List.map_cons, List.map_nil, strip]; rfl
theorem w24_2 : Wp r24_2 32 [32, 32, 32, 32, 32, 32, 32, 32, 32, 42] [2] [] [] [some 2] (L24_2).1 := w_plain (by kernel_rfl) (L24_2).2
theorem can24_3 : canonOps (opsOf r24_3) = List.filterMap (fun i => ((opsOf r24_3)[i]?).map (renum [0, 1, 2, 3, 4, 5, 6, 7, 8, 9, 10, 11, 12, 13])) [0, 1, 2, 3, 4, 5, 6, 7, 8, 9, 10, 11, 12, 13] := by kernel_rfl
noncomputable def L24_3 : Lc r24_3 := by refine ⟨?l, (congrArg (List.map strip) can24_3).trans ?h⟩; case h => simp only [r24_3, c24, bodyOf, Tryd.f24, Code.sub, opsOf, List.filterMap_cons, List.filterMap_nil, List.getElem?_cons_succ, List.getElem?_cons_zero, Option.map_some, renum, List.map_cons, List.map_nil, strip]; rfl
theorem w24_3 : Wd r24_3 32 [32, 32, 32, 32, 32, 32, 32, 32, 32, 42] [10, 11, 12, 13, 14, 15, 16, 17, 18, 19, 20, 21, 3] [] [0] [some 10, some 11, some 12, some 13, some 14, some 15, some 16, some 17, some 18, some 19, some 20, some 21, some 3, none] (L24_3).1 [(3, [12, 13]), (7, [12, 13]), (8, [12, 13]), (11, [12, 13])] := w_loud (by kernel_rfl) (L24_3).2
noncomputable def L24_4 : Lt r24_4 := by refine ⟨?l, ?h⟩; case h => simp only [r24_4, c24, bodyOf, Tryd.f24, Code.sub, opsOf, List.map_cons, List.map_nil, strip]; rfl
theorem w24_4 : Wp r24_4 32 [32, 32, 32, 32, 32, 32, 32, 32, 32, 42] [22, 23] [] [3] [some 22, some 23] (L24_4).1 := w_plain (by kernel_rfl) (L24_4).2
noncomputable def L24_5 : Lt r24_5 := by refine ⟨?l, ?h⟩; case h => simp only [r24_5, c24, bodyOf, Tryd.f24, Code.sub, opsOf, List.map_cons, List.map_nil, strip]; rfl
theorem w24_5 : Wp r24_5 32 [32, 32, 32, 32, 32, 32, 32, 32, 32, 42] [25, 24] [] [23] [some 25, some 24] (L24_5).1 := w_plain (by kernel_rfl) (L24_5).2
noncomputable def L24_6 : Lt r24_6 := by refine ⟨?l, ?h⟩; case h => simp only [r24_6, c24, bodyOf, Tryd.f24, Code.sub, opsOf, List.map_cons, List.map_nil, strip]; rfl
theorem w24_6 : Wp r24_6 32 [32, 32, 32, 32, 32, 32, 32, 32, 32, 42] [26, 24] [] [23] [some 26, some 24] (L24_6).1 := w_plain (by kernel_rfl) (L24_6).2
noncomputable def L24_7 : Lt r24_7 := by refine ⟨?l, ?h⟩; case h => simp only [r24_7, c24, bodyOf, Tryd.f24, Code.sub, opsOf, List.map_cons, List.map_nil, strip]; rfl
theorem w24_7 : Wp r24_7 32 [32, 32, 32, 32, 32, 32, 32, 32, 32, 42] [27, 24] [] [23] [some 27, some 24] (L24_7).1 := w_plain (by kernel_rfl) (L24_7).2
noncomputable def L24_8 : Lt r24_8 := by refine ⟨?l, ?h⟩; case h => simp only [r24_8, c24, bodyOf, Tryd.f24, Code.sub, opsOf, List.map_cons, List.map_nil, strip]; rfl
theorem w24_8 : Wp r24_8 32 [32, 32, 32, 32, 32, 32, 32, 32, 32, 42] [2] [] [] [some 2] (L24_8).1 := w_plain (by kernel_rfl) (L24_8).2
noncomputable def L24_9 : Lt r24_9 := by refine ⟨?l, ?h⟩; case h => simp only [r24_9, c24, bodyOf, Tryd.f24, Code.sub, opsOf, List.map_cons, List.map_nil, strip]; rfl
theorem w24_9 : Wp r24_9 32 [32, 32, 32, 32, 32, 32, 32, 32, 32, 42] [29, 28] [] [23] [some 29, some 28] (L24_9).1 := w_plain (by kernel_rfl) (L24_9).2
noncomputable def L24_10 : Lt r24_10 := by refine ⟨?l, ?h⟩; case h => simp only [r24_10, c24, bodyOf, Tryd.f24, Code.sub, opsOf, List.map_cons, List.map_nil, strip]; rfl
theorem w24_10 : Wp r24_10 32 [32, 32, 32, 32, 32, 32, 32, 32, 32, 42] [30, 31] [] [3] [some 30, some 31] (L24_10).1 := w_plain (by kernel_rfl) (L24_10).2
noncomputable def L24_11 : Lt r24_11 := by refine ⟨?l, ?h⟩; case h => simp only [r24_11, c24, bodyOf, Tryd.f24, Code.sub, opsOf, List.map_cons, List.map_nil, strip]; rfl
theorem w24_11 : Wp r24_11 32 [32, 32, 32, 32, 32, 32, 32, 32, 32, 42] [] [32] [31] [some 33, some 32] (L24_11).1 := w_plain (by kernel_rfl) (L24_11).2
noncomputable def L24_12 : Lt r24_12 := by refine ⟨?l, ?h⟩; case h => simp only [r24_12, c24, bodyOf, Tryd.f24, Code.sub, opsOf, List.map_cons, List.map_nil, strip]; rfl
theorem w24_12 : Wp r24_12 32 [32, 32, 32, 32, 32, 32, 32, 32, 32, 42] [] [32] [31] [some 34, some 32] (L24_12).1 := w_plain (by kernel_rfl) (L24_12).2
noncomputable def L24_13 : Lt r24_13 := by refine ⟨?l, ?h⟩; case h => simp only [r24_13, c24, bodyOf, Tryd.f24, Code.sub, opsOf, List.map_cons, List.map_nil, strip]; rfl
theorem w24_13 : Wp r24_13 32 [32, 32, 32, 32, 32, 32, 32, 32, 32, 42] [] [32] [31] [some 35, some 32] (L24_13).1 := w_plain (by kernel_rfl) (L24_13).2
noncomputable def L24_14 : Lt r24_14 := by refine ⟨?l, ?h⟩; case h => simp only [r24_14, c24, bodyOf, Tryd.f24, Code.sub, opsOf, List.map_cons, List.map_nil, strip]; rfl
theorem w24_14 : Wp r24_14 32 [32, 32, 32, 32, 32, 32, 32, 32, 32, 42] [] [32] [31] [some 36, some 32] (L24_14).1 := w_plain (by kernel_rfl) (L24_14).2
noncomputable def L24_15 : Lt r24_15 := by refine ⟨?l, ?h⟩; case h => simp only [r24_15, c24, bodyOf, Tryd.f24, Code.sub, opsOf, List.map_cons, List.map_nil, strip]; rfl
theorem w24_15 : Wp r24_15 32 [32, 32, 32, 32, 32, 32, 32, 32, 32, 42] [] [32] [31] [some 37, some 32] (L24_15).1 := w_plain (by kernel_rfl) (L24_15).2
noncomputable def L24_16 : Lt r24_16 := by refine ⟨?l, ?h⟩; case h => simp only [r24_16, c24, bodyOf, Tryd.f24, Code.sub, opsOf, List.map_cons, List.map_nil, strip]; rfl
theorem w24_16 : Wp r24_16 32 [32, 32, 32, 32, 32, 32, 32, 32, 32, 42] [] [32] [31] [some 38, some 32] (L24_16).1 := w_plain (by kernel_rfl) (L24_16).2
noncomputable def L24_17 : Lt r24_17 := by refine ⟨?l, ?h⟩; case h => simp only [r24_17, c24, bodyOf, Tryd.f24, Code.sub, opsOf, List.map_cons, List.map_nil, strip]; rfl
theorem w24_17 : Wp r24_17 32 [32, 32, 32, 32, 32, 32, 32, 32, 32, 42] [] [32] [31] [some 39, some 32] (L24_17).1 := w_plain (by kernel_rfl) (L24_17).2
noncomputable def L24_18 : Lt r24_18 := by refine ⟨?l, ?h⟩; case h => simp only [r24_18, c24, bodyOf, Tryd.f24, Code.sub, opsOf, List.map_cons, List.map_nil, strip]; rfl
theorem w24_18 : Wp r24_18 32 [32, 32, 32, 32, 32, 32, 32, 32, 32, 42] [] [32] [31] [some 40, some 32] (L24_18).1 := w_plain (by kernel_rfl) (L24_18).2
noncomputable def L24_19 : Lt r24_19 := by refine ⟨?l, ?h⟩; case h => simp only [r24_19, c24, bodyOf, Tryd.f24, Code.sub, opsOf, List.map_cons, List.map_nil, strip]; rfl
theorem w24_19 : Wp r24_19 32 [32, 32, 32, 32, 32, 32, 32, 32, 32, 42] [] [32] [31] [some 41, some 32] (L24_19).1 := w_plain (by kernel_rfl) (L24_19).2
noncomputable def L24_20 : Lt r24_20 := by refine ⟨?l, ?h⟩; case h => simp only [r24_20, c24, bodyOf, Tryd.f24, Code.sub, opsOf, List.map_cons, List.map_nil, strip]; rfl
theorem w24_20 : Wp r24_20 32 [32, 32, 32, 32, 32, 32, 32, 32, 32, 42] [2] [] [] [some 2] (L24_20).1 := w_plain (by kernel_rfl) (L24_20).2
noncomputable def L24_21 : Lt r24_21 := by refine ⟨?l, ?h⟩; case h => simp only [r24_21, c24, bodyOf, Tryd.f24, Code.sub, opsOf, List.map_cons, List.map_nil, strip]; rfl
theorem w24_21 : Wp r24_21 32 [32, 32, 32, 32, 32, 32, 32, 32, 32, 42] [] [42] [23] [some 43, some 42] (L24_21).1 := w_plain (by kernel_rfl) (L24_21).2
noncomputable def L24_22 : Lt r24_22 := by refine ⟨?l, ?h⟩; case h => simp only [r24_22, c24, bodyOf, Tryd.f24, Code.sub, opsOf, List.map_cons, List.map_nil, strip]; rfl
theorem w24_22 : Wp r24_22 32 [32, 32, 32, 32, 32, 32, 32, 32, 32, 42] [2] [] [3] [some 44, some 45, some 46, some 47, some 48, some 49, some 50, some 51, some 52, some 53, some 54, some 55, some 56, some 2] (L24_22).1 := w_plain (by kernel_rfl) (L24_22).2
noncomputable def L24_23 : Lt r24_23 := by refine ⟨?l, ?h⟩; case h => simp only [r24_23, c24, bodyOf, Tryd.f24, Code.sub, opsOf, List.map_cons, List.map_nil, strip]; rfl
theorem w24_23 : Wp r24_23 32 [32, 32, 32, 32, 32, 32, 32, 32, 32, 42] [2] [] [] [some 2] (L24_23).1 := w_plain (by kernel_rfl) (L24_23).2
theorem k24 : FnIs TT 24 c24 [.tmp 2] 1 := ⟨Tryd.f24, by kernel_rfl, by simp only [Tryd.f24, c24, bodyOf], by kernel_rfl, of_decide_eq_true (by kernel_rfl)⟩
noncomputable def c25 : Code := bodyOf Tryd.f25
noncomputable def r25_0 : Code := Code.sub [0, 0] c25
noncomputable def r25_1 : Code := Code.sub [0, 1, 0, 0] c25
noncomputable def r25_2 : Code := Code.sub [1] c25
theorem body25 : c25 = (.seq (.seq r25_0 (.cond (.tmp 13) (.seq r25_1 .ret) .skip)) r25_2) := by kernel_rfl
noncomputable def L25_0 : Lt r25_0 := by refine ⟨?l, ?h⟩; case h => simp only [r25_0, c25, bodyOf, Tryd.f25, Code.sub, opsOf, List.map_cons, List.map_nil, strip]; rfl
theorem w25_0 : Wp r25_0 4 [13] [] [13] [0] [some 8, some 9, some 10, some 11, some 12, some 13] (L25_0).1 := w_plain (by kernel_rfl) (L25_0).2
theorem can25_1 : canonOps (opsOf r25_1) = opsOf r25_1 := by kernel_rfl
noncomputable def L25_1 : Lc r25_1 := by refine ⟨?l, (congrArg (List.map strip) can25_1).trans ?h⟩; case h => simp only [r25_1, c25, bodyOf, Tryd.f25, Code.sub, opsOf, List.map_cons, List.map_nil, strip]; rfl
theorem w25_1 : Wd r25_1 4 [13] [] [] [0] [some 14, some 15, some 16, some 17, some 18, some 19, some 20, some 21, some 22, some 23, some 24, some 25, some 26, none, some 27, some 28, none] (L25_1).1 [(5, [13]), (9, [13])] := w_loud (by kernel_rfl) (L25_1).2
theorem can25_2 : canonOps (opsOf r25_2) = List.filterMap (fun i => ((opsOf r25_2)[i]?).map (renum [0, 1, 2, 3, 4, 5, 6, 7, 8, 9, 10, 11, 12, 13, 14, 15, 16, 17, 18, 19, 20, 21])) [0, 1, 2, 3, 4, 5, 6, 7, 8, 9, 10, 11, 12, 13, 14, 15, 16, 17, 18, 19, 20, 21] := by kernel_rfl
noncomputable def L25_2 : Lc r25_2 := by refine ⟨?l, (congrArg (List.map strip) can25_2).trans ?h⟩; case h => simp only [r25_2, c25, bodyOf, Tryd.f25, Code.sub, opsOf, List.filterMap_cons, List.filterMap_nil, List.getElem?_cons_succ, List.getElem?_cons_zero, Option.map_some, renum, List.map_cons, List.map_nil, strip]; rfl
theorem w25_2 : Wd r25_2 4 [13] [] [] [1, 2, 3, 0] [some 29, some 30, some 31, some 32, some 33, some 34, some 35, some 36, some 37, some 38, some 39, some 40, some 41, some 42, some 43, some 44, some 45, some 46, some 47, some 48, some 49, none] (L25_2).1 [(4, [17, 18]), (11, [17]), (15, [17])] := w_loud (by kernel_rfl) (L25_2).2
theorem k25 : FnIs TT 25 c25 [] 4 := ⟨Tryd.f25, by kernel_rfl, by simp only [Tryd.f25, c25, bodyOf], by kernel_rfl, of_decide_eq_true (by kernel_rfl)⟩
noncomputable def c26 : Code := bodyOf Tryd.f26
noncomputable def r26_0 : Code := Code.sub [0] c26
noncomputable def r26_1 : Code := Code.sub [1, 0] c26
theorem body26 : c26 = (.seq r26_0 (.seq r26_1 .ret)) := by kernel_rfl
noncomputable def L26_0 : Lt r26_0 := by refine ⟨?l, ?h⟩; case h => simp only [r26_0, c26, bodyOf, Tryd.f26, Code.sub, opsOf, List.map_cons, List.map_nil, strip]; rfl
theorem w26_0 : Wp r26_0 3 [] [2] [] [] [some 2] (L26_0).1 := w_plain (by kernel_rfl) (L26_0).2
noncomputable def L26_1 : Lt r26_1 := by refine ⟨?l, ?h⟩; case h => simp only [r26_1, c26, bodyOf, Tryd.f26, Code.sub, opsOf, List.map_cons, List.map_nil, strip]; rfl
theorem w26_1 : Wp r26_1 3 [] [2] [] [0] [some 3, some 4, some 5, some 6, some 7, some 8, some 9, some 10, some 11, some 12, some 13, some 14, some 15, some 16, some 17, some 18, some 19, some 20, some 2] (L26_1).1 := w_plain (by kernel_rfl) (L26_1).2
theorem k26 : FnIs TT 26 c26 [.tmp 2] 1 := ⟨Tryd.f26, by kernel_rfl, by simp only [Tryd.f26, c26, bodyOf], by kernel_rfl, of_decide_eq_true (by kernel_rfl)⟩
noncomputable def c27 : Code := bodyOf Tryd.f27
noncomputable def r27_0 : Code := Code.sub [0] c27
noncomputable def r27_1 : Code := Code.sub [1, 0] c27
theorem body27 : c27 = (.seq r27_0 (.seq r27_1 .ret)) := by kernel_rfl
noncomputable def L27_0 : Lt r27_0 := by refine ⟨?l, ?h⟩; case h => simp only [r27_0, c27, bodyOf, Tryd.f27, Code.sub, opsOf, List.map_cons, List.map_nil, strip]; rfl
theorem w27_0 : Wp r27_0 3 [] [2] [] [] [some 2] (L27_0).1 := w_plain (by kernel_rfl) (L27_0).2
noncomputable def L27_1 : Lt r27_1 := by refine ⟨?l, ?h⟩; case h => simp only [r27_1, c27, bodyOf, Tryd.f27, Code.sub, opsOf, List.map_cons, List.map_nil, strip]; rfl
theorem w27_1 : Wp r27_1 3 [] [2] [] [0] [some 3, some 4, some 5, some 6, some 7, some 8, some 2] (L27_1).1 := w_plain (by kernel_rfl) (L27_1).2
theorem k27 : FnIs TT 27 c27 [.tmp 2] 1 := ⟨Tryd.f27, by kernel_rfl, by simp only [Tryd.f27, c27, bodyOf], by kernel_rfl, of_decide_eq_true (by kernel_rfl)⟩
noncomputable def c28 : Code := bodyOf Tryd.f28
noncomputable def r28_0 : Code := Code.sub [0] c28
noncomputable def r28_1 : Code := Code.sub [1, 0] c28
theorem body28 : c28 = (.seq r28_0 (.seq r28_1 .ret)) := by kernel_rfl
noncomputable def L28_0 : Lt r28_0 := by refine ⟨?l, ?h⟩; case h => simp only [r28_0, c28, bodyOf, Tryd.f28, Code.sub, opsOf, List.map_cons, List.map_nil, strip]; rfl
theorem w28_0 : Wp r28_0 3 [] [2] [] [] [some 2] (L28_0).1 := w_plain (by kernel_rfl) (L28_0).2
noncomputable def L28_1 : Lt r28_1 := by refine ⟨?l, ?h⟩; case h => simp only [r28_1, c28, bodyOf, Tryd.f28, Code.sub, opsOf, List.map_cons, List.map_nil, strip]; rfl
theorem w28_1 : Wp r28_1 3 [] [2] [] [0] [some 3, some 4, some 5, some 6, some 7, some 8, some 9, some 10, some 11, some 12, some 13, some 14, some 15, some 16, some 17, some 18, some 19, some 20, some 2] (L28_1).1 := w_plain (by kernel_rfl) (L28_1).2
theorem k28 : FnIs TT 28 c28 [.tmp 2] 1 := ⟨Tryd.f28, by kernel_rfl, by simp only [Tryd.f28, c28, bodyOf], by kernel_rfl, of_decide_eq_true (by kernel_rfl)⟩
noncomputable def c29 : Code := bodyOf Tryd.f29
noncomputable def r29_0 : Code := Code.sub [0] c29
noncomputable def r29_1 : Code := Code.sub [1, 0] c29
theorem body29 : c29 = (.seq r29_0 (.seq r29_1 .ret)) := by kernel_rfl
noncomputable def L29_0 : Lt r29_0 := by refine ⟨?l, ?h⟩; case h => simp only [r29_0, c29, bodyOf, Tryd.f29, Code.sub, opsOf, List.map_cons, List.map_nil, strip]; rfl
theorem w29_0 : Wp r29_0 3 [] [2] [] [] [some 2] (L29_0).1 := w_plain (by kernel_rfl) (L29_0).2
noncomputable def L29_1 : Lt r29_1 := by refine ⟨?l, ?h⟩; case h => simp only [r29_1, c29, bodyOf, Tryd.f29, Code.sub, opsOf, List.map_cons, List.map_nil, strip]; rfl
theorem w29_1 : Wp r29_1 3 [] [2] [] [0] [some 3, some 4, some 5, some 6, some 7, some 8, some 2] (L29_1).1 := w_plain (by kernel_rfl) (L29_1).2
theorem k29 : FnIs TT 29 c29 [.tmp 2] 1 := ⟨Tryd.f29, by kernel_rfl, by simp only [Tryd.f29, c29, bodyOf], by kernel_rfl, of_decide_eq_true (by kernel_rfl)⟩
noncomputable def c30 : Code := bodyOf Tryd.f30
noncomputable def r30_0 : Code := Code.sub [0] c30
noncomputable def r30_1 : Code := Code.sub [1, 0, 0] c30
noncomputable def r30_2 : Code := Code.sub [1, 0, 1, 0, 0, 0] c30
noncomputable def r30_3 : Code := Code.sub [1, 0, 1, 0, 0, 1, 1, 0] c30
noncomputable def r30_4 : Code := Code.sub [1, 0, 1, 0, 0, 1, 1, 1, 1] c30
noncomputable def r30_5 : Code := Code.sub [1, 0, 1, 0, 1, 0, 0] c30
noncomputable def r30_6 : Code := Code.sub [1, 0, 1, 0, 1, 1, 0] c30
noncomputable def r30_7 : Code := Code.sub [1, 0, 1, 0, 1, 1, 1, 0, 0] c30
noncomputable def r30_8 : Code := Code.sub [1, 0, 1, 0, 1, 1, 1, 0, 1, 0, 0, 0] c30
noncomputable def r30_9 : Code := Code.sub [1, 0, 1, 0, 1, 1, 1, 0, 1, 0, 0, 1, 1, 0] c30
noncomputable def r30_10 : Code := Code.sub [1, 0, 1, 0, 1, 1, 1, 0, 1, 0, 0, 1, 1, 1, 1, 0] c30
noncomputable def r30_11 : Code := Code.sub [1, 0, 1, 0, 1, 1, 1, 0, 1, 0, 0, 1, 1, 1, 1, 1, 1, 0] c30
noncomputable def r30_12 : Code := Code.sub [1, 0, 1, 0, 1, 1, 1, 0, 1, 0, 0, 1, 1, 1, 1, 1, 1, 1, 1, 0] c30
noncomputable def r30_13 : Code := Code.sub [1, 0, 1, 0, 1, 1, 1, 0, 1, 0, 0, 1, 1, 1, 1, 1, 1, 1, 1, 1, 1, 0] c30
noncomputable def r30_14 : Code := Code.sub [1, 0, 1, 0, 1, 1, 1, 0, 1, 0, 0, 1, 1, 1, 1, 1, 1, 1, 1, 1, 1, 1, 1, 0] c30
noncomputable def r30_15 : Code := Code.sub [1, 0, 1, 0, 1, 1, 1, 0, 1, 0, 0, 1, 1, 1, 1, 1, 1, 1, 1, 1, 1, 1, 1, 1, 1, 0] c30
noncomputable def r30_16 : Code := Code.sub [1, 0, 1, 0, 1, 1, 1, 0, 1, 0, 0, 1, 1, 1, 1, 1, 1, 1, 1, 1, 1, 1, 1, 1, 1, 1, 1] c30
noncomputable def r30_17 : Code := Code.sub [1, 0, 1, 0, 1, 1, 1, 0, 1, 0, 1, 0, 0] c30
noncomputable def r30_18 : Code := Code.sub [1, 0, 1, 0, 1, 1, 1, 1, 0] c30
noncomputable def r30_19 : Code := Code.sub [1, 0, 1, 0, 1, 1, 1, 1, 1, 0, 0] c30
noncomputable def r30_20 : Code := Code.sub [1, 1, 0] c30
theorem body30 : c30 = (.seq r30_0 (.seq (.seq r30_1 (.block 0 (.seq (.seq r30_2 (.cond (.tmp 5) .skip (.seq r30_3 (.cond (.tmp 5) .skip r30_4)))) (.cond (.tmp 5) (.seq r30_5 .ret) (.seq r30_6 (.cond (.tmp 9) (.seq r30_7 (.block 1 (.seq (.seq r30_8 (.cond (.tmp 13) .skip (.seq r30_9 (.cond (.tmp 13) .skip (.seq r30_10 (.cond (.tmp 13) .skip (.seq r30_11 (.cond (.tmp 13) .skip (.seq r30_12 (.cond (.tmp 13) .skip (.seq r30_13 (.cond (.tmp 13) .skip (.seq r30_14 (.cond (.tmp 13) .skip (.seq r30_15 (.cond (.tmp 13) .skip r30_16)))))))))))))))) (.cond (.tmp 13) (.seq r30_17 .ret) .skip)))) (.seq r30_18 (.cond (.tmp 23) (.seq r30_19 .ret) .skip)))))))) (.seq r30_20 .ret))) := by kernel_rfl
noncomputable def L30_0 : Lt r30_0 := by refine ⟨?l, ?h⟩; case h => simp only [r30_0, c30, bodyOf, Tryd.f30, Code.sub, opsOf, List.map_cons, List.map_nil, strip]; rfl
theorem w30_0 : Wp r30_0 13 [13, 13, 13, 13, 13, 13, 13, 13, 13, 23] [1, 2] [] [0] [some 1, some 2] (L30_0).1 := w_plain (by kernel_rfl) (L30_0).2
noncomputable def L30_1 : Lt r30_1 := by refine ⟨?l, ?h⟩; case h => simp only [r30_1, c30, bodyOf, Tryd.f30, Code.sub, opsOf, List.map_cons, List.map_nil, strip]; rfl
theorem w30_1 : Wp r30_1 13 [13, 13, 13, 13, 13, 13, 13, 13, 13, 23] [3, 4] [] [1] [some 3, some 4] (L30_1).1 := w_plain (by kernel_rfl) (L30_1).2
noncomputable def L30_2 : Lt r30_2 := by refine ⟨?l, ?h⟩; case h => simp only [r30_2, c30, bodyOf, Tryd.f30, Code.sub, opsOf, List.map_cons, List.map_nil, strip]; rfl
theorem w30_2 : Wp r30_2 13 [13, 13, 13, 13, 13, 13, 13, 13, 13, 23] [6, 5] [] [4] [some 6, some 5] (L30_2).1 := w_plain (by kernel_rfl) (L30_2).2
noncomputable def L30_3 : Lt r30_3 := by refine ⟨?l, ?h⟩; case h => simp only [r30_3, c30, bodyOf, Tryd.f30, Code.sub, opsOf, List.map_cons, List.map_nil, strip]; rfl
theorem w30_3 : Wp r30_3 13 [13, 13, 13, 13, 13, 13, 13, 13, 13, 23] [7, 5] [] [4] [some 7, some 5] (L30_3).1 := w_plain (by kernel_rfl) (L30_3).2
noncomputable def L30_4 : Lt r30_4 := by refine ⟨?l, ?h⟩; case h => simp only [r30_4, c30, bodyOf, Tryd.f30, Code.sub, opsOf, List.map_cons, List.map_nil, strip]; rfl
theorem w30_4 : Wp r30_4 13 [13, 13, 13, 13, 13, 13, 13, 13, 13, 23] [8, 5] [] [4] [some 8, some 5] (L30_4).1 := w_plain (by kernel_rfl) (L30_4).2
noncomputable def L30_5 : Lt r30_5 := by refine ⟨?l, ?h⟩; case h => simp only [r30_5, c30, bodyOf, Tryd.f30, Code.sub, opsOf, List.map_cons, List.map_nil, strip]; rfl
theorem w30_5 : Wp r30_5 13 [13, 13, 13, 13, 13, 13, 13, 13, 13, 23] [2] [] [] [some 2] (L30_5).1 := w_plain (by kernel_rfl) (L30_5).2
noncomputable def L30_6 : Lt r30_6 := by refine ⟨?l, ?h⟩; case h => simp only [r30_6, c30, bodyOf, Tryd.f30, Code.sub, opsOf, List.map_cons, List.map_nil, strip]; rfl
theorem w30_6 : Wp r30_6 13 [13, 13, 13, 13, 13, 13, 13, 13, 13, 23] [10, 9] [] [4] [some 10, some 9] (L30_6).1 := w_plain (by kernel_rfl) (L30_6).2
noncomputable def L30_7 : Lt r30_7 := by refine ⟨?l, ?h⟩; case h => simp only [r30_7, c30, bodyOf, Tryd.f30, Code.sub, opsOf, List.map_cons, List.map_nil, strip]; rfl
theorem w30_7 : Wp r30_7 13 [13, 13, 13, 13, 13, 13, 13, 13, 13, 23] [11, 12] [] [1] [some 11, some 12] (L30_7).1 := w_plain (by kernel_rfl) (L30_7).2
noncomputable def L30_8 : Lt r30_8 := by refine ⟨?l, ?h⟩; case h => simp only [r30_8, c30, bodyOf, Tryd.f30, Code.sub, opsOf, List.map_cons, List.map_nil, strip]; rfl
theorem w30_8 : Wp r30_8 13 [13, 13, 13, 13, 13, 13, 13, 13, 13, 23] [] [13] [12] [some 14, some 13] (L30_8).1 := w_plain (by kernel_rfl) (L30_8).2
noncomputable def L30_9 : Lt r30_9 := by refine ⟨?l, ?h⟩; case h => simp only [r30_9, c30, bodyOf, Tryd.f30, Code.sub, opsOf, List.map_cons, List.map_nil, strip]; rfl
theorem w30_9 : Wp r30_9 13 [13, 13, 13, 13, 13, 13, 13, 13, 13, 23] [] [13] [12] [some 15, some 13] (L30_9).1 := w_plain (by kernel_rfl) (L30_9).2
noncomputable def L30_10 : Lt r30_10 := by refine ⟨?l, ?h⟩; case h => simp only [r30_10, c30, bodyOf, Tryd.f30, Code.sub, opsOf, List.map_cons, List.map_nil, strip]; rfl
theorem w30_10 : Wp r30_10 13 [13, 13, 13, 13, 13, 13, 13, 13, 13, 23] [] [13] [12] [some 16, some 13] (L30_10).1 := w_plain (by kernel_rfl) (L30_10).2
noncomputable def L30_11 : Lt r30_11 := by refine ⟨?l, ?h⟩; case h => simp only [r30_11, c30, bodyOf, Tryd.f30, Code.sub, opsOf, List.map_cons, List.map_nil, strip]; rfl
theorem w30_11 : Wp r30_11 13 [13, 13, 13, 13, 13, 13, 13, 13, 13, 23] [] [13] [12] [some 17, some 13] (L30_11).1 := w_plain (by kernel_rfl) (L30_11).2
noncomputable def L30_12 : Lt r30_12 := by refine ⟨?l, ?h⟩; case h => simp only [r30_12, c30, bodyOf, Tryd.f30, Code.sub, opsOf, List.map_cons, List.map_nil, strip]; rfl
theorem w30_12 : Wp r30_12 13 [13, 13, 13, 13, 13, 13, 13, 13, 13, 23] [] [13] [12] [some 18, some 13] (L30_12).1 := w_plain (by kernel_rfl) (L30_12).2
noncomputable def L30_13 : Lt r30_13 := by refine ⟨?l, ?h⟩; case h => simp only [r30_13, c30, bodyOf, Tryd.f30, Code.sub, opsOf, List.map_cons, List.map_nil, strip]; rfl
theorem w30_13 : Wp r30_13 13 [13, 13, 13, 13, 13, 13, 13, 13, 13, 23] [] [13] [12] [some 19, some 13] (L30_13).1 := w_plain (by kernel_rfl) (L30_13).2
noncomputable def L30_14 : Lt r30_14 := by refine ⟨?l, ?h⟩; case h => simp only [r30_14, c30, bodyOf, Tryd.f30, Code.sub, opsOf, List.map_cons, List.map_nil, strip]; rfl
theorem w30_14 : Wp r30_14 13 [13, 13, 13, 13, 13, 13, 13, 13, 13, 23] [] [13] [12] [some 20, some 13] (L30_14).1 := w_plain (by kernel_rfl) (L30_14).2
noncomputable def L30_15 : Lt r30_15 := by refine ⟨?l, ?h⟩; case h => simp only [r30_15, c30, bodyOf, Tryd.f30, Code.sub, opsOf, List.map_cons, List.map_nil, strip]; rfl
theorem w30_15 : Wp r30_15 13 [13, 13, 13, 13, 13, 13, 13, 13, 13, 23] [] [13] [12] [some 21, some 13] (L30_15).1 := w_plain (by kernel_rfl) (L30_15).2
noncomputable def L30_16 : Lt r30_16 := by refine ⟨?l, ?h⟩; case h => simp only [r30_16, c30, bodyOf, Tryd.f30, Code.sub, opsOf, List.map_cons, List.map_nil, strip]; rfl
theorem w30_16 : Wp r30_16 13 [13, 13, 13, 13, 13, 13, 13, 13, 13, 23] [] [13] [12] [some 22, some 13] (L30_16).1 := w_plain (by kernel_rfl) (L30_16).2
noncomputable def L30_17 : Lt r30_17 := by refine ⟨?l, ?h⟩; case h => simp only [r30_17, c30, bodyOf, Tryd.f30, Code.sub, opsOf, List.map_cons, List.map_nil, strip]; rfl
theorem w30_17 : Wp r30_17 13 [13, 13, 13, 13, 13, 13, 13, 13, 13, 23] [2] [] [] [some 2] (L30_17).1 := w_plain (by kernel_rfl) (L30_17).2
noncomputable def L30_18 : Lt r30_18 := by refine ⟨?l, ?h⟩; case h => simp only [r30_18, c30, bodyOf, Tryd.f30, Code.sub, opsOf, List.map_cons, List.map_nil, strip]; rfl
theorem w30_18 : Wp r30_18 13 [13, 13, 13, 13, 13, 13, 13, 13, 13, 23] [] [23] [4] [some 24, some 23] (L30_18).1 := w_plain (by kernel_rfl) (L30_18).2
noncomputable def L30_19 : Lt r30_19 := by refine ⟨?l, ?h⟩; case h => simp only [r30_19, c30, bodyOf, Tryd.f30, Code.sub, opsOf, List.map_cons, List.map_nil, strip]; rfl
theorem w30_19 : Wp r30_19 13 [13, 13, 13, 13, 13, 13, 13, 13, 13, 23] [2] [] [1] [some 25, some 26, some 27, some 28, some 29, some 30, some 31, some 32, some 33, some 34, some 35, some 36, some 37, some 2] (L30_19).1 := w_plain (by kernel_rfl) (L30_19).2
noncomputable def L30_20 : Lt r30_20 := by refine ⟨?l, ?h⟩; case h => simp only [r30_20, c30, bodyOf, Tryd.f30, Code.sub, opsOf, List.map_cons, List.map_nil, strip]; rfl
theorem w30_20 : Wp r30_20 13 [13, 13, 13, 13, 13, 13, 13, 13, 13, 23] [2] [] [] [some 2] (L30_20).1 := w_plain (by kernel_rfl) (L30_20).2
theorem k30 : FnIs TT 30 c30 [.tmp 2] 1 := ⟨Tryd.f30, by kernel_rfl, by simp only [Tryd.f30, c30, bodyOf], by kernel_rfl, of_decide_eq_true (by kernel_rfl)⟩
noncomputable def c31 : Code := bodyOf Tryd.f31
noncomputable def r31_0 : Code := Code.sub [0] c31
noncomputable def r31_1 : Code := Code.sub [1, 0] c31
noncomputable def r31_2 : Code := Code.sub [1, 1, 0] c31
noncomputable def r31_3 : Code := Code.sub [1, 1, 1, 0] c31
noncomputable def r31_4 : Code := Code.sub [1, 1, 1, 1, 0] c31
noncomputable def r31_5 : Code := Code.sub [1, 1, 1, 1, 1, 0] c31
theorem body31 : c31 = (.seq r31_0 (.seq r31_1 (.seq r31_2 (.seq r31_3 (.seq r31_4 (.cond (.tmp 27) r31_5 .skip)))))) := by kernel_rfl
noncomputable def L31_0 : Lt r31_0 := by refine ⟨?l, ?h⟩; case h => simp only [r31_0, c31, bodyOf, Tryd.f31, Code.sub, opsOf, List.map_cons, List.map_nil, strip]; rfl
theorem w31_0 : Wp r31_0 4 [27] [3] [] [1] [some 3] (L31_0).1 := w_plain (by kernel_rfl) (L31_0).2
noncomputable def L31_1 : Lt r31_1 := by refine ⟨?l, ?h⟩; case h => simp only [r31_1, c31, bodyOf, Tryd.f31, Code.sub, opsOf, List.map_cons, List.map_nil, strip]; rfl
theorem w31_1 : Wp r31_1 4 [27] [] [] [0] [some 4, some 5, some 6, some 7, some 8, some 9, some 10, some 11, some 12, none] (L31_1).1 := w_plain (by kernel_rfl) (L31_1).2
noncomputable def L31_2 : Lt r31_2 := by refine ⟨?l, ?h⟩; case h => simp only [r31_2, c31, bodyOf, Tryd.f31, Code.sub, opsOf, List.map_cons, List.map_nil, strip]; rfl
theorem w31_2 : Wp r31_2 4 [27] [] [] [0, 3] [some 13, some 14, some 15, some 16, some 17, none] (L31_2).1 := w_plain (by kernel_rfl) (L31_2).2
noncomputable def L31_3 : Lt r31_3 := by refine ⟨?l, ?h⟩; case h => simp only [r31_3, c31, bodyOf, Tryd.f31, Code.sub, opsOf, List.map_cons, List.map_nil, strip]; rfl
theorem w31_3 : Wp r31_3 4 [27] [] [] [0, 3] [some 18, some 19, some 20, some 21, some 22, none] (L31_3).1 := w_plain (by kernel_rfl) (L31_3).2
noncomputable def L31_4 : Lt r31_4 := by refine ⟨?l, ?h⟩; case h => simp only [r31_4, c31, bodyOf, Tryd.f31, Code.sub, opsOf, List.map_cons, List.map_nil, strip]; rfl
theorem w31_4 : Wp r31_4 4 [27] [] [27] [0] [some 23, some 24, some 25, some 26, some 27] (L31_4).1 := w_plain (by kernel_rfl) (L31_4).2
theorem can31_5 : canonOps (opsOf r31_5) = List.filterMap (fun i => ((opsOf r31_5)[i]?).map (renum [0, 1, 2, 3, 4, 5, 6, 7, 8, 9, 10])) [0, 1, 2, 3, 4, 5, 6, 7, 8, 9, 10] := by kernel_rfl
noncomputable def L31_5 : Lc r31_5 := by refine ⟨?l, (congrArg (List.map strip) can31_5).trans ?h⟩; case h => simp only [r31_5, c31, bodyOf, Tryd.f31, Code.sub, opsOf, List.filterMap_cons, List.filterMap_nil, List.getElem?_cons_succ, List.getElem?_cons_zero, Option.map_some, renum, List.map_cons, List.map_nil, strip]; rfl
theorem w31_5 : Wd r31_5 4 [27] [] [] [0, 3] [some 28, some 29, some 30, some 31, some 32, some 33, some 34, some 35, some 36, some 37, none] (L31_5).1 [(4, [6, 7]), (5, [6])] := w_loud (by kernel_rfl) (L31_5).2
theorem k31 : FnIs TT 31 c31 [] 2 := ⟨Tryd.f31, by kernel_rfl, by simp only [Tryd.f31, c31, bodyOf], by kernel_rfl, of_decide_eq_true (by kernel_rfl)⟩
noncomputable def c32 : Code := bodyOf Tryd.f32
noncomputable def r32_0 : Code := Code.sub [0] c32
noncomputable def r32_1 : Code := Code.sub [1, 0] c32
noncomputable def r32_2 : Code := Code.sub [1, 1, 0, 0, 0] c32
noncomputable def r32_3 : Code := Code.sub [1, 1, 0, 0, 1, 0, 0] c32
noncomputable def r32_4 : Code := Code.sub [1, 1, 0, 0, 1, 0, 1, 0, 0, 0, 0, 0] c32
noncomputable def r32_5 : Code := Code.sub [1, 1, 0, 0, 1, 0, 1, 0, 0, 0, 1, 0] c32
noncomputable def r32_6 : Code := Code.sub [1, 1, 0, 0, 1, 0, 1, 1, 0, 0] c32
noncomputable def r32_7 : Code := Code.sub [1, 1, 0, 0, 1, 0, 1, 1, 0, 1, 0, 0] c32
noncomputable def r32_8 : Code := Code.sub [1, 1, 0, 0, 1, 0, 1, 1, 1, 0] c32
noncomputable def r32_9 : Code := Code.sub [1, 1, 0, 0, 1, 1, 0] c32
noncomputable def r32_10 : Code := Code.sub [1, 1, 0, 0, 1, 1, 1, 0, 0] c32
noncomputable def r32_11 : Code := Code.sub [1, 1, 0, 0, 1, 1, 1, 0, 1, 0] c32
noncomputable def r32_12 : Code := Code.sub [1, 1, 0, 0, 1, 1, 1, 0, 1, 1, 0, 0, 0, 0, 0] c32
noncomputable def r32_13 : Code := Code.sub [1, 1, 0, 0, 1, 1, 1, 0, 1, 1, 0, 0, 0, 1, 0, 0] c32
noncomputable def r32_14 : Code := Code.sub [1, 1, 0, 0, 1, 1, 1, 0, 1, 1, 0, 0, 0, 1, 0, 1, 0, 0] c32
noncomputable def r32_15 : Code := Code.sub [1, 1, 0, 0, 1, 1, 1, 0, 1, 1, 0, 0, 0, 1, 0, 1, 0, 1, 0, 0] c32
noncomputable def r32_16 : Code := Code.sub [1, 1, 0, 0, 1, 1, 1, 0, 1, 1, 0, 0, 0, 1, 0, 1, 1, 0] c32
noncomputable def r32_17 : Code := Code.sub [1, 1, 0, 0, 1, 1, 1, 0, 1, 1, 0, 0, 0, 1, 0, 1, 1, 1] c32
noncomputable def r32_18 : Code := Code.sub [1, 1, 0, 0, 1, 1, 1, 0, 1, 1, 1, 0] c32
noncomputable def r32_19 : Code := Code.sub [1, 1, 0, 0, 1, 1, 1, 1, 0] c32
noncomputable def r32_20 : Code := Code.sub [1, 1, 0, 0, 1, 1, 1, 1, 1, 0, 0] c32
noncomputable def r32_21 : Code := Code.sub [1, 1, 1, 0] c32
noncomputable def r32_22 : Code := Code.sub [1, 1, 1, 1, 0, 0] c32
noncomputable def r32_23 : Code := Code.sub [1, 1, 1, 1, 0, 1, 0, 0, 0, 0] c32
noncomputable def r32_24 : Code := Code.sub [1, 1, 1, 1, 0, 1, 0, 0, 1, 0, 0, 0] c32
noncomputable def r32_25 : Code := Code.sub [1, 1, 1, 1, 0, 1, 0, 0, 1, 0, 0, 1, 0, 0] c32
noncomputable def r32_26 : Code := Code.sub [1, 1, 1, 1, 0, 1, 0, 0, 1, 0, 0, 1, 0, 1, 0, 0] c32
noncomputable def r32_27 : Code := Code.sub [1, 1, 1, 1, 0, 1, 0, 0, 1, 0, 0, 1, 0, 1, 0, 1, 0] c32
noncomputable def r32_28 : Code := Code.sub [1, 1, 1, 1, 0, 1, 0, 0, 1, 0, 0, 1, 0, 1, 1, 0] c32
noncomputable def r32_29 : Code := Code.sub [1, 1, 1, 1, 0, 1, 0, 0, 1, 1] c32
noncomputable def r32_30 : Code := Code.sub [1, 1, 1, 1, 1, 0] c32
theorem body32 : c32 = (.seq r32_0 (.seq r32_1 (.seq (.block 0 (.seq r32_2 (.cond (.tmp 15) (.seq r32_3 (.seq (.block 1 (.loop (.seq (.seq r32_4 (.cond (.tmp 33) .skip (.exit 1))) (.block 2 r32_5)))) (.seq (.seq r32_6 (.cond (.tmp 39) (.seq r32_7 .ret) .skip)) (.seq r32_8 .ret)))) (.seq r32_9 (.cond (.tmp 50) (.seq r32_10 (.seq r32_11 (.seq (.block 3 (.loop (.seq (.seq r32_12 (.cond (.tmp 62) .skip (.exit 3))) (.block 4 (.seq r32_13 (.seq (.seq r32_14 (.cond (.tmp 72) (.seq r32_15 .ret) .skip)) (.seq r32_16 r32_17))))))) (.seq r32_18 .ret)))) (.seq r32_19 (.cond (.tmp 86) (.seq r32_20 .ret) .skip))))))) (.seq r32_21 (.seq (.seq r32_22 (.block 5 (.loop (.seq (.seq r32_23 (.cond (.tmp 96) .skip (.exit 5))) (.seq (.block 6 (.seq r32_24 (.cond (.tmp 117) (.seq r32_25 (.seq (.seq r32_26 (.cond (.tmp 121) r32_27 .skip)) (.seq r32_28 .ret))) .skip))) r32_29))))) (.seq r32_30 .ret)))))) := by kernel_rfl
noncomputable def L32_0 : Lt r32_0 := by refine ⟨?l, ?h⟩; case h => simp only [r32_0, c32, bodyOf, Tryd.f32, Code.sub, opsOf, List.map_cons, List.map_nil, strip]; rfl
theorem w32_0 : Wp r32_0 13 [15, 33, 39, 50, 62, 72, 86, 96, 117, 121] [2, 3, 4] [] [] [some 2, some 3, some 4] (L32_0).1 := w_plain (by kernel_rfl) (L32_0).2
noncomputable def L32_1 : Lt r32_1 := by refine ⟨?l, ?h⟩; case h => simp only [r32_1, c32, bodyOf, Tryd.f32, Code.sub, opsOf, List.map_cons, List.map_nil, strip]; rfl
theorem w32_1 : Wp r32_1 13 [15, 33, 39, 50, 62, 72, 86, 96, 117, 121] [5] [] [0] [some 13, some 14, some 5] (L32_1).1 := w_plain (by kernel_rfl) (L32_1).2
noncomputable def L32_2 : Lt r32_2 := by refine ⟨?l, ?h⟩; case h => simp only [r32_2, c32, bodyOf, Tryd.f32, Code.sub, opsOf, List.map_cons, List.map_nil, strip]; rfl
theorem w32_2 : Wp r32_2 13 [15, 33, 39, 50, 62, 72, 86, 96, 117, 121] [] [15] [5] [some 16, some 17, some 15] (L32_2).1 := w_plain (by kernel_rfl) (L32_2).2
noncomputable def L32_3 : Lt r32_3 := by refine ⟨?l, ?h⟩; case h => simp only [r32_3, c32, bodyOf, Tryd.f32, Code.sub, opsOf, List.map_cons, List.map_nil, strip]; rfl
theorem w32_3 : Wp r32_3 13 [15, 33, 39, 50, 62, 72, 86, 96, 117, 121] [6] [] [] [some 6] (L32_3).1 := w_plain (by kernel_rfl) (L32_3).2
noncomputable def L32_4 : Lt r32_4 := by refine ⟨?l, ?h⟩; case h => simp only [r32_4, c32, bodyOf, Tryd.f32, Code.sub, opsOf, List.map_cons, List.map_nil, strip]; rfl
theorem w32_4 : Wp r32_4 13 [15, 33, 39, 50, 62, 72, 86, 96, 117, 121] [] [33] [0, 6] [some 18, some 19, some 20, some 21, some 22, some 23, some 24, some 25, some 26, some 27, some 28, some 29, some 30, some 31, some 32, some 33] (L32_4).1 := w_plain (by kernel_rfl) (L32_4).2
noncomputable def L32_5 : Lt r32_5 := by refine ⟨?l, ?h⟩; case h => simp only [r32_5, c32, bodyOf, Tryd.f32, Code.sub, opsOf, List.map_cons, List.map_nil, strip]; rfl
theorem w32_5 : Wp r32_5 13 [15, 33, 39, 50, 62, 72, 86, 96, 117, 121] [6] [] [6] [some 34, some 35, some 6] (L32_5).1 := w_plain (by kernel_rfl) (L32_5).2
noncomputable def L32_6 : Lt r32_6 := by refine ⟨?l, ?h⟩; case h => simp only [r32_6, c32, bodyOf, Tryd.f32, Code.sub, opsOf, List.map_cons, List.map_nil, strip]; rfl
theorem w32_6 : Wp r32_6 13 [15, 33, 39, 50, 62, 72, 86, 96, 117, 121] [] [39] [0, 6] [some 36, some 37, some 38, some 39] (L32_6).1 := w_plain (by kernel_rfl) (L32_6).2
noncomputable def L32_7 : Lt r32_7 := by refine ⟨?l, ?h⟩; case h => simp only [r32_7, c32, bodyOf, Tryd.f32, Code.sub, opsOf, List.map_cons, List.map_nil, strip]; rfl
theorem w32_7 : Wp r32_7 13 [15, 33, 39, 50, 62, 72, 86, 96, 117, 121] [3, 4] [] [0, 6, 2] [some 40, some 41, some 42, some 43, some 44, none, some 3, some 4] (L32_7).1 := w_plain (by kernel_rfl) (L32_7).2
noncomputable def L32_8 : Lt r32_8 := by refine ⟨?l, ?h⟩; case h => simp only [r32_8, c32, bodyOf, Tryd.f32, Code.sub, opsOf, List.map_cons, List.map_nil, strip]; rfl
theorem w32_8 : Wp r32_8 13 [15, 33, 39, 50, 62, 72, 86, 96, 117, 121] [3, 4] [] [0, 6, 2] [some 45, some 46, some 47, some 48, some 49, none, some 3, some 4] (L32_8).1 := w_plain (by kernel_rfl) (L32_8).2
noncomputable def L32_9 : Lt r32_9 := by refine ⟨?l, ?h⟩; case h => simp only [r32_9, c32, bodyOf, Tryd.f32, Code.sub, opsOf, List.map_cons, List.map_nil, strip]; rfl
theorem w32_9 : Wp r32_9 13 [15, 33, 39, 50, 62, 72, 86, 96, 117, 121] [] [50] [5] [some 51, some 52, some 50] (L32_9).1 := w_plain (by kernel_rfl) (L32_9).2
noncomputable def L32_10 : Lt r32_10 := by refine ⟨?l, ?h⟩; case h => simp only [r32_10, c32, bodyOf, Tryd.f32, Code.sub, opsOf, List.map_cons, List.map_nil, strip]; rfl
theorem w32_10 : Wp r32_10 13 [15, 33, 39, 50, 62, 72, 86, 96, 117, 121] [7] [] [] [some 7] (L32_10).1 := w_plain (by kernel_rfl) (L32_10).2
noncomputable def L32_11 : Lt r32_11 := by refine ⟨?l, ?h⟩; case h => simp only [r32_11, c32, bodyOf, Tryd.f32, Code.sub, opsOf, List.map_cons, List.map_nil, strip]; rfl
theorem w32_11 : Wp r32_11 13 [15, 33, 39, 50, 62, 72, 86, 96, 117, 121] [8] [] [] [some 8] (L32_11).1 := w_plain (by kernel_rfl) (L32_11).2
noncomputable def L32_12 : Lt r32_12 := by refine ⟨?l, ?h⟩; case h => simp only [r32_12, c32, bodyOf, Tryd.f32, Code.sub, opsOf, List.map_cons, List.map_nil, strip]; rfl
theorem w32_12 : Wp r32_12 13 [15, 33, 39, 50, 62, 72, 86, 96, 117, 121] [] [62] [0, 7] [some 53, some 54, some 55, some 56, some 57, some 58, some 59, some 60, some 61, some 62] (L32_12).1 := w_plain (by kernel_rfl) (L32_12).2
noncomputable def L32_13 : Lt r32_13 := by refine ⟨?l, ?h⟩; case h => simp only [r32_13, c32, bodyOf, Tryd.f32, Code.sub, opsOf, List.map_cons, List.map_nil, strip]; rfl
theorem w32_13 : Wp r32_13 13 [15, 33, 39, 50, 62, 72, 86, 96, 117, 121] [9] [] [0, 7] [some 63, some 64, some 65, some 66, some 67, some 9] (L32_13).1 := w_plain (by kernel_rfl) (L32_13).2
noncomputable def L32_14 : Lt r32_14 := by refine ⟨?l, ?h⟩; case h => simp only [r32_14, c32, bodyOf, Tryd.f32, Code.sub, opsOf, List.map_cons, List.map_nil, strip]; rfl
theorem w32_14 : Wp r32_14 13 [15, 33, 39, 50, 62, 72, 86, 96, 117, 121] [] [72] [8, 9] [some 68, some 69, some 70, some 71, some 72] (L32_14).1 := w_plain (by kernel_rfl) (L32_14).2
noncomputable def L32_15 : Lt r32_15 := by refine ⟨?l, ?h⟩; case h => simp only [r32_15, c32, bodyOf, Tryd.f32, Code.sub, opsOf, List.map_cons, List.map_nil, strip]; rfl
theorem w32_15 : Wp r32_15 13 [15, 33, 39, 50, 62, 72, 86, 96, 117, 121] [3, 4] [] [2] [some 73, none, some 3, some 4] (L32_15).1 := w_plain (by kernel_rfl) (L32_15).2
noncomputable def L32_16 : Lt r32_16 := by refine ⟨?l, ?h⟩; case h => simp only [r32_16, c32, bodyOf, Tryd.f32, Code.sub, opsOf, List.map_cons, List.map_nil, strip]; rfl
theorem w32_16 : Wp r32_16 13 [15, 33, 39, 50, 62, 72, 86, 96, 117, 121] [8] [] [8, 9] [some 74, some 75, some 76, some 77, some 8] (L32_16).1 := w_plain (by kernel_rfl) (L32_16).2
noncomputable def L32_17 : Lt r32_17 := by refine ⟨?l, ?h⟩; case h => simp only [r32_17, c32, bodyOf, Tryd.f32, Code.sub, opsOf, List.map_cons, List.map_nil, strip]; rfl
theorem w32_17 : Wp r32_17 13 [15, 33, 39, 50, 62, 72, 86, 96, 117, 121] [7] [] [7] [some 78, some 79, some 7] (L32_17).1 := w_plain (by kernel_rfl) (L32_17).2
noncomputable def L32_18 : Lt r32_18 := by refine ⟨?l, ?h⟩; case h => simp only [r32_18, c32, bodyOf, Tryd.f32, Code.sub, opsOf, List.map_cons, List.map_nil, strip]; rfl
theorem w32_18 : Wp r32_18 13 [15, 33, 39, 50, 62, 72, 86, 96, 117, 121] [3, 4] [] [0, 8, 7, 2] [some 80, some 81, some 82, some 83, some 84, some 85, none, some 3, some 4] (L32_18).1 := w_plain (by kernel_rfl) (L32_18).2
noncomputable def L32_19 : Lt r32_19 := by refine ⟨?l, ?h⟩; case h => simp only [r32_19, c32, bodyOf, Tryd.f32, Code.sub, opsOf, List.map_cons, List.map_nil, strip]; rfl
theorem w32_19 : Wp r32_19 13 [15, 33, 39, 50, 62, 72, 86, 96, 117, 121] [] [86] [5] [some 87, some 88, some 86] (L32_19).1 := w_plain (by kernel_rfl) (L32_19).2
noncomputable def L32_20 : Lt r32_20 := by refine ⟨?l, ?h⟩; case h => simp only [r32_20, c32, bodyOf, Tryd.f32, Code.sub, opsOf, List.map_cons, List.map_nil, strip]; rfl
theorem w32_20 : Wp r32_20 13 [15, 33, 39, 50, 62, 72, 86, 96, 117, 121] [3, 4] [] [0, 2] [some 89, some 90, some 91, some 92, some 93, none, some 3, some 4] (L32_20).1 := w_plain (by kernel_rfl) (L32_20).2
noncomputable def L32_21 : Lt r32_21 := by refine ⟨?l, ?h⟩; case h => simp only [r32_21, c32, bodyOf, Tryd.f32, Code.sub, opsOf, List.map_cons, List.map_nil, strip]; rfl
theorem w32_21 : Wp r32_21 13 [15, 33, 39, 50, 62, 72, 86, 96, 117, 121] [10] [] [] [some 94, some 10, none] (L32_21).1 := w_plain (by kernel_rfl) (L32_21).2
noncomputable def L32_22 : Lt r32_22 := by refine ⟨?l, ?h⟩; case h => simp only [r32_22, c32, bodyOf, Tryd.f32, Code.sub, opsOf, List.map_cons, List.map_nil, strip]; rfl
theorem w32_22 : Wp r32_22 13 [15, 33, 39, 50, 62, 72, 86, 96, 117, 121] [11] [] [] [some 11] (L32_22).1 := w_plain (by kernel_rfl) (L32_22).2
noncomputable def L32_23 : Lt r32_23 := by refine ⟨?l, ?h⟩; case h => simp only [r32_23, c32, bodyOf, Tryd.f32, Code.sub, opsOf, List.map_cons, List.map_nil, strip]; rfl
theorem w32_23 : Wp r32_23 13 [15, 33, 39, 50, 62, 72, 86, 96, 117, 121] [] [96] [11] [some 95, some 96] (L32_23).1 := w_plain (by kernel_rfl) (L32_23).2
noncomputable def L32_24 : Lt r32_24 := by refine ⟨?l, ?h⟩; case h => simp only [r32_24, c32, bodyOf, Tryd.f32, Code.sub, opsOf, List.map_cons, List.map_nil, strip]; rfl
theorem w32_24 : Wp r32_24 13 [15, 33, 39, 50, 62, 72, 86, 96, 117, 121] [] [117] [0, 11, 10] [some 99, some 100, some 101, some 102, some 103, some 104, some 105, some 106, some 107, some 108, some 109, some 110, some 111, some 112, some 113, some 114, some 115, some 116, some 117] (L32_24).1 := w_plain (by kernel_rfl) (L32_24).2
noncomputable def L32_25 : Lt r32_25 := by refine ⟨?l, ?h⟩; case h => simp only [r32_25, c32, bodyOf, Tryd.f32, Code.sub, opsOf, List.map_cons, List.map_nil, strip]; rfl
theorem w32_25 : Wp r32_25 13 [15, 33, 39, 50, 62, 72, 86, 96, 117, 121] [12] [] [] [some 12] (L32_25).1 := w_plain (by kernel_rfl) (L32_25).2
noncomputable def L32_26 : Lt r32_26 := by refine ⟨?l, ?h⟩; case h => simp only [r32_26, c32, bodyOf, Tryd.f32, Code.sub, opsOf, List.map_cons, List.map_nil, strip]; rfl
theorem w32_26 : Wp r32_26 13 [15, 33, 39, 50, 62, 72, 86, 96, 117, 121] [] [121] [11, 10] [some 118, some 119, some 120, some 121] (L32_26).1 := w_plain (by kernel_rfl) (L32_26).2
noncomputable def L32_27 : Lt r32_27 := by refine ⟨?l, ?h⟩; case h => simp only [r32_27, c32, bodyOf, Tryd.f32, Code.sub, opsOf, List.map_cons, List.map_nil, strip]; rfl
theorem w32_27 : Wp r32_27 13 [15, 33, 39, 50, 62, 72, 86, 96, 117, 121] [12] [] [] [some 12] (L32_27).1 := w_plain (by kernel_rfl) (L32_27).2
theorem can32_28 : canonOps (opsOf r32_28) = opsOf r32_28 := by kernel_rfl
noncomputable def L32_28 : Lc r32_28 := by refine ⟨?l, (congrArg (List.map strip) can32_28).trans ?h⟩; case h => simp only [r32_28, c32, bodyOf, Tryd.f32, Code.sub, opsOf, List.map_cons, List.map_nil, strip]; rfl
theorem w32_28 : Wd r32_28 13 [15, 33, 39, 50, 62, 72, 86, 96, 117, 121] [3, 4] [] [12, 11, 10, 2] [some 122, some 123, some 124, some 125, some 126, some 127, some 128, some 129, some 130, none, some 3, some 4] (L32_28).1 [(3, [9]), (7, [9, 12]), (8, [9, 12])] := w_loud (by kernel_rfl) (L32_28).2
noncomputable def L32_29 : Lt r32_29 := by refine ⟨?l, ?h⟩; case h => simp only [r32_29, c32, bodyOf, Tryd.f32, Code.sub, opsOf, List.map_cons, List.map_nil, strip]; rfl
theorem w32_29 : Wp r32_29 13 [15, 33, 39, 50, 62, 72, 86, 96, 117, 121] [11] [] [11] [some 97, some 98, some 11] (L32_29).1 := w_plain (by kernel_rfl) (L32_29).2
noncomputable def L32_30 : Lt r32_30 := by refine ⟨?l, ?h⟩; case h => simp only [r32_30, c32, bodyOf, Tryd.f32, Code.sub, opsOf, List.map_cons, List.map_nil, strip]; rfl
theorem w32_30 : Wp r32_30 13 [15, 33, 39, 50, 62, 72, 86, 96, 117, 121] [3, 4] [] [2] [some 131, none, some 3, some 4] (L32_30).1 := w_plain (by kernel_rfl) (L32_30).2
theorem k32 : FnIs TT 32 c32 [.cell 2 31, .tmp 3, .tmp 4] 1 := ⟨Tryd.f32, by kernel_rfl, by simp only [Tryd.f32, c32, bodyOf], by kernel_rfl, of_decide_eq_true (by kernel_rfl)⟩
noncomputable def c36 : Code := bodyOf Tryd.f36
noncomputable def r36_0 : Code := Code.sub [0] c36
noncomputable def r36_1 : Code := Code.sub [1, 0] c36
noncomputable def r36_2 : Code := Code.sub [1, 1, 0, 0] c36
noncomputable def r36_3 : Code := Code.sub [1, 1, 0, 1, 0, 0] c36
noncomputable def r36_4 : Code := Code.sub [1, 1, 0, 1, 0, 1, 0, 0, 0] c36
noncomputable def r36_5 : Code := Code.sub [1, 1, 0, 1, 0, 1, 0, 0, 1, 1, 0] c36
noncomputable def r36_6 : Code := Code.sub [1, 1, 0, 1, 0, 1, 0, 0, 1, 1, 1, 1, 0] c36
noncomputable def r36_7 : Code := Code.sub [1, 1, 0, 1, 0, 1, 0, 0, 1, 1, 1, 1, 1, 1, 0] c36
noncomputable def r36_8 : Code := Code.sub [1, 1, 0, 1, 0, 1, 0, 0, 1, 1, 1, 1, 1, 1, 1, 1, 0] c36
noncomputable def r36_9 : Code := Code.sub [1, 1, 0, 1, 0, 1, 0, 0, 1, 1, 1, 1, 1, 1, 1, 1, 1, 1, 0] c36
noncomputable def r36_10 : Code := Code.sub [1, 1, 0, 1, 0, 1, 0, 0, 1, 1, 1, 1, 1, 1, 1, 1, 1, 1, 1, 1] c36
noncomputable def r36_11 : Code := Code.sub [1, 1, 0, 1, 0, 1, 0, 1, 0, 0] c36
noncomputable def r36_12 : Code := Code.sub [1, 1, 0, 1, 0, 1, 0, 1, 0, 1, 0] c36
noncomputable def r36_13 : Code := Code.sub [1, 1, 1, 0, 0] c36
noncomputable def r36_14 : Code := Code.sub [1, 1, 1, 0, 1, 0, 0] c36
noncomputable def r36_15 : Code := Code.sub [1, 1, 1, 0, 1, 0, 1, 0, 0] c36
noncomputable def r36_16 : Code := Code.sub [1, 1, 1, 0, 1, 0, 1, 0, 1, 0] c36
noncomputable def r36_17 : Code := Code.sub [1, 1, 1, 0, 1, 0, 1, 1, 0, 0] c36
noncomputable def r36_18 : Code := Code.sub [1, 1, 1, 0, 1, 0, 1, 1, 0, 1, 1, 0] c36
noncomputable def r36_19 : Code := Code.sub [1, 1, 1, 0, 1, 0, 1, 1, 0, 1, 1, 1, 1, 0] c36
noncomputable def r36_20 : Code := Code.sub [1, 1, 1, 0, 1, 0, 1, 1, 0, 1, 1, 1, 1, 1, 1, 0] c36
noncomputable def r36_21 : Code := Code.sub [1, 1, 1, 0, 1, 0, 1, 1, 0, 1, 1, 1, 1, 1, 1, 1, 1, 0] c36
noncomputable def r36_22 : Code := Code.sub [1, 1, 1, 0, 1, 0, 1, 1, 0, 1, 1, 1, 1, 1, 1, 1, 1, 1, 1, 0] c36
noncomputable def r36_23 : Code := Code.sub [1, 1, 1, 0, 1, 0, 1, 1, 0, 1, 1, 1, 1, 1, 1, 1, 1, 1, 1, 1, 1, 0] c36
noncomputable def r36_24 : Code := Code.sub [1, 1, 1, 0, 1, 0, 1, 1, 0, 1, 1, 1, 1, 1, 1, 1, 1, 1, 1, 1, 1, 1, 1, 0] c36
noncomputable def r36_25 : Code := Code.sub [1, 1, 1, 0, 1, 0, 1, 1, 0, 1, 1, 1, 1, 1, 1, 1, 1, 1, 1, 1, 1, 1, 1, 1, 1, 0] c36
noncomputable def r36_26 : Code := Code.sub [1, 1, 1, 0, 1, 0, 1, 1, 0, 1, 1, 1, 1, 1, 1, 1, 1, 1, 1, 1, 1, 1, 1, 1, 1, 1, 1, 0] c36
noncomputable def r36_27 : Code := Code.sub [1, 1, 1, 0, 1, 0, 1, 1, 0, 1, 1, 1, 1, 1, 1, 1, 1, 1, 1, 1, 1, 1, 1, 1, 1, 1, 1, 1, 1, 0] c36
noncomputable def r36_28 : Code := Code.sub [1, 1, 1, 0, 1, 0, 1, 1, 0, 1, 1, 1, 1, 1, 1, 1, 1, 1, 1, 1, 1, 1, 1, 1, 1, 1, 1, 1, 1, 1, 1, 0] c36
noncomputable def r36_29 : Code := Code.sub [1, 1, 1, 0, 1, 0, 1, 1, 0, 1, 1, 1, 1, 1, 1, 1, 1, 1, 1, 1, 1, 1, 1, 1, 1, 1, 1, 1, 1, 1, 1, 1, 1, 0] c36
noncomputable def r36_30 : Code := Code.sub [1, 1, 1, 0, 1, 0, 1, 1, 0, 1, 1, 1, 1, 1, 1, 1, 1, 1, 1, 1, 1, 1, 1, 1, 1, 1, 1, 1, 1, 1, 1, 1, 1, 1, 1, 0] c36
noncomputable def r36_31 : Code := Code.sub [1, 1, 1, 0, 1, 0, 1, 1, 0, 1, 1, 1, 1, 1, 1, 1, 1, 1, 1, 1, 1, 1, 1, 1, 1, 1, 1, 1, 1, 1, 1, 1, 1, 1, 1, 1, 1, 0] c36
noncomputable def r36_32 : Code := Code.sub [1, 1, 1, 0, 1, 0, 1, 1, 0, 1, 1, 1, 1, 1, 1, 1, 1, 1, 1, 1, 1, 1, 1, 1, 1, 1, 1, 1, 1, 1, 1, 1, 1, 1, 1, 1, 1, 1, 1, 0] c36
noncomputable def r36_33 : Code := Code.sub [1, 1, 1, 0, 1, 0, 1, 1, 0, 1, 1, 1, 1, 1, 1, 1, 1, 1, 1, 1, 1, 1, 1, 1, 1, 1, 1, 1, 1, 1, 1, 1, 1, 1, 1, 1, 1, 1, 1, 1, 1] c36
noncomputable def r36_34 : Code := Code.sub [1, 1, 1, 0, 1, 0, 1, 1, 1, 0, 0] c36
noncomputable def r36_35 : Code := Code.sub [1, 1, 1, 0, 1, 0, 1, 1, 1, 0, 1, 0] c36
noncomputable def r36_36 : Code := Code.sub [1, 1, 1, 1, 0] c36
noncomputable def r36_37 : Code := Code.sub [1, 1, 1, 1, 1, 0] c36
theorem body36 : c36 = (.seq r36_0 (.seq r36_1 (.seq (.seq r36_2 (.cond (.tmp 8) (.seq r36_3 (.block 0 (.seq (.seq r36_4 (.cond (.tmp 11) .skip (.seq r36_5 (.cond (.tmp 11) .skip (.seq r36_6 (.cond (.tmp 11) .skip (.seq r36_7 (.cond (.tmp 11) .skip (.seq r36_8 (.cond (.tmp 11) .skip (.seq r36_9 (.cond (.tmp 11) .skip r36_10)))))))))))) (.cond (.tmp 11) (.seq r36_11 (.seq r36_12 .ret)) .skip)))) .skip)) (.seq (.seq r36_13 (.block 1 (.seq r36_14 (.cond (.tmp 25) (.seq r36_15 (.seq r36_16 .ret)) (.seq (.seq r36_17 (.cond (.tmp 29) .skip (.seq r36_18 (.cond (.tmp 29) .skip (.seq r36_19 (.cond (.tmp 29) .skip (.seq r36_20 (.cond (.tmp 29) .skip (.seq r36_21 (.cond (.tmp 29) .skip (.seq r36_22 (.cond (.tmp 29) .skip (.seq r36_23 (.cond (.tmp 29) .skip (.seq r36_24 (.cond (.tmp 29) .skip (.seq r36_25 (.cond (.tmp 29) .skip (.seq r36_26 (.cond (.tmp 29) .skip (.seq r36_27 (.cond (.tmp 29) .skip (.seq r36_28 (.cond (.tmp 29) .skip (.seq r36_29 (.cond (.tmp 29) .skip (.seq r36_30 (.cond (.tmp 29) .skip (.seq r36_31 (.cond (.tmp 29) .skip (.seq r36_32 (.cond (.tmp 29) .skip r36_33)))))))))))))))))))))))))))))))) (.cond (.tmp 29) (.seq r36_34 (.seq r36_35 .ret)) .skip)))))) (.seq r36_36 (.seq r36_37 .ret)))))) := by kernel_rfl
noncomputable def L36_0 : Lt r36_0 := by refine ⟨?l, ?h⟩; case h => simp only [r36_0, c36, bodyOf, Tryd.f36, Code.sub, opsOf, List.map_cons, List.map_nil, strip]; rfl
theorem w36_0 : Wp r36_0 25 [25, 29, 29, 29, 29, 29, 29, 29, 29, 29, 29, 29, 29, 29, 29, 29, 29, 29] [2] [] [] [some 2] (L36_0).1 := w_plain (by kernel_rfl) (L36_0).2
noncomputable def L36_1 : Lt r36_1 := by refine ⟨?l, ?h⟩; case h => simp only [r36_1, c36, bodyOf, Tryd.f36, Code.sub, opsOf, List.map_cons, List.map_nil, strip]; rfl
theorem w36_1 : Wp r36_1 25 [25, 29, 29, 29, 29, 29, 29, 29, 29, 29, 29, 29, 29, 29, 29, 29, 29, 29] [4, 5, 3] [] [0] [some 4, some 5, some 3] (L36_1).1 := w_plain (by kernel_rfl) (L36_1).2
noncomputable def L36_2 : Lt r36_2 := by refine ⟨?l, ?h⟩; case h => simp only [r36_2, c36, bodyOf, Tryd.f36, Code.sub, opsOf, List.map_cons, List.map_nil, strip]; rfl
theorem w36_2 : Wp r36_2 25 [25, 29, 29, 29, 29, 29, 29, 29, 29, 29, 29, 29, 29, 29, 29, 29, 29, 29] [6, 7, 8] [] [3] [some 6, some 7, some 8] (L36_2).1 := w_plain (by kernel_rfl) (L36_2).2
noncomputable def L36_3 : Lt r36_3 := by refine ⟨?l, ?h⟩; case h => simp only [r36_3, c36, bodyOf, Tryd.f36, Code.sub, opsOf, List.map_cons, List.map_nil, strip]; rfl
theorem w36_3 : Wp r36_3 25 [25, 29, 29, 29, 29, 29, 29, 29, 29, 29, 29, 29, 29, 29, 29, 29, 29, 29] [9, 10] [] [3] [some 9, some 10] (L36_3).1 := w_plain (by kernel_rfl) (L36_3).2
noncomputable def L36_4 : Lt r36_4 := by refine ⟨?l, ?h⟩; case h => simp only [r36_4, c36, bodyOf, Tryd.f36, Code.sub, opsOf, List.map_cons, List.map_nil, strip]; rfl
theorem w36_4 : Wp r36_4 25 [25, 29, 29, 29, 29, 29, 29, 29, 29, 29, 29, 29, 29, 29, 29, 29, 29, 29] [12, 11] [] [10] [some 12, some 11] (L36_4).1 := w_plain (by kernel_rfl) (L36_4).2
noncomputable def L36_5 : Lt r36_5 := by refine ⟨?l, ?h⟩; case h => simp only [r36_5, c36, bodyOf, Tryd.f36, Code.sub, opsOf, List.map_cons, List.map_nil, strip]; rfl
theorem w36_5 : Wp r36_5 25 [25, 29, 29, 29, 29, 29, 29, 29, 29, 29, 29, 29, 29, 29, 29, 29, 29, 29] [13, 11] [] [10] [some 13, some 11] (L36_5).1 := w_plain (by kernel_rfl) (L36_5).2
noncomputable def L36_6 : Lt r36_6 := by refine ⟨?l, ?h⟩; case h => simp only [r36_6, c36, bodyOf, Tryd.f36, Code.sub, opsOf, List.map_cons, List.map_nil, strip]; rfl
theorem w36_6 : Wp r36_6 25 [25, 29, 29, 29, 29, 29, 29, 29, 29, 29, 29, 29, 29, 29, 29, 29, 29, 29] [14, 11] [] [10] [some 14, some 11] (L36_6).1 := w_plain (by kernel_rfl) (L36_6).2
noncomputable def L36_7 : Lt r36_7 := by refine ⟨?l, ?h⟩; case h => simp only [r36_7, c36, bodyOf, Tryd.f36, Code.sub, opsOf, List.map_cons, List.map_nil, strip]; rfl
theorem w36_7 : Wp r36_7 25 [25, 29, 29, 29, 29, 29, 29, 29, 29, 29, 29, 29, 29, 29, 29, 29, 29, 29] [15, 11] [] [10] [some 15, some 11] (L36_7).1 := w_plain (by kernel_rfl) (L36_7).2
noncomputable def L36_8 : Lt r36_8 := by refine ⟨?l, ?h⟩; case h => simp only [r36_8, c36, bodyOf, Tryd.f36, Code.sub, opsOf, List.map_cons, List.map_nil, strip]; rfl
theorem w36_8 : Wp r36_8 25 [25, 29, 29, 29, 29, 29, 29, 29, 29, 29, 29, 29, 29, 29, 29, 29, 29, 29] [16, 11] [] [10] [some 16, some 11] (L36_8).1 := w_plain (by kernel_rfl) (L36_8).2
noncomputable def L36_9 : Lt r36_9 := by refine ⟨?l, ?h⟩; case h => simp only [r36_9, c36, bodyOf, Tryd.f36, Code.sub, opsOf, List.map_cons, List.map_nil, strip]; rfl
theorem w36_9 : Wp r36_9 25 [25, 29, 29, 29, 29, 29, 29, 29, 29, 29, 29, 29, 29, 29, 29, 29, 29, 29] [17, 11] [] [10] [some 17, some 11] (L36_9).1 := w_plain (by kernel_rfl) (L36_9).2
noncomputable def L36_10 : Lt r36_10 := by refine ⟨?l, ?h⟩; case h => simp only [r36_10, c36, bodyOf, Tryd.f36, Code.sub, opsOf, List.map_cons, List.map_nil, strip]; rfl
theorem w36_10 : Wp r36_10 25 [25, 29, 29, 29, 29, 29, 29, 29, 29, 29, 29, 29, 29, 29, 29, 29, 29, 29] [18, 11] [] [10] [some 18, some 11] (L36_10).1 := w_plain (by kernel_rfl) (L36_10).2
noncomputable def L36_11 : Lt r36_11 := by refine ⟨?l, ?h⟩; case h => simp only [r36_11, c36, bodyOf, Tryd.f36, Code.sub, opsOf, List.map_cons, List.map_nil, strip]; rfl
theorem w36_11 : Wp r36_11 25 [25, 29, 29, 29, 29, 29, 29, 29, 29, 29, 29, 29, 29, 29, 29, 29, 29, 29] [19, 20, 21, 22] [] [0, 3] [some 19, some 20, some 21, some 22] (L36_11).1 := w_plain (by kernel_rfl) (L36_11).2
noncomputable def L36_12 : Lt r36_12 := by refine ⟨?l, ?h⟩; case h => simp only [r36_12, c36, bodyOf, Tryd.f36, Code.sub, opsOf, List.map_cons, List.map_nil, strip]; rfl
theorem w36_12 : Wp r36_12 25 [25, 29, 29, 29, 29, 29, 29, 29, 29, 29, 29, 29, 29, 29, 29, 29, 29, 29] [2] [] [] [some 2] (L36_12).1 := w_plain (by kernel_rfl) (L36_12).2
noncomputable def L36_13 : Lt r36_13 := by refine ⟨?l, ?h⟩; case h => simp only [r36_13, c36, bodyOf, Tryd.f36, Code.sub, opsOf, List.map_cons, List.map_nil, strip]; rfl
theorem w36_13 : Wp r36_13 25 [25, 29, 29, 29, 29, 29, 29, 29, 29, 29, 29, 29, 29, 29, 29, 29, 29, 29] [23, 24] [] [3] [some 23, some 24] (L36_13).1 := w_plain (by kernel_rfl) (L36_13).2
noncomputable def L36_14 : Lt r36_14 := by refine ⟨?l, ?h⟩; case h => simp only [r36_14, c36, bodyOf, Tryd.f36, Code.sub, opsOf, List.map_cons, List.map_nil, strip]; rfl
theorem w36_14 : Wp r36_14 25 [25, 29, 29, 29, 29, 29, 29, 29, 29, 29, 29, 29, 29, 29, 29, 29, 29, 29] [] [25] [24] [some 26, some 25] (L36_14).1 := w_plain (by kernel_rfl) (L36_14).2
noncomputable def L36_15 : Lt r36_15 := by refine ⟨?l, ?h⟩; case h => simp only [r36_15, c36, bodyOf, Tryd.f36, Code.sub, opsOf, List.map_cons, List.map_nil, strip]; rfl
theorem w36_15 : Wp r36_15 25 [25, 29, 29, 29, 29, 29, 29, 29, 29, 29, 29, 29, 29, 29, 29, 29, 29, 29] [] [] [0] [some 27, some 28] (L36_15).1 := w_plain (by kernel_rfl) (L36_15).2
noncomputable def L36_16 : Lt r36_16 := by refine ⟨?l, ?h⟩; case h => simp only [r36_16, c36, bodyOf, Tryd.f36, Code.sub, opsOf, List.map_cons, List.map_nil, strip]; rfl
theorem w36_16 : Wp r36_16 25 [25, 29, 29, 29, 29, 29, 29, 29, 29, 29, 29, 29, 29, 29, 29, 29, 29, 29] [2] [] [] [some 2] (L36_16).1 := w_plain (by kernel_rfl) (L36_16).2
noncomputable def L36_17 : Lt r36_17 := by refine ⟨?l, ?h⟩; case h => simp only [r36_17, c36, bodyOf, Tryd.f36, Code.sub, opsOf, List.map_cons, List.map_nil, strip]; rfl
theorem w36_17 : Wp r36_17 25 [25, 29, 29, 29, 29, 29, 29, 29, 29, 29, 29, 29, 29, 29, 29, 29, 29, 29] [] [29] [24] [some 30, some 29] (L36_17).1 := w_plain (by kernel_rfl) (L36_17).2
noncomputable def L36_18 : Lt r36_18 := by refine ⟨?l, ?h⟩; case h => simp only [r36_18, c36, bodyOf, Tryd.f36, Code.sub, opsOf, List.map_cons, List.map_nil, strip]; rfl
theorem w36_18 : Wp r36_18 25 [25, 29, 29, 29, 29, 29, 29, 29, 29, 29, 29, 29, 29, 29, 29, 29, 29, 29] [] [29] [24] [some 31, some 29] (L36_18).1 := w_plain (by kernel_rfl) (L36_18).2
noncomputable def L36_19 : Lt r36_19 := by refine ⟨?l, ?h⟩; case h => simp only [r36_19, c36, bodyOf, Tryd.f36, Code.sub, opsOf, List.map_cons, List.map_nil, strip]; rfl
theorem w36_19 : Wp r36_19 25 [25, 29, 29, 29, 29, 29, 29, 29, 29, 29, 29, 29, 29, 29, 29, 29, 29, 29] [] [29] [24] [some 32, some 29] (L36_19).1 := w_plain (by kernel_rfl) (L36_19).2
noncomputable def L36_20 : Lt r36_20 := by refine ⟨?l, ?h⟩; case h => simp only [r36_20, c36, bodyOf, Tryd.f36, Code.sub, opsOf, List.map_cons, List.map_nil, strip]; rfl
theorem w36_20 : Wp r36_20 25 [25, 29, 29, 29, 29, 29, 29, 29, 29, 29, 29, 29, 29, 29, 29, 29, 29, 29] [] [29] [24] [some 33, some 29] (L36_20).1 := w_plain (by kernel_rfl) (L36_20).2
noncomputable def L36_21 : Lt r36_21 := by refine ⟨?l, ?h⟩; case h => simp only [r36_21, c36, bodyOf, Tryd.f36, Code.sub, opsOf, List.map_cons, List.map_nil, strip]; rfl
theorem w36_21 : Wp r36_21 25 [25, 29, 29, 29, 29, 29, 29, 29, 29, 29, 29, 29, 29, 29, 29, 29, 29, 29] [] [29] [24] [some 34, some 29] (L36_21).1 := w_plain (by kernel_rfl) (L36_21).2
noncomputable def L36_22 : Lt r36_22 := by refine ⟨?l, ?h⟩; case h => simp only [r36_22, c36, bodyOf, Tryd.f36, Code.sub, opsOf, List.map_cons, List.map_nil, strip]; rfl
theorem w36_22 : Wp r36_22 25 [25, 29, 29, 29, 29, 29, 29, 29, 29, 29, 29, 29, 29, 29, 29, 29, 29, 29] [] [29] [24] [some 35, some 29] (L36_22).1 := w_plain (by kernel_rfl) (L36_22).2
noncomputable def L36_23 : Lt r36_23 := by refine ⟨?l, ?h⟩; case h => simp only [r36_23, c36, bodyOf, Tryd.f36, Code.sub, opsOf, List.map_cons, List.map_nil, strip]; rfl
theorem w36_23 : Wp r36_23 25 [25, 29, 29, 29, 29, 29, 29, 29, 29, 29, 29, 29, 29, 29, 29, 29, 29, 29] [] [29] [24] [some 36, some 29] (L36_23).1 := w_plain (by kernel_rfl) (L36_23).2
noncomputable def L36_24 : Lt r36_24 := by refine ⟨?l, ?h⟩; case h => simp only [r36_24, c36, bodyOf, Tryd.f36, Code.sub, opsOf, List.map_cons, List.map_nil, strip]; rfl
theorem w36_24 : Wp r36_24 25 [25, 29, 29, 29, 29, 29, 29, 29, 29, 29, 29, 29, 29, 29, 29, 29, 29, 29] [] [29] [24] [some 37, some 29] (L36_24).1 := w_plain (by kernel_rfl) (L36_24).2
noncomputable def L36_25 : Lt r36_25 := by refine ⟨?l, ?h⟩; case h => simp only [r36_25, c36, bodyOf, Tryd.f36, Code.sub, opsOf, List.map_cons, List.map_nil, strip]; rfl
theorem w36_25 : Wp r36_25 25 [25, 29, 29, 29, 29, 29, 29, 29, 29, 29, 29, 29, 29, 29, 29, 29, 29, 29] [] [29] [24] [some 38, some 29] (L36_25).1 := w_plain (by kernel_rfl) (L36_25).2
noncomputable def L36_26 : Lt r36_26 := by refine ⟨?l, ?h⟩; case h => simp only [r36_26, c36, bodyOf, Tryd.f36, Code.sub, opsOf, List.map_cons, List.map_nil, strip]; rfl
theorem w36_26 : Wp r36_26 25 [25, 29, 29, 29, 29, 29, 29, 29, 29, 29, 29, 29, 29, 29, 29, 29, 29, 29] [] [29] [24] [some 39, some 29] (L36_26).1 := w_plain (by kernel_rfl) (L36_26).2
noncomputable def L36_27 : Lt r36_27 := by refine ⟨?l, ?h⟩; case h => simp only [r36_27, c36, bodyOf, Tryd.f36, Code.sub, opsOf, List.map_cons, List.map_nil, strip]; rfl
theorem w36_27 : Wp r36_27 25 [25, 29, 29, 29, 29, 29, 29, 29, 29, 29, 29, 29, 29, 29, 29, 29, 29, 29] [] [29] [24] [some 40, some 29] (L36_27).1 := w_plain (by kernel_rfl) (L36_27).2
noncomputable def L36_28 : Lt r36_28 := by refine ⟨?l, ?h⟩; case h => simp only [r36_28, c36, bodyOf, Tryd.f36, Code.sub, opsOf, List.map_cons, List.map_nil, strip]; rfl
theorem w36_28 : Wp r36_28 25 [25, 29, 29, 29, 29, 29, 29, 29, 29, 29, 29, 29, 29, 29, 29, 29, 29, 29] [] [29] [24] [some 41, some 29] (L36_28).1 := w_plain (by kernel_rfl) (L36_28).2
noncomputable def L36_29 : Lt r36_29 := by refine ⟨?l, ?h⟩; case h => simp only [r36_29, c36, bodyOf, Tryd.f36, Code.sub, opsOf, List.map_cons, List.map_nil, strip]; rfl
theorem w36_29 : Wp r36_29 25 [25, 29, 29, 29, 29, 29, 29, 29, 29, 29, 29, 29, 29, 29, 29, 29, 29, 29] [] [29] [24] [some 42, some 29] (L36_29).1 := w_plain (by kernel_rfl) (L36_29).2
noncomputable def L36_30 : Lt r36_30 := by refine ⟨?l, ?h⟩; case h => simp only [r36_30, c36, bodyOf, Tryd.f36, Code.sub, opsOf, List.map_cons, List.map_nil, strip]; rfl
theorem w36_30 : Wp r36_30 25 [25, 29, 29, 29, 29, 29, 29, 29, 29, 29, 29, 29, 29, 29, 29, 29, 29, 29] [] [29] [24] [some 43, some 29] (L36_30).1 := w_plain (by kernel_rfl) (L36_30).2
noncomputable def L36_31 : Lt r36_31 := by refine ⟨?l, ?h⟩; case h => simp only [r36_31, c36, bodyOf, Tryd.f36, Code.sub, opsOf, List.map_cons, List.map_nil, strip]; rfl
theorem w36_31 : Wp r36_31 25 [25, 29, 29, 29, 29, 29, 29, 29, 29, 29, 29, 29, 29, 29, 29, 29, 29, 29] [] [29] [24] [some 44, some 29] (L36_31).1 := w_plain (by kernel_rfl) (L36_31).2
noncomputable def L36_32 : Lt r36_32 := by refine ⟨?l, ?h⟩; case h => simp only [r36_32, c36, bodyOf, Tryd.f36, Code.sub, opsOf, List.map_cons, List.map_nil, strip]; rfl
theorem w36_32 : Wp r36_32 25 [25, 29, 29, 29, 29, 29, 29, 29, 29, 29, 29, 29, 29, 29, 29, 29, 29, 29] [] [29] [24] [some 45, some 29] (L36_32).1 := w_plain (by kernel_rfl) (L36_32).2
noncomputable def L36_33 : Lt r36_33 := by refine ⟨?l, ?h⟩; case h => simp only [r36_33, c36, bodyOf, Tryd.f36, Code.sub, opsOf, List.map_cons, List.map_nil, strip]; rfl
theorem w36_33 : Wp r36_33 25 [25, 29, 29, 29, 29, 29, 29, 29, 29, 29, 29, 29, 29, 29, 29, 29, 29, 29] [] [29] [24] [some 46, some 29] (L36_33).1 := w_plain (by kernel_rfl) (L36_33).2
noncomputable def L36_34 : Lt r36_34 := by refine ⟨?l, ?h⟩; case h => simp only [r36_34, c36, bodyOf, Tryd.f36, Code.sub, opsOf, List.map_cons, List.map_nil, strip]; rfl
theorem w36_34 : Wp r36_34 25 [25, 29, 29, 29, 29, 29, 29, 29, 29, 29, 29, 29, 29, 29, 29, 29, 29, 29] [] [] [0, 3] [some 47, some 48, some 49, some 50] (L36_34).1 := w_plain (by kernel_rfl) (L36_34).2
noncomputable def L36_35 : Lt r36_35 := by refine ⟨?l, ?h⟩; case h => simp only [r36_35, c36, bodyOf, Tryd.f36, Code.sub, opsOf, List.map_cons, List.map_nil, strip]; rfl
theorem w36_35 : Wp r36_35 25 [25, 29, 29, 29, 29, 29, 29, 29, 29, 29, 29, 29, 29, 29, 29, 29, 29, 29] [2] [] [] [some 2] (L36_35).1 := w_plain (by kernel_rfl) (L36_35).2
noncomputable def L36_36 : Lt r36_36 := by refine ⟨?l, ?h⟩; case h => simp only [r36_36, c36, bodyOf, Tryd.f36, Code.sub, opsOf, List.map_cons, List.map_nil, strip]; rfl
theorem w36_36 : Wp r36_36 25 [25, 29, 29, 29, 29, 29, 29, 29, 29, 29, 29, 29, 29, 29, 29, 29, 29, 29] [] [] [0] [some 51, some 52] (L36_36).1 := w_plain (by kernel_rfl) (L36_36).2
noncomputable def L36_37 : Lt r36_37 := by refine ⟨?l, ?h⟩; case h => simp only [r36_37, c36, bodyOf, Tryd.f36, Code.sub, opsOf, List.map_cons, List.map_nil, strip]; rfl
theorem w36_37 : Wp r36_37 25 [25, 29, 29, 29, 29, 29, 29, 29, 29, 29, 29, 29, 29, 29, 29, 29, 29, 29] [2] [] [] [some 2] (L36_37).1 := w_plain (by kernel_rfl) (L36_37).2
theorem k36 : FnIs TT 36 c36 [.tmp 2] 1 := ⟨Tryd.f36, by kernel_rfl, by simp only [Tryd.f36, c36, bodyOf], by kernel_rfl, of_decide_eq_true (by kernel_rfl)⟩
noncomputable def c37 : Code := bodyOf Tryd.f37
noncomputable def r37_0 : Code := Code.sub [0] c37
noncomputable def r37_1 : Code := Code.sub [1, 0, 0] c37
noncomputable def r37_2 : Code := Code.sub [1, 0, 1, 0, 0] c37
noncomputable def r37_3 : Code := Code.sub [1, 1, 0] c37
theorem body37 : c37 = (.seq r37_0 (.seq (.seq r37_1 (.cond (.tmp 12) (.seq r37_2 .ret) .skip)) (.seq r37_3 .ret))) := by kernel_rfl
noncomputable def L37_0 : Lt r37_0 := by refine ⟨?l, ?h⟩; case h => simp only [r37_0, c37, bodyOf, Tryd.f37, Code.sub, opsOf, List.map_cons, List.map_nil, strip]; rfl
theorem w37_0 : Wp r37_0 3 [12] [2] [] [] [some 2] (L37_0).1 := w_plain (by kernel_rfl) (L37_0).2
noncomputable def L37_1 : Lt r37_1 := by refine ⟨?l, ?h⟩; case h => simp only [r37_1, c37, bodyOf, Tryd.f37, Code.sub, opsOf, List.map_cons, List.map_nil, strip]; rfl
theorem w37_1 : Wp r37_1 3 [12] [] [12] [0] [some 3, some 4, some 5, some 6, some 7, some 8, some 9, some 10, some 11, some 12] (L37_1).1 := w_plain (by kernel_rfl) (L37_1).2
noncomputable def L37_2 : Lt r37_2 := by refine ⟨?l, ?h⟩; case h => simp only [r37_2, c37, bodyOf, Tryd.f37, Code.sub, opsOf, List.map_cons, List.map_nil, strip]; rfl
theorem w37_2 : Wp r37_2 3 [12] [2] [] [] [some 2] (L37_2).1 := w_plain (by kernel_rfl) (L37_2).2
noncomputable def L37_3 : Lt r37_3 := by refine ⟨?l, ?h⟩; case h => simp only [r37_3, c37, bodyOf, Tryd.f37, Code.sub, opsOf, List.map_cons, List.map_nil, strip]; rfl
theorem w37_3 : Wp r37_3 3 [12] [2] [] [0] [some 13, some 14, some 15, some 16, some 17, some 18, some 19, some 20, some 21, some 2] (L37_3).1 := w_plain (by kernel_rfl) (L37_3).2
theorem k37 : FnIs TT 37 c37 [.tmp 2] 1 := ⟨Tryd.f37, by kernel_rfl, by simp only [Tryd.f37, c37, bodyOf], by kernel_rfl, of_decide_eq_true (by kernel_rfl)⟩
noncomputable def c38 : Code := bodyOf Tryd.f38
noncomputable def r38_0 : Code := Code.sub [0] c38
noncomputable def r38_1 : Code := Code.sub [1] c38
theorem body38 : c38 = (.seq r38_0 r38_1) := by kernel_rfl
noncomputable def L38_0 : Lt r38_0 := by refine ⟨?l, ?h⟩; case h => simp only [r38_0, c38, bodyOf, Tryd.f38, Code.sub, opsOf, List.map_cons, List.map_nil, strip]; rfl
theorem w38_0 : Wp r38_0 2 [] [] [] [0, 1] [some 4, some 5, some 6, some 7, some 8, some 9, some 10, some 11, none] (L38_0).1 := w_plain (by kernel_rfl) (L38_0).2
noncomputable def L38_1 : Lt r38_1 := by refine ⟨?l, ?h⟩; case h => simp only [r38_1, c38, bodyOf, Tryd.f38, Code.sub, opsOf, List.map_cons, List.map_nil, strip]; rfl
theorem w38_1 : Wp r38_1 2 [] [] [] [0, 1] [some 12, some 13, some 14, some 15, some 16, some 17, some 18, some 19, none] (L38_1).1 := w_plain (by kernel_rfl) (L38_1).2
theorem k38 : FnIs TT 38 c38 [] 2 := ⟨Tryd.f38, by kernel_rfl, by simp only [Tryd.f38, c38, bodyOf], by kernel_rfl, of_decide_eq_true (by kernel_rfl)⟩
noncomputable def c39 : Code := bodyOf Tryd.f39
noncomputable def r39_0 : Code := Code.sub [0] c39
noncomputable def r39_1 : Code := Code.sub [1, 0] c39
theorem body39 : c39 = (.seq r39_0 (.seq r39_1 .ret)) := by kernel_rfl
noncomputable def L39_0 : Lt r39_0 := by refine ⟨?l, ?h⟩; case h => simp only [r39_0, c39, bodyOf, Tryd.f39, Code.sub, opsOf, List.map_cons, List.map_nil, strip]; rfl
theorem w39_0 : Wp r39_0 3 [] [2] [] [] [some 2] (L39_0).1 := w_plain (by kernel_rfl) (L39_0).2
noncomputable def L39_1 : Lt r39_1 := by refine ⟨?l, ?h⟩; case h => simp only [r39_1, c39, bodyOf, Tryd.f39, Code.sub, opsOf, List.map_cons, List.map_nil, strip]; rfl
theorem w39_1 : Wp r39_1 3 [] [2] [] [0] [some 3, some 4, some 5, some 6, some 7, some 8, some 9, some 10, some 11, some 2] (L39_1).1 := w_plain (by kernel_rfl) (L39_1).2
theorem k39 : FnIs TT 39 c39 [.tmp 2] 1 := ⟨Tryd.f39, by kernel_rfl, by simp only [Tryd.f39, c39, bodyOf], by kernel_rfl, of_decide_eq_true (by kernel_rfl)⟩
noncomputable def c40 : Code := bodyOf Tryd.f40
noncomputable def r40_0 : Code := Code.sub [0] c40
noncomputable def r40_1 : Code := Code.sub [1, 0] c40
noncomputable def r40_2 : Code := Code.sub [1, 1, 0, 0] c40
noncomputable def r40_3 : Code := Code.sub [1, 1, 0, 1, 0, 0, 0, 0] c40
noncomputable def r40_4 : Code := Code.sub [1, 1, 0, 1, 0, 0, 1, 0] c40
noncomputable def r40_5 : Code := Code.sub [1, 1, 1, 0] c40
theorem body40 : c40 = (.seq r40_0 (.seq r40_1 (.seq (.seq r40_2 (.block 0 (.loop (.seq (.seq r40_3 (.cond (.tmp 16) .skip (.exit 0))) (.block 1 r40_4))))) (.seq r40_5 .ret)))) := by kernel_rfl
noncomputable def L40_0 : Lt r40_0 := by refine ⟨?l, ?h⟩; case h => simp only [r40_0, c40, bodyOf, Tryd.f40, Code.sub, opsOf, List.map_cons, List.map_nil, strip]; rfl
theorem w40_0 : Wp r40_0 5 [16] [2] [] [] [some 2] (L40_0).1 := w_plain (by kernel_rfl) (L40_0).2
noncomputable def L40_1 : Lt r40_1 := by refine ⟨?l, ?h⟩; case h => simp only [r40_1, c40, bodyOf, Tryd.f40, Code.sub, opsOf, List.map_cons, List.map_nil, strip]; rfl
theorem w40_1 : Wp r40_1 5 [16] [3] [] [] [some 3] (L40_1).1 := w_plain (by kernel_rfl) (L40_1).2
noncomputable def L40_2 : Lt r40_2 := by refine ⟨?l, ?h⟩; case h => simp only [r40_2, c40, bodyOf, Tryd.f40, Code.sub, opsOf, List.map_cons, List.map_nil, strip]; rfl
theorem w40_2 : Wp r40_2 5 [16] [4] [] [0] [some 5, some 6, some 4] (L40_2).1 := w_plain (by kernel_rfl) (L40_2).2
noncomputable def L40_3 : Lt r40_3 := by refine ⟨?l, ?h⟩; case h => simp only [r40_3, c40, bodyOf, Tryd.f40, Code.sub, opsOf, List.map_cons, List.map_nil, strip]; rfl
theorem w40_3 : Wp r40_3 5 [16] [] [16] [4, 3] [some 7, some 8, some 9, some 10, some 11, some 12, some 13, some 14, some 15, some 16] (L40_3).1 := w_plain (by kernel_rfl) (L40_3).2
noncomputable def L40_4 : Lt r40_4 := by refine ⟨?l, ?h⟩; case h => simp only [r40_4, c40, bodyOf, Tryd.f40, Code.sub, opsOf, List.map_cons, List.map_nil, strip]; rfl
theorem w40_4 : Wp r40_4 5 [16] [3] [] [3] [some 17, some 18, some 3] (L40_4).1 := w_plain (by kernel_rfl) (L40_4).2
noncomputable def L40_5 : Lt r40_5 := by refine ⟨?l, ?h⟩; case h => simp only [r40_5, c40, bodyOf, Tryd.f40, Code.sub, opsOf, List.map_cons, List.map_nil, strip]; rfl
theorem w40_5 : Wp r40_5 5 [16] [2] [] [3] [some 19, some 2] (L40_5).1 := w_plain (by kernel_rfl) (L40_5).2
theorem k40 : FnIs TT 40 c40 [.tmp 2] 1 := ⟨Tryd.f40, by kernel_rfl, by simp only [Tryd.f40, c40, bodyOf], by kernel_rfl, of_decide_eq_true (by kernel_rfl)⟩
noncomputable def c41 : Code := bodyOf Tryd.f41
noncomputable def r41_0 : Code := Code.sub [0] c41
noncomputable def r41_1 : Code := Code.sub [1, 0] c41
noncomputable def r41_2 : Code := Code.sub [1, 1, 0] c41
noncomputable def r41_3 : Code := Code.sub [1, 1, 1, 0, 0, 0, 0, 0] c41
noncomputable def r41_4 : Code := Code.sub [1, 1, 1, 0, 0, 0, 1, 0] c41
noncomputable def r41_5 : Code := Code.sub [1, 1, 1, 1, 0] c41
noncomputable def r41_6 : Code := Code.sub [1, 1, 1, 1, 1, 0, 0] c41
noncomputable def r41_7 : Code := Code.sub [1, 1, 1, 1, 1, 0, 1, 0] c41
noncomputable def r41_8 : Code := Code.sub [1, 1, 1, 1, 1, 1, 0] c41
noncomputable def r41_9 : Code := Code.sub [1, 1, 1, 1, 1, 1, 1, 0] c41
theorem body41 : c41 = (.seq r41_0 (.seq r41_1 (.seq r41_2 (.seq (.block 0 (.loop (.seq (.seq r41_3 (.cond (.tmp 23) .skip (.exit 0))) (.block 1 r41_4)))) (.seq r41_5 (.seq (.seq r41_6 (.cond (.tmp 29) r41_7 .skip)) (.seq r41_8 (.seq r41_9 .ret)))))))) := by kernel_rfl
noncomputable def L41_0 : Lt r41_0 := by refine ⟨?l, ?h⟩; case h => simp only [r41_0, c41, bodyOf, Tryd.f41, Code.sub, opsOf, List.map_cons, List.map_nil, strip]; rfl
theorem w41_0 : Wp r41_0 6 [23, 29] [2] [] [] [some 2] (L41_0).1 := w_plain (by kernel_rfl) (L41_0).2
noncomputable def L41_1 : Lt r41_1 := by refine ⟨?l, ?h⟩; case h => simp only [r41_1, c41, bodyOf, Tryd.f41, Code.sub, opsOf, List.map_cons, List.map_nil, strip]; rfl
theorem w41_1 : Wp r41_1 6 [23, 29] [3] [] [0] [some 6, some 7, some 3] (L41_1).1 := w_plain (by kernel_rfl) (L41_1).2
noncomputable def L41_2 : Lt r41_2 := by refine ⟨?l, ?h⟩; case h => simp only [r41_2, c41, bodyOf, Tryd.f41, Code.sub, opsOf, List.map_cons, List.map_nil, strip]; rfl
theorem w41_2 : Wp r41_2 6 [23, 29] [4] [] [] [some 4] (L41_2).1 := w_plain (by kernel_rfl) (L41_2).2
noncomputable def L41_3 : Lt r41_3 := by refine ⟨?l, ?h⟩; case h => simp only [r41_3, c41, bodyOf, Tryd.f41, Code.sub, opsOf, List.map_cons, List.map_nil, strip]; rfl
theorem w41_3 : Wp r41_3 6 [23, 29] [] [23] [3, 4] [some 8, some 9, some 10, some 11, some 12, some 13, some 14, some 15, some 16, some 17, some 18, some 19, some 20, some 21, some 22, some 23] (L41_3).1 := w_plain (by kernel_rfl) (L41_3).2
noncomputable def L41_4 : Lt r41_4 := by refine ⟨?l, ?h⟩; case h => simp only [r41_4, c41, bodyOf, Tryd.f41, Code.sub, opsOf, List.map_cons, List.map_nil, strip]; rfl
theorem w41_4 : Wp r41_4 6 [23, 29] [4] [] [4] [some 24, some 25, some 4] (L41_4).1 := w_plain (by kernel_rfl) (L41_4).2
noncomputable def L41_5 : Lt r41_5 := by refine ⟨?l, ?h⟩; case h => simp only [r41_5, c41, bodyOf, Tryd.f41, Code.sub, opsOf, List.map_cons, List.map_nil, strip]; rfl
theorem w41_5 : Wp r41_5 6 [23, 29] [5] [] [] [some 5] (L41_5).1 := w_plain (by kernel_rfl) (L41_5).2
noncomputable def L41_6 : Lt r41_6 := by refine ⟨?l, ?h⟩; case h => simp only [r41_6, c41, bodyOf, Tryd.f41, Code.sub, opsOf, List.map_cons, List.map_nil, strip]; rfl
theorem w41_6 : Wp r41_6 6 [23, 29] [] [29] [3, 4] [some 26, some 27, some 28, some 29] (L41_6).1 := w_plain (by kernel_rfl) (L41_6).2
noncomputable def L41_7 : Lt r41_7 := by refine ⟨?l, ?h⟩; case h => simp only [r41_7, c41, bodyOf, Tryd.f41, Code.sub, opsOf, List.map_cons, List.map_nil, strip]; rfl
theorem w41_7 : Wp r41_7 6 [23, 29] [5] [] [] [some 5] (L41_7).1 := w_plain (by kernel_rfl) (L41_7).2
noncomputable def L41_8 : Lt r41_8 := by refine ⟨?l, ?h⟩; case h => simp only [r41_8, c41, bodyOf, Tryd.f41, Code.sub, opsOf, List.map_cons, List.map_nil, strip]; rfl
theorem w41_8 : Wp r41_8 6 [23, 29] [] [] [0, 5, 3, 4] [some 30, some 31, some 32, some 33, some 34, some 35] (L41_8).1 := w_plain (by kernel_rfl) (L41_8).2
noncomputable def L41_9 : Lt r41_9 := by refine ⟨?l, ?h⟩; case h => simp only [r41_9, c41, bodyOf, Tryd.f41, Code.sub, opsOf, List.map_cons, List.map_nil, strip]; rfl
theorem w41_9 : Wp r41_9 6 [23, 29] [2] [] [4] [some 36, some 2] (L41_9).1 := w_plain (by kernel_rfl) (L41_9).2
theorem k41 : FnIs TT 41 c41 [.tmp 2] 1 := ⟨Tryd.f41, by kernel_rfl, by simp only [Tryd.f41, c41, bodyOf], by kernel_rfl, of_decide_eq_true (by kernel_rfl)⟩
noncomputable def c42 : Code := bodyOf Tryd.f42
noncomputable def r42_0 : Code := Code.sub [0] c42
noncomputable def r42_1 : Code := Code.sub [1, 0] c42
noncomputable def r42_2 : Code := Code.sub [1, 1, 0] c42
noncomputable def r42_3 : Code := Code.sub [1, 1, 1, 0] c42
noncomputable def r42_4 : Code := Code.sub [1, 1, 1, 1, 0, 0, 0, 0, 0] c42
noncomputable def r42_5 : Code := Code.sub [1, 1, 1, 1, 0, 0, 0, 1, 0, 0] c42
noncomputable def r42_6 : Code := Code.sub [1, 1, 1, 1, 0, 0, 0, 1, 0, 1, 0, 0] c42
noncomputable def r42_7 : Code := Code.sub [1, 1, 1, 1, 0, 0, 0, 1, 0, 1, 0, 1, 0, 0] c42
noncomputable def r42_8 : Code := Code.sub [1, 1, 1, 1, 0, 0, 0, 1, 0, 1, 0, 1, 0, 1, 0] c42
noncomputable def r42_9 : Code := Code.sub [1, 1, 1, 1, 0, 0, 0, 1, 0, 1, 1, 0] c42
noncomputable def r42_10 : Code := Code.sub [1, 1, 1, 1, 0, 0, 0, 1, 0, 1, 1, 1] c42
noncomputable def r42_11 : Code := Code.sub [1, 1, 1, 1, 1, 0] c42
noncomputable def r42_12 : Code := Code.sub [1, 1, 1, 1, 1, 1, 0] c42
theorem body42 : c42 = (.seq r42_0 (.seq r42_1 (.seq r42_2 (.seq r42_3 (.seq (.block 0 (.loop (.seq (.seq r42_4 (.cond (.tmp 18) .skip (.exit 0))) (.block 1 (.seq r42_5 (.seq (.seq r42_6 (.cond (.tmp 28) (.seq r42_7 (.seq r42_8 .ret)) .skip)) (.seq r42_9 r42_10))))))) (.seq r42_11 (.seq r42_12 .ret))))))) := by kernel_rfl
noncomputable def L42_0 : Lt r42_0 := by refine ⟨?l, ?h⟩; case h => simp only [r42_0, c42, bodyOf, Tryd.f42, Code.sub, opsOf, List.map_cons, List.map_nil, strip]; rfl
theorem w42_0 : Wp r42_0 7 [18, 28] [2] [] [] [some 2] (L42_0).1 := w_plain (by kernel_rfl) (L42_0).2
noncomputable def L42_1 : Lt r42_1 := by refine ⟨?l, ?h⟩; case h => simp only [r42_1, c42, bodyOf, Tryd.f42, Code.sub, opsOf, List.map_cons, List.map_nil, strip]; rfl
theorem w42_1 : Wp r42_1 7 [18, 28] [3] [] [0] [some 7, some 8, some 3] (L42_1).1 := w_plain (by kernel_rfl) (L42_1).2
noncomputable def L42_2 : Lt r42_2 := by refine ⟨?l, ?h⟩; case h => simp only [r42_2, c42, bodyOf, Tryd.f42, Code.sub, opsOf, List.map_cons, List.map_nil, strip]; rfl
theorem w42_2 : Wp r42_2 7 [18, 28] [4] [] [] [some 4] (L42_2).1 := w_plain (by kernel_rfl) (L42_2).2
noncomputable def L42_3 : Lt r42_3 := by refine ⟨?l, ?h⟩; case h => simp only [r42_3, c42, bodyOf, Tryd.f42, Code.sub, opsOf, List.map_cons, List.map_nil, strip]; rfl
theorem w42_3 : Wp r42_3 7 [18, 28] [5] [] [] [some 5] (L42_3).1 := w_plain (by kernel_rfl) (L42_3).2
noncomputable def L42_4 : Lt r42_4 := by refine ⟨?l, ?h⟩; case h => simp only [r42_4, c42, bodyOf, Tryd.f42, Code.sub, opsOf, List.map_cons, List.map_nil, strip]; rfl
theorem w42_4 : Wp r42_4 7 [18, 28] [] [18] [3, 4] [some 9, some 10, some 11, some 12, some 13, some 14, some 15, some 16, some 17, some 18] (L42_4).1 := w_plain (by kernel_rfl) (L42_4).2
noncomputable def L42_5 : Lt r42_5 := by refine ⟨?l, ?h⟩; case h => simp only [r42_5, c42, bodyOf, Tryd.f42, Code.sub, opsOf, List.map_cons, List.map_nil, strip]; rfl
theorem w42_5 : Wp r42_5 7 [18, 28] [6] [] [3, 4] [some 19, some 20, some 21, some 22, some 23, some 6] (L42_5).1 := w_plain (by kernel_rfl) (L42_5).2
noncomputable def L42_6 : Lt r42_6 := by refine ⟨?l, ?h⟩; case h => simp only [r42_6, c42, bodyOf, Tryd.f42, Code.sub, opsOf, List.map_cons, List.map_nil, strip]; rfl
theorem w42_6 : Wp r42_6 7 [18, 28] [] [28] [5, 6] [some 24, some 25, some 26, some 27, some 28] (L42_6).1 := w_plain (by kernel_rfl) (L42_6).2
noncomputable def L42_7 : Lt r42_7 := by refine ⟨?l, ?h⟩; case h => simp only [r42_7, c42, bodyOf, Tryd.f42, Code.sub, opsOf, List.map_cons, List.map_nil, strip]; rfl
theorem w42_7 : Wp r42_7 7 [18, 28] [] [] [0] [some 29, some 30] (L42_7).1 := w_plain (by kernel_rfl) (L42_7).2
noncomputable def L42_8 : Lt r42_8 := by refine ⟨?l, ?h⟩; case h => simp only [r42_8, c42, bodyOf, Tryd.f42, Code.sub, opsOf, List.map_cons, List.map_nil, strip]; rfl
theorem w42_8 : Wp r42_8 7 [18, 28] [2] [] [] [some 2] (L42_8).1 := w_plain (by kernel_rfl) (L42_8).2
noncomputable def L42_9 : Lt r42_9 := by refine ⟨?l, ?h⟩; case h => simp only [r42_9, c42, bodyOf, Tryd.f42, Code.sub, opsOf, List.map_cons, List.map_nil, strip]; rfl
theorem w42_9 : Wp r42_9 7 [18, 28] [5] [] [5, 6] [some 31, some 32, some 33, some 34, some 5] (L42_9).1 := w_plain (by kernel_rfl) (L42_9).2
noncomputable def L42_10 : Lt r42_10 := by refine ⟨?l, ?h⟩; case h => simp only [r42_10, c42, bodyOf, Tryd.f42, Code.sub, opsOf, List.map_cons, List.map_nil, strip]; rfl
theorem w42_10 : Wp r42_10 7 [18, 28] [4] [] [4] [some 35, some 36, some 4] (L42_10).1 := w_plain (by kernel_rfl) (L42_10).2
noncomputable def L42_11 : Lt r42_11 := by refine ⟨?l, ?h⟩; case h => simp only [r42_11, c42, bodyOf, Tryd.f42, Code.sub, opsOf, List.map_cons, List.map_nil, strip]; rfl
theorem w42_11 : Wp r42_11 7 [18, 28] [] [] [0, 3, 4, 5] [some 37, some 38, some 39, some 40, some 41, some 42, some 43] (L42_11).1 := w_plain (by kernel_rfl) (L42_11).2
noncomputable def L42_12 : Lt r42_12 := by refine ⟨?l, ?h⟩; case h => simp only [r42_12, c42, bodyOf, Tryd.f42, Code.sub, opsOf, List.map_cons, List.map_nil, strip]; rfl
theorem w42_12 : Wp r42_12 7 [18, 28] [2] [] [4] [some 44, some 2] (L42_12).1 := w_plain (by kernel_rfl) (L42_12).2
theorem k42 : FnIs TT 42 c42 [.tmp 2] 1 := ⟨Tryd.f42, by kernel_rfl, by simp only [Tryd.f42, c42, bodyOf], by kernel_rfl, of_decide_eq_true (by kernel_rfl)⟩
noncomputable def c43 : Code := bodyOf Tryd.f43
noncomputable def r43_0 : Code := Code.sub [0] c43
noncomputable def r43_1 : Code := Code.sub [1, 0] c43
noncomputable def r43_2 : Code := Code.sub [1, 1, 0] c43
noncomputable def r43_3 : Code := Code.sub [1, 1, 1, 0, 0] c43
noncomputable def r43_4 : Code := Code.sub [1, 1, 1, 0, 1, 0, 0, 0, 0] c43
noncomputable def r43_5 : Code := Code.sub [1, 1, 1, 0, 1, 0, 0, 1, 0, 0, 0] c43
noncomputable def r43_6 : Code := Code.sub [1, 1, 1, 0, 1, 0, 0, 1, 0, 0, 1, 0, 0] c43
noncomputable def r43_7 : Code := Code.sub [1, 1, 1, 0, 1, 0, 0, 1, 0, 0, 1, 0, 1, 0, 0] c43
noncomputable def r43_8 : Code := Code.sub [1, 1, 1, 0, 1, 0, 0, 1, 0, 0, 1, 0, 1, 0, 1, 0] c43
noncomputable def r43_9 : Code := Code.sub [1, 1, 1, 0, 1, 0, 0, 1, 0, 0, 1, 0, 1, 1, 0] c43
noncomputable def r43_10 : Code := Code.sub [1, 1, 1, 0, 1, 0, 0, 1, 0, 0, 1, 0, 1, 1, 1, 0, 0] c43
noncomputable def r43_11 : Code := Code.sub [1, 1, 1, 0, 1, 0, 0, 1, 0, 0, 1, 0, 1, 1, 1, 0, 1, 0] c43
noncomputable def r43_12 : Code := Code.sub [1, 1, 1, 0, 1, 0, 0, 1, 0, 0, 1, 0, 1, 1, 1, 0, 1, 1, 0, 0] c43
noncomputable def r43_13 : Code := Code.sub [1, 1, 1, 0, 1, 0, 0, 1, 0, 0, 1, 0, 1, 1, 1, 0, 1, 1, 0, 1, 0, 0] c43
noncomputable def r43_14 : Code := Code.sub [1, 1, 1, 0, 1, 0, 0, 1, 0, 0, 1, 0, 1, 1, 1, 0, 1, 1, 0, 1, 0, 1, 0] c43
noncomputable def r43_15 : Code := Code.sub [1, 1, 1, 0, 1, 0, 0, 1, 0, 0, 1, 0, 1, 1, 1, 0, 1, 1, 1] c43
noncomputable def r43_16 : Code := Code.sub [1, 1, 1, 0, 1, 0, 0, 1, 0, 0, 1, 0, 1, 1, 1, 1, 0] c43
noncomputable def r43_17 : Code := Code.sub [1, 1, 1, 0, 1, 0, 0, 1, 0, 0, 1, 0, 1, 1, 1, 1, 1, 0, 0] c43
noncomputable def r43_18 : Code := Code.sub [1, 1, 1, 0, 1, 0, 0, 1, 0, 0, 1, 0, 1, 1, 1, 1, 1, 0, 1, 0] c43
noncomputable def r43_19 : Code := Code.sub [1, 1, 1, 0, 1, 0, 0, 1, 0, 0, 1, 0, 1, 1, 1, 1, 1, 1] c43
noncomputable def r43_20 : Code := Code.sub [1, 1, 1, 0, 1, 0, 0, 1, 1] c43
noncomputable def r43_21 : Code := Code.sub [1, 1, 1, 1, 0] c43
noncomputable def r43_22 : Code := Code.sub [1, 1, 1, 1, 1, 0] c43
theorem body43 : c43 = (.seq r43_0 (.seq r43_1 (.seq r43_2 (.seq (.seq r43_3 (.block 0 (.loop (.seq (.seq r43_4 (.cond (.tmp 14) .skip (.exit 0))) (.seq (.block 1 (.seq r43_5 (.block 2 (.seq r43_6 (.cond (.tmp 24) (.seq r43_7 (.seq r43_8 .ret)) (.seq r43_9 (.cond (.tmp 38) (.seq r43_10 (.seq r43_11 (.seq (.seq r43_12 (.cond (.tmp 58) (.seq r43_13 (.seq r43_14 .ret)) .skip)) r43_15))) (.seq r43_16 (.cond (.tmp 65) (.seq r43_17 (.seq r43_18 .ret)) r43_19))))))))) r43_20))))) (.seq r43_21 (.seq r43_22 .ret)))))) := by kernel_rfl
noncomputable def L43_0 : Lt r43_0 := by refine ⟨?l, ?h⟩; case h => simp only [r43_0, c43, bodyOf, Tryd.f43, Code.sub, opsOf, List.map_cons, List.map_nil, strip]; rfl
theorem w43_0 : Wp r43_0 9 [14, 24, 38, 58, 65] [2] [] [] [some 2] (L43_0).1 := w_plain (by kernel_rfl) (L43_0).2
noncomputable def L43_1 : Lt r43_1 := by refine ⟨?l, ?h⟩; case h => simp only [r43_1, c43, bodyOf, Tryd.f43, Code.sub, opsOf, List.map_cons, List.map_nil, strip]; rfl
theorem w43_1 : Wp r43_1 9 [14, 24, 38, 58, 65] [3] [] [0] [some 9, some 10, some 3] (L43_1).1 := w_plain (by kernel_rfl) (L43_1).2
noncomputable def L43_2 : Lt r43_2 := by refine ⟨?l, ?h⟩; case h => simp only [r43_2, c43, bodyOf, Tryd.f43, Code.sub, opsOf, List.map_cons, List.map_nil, strip]; rfl
theorem w43_2 : Wp r43_2 9 [14, 24, 38, 58, 65] [4] [] [] [some 4] (L43_2).1 := w_plain (by kernel_rfl) (L43_2).2
noncomputable def L43_3 : Lt r43_3 := by refine ⟨?l, ?h⟩; case h => simp only [r43_3, c43, bodyOf, Tryd.f43, Code.sub, opsOf, List.map_cons, List.map_nil, strip]; rfl
theorem w43_3 : Wp r43_3 9 [14, 24, 38, 58, 65] [5] [] [] [some 5] (L43_3).1 := w_plain (by kernel_rfl) (L43_3).2
noncomputable def L43_4 : Lt r43_4 := by refine ⟨?l, ?h⟩; case h => simp only [r43_4, c43, bodyOf, Tryd.f43, Code.sub, opsOf, List.map_cons, List.map_nil, strip]; rfl
theorem w43_4 : Wp r43_4 9 [14, 24, 38, 58, 65] [] [14] [5, 3] [some 11, some 12, some 13, some 14] (L43_4).1 := w_plain (by kernel_rfl) (L43_4).2
noncomputable def L43_5 : Lt r43_5 := by refine ⟨?l, ?h⟩; case h => simp only [r43_5, c43, bodyOf, Tryd.f43, Code.sub, opsOf, List.map_cons, List.map_nil, strip]; rfl
theorem w43_5 : Wp r43_5 9 [14, 24, 38, 58, 65] [6] [] [3, 5] [some 17, some 18, some 19, some 6] (L43_5).1 := w_plain (by kernel_rfl) (L43_5).2
noncomputable def L43_6 : Lt r43_6 := by refine ⟨?l, ?h⟩; case h => simp only [r43_6, c43, bodyOf, Tryd.f43, Code.sub, opsOf, List.map_cons, List.map_nil, strip]; rfl
theorem w43_6 : Wp r43_6 9 [14, 24, 38, 58, 65] [] [24] [6, 4] [some 25, some 26, some 27, some 28, some 29, some 30, some 31, some 24] (L43_6).1 := w_plain (by kernel_rfl) (L43_6).2
noncomputable def L43_7 : Lt r43_7 := by refine ⟨?l, ?h⟩; case h => simp only [r43_7, c43, bodyOf, Tryd.f43, Code.sub, opsOf, List.map_cons, List.map_nil, strip]; rfl
theorem w43_7 : Wp r43_7 9 [14, 24, 38, 58, 65] [] [] [0, 4] [some 32, some 33, some 34, some 35] (L43_7).1 := w_plain (by kernel_rfl) (L43_7).2
noncomputable def L43_8 : Lt r43_8 := by refine ⟨?l, ?h⟩; case h => simp only [r43_8, c43, bodyOf, Tryd.f43, Code.sub, opsOf, List.map_cons, List.map_nil, strip]; rfl
theorem w43_8 : Wp r43_8 9 [14, 24, 38, 58, 65] [2] [] [5] [some 36, some 37, some 2] (L43_8).1 := w_plain (by kernel_rfl) (L43_8).2
noncomputable def L43_9 : Lt r43_9 := by refine ⟨?l, ?h⟩; case h => simp only [r43_9, c43, bodyOf, Tryd.f43, Code.sub, opsOf, List.map_cons, List.map_nil, strip]; rfl
theorem w43_9 : Wp r43_9 9 [14, 24, 38, 58, 65] [] [38] [6, 5, 3] [some 39, some 40, some 41, some 42, some 43, some 44, some 45, some 46, some 47, some 38] (L43_9).1 := w_plain (by kernel_rfl) (L43_9).2
noncomputable def L43_10 : Lt r43_10 := by refine ⟨?l, ?h⟩; case h => simp only [r43_10, c43, bodyOf, Tryd.f43, Code.sub, opsOf, List.map_cons, List.map_nil, strip]; rfl
theorem w43_10 : Wp r43_10 9 [14, 24, 38, 58, 65] [5] [] [5] [some 48, some 49, some 5] (L43_10).1 := w_plain (by kernel_rfl) (L43_10).2
noncomputable def L43_11 : Lt r43_11 := by refine ⟨?l, ?h⟩; case h => simp only [r43_11, c43, bodyOf, Tryd.f43, Code.sub, opsOf, List.map_cons, List.map_nil, strip]; rfl
theorem w43_11 : Wp r43_11 9 [14, 24, 38, 58, 65] [7, 8] [] [3, 5] [some 51, some 52, some 53, some 54, some 50, some 55, some 56, some 7, some 8] (L43_11).1 := w_plain (by kernel_rfl) (L43_11).2
noncomputable def L43_12 : Lt r43_12 := by refine ⟨?l, ?h⟩; case h => simp only [r43_12, c43, bodyOf, Tryd.f43, Code.sub, opsOf, List.map_cons, List.map_nil, strip]; rfl
theorem w43_12 : Wp r43_12 9 [14, 24, 38, 58, 65] [] [58] [8] [some 57, some 58] (L43_12).1 := w_plain (by kernel_rfl) (L43_12).2
noncomputable def L43_13 : Lt r43_13 := by refine ⟨?l, ?h⟩; case h => simp only [r43_13, c43, bodyOf, Tryd.f43, Code.sub, opsOf, List.map_cons, List.map_nil, strip]; rfl
theorem w43_13 : Wp r43_13 9 [14, 24, 38, 58, 65] [] [] [0] [some 59, some 60] (L43_13).1 := w_plain (by kernel_rfl) (L43_13).2
noncomputable def L43_14 : Lt r43_14 := by refine ⟨?l, ?h⟩; case h => simp only [r43_14, c43, bodyOf, Tryd.f43, Code.sub, opsOf, List.map_cons, List.map_nil, strip]; rfl
theorem w43_14 : Wp r43_14 9 [14, 24, 38, 58, 65] [2] [] [] [some 2] (L43_14).1 := w_plain (by kernel_rfl) (L43_14).2
noncomputable def L43_15 : Lt r43_15 := by refine ⟨?l, ?h⟩; case h => simp only [r43_15, c43, bodyOf, Tryd.f43, Code.sub, opsOf, List.map_cons, List.map_nil, strip]; rfl
theorem w43_15 : Wp r43_15 9 [14, 24, 38, 58, 65] [4] [] [4, 7] [some 61, some 62, some 63, some 64, some 4] (L43_15).1 := w_plain (by kernel_rfl) (L43_15).2
noncomputable def L43_16 : Lt r43_16 := by refine ⟨?l, ?h⟩; case h => simp only [r43_16, c43, bodyOf, Tryd.f43, Code.sub, opsOf, List.map_cons, List.map_nil, strip]; rfl
theorem w43_16 : Wp r43_16 9 [14, 24, 38, 58, 65] [] [65] [6] [some 66, some 67, some 68, some 69, some 70, some 71, some 72, some 73, some 74, some 75, some 76, some 77, some 78, some 79, some 65] (L43_16).1 := w_plain (by kernel_rfl) (L43_16).2
noncomputable def L43_17 : Lt r43_17 := by refine ⟨?l, ?h⟩; case h => simp only [r43_17, c43, bodyOf, Tryd.f43, Code.sub, opsOf, List.map_cons, List.map_nil, strip]; rfl
theorem w43_17 : Wp r43_17 9 [14, 24, 38, 58, 65] [] [] [0] [some 80, some 81] (L43_17).1 := w_plain (by kernel_rfl) (L43_17).2
noncomputable def L43_18 : Lt r43_18 := by refine ⟨?l, ?h⟩; case h => simp only [r43_18, c43, bodyOf, Tryd.f43, Code.sub, opsOf, List.map_cons, List.map_nil, strip]; rfl
theorem w43_18 : Wp r43_18 9 [14, 24, 38, 58, 65] [2] [] [] [some 2] (L43_18).1 := w_plain (by kernel_rfl) (L43_18).2
noncomputable def L43_19 : Lt r43_19 := by refine ⟨?l, ?h⟩; case h => simp only [r43_19, c43, bodyOf, Tryd.f43, Code.sub, opsOf, List.map_cons, List.map_nil, strip]; rfl
theorem w43_19 : Wp r43_19 9 [14, 24, 38, 58, 65] [4] [] [4, 6] [some 20, some 21, some 22, some 23, some 4] (L43_19).1 := w_plain (by kernel_rfl) (L43_19).2
noncomputable def L43_20 : Lt r43_20 := by refine ⟨?l, ?h⟩; case h => simp only [r43_20, c43, bodyOf, Tryd.f43, Code.sub, opsOf, List.map_cons, List.map_nil, strip]; rfl
theorem w43_20 : Wp r43_20 9 [14, 24, 38, 58, 65] [5] [] [5] [some 15, some 16, some 5] (L43_20).1 := w_plain (by kernel_rfl) (L43_20).2
noncomputable def L43_21 : Lt r43_21 := by refine ⟨?l, ?h⟩; case h => simp only [r43_21, c43, bodyOf, Tryd.f43, Code.sub, opsOf, List.map_cons, List.map_nil, strip]; rfl
theorem w43_21 : Wp r43_21 9 [14, 24, 38, 58, 65] [] [] [0] [some 82, some 83] (L43_21).1 := w_plain (by kernel_rfl) (L43_21).2
noncomputable def L43_22 : Lt r43_22 := by refine ⟨?l, ?h⟩; case h => simp only [r43_22, c43, bodyOf, Tryd.f43, Code.sub, opsOf, List.map_cons, List.map_nil, strip]; rfl
theorem w43_22 : Wp r43_22 9 [14, 24, 38, 58, 65] [2] [] [] [some 2] (L43_22).1 := w_plain (by kernel_rfl) (L43_22).2
theorem k43 : FnIs TT 43 c43 [.tmp 2] 1 := ⟨Tryd.f43, by kernel_rfl, by simp only [Tryd.f43, c43, bodyOf], by kernel_rfl, of_decide_eq_true (by kernel_rfl)⟩
noncomputable def c44 : Code := bodyOf Tryd.f44
noncomputable def r44_0 : Code := Code.sub [0] c44
noncomputable def r44_1 : Code := Code.sub [1, 0] c44
noncomputable def r44_2 : Code := Code.sub [1, 1, 0, 0] c44
noncomputable def r44_3 : Code := Code.sub [1, 1, 0, 1, 0, 0, 0, 0] c44
noncomputable def r44_4 : Code := Code.sub [1, 1, 0, 1, 0, 0, 1, 0, 0, 0] c44
noncomputable def r44_5 : Code := Code.sub [1, 1, 0, 1, 0, 0, 1, 0, 0, 1, 0, 0] c44
noncomputable def r44_6 : Code := Code.sub [1, 1, 0, 1, 0, 0, 1, 0, 0, 1, 0, 1, 0, 0, 0] c44
noncomputable def r44_7 : Code := Code.sub [1, 1, 0, 1, 0, 0, 1, 0, 0, 1, 0, 1, 0, 0, 1, 0, 0] c44
noncomputable def r44_8 : Code := Code.sub [1, 1, 0, 1, 0, 0, 1, 0, 0, 1, 0, 1, 0, 1, 0] c44
noncomputable def r44_9 : Code := Code.sub [1, 1, 0, 1, 0, 0, 1, 0, 0, 1, 0, 1, 1, 0] c44
noncomputable def r44_10 : Code := Code.sub [1, 1, 0, 1, 0, 0, 1, 0, 0, 1, 0, 1, 1, 1, 0, 0] c44
noncomputable def r44_11 : Code := Code.sub [1, 1, 0, 1, 0, 0, 1, 0, 0, 1, 0, 1, 1, 1, 0, 1, 0] c44
noncomputable def r44_12 : Code := Code.sub [1, 1, 0, 1, 0, 0, 1, 0, 0, 1, 0, 1, 1, 1, 0, 1, 1, 0, 0] c44
noncomputable def r44_13 : Code := Code.sub [1, 1, 0, 1, 0, 0, 1, 0, 0, 1, 0, 1, 1, 1, 0, 1, 1, 0, 1, 0, 0] c44
noncomputable def r44_14 : Code := Code.sub [1, 1, 0, 1, 0, 0, 1, 0, 0, 1, 0, 1, 1, 1, 0, 1, 1, 0, 1, 0, 1, 0, 0] c44
noncomputable def r44_15 : Code := Code.sub [1, 1, 0, 1, 0, 0, 1, 0, 0, 1, 0, 1, 1, 1, 0, 1, 1, 0, 1, 0, 1, 0, 1, 0] c44
noncomputable def r44_16 : Code := Code.sub [1, 1, 0, 1, 0, 0, 1, 0, 0, 1, 0, 1, 1, 1, 0, 1, 1, 0, 1, 0, 1, 0, 1, 1, 0] c44
noncomputable def r44_17 : Code := Code.sub [1, 1, 0, 1, 0, 0, 1, 0, 0, 1, 0, 1, 1, 1, 0, 1, 1, 0, 1, 0, 1, 0, 1, 1, 1, 0] c44
noncomputable def r44_18 : Code := Code.sub [1, 1, 0, 1, 0, 0, 1, 0, 0, 1, 0, 1, 1, 1, 0, 1, 1, 0, 1, 0, 1, 0, 1, 1, 1, 1, 0] c44
noncomputable def r44_19 : Code := Code.sub [1, 1, 0, 1, 0, 0, 1, 0, 0, 1, 0, 1, 1, 1, 0, 1, 1, 0, 1, 0, 1, 0, 1, 1, 1, 1, 1, 0] c44
noncomputable def r44_20 : Code := Code.sub [1, 1, 0, 1, 0, 0, 1, 0, 0, 1, 0, 1, 1, 1, 0, 1, 1, 0, 1, 0, 1, 0, 1, 1, 1, 1, 1, 1, 0] c44
noncomputable def r44_21 : Code := Code.sub [1, 1, 0, 1, 0, 0, 1, 0, 0, 1, 0, 1, 1, 1, 0, 1, 1, 0, 1, 0, 1, 0, 1, 1, 1, 1, 1, 1, 1, 0] c44
noncomputable def r44_22 : Code := Code.sub [1, 1, 0, 1, 0, 0, 1, 0, 0, 1, 0, 1, 1, 1, 0, 1, 1, 1, 0, 0] c44
noncomputable def r44_23 : Code := Code.sub [1, 1, 0, 1, 0, 0, 1, 0, 0, 1, 0, 1, 1, 1, 0, 1, 1, 1, 0, 1, 0, 0] c44
noncomputable def r44_24 : Code := Code.sub [1, 1, 0, 1, 0, 0, 1, 0, 0, 1, 0, 1, 1, 1, 0, 1, 1, 1, 1] c44
noncomputable def r44_25 : Code := Code.sub [1, 1, 0, 1, 0, 0, 1, 0, 0, 1, 0, 1, 1, 1, 1, 0] c44
noncomputable def r44_26 : Code := Code.sub [1, 1, 0, 1, 0, 0, 1, 0, 0, 1, 0, 1, 1, 1, 1, 1, 0, 0] c44
noncomputable def r44_27 : Code := Code.sub [1, 1, 0, 1, 0, 0, 1, 0, 0, 1, 0, 1, 1, 1, 1, 1, 1] c44
noncomputable def r44_28 : Code := Code.sub [1, 1, 0, 1, 0, 0, 1, 1] c44
noncomputable def r44_29 : Code := Code.sub [1, 1, 1, 0] c44
theorem body44 : c44 = (.seq r44_0 (.seq r44_1 (.seq (.seq r44_2 (.block 0 (.loop (.seq (.seq r44_3 (.cond (.tmp 12) .skip (.exit 0))) (.seq (.block 1 (.seq r44_4 (.block 2 (.seq r44_5 (.cond (.tmp 25) (.seq (.seq r44_6 (.cond (.tmp 30) (.seq r44_7 .ret) .skip)) (.seq r44_8 .ret)) (.seq r44_9 (.cond (.tmp 36) (.seq r44_10 (.seq r44_11 (.seq (.seq r44_12 (.cond (.tmp 44) (.seq r44_13 (.block 3 (.seq r44_14 (.cond (.tmp 48) r44_15 (.seq r44_16 (.cond (.tmp 50) r44_17 (.seq r44_18 (.cond (.tmp 52) r44_19 (.seq r44_20 (.cond (.tmp 54) r44_21 .skip)))))))))) .skip)) (.seq (.seq r44_22 (.cond (.tmp 57) (.seq r44_23 .ret) .skip)) r44_24)))) (.seq r44_25 (.cond (.tmp 62) (.seq r44_26 .ret) r44_27))))))))) r44_28))))) (.seq r44_29 .ret)))) := by kernel_rfl
noncomputable def L44_0 : Lt r44_0 := by refine ⟨?l, ?h⟩; case h => simp only [r44_0, c44, bodyOf, Tryd.f44, Code.sub, opsOf, List.map_cons, List.map_nil, strip]; rfl
theorem w44_0 : Wp r44_0 48 [48, 50, 52, 54, 57, 62] [2, 3, 4] [] [] [some 2, some 3, some 4] (L44_0).1 := w_plain (by kernel_rfl) (L44_0).2
noncomputable def L44_1 : Lt r44_1 := by refine ⟨?l, ?h⟩; case h => simp only [r44_1, c44, bodyOf, Tryd.f44, Code.sub, opsOf, List.map_cons, List.map_nil, strip]; rfl
theorem w44_1 : Wp r44_1 48 [48, 50, 52, 54, 57, 62] [5] [] [] [some 5] (L44_1).1 := w_plain (by kernel_rfl) (L44_1).2
noncomputable def L44_2 : Lt r44_2 := by refine ⟨?l, ?h⟩; case h => simp only [r44_2, c44, bodyOf, Tryd.f44, Code.sub, opsOf, List.map_cons, List.map_nil, strip]; rfl
theorem w44_2 : Wp r44_2 48 [48, 50, 52, 54, 57, 62] [6] [] [] [some 6] (L44_2).1 := w_plain (by kernel_rfl) (L44_2).2
noncomputable def L44_3 : Lt r44_3 := by refine ⟨?l, ?h⟩; case h => simp only [r44_3, c44, bodyOf, Tryd.f44, Code.sub, opsOf, List.map_cons, List.map_nil, strip]; rfl
theorem w44_3 : Wp r44_3 48 [48, 50, 52, 54, 57, 62] [9, 10, 11, 12] [] [6, 0] [some 9, some 10, some 11, some 12] (L44_3).1 := w_plain (by kernel_rfl) (L44_3).2
noncomputable def L44_4 : Lt r44_4 := by refine ⟨?l, ?h⟩; case h => simp only [r44_4, c44, bodyOf, Tryd.f44, Code.sub, opsOf, List.map_cons, List.map_nil, strip]; rfl
theorem w44_4 : Wp r44_4 48 [48, 50, 52, 54, 57, 62] [15, 16, 17, 7] [] [0, 6] [some 15, some 16, some 17, some 7] (L44_4).1 := w_plain (by kernel_rfl) (L44_4).2
noncomputable def L44_5 : Lt r44_5 := by refine ⟨?l, ?h⟩; case h => simp only [r44_5, c44, bodyOf, Tryd.f44, Code.sub, opsOf, List.map_cons, List.map_nil, strip]; rfl
theorem w44_5 : Wp r44_5 48 [48, 50, 52, 54, 57, 62] [26, 27, 25] [] [7] [some 26, some 27, some 25] (L44_5).1 := w_plain (by kernel_rfl) (L44_5).2
noncomputable def L44_6 : Lt r44_6 := by refine ⟨?l, ?h⟩; case h => simp only [r44_6, c44, bodyOf, Tryd.f44, Code.sub, opsOf, List.map_cons, List.map_nil, strip]; rfl
theorem w44_6 : Wp r44_6 48 [48, 50, 52, 54, 57, 62] [28, 29, 30] [] [5] [some 28, some 29, some 30] (L44_6).1 := w_plain (by kernel_rfl) (L44_6).2
noncomputable def L44_7 : Lt r44_7 := by refine ⟨?l, ?h⟩; case h => simp only [r44_7, c44, bodyOf, Tryd.f44, Code.sub, opsOf, List.map_cons, List.map_nil, strip]; rfl
theorem w44_7 : Wp r44_7 48 [48, 50, 52, 54, 57, 62] [31, 3, 4] [] [2] [some 31, none, some 3, some 4] (L44_7).1 := w_plain (by kernel_rfl) (L44_7).2
noncomputable def L44_8 : Lt r44_8 := by refine ⟨?l, ?h⟩; case h => simp only [r44_8, c44, bodyOf, Tryd.f44, Code.sub, opsOf, List.map_cons, List.map_nil, strip]; rfl
theorem w44_8 : Wp r44_8 48 [48, 50, 52, 54, 57, 62] [32, 33, 34, 35, 3, 4] [] [5, 6, 2] [some 32, some 33, some 34, some 35, none, some 3, some 4] (L44_8).1 := w_plain (by kernel_rfl) (L44_8).2
noncomputable def L44_9 : Lt r44_9 := by refine ⟨?l, ?h⟩; case h => simp only [r44_9, c44, bodyOf, Tryd.f44, Code.sub, opsOf, List.map_cons, List.map_nil, strip]; rfl
theorem w44_9 : Wp r44_9 48 [48, 50, 52, 54, 57, 62] [37, 38, 36] [] [7] [some 37, some 38, some 36] (L44_9).1 := w_plain (by kernel_rfl) (L44_9).2
noncomputable def L44_10 : Lt r44_10 := by refine ⟨?l, ?h⟩; case h => simp only [r44_10, c44, bodyOf, Tryd.f44, Code.sub, opsOf, List.map_cons, List.map_nil, strip]; rfl
theorem w44_10 : Wp r44_10 48 [48, 50, 52, 54, 57, 62] [39, 40, 6] [] [6] [some 39, some 40, some 6] (L44_10).1 := w_plain (by kernel_rfl) (L44_10).2
noncomputable def L44_11 : Lt r44_11 := by refine ⟨?l, ?h⟩; case h => simp only [r44_11, c44, bodyOf, Tryd.f44, Code.sub, opsOf, List.map_cons, List.map_nil, strip]; rfl
theorem w44_11 : Wp r44_11 48 [48, 50, 52, 54, 57, 62] [8] [] [] [some 8] (L44_11).1 := w_plain (by kernel_rfl) (L44_11).2
noncomputable def L44_12 : Lt r44_12 := by refine ⟨?l, ?h⟩; case h => simp only [r44_12, c44, bodyOf, Tryd.f44, Code.sub, opsOf, List.map_cons, List.map_nil, strip]; rfl
theorem w44_12 : Wp r44_12 48 [48, 50, 52, 54, 57, 62] [41, 42, 43, 44] [] [6, 0] [some 41, some 42, some 43, some 44] (L44_12).1 := w_plain (by kernel_rfl) (L44_12).2
noncomputable def L44_13 : Lt r44_13 := by refine ⟨?l, ?h⟩; case h => simp only [r44_13, c44, bodyOf, Tryd.f44, Code.sub, opsOf, List.map_cons, List.map_nil, strip]; rfl
theorem w44_13 : Wp r44_13 48 [48, 50, 52, 54, 57, 62] [45, 46, 47] [] [0, 6] [some 45, some 46, some 47] (L44_13).1 := w_plain (by kernel_rfl) (L44_13).2
noncomputable def L44_14 : Lt r44_14 := by refine ⟨?l, ?h⟩; case h => simp only [r44_14, c44, bodyOf, Tryd.f44, Code.sub, opsOf, List.map_cons, List.map_nil, strip]; rfl
theorem w44_14 : Wp r44_14 48 [48, 50, 52, 54, 57, 62] [] [48] [47] [some 49, some 48] (L44_14).1 := w_plain (by kernel_rfl) (L44_14).2
noncomputable def L44_15 : Lt r44_15 := by refine ⟨?l, ?h⟩; case h => simp only [r44_15, c44, bodyOf, Tryd.f44, Code.sub, opsOf, List.map_cons, List.map_nil, strip]; rfl
theorem w44_15 : Wp r44_15 48 [48, 50, 52, 54, 57, 62] [8] [] [] [some 8] (L44_15).1 := w_plain (by kernel_rfl) (L44_15).2
noncomputable def L44_16 : Lt r44_16 := by refine ⟨?l, ?h⟩; case h => simp only [r44_16, c44, bodyOf, Tryd.f44, Code.sub, opsOf, List.map_cons, List.map_nil, strip]; rfl
theorem w44_16 : Wp r44_16 48 [48, 50, 52, 54, 57, 62] [] [50] [47] [some 51, some 50] (L44_16).1 := w_plain (by kernel_rfl) (L44_16).2
noncomputable def L44_17 : Lt r44_17 := by refine ⟨?l, ?h⟩; case h => simp only [r44_17, c44, bodyOf, Tryd.f44, Code.sub, opsOf, List.map_cons, List.map_nil, strip]; rfl
theorem w44_17 : Wp r44_17 48 [48, 50, 52, 54, 57, 62] [8] [] [] [some 8] (L44_17).1 := w_plain (by kernel_rfl) (L44_17).2
noncomputable def L44_18 : Lt r44_18 := by refine ⟨?l, ?h⟩; case h => simp only [r44_18, c44, bodyOf, Tryd.f44, Code.sub, opsOf, List.map_cons, List.map_nil, strip]; rfl
theorem w44_18 : Wp r44_18 48 [48, 50, 52, 54, 57, 62] [] [52] [47] [some 53, some 52] (L44_18).1 := w_plain (by kernel_rfl) (L44_18).2
noncomputable def L44_19 : Lt r44_19 := by refine ⟨?l, ?h⟩; case h => simp only [r44_19, c44, bodyOf, Tryd.f44, Code.sub, opsOf, List.map_cons, List.map_nil, strip]; rfl
theorem w44_19 : Wp r44_19 48 [48, 50, 52, 54, 57, 62] [8] [] [] [some 8] (L44_19).1 := w_plain (by kernel_rfl) (L44_19).2
noncomputable def L44_20 : Lt r44_20 := by refine ⟨?l, ?h⟩; case h => simp only [r44_20, c44, bodyOf, Tryd.f44, Code.sub, opsOf, List.map_cons, List.map_nil, strip]; rfl
theorem w44_20 : Wp r44_20 48 [48, 50, 52, 54, 57, 62] [] [54] [47] [some 55, some 54] (L44_20).1 := w_plain (by kernel_rfl) (L44_20).2
noncomputable def L44_21 : Lt r44_21 := by refine ⟨?l, ?h⟩; case h => simp only [r44_21, c44, bodyOf, Tryd.f44, Code.sub, opsOf, List.map_cons, List.map_nil, strip]; rfl
theorem w44_21 : Wp r44_21 48 [48, 50, 52, 54, 57, 62] [8] [] [] [some 8] (L44_21).1 := w_plain (by kernel_rfl) (L44_21).2
noncomputable def L44_22 : Lt r44_22 := by refine ⟨?l, ?h⟩; case h => simp only [r44_22, c44, bodyOf, Tryd.f44, Code.sub, opsOf, List.map_cons, List.map_nil, strip]; rfl
theorem w44_22 : Wp r44_22 48 [48, 50, 52, 54, 57, 62] [] [57] [8] [some 56, some 57] (L44_22).1 := w_plain (by kernel_rfl) (L44_22).2
noncomputable def L44_23 : Lt r44_23 := by refine ⟨?l, ?h⟩; case h => simp only [r44_23, c44, bodyOf, Tryd.f44, Code.sub, opsOf, List.map_cons, List.map_nil, strip]; rfl
theorem w44_23 : Wp r44_23 48 [48, 50, 52, 54, 57, 62] [3, 4] [] [2] [some 58, none, some 3, some 4] (L44_23).1 := w_plain (by kernel_rfl) (L44_23).2
noncomputable def L44_24 : Lt r44_24 := by refine ⟨?l, ?h⟩; case h => simp only [r44_24, c44, bodyOf, Tryd.f44, Code.sub, opsOf, List.map_cons, List.map_nil, strip]; rfl
theorem w44_24 : Wp r44_24 48 [48, 50, 52, 54, 57, 62] [5] [] [5, 8] [some 59, some 60, some 61, some 5] (L44_24).1 := w_plain (by kernel_rfl) (L44_24).2
noncomputable def L44_25 : Lt r44_25 := by refine ⟨?l, ?h⟩; case h => simp only [r44_25, c44, bodyOf, Tryd.f44, Code.sub, opsOf, List.map_cons, List.map_nil, strip]; rfl
theorem w44_25 : Wp r44_25 48 [48, 50, 52, 54, 57, 62] [] [62] [7] [some 63, some 64, some 65, some 66, some 67, some 68, some 62] (L44_25).1 := w_plain (by kernel_rfl) (L44_25).2
noncomputable def L44_26 : Lt r44_26 := by refine ⟨?l, ?h⟩; case h => simp only [r44_26, c44, bodyOf, Tryd.f44, Code.sub, opsOf, List.map_cons, List.map_nil, strip]; rfl
theorem w44_26 : Wp r44_26 48 [48, 50, 52, 54, 57, 62] [3, 4] [] [2] [some 69, none, some 3, some 4] (L44_26).1 := w_plain (by kernel_rfl) (L44_26).2
noncomputable def L44_27 : Lt r44_27 := by refine ⟨?l, ?h⟩; case h => simp only [r44_27, c44, bodyOf, Tryd.f44, Code.sub, opsOf, List.map_cons, List.map_nil, strip]; rfl
theorem w44_27 : Wp r44_27 48 [48, 50, 52, 54, 57, 62] [18, 19, 20, 21, 22, 23, 24, 5] [] [5, 0, 6] [some 18, some 19, some 20, some 21, some 22, some 23, some 24, some 5] (L44_27).1 := w_plain (by kernel_rfl) (L44_27).2
noncomputable def L44_28 : Lt r44_28 := by refine ⟨?l, ?h⟩; case h => simp only [r44_28, c44, bodyOf, Tryd.f44, Code.sub, opsOf, List.map_cons, List.map_nil, strip]; rfl
theorem w44_28 : Wp r44_28 48 [48, 50, 52, 54, 57, 62] [13, 14, 6] [] [6] [some 13, some 14, some 6] (L44_28).1 := w_plain (by kernel_rfl) (L44_28).2
noncomputable def L44_29 : Lt r44_29 := by refine ⟨?l, ?h⟩; case h => simp only [r44_29, c44, bodyOf, Tryd.f44, Code.sub, opsOf, List.map_cons, List.map_nil, strip]; rfl
theorem w44_29 : Wp r44_29 48 [48, 50, 52, 54, 57, 62] [3, 4] [] [2] [some 70, none, some 3, some 4] (L44_29).1 := w_plain (by kernel_rfl) (L44_29).2
theorem k44 : FnIs TT 44 c44 [.cell 2 31, .tmp 3, .tmp 4] 1 := ⟨Tryd.f44, by kernel_rfl, by simp only [Tryd.f44, c44, bodyOf], by kernel_rfl, of_decide_eq_true (by kernel_rfl)⟩
noncomputable def c48 : Code := bodyOf Tryd.f48
noncomputable def r48_0 : Code := Code.sub [0] c48
noncomputable def r48_1 : Code := Code.sub [1, 0] c48
theorem body48 : c48 = (.seq r48_0 (.cond (.tmp 8) r48_1 .skip)) := by kernel_rfl
noncomputable def L48_0 : Lt r48_0 := by refine ⟨?l, ?h⟩; case h => simp only [r48_0, c48, bodyOf, Tryd.f48, Code.sub, opsOf, List.map_cons, List.map_nil, strip]; rfl
theorem w48_0 : Wp r48_0 2 [8] [] [8] [0] [some 4, some 5, some 6, some 7, some 8] (L48_0).1 := w_plain (by kernel_rfl) (L48_0).2
theorem can48_1 : canonOps (opsOf r48_1) = opsOf r48_1 := by kernel_rfl
noncomputable def L48_1 : Lc r48_1 := by refine ⟨?l, (congrArg (List.map strip) can48_1).trans ?h⟩; case h => simp only [r48_1, c48, bodyOf, Tryd.f48, Code.sub, opsOf, List.map_cons, List.map_nil, strip]; rfl
theorem w48_1 : Wd r48_1 2 [8] [] [] [1, 0] [some 9, some 10, some 11, some 12, some 13, some 14, some 15, some 16, some 17, some 18, some 19, some 20, some 21, some 22, none, some 23, some 24, none] (L48_1).1 [(6, [14]), (10, [14])] := w_loud (by kernel_rfl) (L48_1).2
theorem k48 : FnIs TT 48 c48 [] 2 := ⟨Tryd.f48, by kernel_rfl, by simp only [Tryd.f48, c48, bodyOf], by kernel_rfl, of_decide_eq_true (by kernel_rfl)⟩
noncomputable def c49 : Code := bodyOf Tryd.f49
noncomputable def r49_0 : Code := Code.sub [0] c49
noncomputable def r49_1 : Code := Code.sub [1, 0, 0] c49
noncomputable def r49_2 : Code := Code.sub [1, 0, 1, 0, 0] c49
noncomputable def r49_3 : Code := Code.sub [1, 0, 1, 0, 1, 0, 0] c49
noncomputable def r49_4 : Code := Code.sub [1, 0, 1, 0, 1, 1, 0] c49
noncomputable def r49_5 : Code := Code.sub [1, 0, 1, 0, 1, 1, 1, 0, 0] c49
noncomputable def r49_6 : Code := Code.sub [1, 0, 1, 0, 1, 1, 1, 1, 0, 0] c49
noncomputable def r49_7 : Code := Code.sub [1, 0, 1, 0, 1, 1, 1, 1, 0, 1, 1] c49
noncomputable def r49_8 : Code := Code.sub [1, 0, 1, 0, 1, 1, 1, 1, 1, 0, 0] c49
noncomputable def r49_9 : Code := Code.sub [1, 1, 0] c49
theorem body49 : c49 = (.seq r49_0 (.seq (.seq r49_1 (.block 0 (.seq r49_2 (.cond (.tmp 5) (.seq r49_3 .ret) (.seq r49_4 (.cond (.tmp 7) (.seq r49_5 .ret) (.seq (.seq r49_6 (.cond (.tmp 9) .skip r49_7)) (.cond (.tmp 9) (.seq r49_8 .ret) .skip)))))))) (.seq r49_9 .ret))) := by kernel_rfl
noncomputable def L49_0 : Lt r49_0 := by refine ⟨?l, ?h⟩; case h => simp only [r49_0, c49, bodyOf, Tryd.f49, Code.sub, opsOf, List.map_cons, List.map_nil, strip]; rfl
theorem w49_0 : Wp r49_0 5 [5, 7, 9, 9] [2, 3] [] [] [some 2, some 3] (L49_0).1 := w_plain (by kernel_rfl) (L49_0).2
noncomputable def L49_1 : Lt r49_1 := by refine ⟨?l, ?h⟩; case h => simp only [r49_1, c49, bodyOf, Tryd.f49, Code.sub, opsOf, List.map_cons, List.map_nil, strip]; rfl
theorem w49_1 : Wp r49_1 5 [5, 7, 9, 9] [4] [] [0] [some 4] (L49_1).1 := w_plain (by kernel_rfl) (L49_1).2
noncomputable def L49_2 : Lt r49_2 := by refine ⟨?l, ?h⟩; case h => simp only [r49_2, c49, bodyOf, Tryd.f49, Code.sub, opsOf, List.map_cons, List.map_nil, strip]; rfl
theorem w49_2 : Wp r49_2 5 [5, 7, 9, 9] [] [5] [4] [some 6, some 5] (L49_2).1 := w_plain (by kernel_rfl) (L49_2).2
noncomputable def L49_3 : Lt r49_3 := by refine ⟨?l, ?h⟩; case h => simp only [r49_3, c49, bodyOf, Tryd.f49, Code.sub, opsOf, List.map_cons, List.map_nil, strip]; rfl
theorem w49_3 : Wp r49_3 5 [5, 7, 9, 9] [2, 3] [] [] [some 2, some 3] (L49_3).1 := w_plain (by kernel_rfl) (L49_3).2
noncomputable def L49_4 : Lt r49_4 := by refine ⟨?l, ?h⟩; case h => simp only [r49_4, c49, bodyOf, Tryd.f49, Code.sub, opsOf, List.map_cons, List.map_nil, strip]; rfl
theorem w49_4 : Wp r49_4 5 [5, 7, 9, 9] [] [7] [4] [some 8, some 7] (L49_4).1 := w_plain (by kernel_rfl) (L49_4).2
noncomputable def L49_5 : Lt r49_5 := by refine ⟨?l, ?h⟩; case h => simp only [r49_5, c49, bodyOf, Tryd.f49, Code.sub, opsOf, List.map_cons, List.map_nil, strip]; rfl
theorem w49_5 : Wp r49_5 5 [5, 7, 9, 9] [2, 3] [] [] [some 2, some 3] (L49_5).1 := w_plain (by kernel_rfl) (L49_5).2
noncomputable def L49_6 : Lt r49_6 := by refine ⟨?l, ?h⟩; case h => simp only [r49_6, c49, bodyOf, Tryd.f49, Code.sub, opsOf, List.map_cons, List.map_nil, strip]; rfl
theorem w49_6 : Wp r49_6 5 [5, 7, 9, 9] [] [9] [4] [some 10, some 9] (L49_6).1 := w_plain (by kernel_rfl) (L49_6).2
noncomputable def L49_7 : Lt r49_7 := by refine ⟨?l, ?h⟩; case h => simp only [r49_7, c49, bodyOf, Tryd.f49, Code.sub, opsOf, List.map_cons, List.map_nil, strip]; rfl
theorem w49_7 : Wp r49_7 5 [5, 7, 9, 9] [] [9] [4] [some 11, some 9] (L49_7).1 := w_plain (by kernel_rfl) (L49_7).2
noncomputable def L49_8 : Lt r49_8 := by refine ⟨?l, ?h⟩; case h => simp only [r49_8, c49, bodyOf, Tryd.f49, Code.sub, opsOf, List.map_cons, List.map_nil, strip]; rfl
theorem w49_8 : Wp r49_8 5 [5, 7, 9, 9] [2, 3] [] [0] [some 12, some 2, some 3] (L49_8).1 := w_plain (by kernel_rfl) (L49_8).2
noncomputable def L49_9 : Lt r49_9 := by refine ⟨?l, ?h⟩; case h => simp only [r49_9, c49, bodyOf, Tryd.f49, Code.sub, opsOf, List.map_cons, List.map_nil, strip]; rfl
theorem w49_9 : Wp r49_9 5 [5, 7, 9, 9] [2, 3] [] [] [some 2, some 3] (L49_9).1 := w_plain (by kernel_rfl) (L49_9).2
theorem k49 : FnIs TT 49 c49 [.tmp 2, .tmp 3] 1 := ⟨Tryd.f49, by kernel_rfl, by simp only [Tryd.f49, c49, bodyOf], by kernel_rfl, of_decide_eq_true (by kernel_rfl)⟩
/- what rewriting uses in the walks -/
attribute [simp] w_seq w_cond_tmp w_ret w_skip w_exit w_block w_loop r_nil r_seq r_seq_ret r_seq_exit r_block
attribute [simp] r_block_ret r_block_exit r_loop r_loop_ret r_loop_exit cnd_t cnd_f rg_some lgo_n lgo_c lops_nil lops_cons
attribute [simp] lk_some lop1_plain lop1_guard gdv_b gdv_u gd_tt gd_ff gd_tf gd_ft lput_s lput_n lev_t
attribute [simp] lev_c lev_g lev_f lget_n lget_c lset_n lset_c lkeep_n lkeep_c lsets_n lsets_c lconds_n
attribute [simp] lconds_c lfill qf_d okx lresults lresultsL lres_tmp o_move o_assign o_bin o_pick o_nilCheck
attribute [simp] o_fieldAddr o_load o_len o_store o_conv o_un o_extract o_append o_call2 o_callv o_buildSlice o_box
attribute [simp] o_alloc o_build o_indexAddr o_slice o_index o_field o_makeFunc o_makeSlice o_min o_max loOf_none loOf_some
attribute [simp] hiOf_none hiOf_some natOf_int sliceS_some sliceA_some strOp sz_str cat_str list_str s_binOp fastBin s_unOp
attribute [simp] fastUn boolEq int_beq int_bne txt_beq one_int one_slice one_ptr one_bool one_str cells_int cells_slice
attribute [simp] cells_ptr cells_bool cells_str cells_agg flatEq_n flatEq_c ba_beq closedA_l closedL_n closedL_c closedV_int closedV_str
attribute [simp] closedV_bool loadRow_new window over Instr.fill repl lst_nil lst_cons lks_some lkc_some lloud_some lreads_n
attribute [simp] lreads_c lsame_d eqV_int eqV_slice eqV_ptr eqV_agg eqL_n eqL_c eqV_str eqV_bool eqV_undef
attribute [simp] body7 w7_0 L7_0 w7_1 L7_1 w7_2 L7_2 w7_3 L7_3 w7_4 L7_4
attribute [simp] body8 w8_0 L8_0 w8_1 L8_1 w8_2 L8_2 w8_3 L8_3 w8_4 L8_4 w8_5 L8_5 w8_6 L8_6
attribute [simp] body11 w11_0 L11_0 w11_1 L11_1 w11_2 L11_2 w11_3 L11_3
attribute [simp] body13 w13_0 L13_0 w13_1 L13_1 w13_2 L13_2 w13_3 L13_3 w13_4 L13_4 w13_5 L13_5 w13_6 L13_6 w13_7 L13_7 w13_8 L13_8 w13_9 L13_9 w13_10 L13_10 w13_11 L13_11 w13_12 L13_12
attribute [simp] body14 w14_0 L14_0 w14_1 L14_1 w14_2 L14_2 w14_3 L14_3 w14_4 L14_4 w14_5 L14_5 w14_6 L14_6 w14_7 L14_7 w14_8 L14_8 w14_9 L14_9 w14_10 L14_10 w14_11 L14_11 w14_12 L14_12 w14_13 L14_13 w14_14 L14_14 w14_15 L14_15 w14_16 L14_16 w14_17 L14_17 w14_18 L14_18 w14_19 L14_19 w14_20 L14_20 w14_21 L14_21 w14_22 L14_22 w14_23 L14_23 w14_24 L14_24 w14_25 L14_25
attribute [simp] body15 w15_0 L15_0 w15_1 L15_1 w15_2 L15_2 w15_3 L15_3 w15_4 L15_4 w15_5 L15_5 w15_6 L15_6 w15_7 L15_7 w15_8 L15_8 w15_9 L15_9 w15_10 L15_10 w15_11 L15_11 w15_12 L15_12 w15_13 L15_13 w15_14 L15_14 w15_15 L15_15 w15_16 L15_16 w15_17 L15_17 w15_18 L15_18 w15_19 L15_19 w15_20 L15_20 w15_21 L15_21 w15_22 L15_22 w15_23 L15_23 w15_24 L15_24 w15_25 L15_25
attribute [simp] body18 w18_0 L18_0 w18_1 L18_1 w18_2 L18_2 w18_3 L18_3 w18_4 L18_4 w18_5 L18_5 w18_6 L18_6 w18_7 L18_7 w18_8 L18_8 w18_9 L18_9 w18_10 L18_10 w18_11 L18_11 w18_12 L18_12 w18_13 L18_13 w18_14 L18_14 w18_15 L18_15 w18_16 L18_16 w18_17 L18_17 w18_18 L18_18 w18_19 L18_19 w18_20 L18_20 w18_21 L18_21 w18_22 L18_22 w18_23 L18_23 w18_24 L18_24 w18_25 L18_25 w18_26 L18_26 w18_27 L18_27 w18_28 L18_28 w18_29 L18_29 w18_30 L18_30 w18_31 L18_31 w18_32 L18_32 w18_33 L18_33 w18_34 L18_34 w18_35 L18_35
attribute [simp] body19 w19_0 L19_0 w19_1 L19_1 w19_2 L19_2 w19_3 L19_3 w19_4 L19_4 w19_5 L19_5 w19_6 L19_6 w19_7 L19_7 w19_8 L19_8
attribute [simp] body23 w23_0 L23_0 w23_1 L23_1 w23_2 L23_2 w23_3 L23_3 w23_4 L23_4 w23_5 L23_5 w23_6 L23_6 w23_7 L23_7 w23_8 L23_8 w23_9 L23_9 w23_10 L23_10 w23_11 L23_11 w23_12 L23_12 w23_13 L23_13 w23_14 L23_14 w23_15 L23_15 w23_16 L23_16 w23_17 L23_17
attribute [simp] body24 w24_0 L24_0 w24_1 L24_1 w24_2 L24_2 w24_3 L24_3 w24_4 L24_4 w24_5 L24_5 w24_6 L24_6 w24_7 L24_7 w24_8 L24_8 w24_9 L24_9 w24_10 L24_10 w24_11 L24_11 w24_12 L24_12 w24_13 L24_13 w24_14 L24_14 w24_15 L24_15 w24_16 L24_16 w24_17 L24_17 w24_18 L24_18 w24_19 L24_19 w24_20 L24_20 w24_21 L24_21 w24_22 L24_22 w24_23 L24_23
attribute [simp] body25 w25_0 L25_0 w25_1 L25_1 w25_2 L25_2
attribute [simp] body26 w26_0 L26_0 w26_1 L26_1
attribute [simp] body27 w27_0 L27_0 w27_1 L27_1
attribute [simp] body28 w28_0 L28_0 w28_1 L28_1
attribute [simp] body29 w29_0 L29_0 w29_1 L29_1
attribute [simp] body30 w30_0 L30_0 w30_1 L30_1 w30_2 L30_2 w30_3 L30_3 w30_4 L30_4 w30_5 L30_5 w30_6 L30_6 w30_7 L30_7 w30_8 L30_8 w30_9 L30_9 w30_10 L30_10 w30_11 L30_11 w30_12 L30_12 w30_13 L30_13 w30_14 L30_14 w30_15 L30_15 w30_16 L30_16 w30_17 L30_17 w30_18 L30_18 w30_19 L30_19 w30_20 L30_20
attribute [simp] body31 w31_0 L31_0 w31_1 L31_1 w31_2 L31_2 w31_3 L31_3 w31_4 L31_4 w31_5 L31_5
attribute [simp] body32 w32_0 L32_0 w32_1 L32_1 w32_2 L32_2 w32_3 L32_3 w32_4 L32_4 w32_5 L32_5 w32_6 L32_6 w32_7 L32_7 w32_8 L32_8 w32_9 L32_9 w32_10 L32_10 w32_11 L32_11 w32_12 L32_12 w32_13 L32_13 w32_14 L32_14 w32_15 L32_15 w32_16 L32_16 w32_17 L32_17 w32_18 L32_18 w32_19 L32_19 w32_20 L32_20 w32_21 L32_21 w32_22 L32_22 w32_23 L32_23 w32_24 L32_24 w32_25 L32_25 w32_26 L32_26 w32_27 L32_27 w32_28 L32_28 w32_29 L32_29 w32_30 L32_30
attribute [simp] body36 w36_0 L36_0 w36_1 L36_1 w36_2 L36_2 w36_3 L36_3 w36_4 L36_4 w36_5 L36_5 w36_6 L36_6 w36_7 L36_7 w36_8 L36_8 w36_9 L36_9 w36_10 L36_10 w36_11 L36_11 w36_12 L36_12 w36_13 L36_13 w36_14 L36_14 w36_15 L36_15 w36_16 L36_16 w36_17 L36_17 w36_18 L36_18 w36_19 L36_19 w36_20 L36_20 w36_21 L36_21 w36_22 L36_22 w36_23 L36_23 w36_24 L36_24 w36_25 L36_25 w36_26 L36_26 w36_27 L36_27 w36_28 L36_28 w36_29 L36_29 w36_30 L36_30 w36_31 L36_31 w36_32 L36_32 w36_33 L36_33 w36_34 L36_34 w36_35 L36_35 w36_36 L36_36 w36_37 L36_37
attribute [simp] body37 w37_0 L37_0 w37_1 L37_1 w37_2 L37_2 w37_3 L37_3
attribute [simp] body38 w38_0 L38_0 w38_1 L38_1
attribute [simp] body39 w39_0 L39_0 w39_1 L39_1
attribute [simp] body40 w40_0 L40_0 w40_1 L40_1 w40_2 L40_2 w40_3 L40_3 w40_4 L40_4 w40_5 L40_5
attribute [simp] body41 w41_0 L41_0 w41_1 L41_1 w41_2 L41_2 w41_3 L41_3 w41_4 L41_4 w41_5 L41_5 w41_6 L41_6 w41_7 L41_7 w41_8 L41_8 w41_9 L41_9
attribute [simp] body42 w42_0 L42_0 w42_1 L42_1 w42_2 L42_2 w42_3 L42_3 w42_4 L42_4 w42_5 L42_5 w42_6 L42_6 w42_7 L42_7 w42_8 L42_8 w42_9 L42_9 w42_10 L42_10 w42_11 L42_11 w42_12 L42_12
attribute [simp] body43 w43_0 L43_0 w43_1 L43_1 w43_2 L43_2 w43_3 L43_3 w43_4 L43_4 w43_5 L43_5 w43_6 L43_6 w43_7 L43_7 w43_8 L43_8 w43_9 L43_9 w43_10 L43_10 w43_11 L43_11 w43_12 L43_12 w43_13 L43_13 w43_14 L43_14 w43_15 L43_15 w43_16 L43_16 w43_17 L43_17 w43_18 L43_18 w43_19 L43_19 w43_20 L43_20 w43_21 L43_21 w43_22 L43_22
attribute [simp] body44 w44_0 L44_0 w44_1 L44_1 w44_2 L44_2 w44_3 L44_3 w44_4 L44_4 w44_5 L44_5 w44_6 L44_6 w44_7 L44_7 w44_8 L44_8 w44_9 L44_9 w44_10 L44_10 w44_11 L44_11 w44_12 L44_12 w44_13 L44_13 w44_14 L44_14 w44_15 L44_15 w44_16 L44_16 w44_17 L44_17 w44_18 L44_18 w44_19 L44_19 w44_20 L44_20 w44_21 L44_21 w44_22 L44_22 w44_23 L44_23 w44_24 L44_24 w44_25 L44_25 w44_26 L44_26 w44_27 L44_27 w44_28 L44_28 w44_29 L44_29
attribute [simp] body48 w48_0 L48_0 w48_1 L48_1
attribute [simp] body49 w49_0 L49_0 w49_1 L49_1 w49_2 L49_2 w49_3 L49_3 w49_4 L49_4 w49_5 L49_5 w49_6 L49_6 w49_7 L49_7 w49_8 L49_8 w49_9 L49_9
end Go.Proofs.YtgomgdbapgibjaaDoor.gen

