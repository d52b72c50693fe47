/-
  This text names the regions of the functions that are walked, with the slots that they read and set, and the facts of the types.
  No condition.
-/
import Derived.Test.YtggbgelfgfmikaaDoorProg
import Derived.Test.YtggbgelfgfmikaaDoorShD
set_option maxRecDepth 100000
set_option linter.unusedSimpArgs false
set_option linter.unusedVariables false
namespace Go.Proofs.YtggbgelfgfmikaaDoor.gen
open Go.Sh
def fns : List FuncId := [7, 8, 9, 10, 11, 12, 13, 14, 15, 16, 17, 18, 19, 20, 21, 22, 23, 24, 25, 26, 27, 28, 29, 30, 31, 32, 33, 34, 35, 36, 37, 38, 39, 40, 41, 42, 43, 44, 45, 46, 47, 48, 49, 50, 51, 52, 53, 54, 55, 56, 57, 58, 59, 60, 61, 62, 63, 64, 65, 66, 67, 68, 69, 70, 72, 73, 74]
noncomputable def TT : FuncId → Option Func := Sh.tabOf Tryd.prog fns
variable {S : Sums} {m : Mem} {k : List Fr} {E : LEnv} {Q : Post}
abbrev Lt (c : Code) := {l : List Oper // (opsOf c).map strip = l}
abbrev Lc (c : Code) := {l : List Oper // (canonOps (opsOf c)).map strip = l}
abbrev Wp (c : Code) (nv : Nat) (C ups cs nd : List Nat) (ds : List (Option Nat)) (l : List Oper) : Prop := ∀ {S : Sums} {m : Mem} {k : List Fr} {E : LEnv} {Q : Post}, W Tryd.prog TT S nv C c k E m Q ↔ Rg Tryd.prog TT S nv C ups cs (lgo E nd (lops Tryd.prog (callw Tryd.prog TT S) ds l E m)) k E Q
abbrev Wd (c : Code) (nv : Nat) (C ups cs nd : List Nat) (ds : List (Option Nat)) (l : List Oper) (places : List (Nat × List Nat)) : Prop := ∀ {S : Sums} {m : Mem} {k : List Fr} {E : LEnv} {Q : Post}, W Tryd.prog TT S nv C c k E m Q ↔ Rg Tryd.prog TT S nv C ups cs (lgo E nd (lloud Tryd.prog (callw Tryd.prog TT S) ds l places (lstates Tryd.prog (callw Tryd.prog TT S) ds l E m))) k E Q
theorem ap2 : apOk Tryd.prog 2 1 8 = true := by kernel_rfl
theorem ap22 : apOk Tryd.prog 22 1 8 = true := by kernel_rfl
theorem ap5 : apOk Tryd.prog 5 1 1 = true := by kernel_rfl
theorem ap78 : apOk Tryd.prog 78 5 80 = true := by kernel_rfl
theorem ap82 : apOk Tryd.prog 82 2 24 = true := by kernel_rfl
theorem ap9 : apOk Tryd.prog 9 1 16 = true := by kernel_rfl
theorem b31 : (Tryd.prog.info? 31).isSome = true := by kernel_rfl
theorem b61 : (Tryd.prog.info? 61).isSome = true := by kernel_rfl
theorem b67 : (Tryd.prog.info? 67).isSome = true := by kernel_rfl
theorem b74 : (Tryd.prog.info? 74).isSome = true := by kernel_rfl
theorem b92 : (Tryd.prog.info? 92).isSome = true := by kernel_rfl
theorem bo31 : buildOk Tryd.prog 31 [.slice none 0 0, .slice none 0 0, .int .i64 0, .slice none 0 0, .slice none 0 0] [(0, 1), (1, 1), (2, 1), (3, 1), (4, 1)] = true := by kernel_rfl
theorem bo61 : buildOk Tryd.prog 61 [.slice none 0 0, .slice none 0 0, .int .i64 0, .slice none 0 0, .slice none 0 0, .pointer none, .slice none 0 0, .slice none 0 0, .int .i64 0, .slice none 0 0] [(0, 5), (5, 1), (6, 1), (7, 1), (8, 1), (9, 1)] = true := by kernel_rfl
theorem bo67 : buildOk Tryd.prog 67 [.int .i64 0, .slice none 0 0] [(0, 1), (1, 1)] = true := by kernel_rfl
theorem bo74 : buildOk Tryd.prog 74 [.slice none 0 0, .pointer none, .slice none 0 0, .slice none 0 0, .int .i64 0, .slice none 0 0] [(0, 1), (1, 1), (2, 1), (3, 1), (4, 1), (5, 1)] = true := by kernel_rfl
theorem bo78 : buildOk Tryd.prog 78 [.int .i64 0, .string ⟨#[]⟩, .int .i64 0, .slice none 0 0, .slice none 0 0] [(0, 1), (1, 1), (2, 1), (3, 1), (4, 1)] = true := by kernel_rfl
theorem bo82 : buildOk Tryd.prog 82 [.string ⟨#[]⟩, .int .i64 0] [(0, 1), (1, 1)] = true := by kernel_rfl
theorem bo92 : buildOk Tryd.prog 92 [.slice none 0 0, .int .i64 0] [(0, 1), (1, 1)] = true := by kernel_rfl
theorem bs2 : bsOk Tryd.prog 2 [.int .i64 0] = true := by kernel_rfl
theorem bs22 : bsOk Tryd.prog 22 [.int .u64 0] = true := by kernel_rfl
theorem bs5 : bsOk Tryd.prog 5 [.int .u8 0] = true := by kernel_rfl
theorem bs78 : bsOk Tryd.prog 78 [.int .i64 0, .string ⟨#[]⟩, .int .i64 0, .slice none 0 0, .slice none 0 0] = true := by kernel_rfl
theorem bs82 : bsOk Tryd.prog 82 [.string ⟨#[]⟩, .int .i64 0] = true := by kernel_rfl
theorem bs9 : bsOk Tryd.prog 9 [.string ⟨#[]⟩] = true := by kernel_rfl
theorem fa31_0 : faOk Tryd.prog 31 0 0 = true := by kernel_rfl
theorem fa31_3 : faOk Tryd.prog 31 3 3 = true := by kernel_rfl
theorem fa58_0 : faOk Tryd.prog 58 0 0 = true := by kernel_rfl
theorem fa58_1 : faOk Tryd.prog 58 1 1 = true := by kernel_rfl
theorem fa58_2 : faOk Tryd.prog 58 2 2 = true := by kernel_rfl
theorem fa58_3 : faOk Tryd.prog 58 3 3 = true := by kernel_rfl
theorem fa61_0 : faOk Tryd.prog 61 0 0 = true := by kernel_rfl
theorem fa61_1 : faOk Tryd.prog 61 1 5 = true := by kernel_rfl
theorem fa61_2 : faOk Tryd.prog 61 2 6 = true := by kernel_rfl
theorem fa61_3 : faOk Tryd.prog 61 3 7 = true := by kernel_rfl
theorem fa61_4 : faOk Tryd.prog 61 4 8 = true := by kernel_rfl
theorem fa61_5 : faOk Tryd.prog 61 5 9 = true := by kernel_rfl
theorem fa67_0 : faOk Tryd.prog 67 0 0 = true := by kernel_rfl
theorem fa67_1 : faOk Tryd.prog 67 1 1 = true := by kernel_rfl
theorem fa74_0 : faOk Tryd.prog 74 0 0 = true := by kernel_rfl
theorem fa74_1 : faOk Tryd.prog 74 1 1 = true := by kernel_rfl
theorem fa74_2 : faOk Tryd.prog 74 2 2 = true := by kernel_rfl
theorem fa74_3 : faOk Tryd.prog 74 3 3 = true := by kernel_rfl
theorem fa74_4 : faOk Tryd.prog 74 4 4 = true := by kernel_rfl
theorem fa74_5 : faOk Tryd.prog 74 5 5 = true := by kernel_rfl
theorem fa78_0 : faOk Tryd.prog 78 0 0 = true := by kernel_rfl
theorem fa78_3 : faOk Tryd.prog 78 3 3 = true := by kernel_rfl
theorem fa92_0 : faOk Tryd.prog 92 0 0 = true := by kernel_rfl
theorem fa92_1 : faOk Tryd.prog 92 1 1 = true := by kernel_rfl
theorem ld2 : ldOk Tryd.prog 2 = true := by kernel_rfl
theorem ld22 : ldOk Tryd.prog 22 = true := by kernel_rfl
theorem ld26 : ldOk Tryd.prog 26 = true := by kernel_rfl
theorem ld28 : ldOk Tryd.prog 28 = true := by kernel_rfl
theorem ld29 : ldOk Tryd.prog 29 = true := by kernel_rfl
theorem ld3 : ldOk Tryd.prog 3 = true := by kernel_rfl
theorem ld31 : agOk Tryd.prog 31 5 = true := by kernel_rfl
theorem ld44 : ldOk Tryd.prog 44 = true := by kernel_rfl
theorem ld56 : ldOk Tryd.prog 56 = true := by kernel_rfl
theorem ld58 : agOk Tryd.prog 58 4 = true := by kernel_rfl
theorem ld59 : ldOk Tryd.prog 59 = true := by kernel_rfl
theorem ld74 : agOk Tryd.prog 74 6 = true := by kernel_rfl
theorem ld75 : ldOk Tryd.prog 75 = true := by kernel_rfl
theorem ld78 : agOk Tryd.prog 78 5 = true := by kernel_rfl
theorem ld9 : ldOk Tryd.prog 9 = true := by kernel_rfl
theorem sz2 : sizeOfT Tryd.prog 2 = some 1 := by kernel_rfl
theorem sz22 : sizeOfT Tryd.prog 22 = some 1 := by kernel_rfl
theorem sz26 : sizeOfT Tryd.prog 26 = some 1 := by kernel_rfl
theorem sz28 : sizeOfT Tryd.prog 28 = some 1 := by kernel_rfl
theorem sz3 : sizeOfT Tryd.prog 3 = some 1 := by kernel_rfl
theorem sz31 : sizeOfT Tryd.prog 31 = some 5 := by kernel_rfl
theorem sz44 : sizeOfT Tryd.prog 44 = some 1 := by kernel_rfl
theorem sz5 : sizeOfT Tryd.prog 5 = some 1 := by kernel_rfl
theorem sz56 : sizeOfT Tryd.prog 56 = some 1 := by kernel_rfl
theorem sz58 : sizeOfT Tryd.prog 58 = some 4 := by kernel_rfl
theorem sz74 : sizeOfT Tryd.prog 74 = some 6 := by kernel_rfl
theorem sz78 : sizeOfT Tryd.prog 78 = some 5 := by kernel_rfl
theorem sz82 : sizeOfT Tryd.prog 82 = some 2 := by kernel_rfl
theorem sz9 : sizeOfT Tryd.prog 9 = some 1 := by kernel_rfl
theorem u103 : Tryd.prog.underlying 103 = some (.array 20 22) := by kernel_rfl
theorem u104 : Tryd.prog.underlying 104 = some (.int .u32) := by kernel_rfl
theorem u2 : Tryd.prog.underlying 2 = some (.int .i64) := by kernel_rfl
theorem u22 : Tryd.prog.underlying 22 = some (.int .u64) := by kernel_rfl
theorem u23 : Tryd.prog.underlying 23 = some (.pointer 74) := by kernel_rfl
theorem u26 : Tryd.prog.underlying 26 = some (.slice 78) := by kernel_rfl
theorem u28 : Tryd.prog.underlying 28 = some (.slice 9) := by kernel_rfl
theorem u29 : Tryd.prog.underlying 29 = some (.slice 2) := by kernel_rfl
theorem u3 : Tryd.prog.underlying 3 = some (.int .i64) := by kernel_rfl
theorem u4 : Tryd.prog.underlying 4 = some .bool := by kernel_rfl
theorem u44 : Tryd.prog.underlying 44 = some (.pointer 92) := by kernel_rfl
theorem u5 : Tryd.prog.underlying 5 = some (.int .u8) := by kernel_rfl
theorem u52 : Tryd.prog.underlying 52 = some (.slice 58) := by kernel_rfl
theorem u54 : Tryd.prog.underlying 54 = some (.pointer 61) := by kernel_rfl
theorem u56 : Tryd.prog.underlying 56 = some (.slice 22) := by kernel_rfl
theorem u75 : Tryd.prog.underlying 75 = some (.slice 82) := by kernel_rfl
theorem u89 : Tryd.prog.underlying 89 = some (.slice 5) := by kernel_rfl
theorem u9 : Tryd.prog.underlying 9 = some .string := by kernel_rfl
theorem u98 : Tryd.prog.underlying 98 = some (.array 24 5) := by kernel_rfl
theorem zo31 : zeroOk Tryd.prog 31 [.slice none 0 0, .slice none 0 0, .int .i64 0, .slice none 0 0, .slice none 0 0] = true := by kernel_rfl
theorem zo58 : zeroOk Tryd.prog 58 [.int .i64 0, .int .i64 0, .int .i64 0, .int .u64 0] = true := by kernel_rfl
theorem zo74 : zeroOk Tryd.prog 74 [.slice none 0 0, .pointer none, .slice none 0 0, .slice none 0 0, .int .i64 0, .slice none 0 0] = true := by kernel_rfl
theorem zo78 : zeroOk Tryd.prog 78 [.int .i64 0, .string ⟨#[]⟩, .int .i64 0, .slice none 0 0, .slice none 0 0] = true := by kernel_rfl
theorem zo98 : zeroOk Tryd.prog 98 [.int .u8 0, .int .u8 0, .int .u8 0, .int .u8 0, .int .u8 0, .int .u8 0, .int .u8 0, .int .u8 0, .int .u8 0, .int .u8 0, .int .u8 0, .int .u8 0, .int .u8 0, .int .u8 0, .int .u8 0, .int .u8 0, .int .u8 0, .int .u8 0, .int .u8 0, .int .u8 0, .int .u8 0, .int .u8 0, .int .u8 0, .int .u8 0] = true := by kernel_rfl
noncomputable def c7 : Code := bodyOf Tryd.f7
noncomputable def r7_0 : Code := Code.sub [0] c7
noncomputable def r7_1 : Code := Code.sub [1, 0] c7
noncomputable def r7_2 : Code := Code.sub [1, 1, 0] c7
noncomputable def r7_3 : Code := Code.sub [1, 1, 1, 0, 0] c7
noncomputable def r7_4 : Code := Code.sub [1, 1, 1, 0, 1, 0, 0, 0, 0] c7
noncomputable def r7_5 : Code := Code.sub [1, 1, 1, 0, 1, 0, 0, 1, 0, 0] c7
noncomputable def r7_6 : Code := Code.sub [1, 1, 1, 0, 1, 0, 0, 1, 1] c7
noncomputable def r7_7 : Code := Code.sub [1, 1, 1, 1, 0] c7
noncomputable def r7_8 : Code := Code.sub [1, 1, 1, 1, 1, 0] c7
noncomputable def r7_9 : Code := Code.sub [1, 1, 1, 1, 1, 1, 0] c7
noncomputable def r7_10 : Code := Code.sub [1, 1, 1, 1, 1, 1, 1, 0, 0] c7
noncomputable def r7_11 : Code := Code.sub [1, 1, 1, 1, 1, 1, 1, 0, 1, 0, 0] c7
noncomputable def r7_12 : Code := Code.sub [1, 1, 1, 1, 1, 1, 1, 1, 0, 0] c7
noncomputable def r7_13 : Code := Code.sub [1, 1, 1, 1, 1, 1, 1, 1, 0, 1, 0, 0] c7
noncomputable def r7_14 : Code := Code.sub [1, 1, 1, 1, 1, 1, 1, 1, 1, 0] c7
noncomputable def r7_15 : Code := Code.sub [1, 1, 1, 1, 1, 1, 1, 1, 1, 1, 0, 0] c7
noncomputable def r7_16 : Code := Code.sub [1, 1, 1, 1, 1, 1, 1, 1, 1, 1, 0, 1, 0, 0, 0, 0] c7
noncomputable def r7_17 : Code := Code.sub [1, 1, 1, 1, 1, 1, 1, 1, 1, 1, 0, 1, 0, 0, 1, 0, 0] c7
noncomputable def r7_18 : Code := Code.sub [1, 1, 1, 1, 1, 1, 1, 1, 1, 1, 0, 1, 0, 0, 1, 1] c7
noncomputable def r7_19 : Code := Code.sub [1, 1, 1, 1, 1, 1, 1, 1, 1, 1, 1, 0, 0] c7
noncomputable def r7_20 : Code := Code.sub [1, 1, 1, 1, 1, 1, 1, 1, 1, 1, 1, 0, 1, 0, 0, 0, 0] c7
noncomputable def r7_21 : Code := Code.sub [1, 1, 1, 1, 1, 1, 1, 1, 1, 1, 1, 0, 1, 0, 0, 1, 0, 0, 0] c7
noncomputable def r7_22 : Code := Code.sub [1, 1, 1, 1, 1, 1, 1, 1, 1, 1, 1, 0, 1, 0, 0, 1, 0, 0, 1, 0] c7
noncomputable def r7_23 : Code := Code.sub [1, 1, 1, 1, 1, 1, 1, 1, 1, 1, 1, 0, 1, 0, 0, 1, 0, 0, 1, 1, 0] c7
noncomputable def r7_24 : Code := Code.sub [1, 1, 1, 1, 1, 1, 1, 1, 1, 1, 1, 0, 1, 0, 0, 1, 0, 0, 1, 1, 1, 0] c7
noncomputable def r7_25 : Code := Code.sub [1, 1, 1, 1, 1, 1, 1, 1, 1, 1, 1, 0, 1, 0, 0, 1, 0, 0, 1, 1, 1, 1, 0, 0] c7
noncomputable def r7_26 : Code := Code.sub [1, 1, 1, 1, 1, 1, 1, 1, 1, 1, 1, 0, 1, 0, 0, 1, 0, 0, 1, 1, 1, 1, 0, 1, 0, 0] c7
noncomputable def r7_27 : Code := Code.sub [1, 1, 1, 1, 1, 1, 1, 1, 1, 1, 1, 0, 1, 0, 0, 1, 0, 0, 1, 1, 1, 1, 0, 1, 0, 1, 0, 0] c7
noncomputable def r7_28 : Code := Code.sub [1, 1, 1, 1, 1, 1, 1, 1, 1, 1, 1, 0, 1, 0, 0, 1, 0, 0, 1, 1, 1, 1, 0, 1, 0, 1, 0, 1] c7
noncomputable def r7_29 : Code := Code.sub [1, 1, 1, 1, 1, 1, 1, 1, 1, 1, 1, 0, 1, 0, 0, 1, 0, 0, 1, 1, 1, 1, 0, 1, 0, 1, 1, 0] c7
noncomputable def r7_30 : Code := Code.sub [1, 1, 1, 1, 1, 1, 1, 1, 1, 1, 1, 0, 1, 0, 0, 1, 0, 0, 1, 1, 1, 1, 0, 1, 0, 1, 1, 1, 0, 0] c7
noncomputable def r7_31 : Code := Code.sub [1, 1, 1, 1, 1, 1, 1, 1, 1, 1, 1, 0, 1, 0, 0, 1, 0, 0, 1, 1, 1, 1, 0, 1, 0, 1, 1, 1, 0, 1] c7
noncomputable def r7_32 : Code := Code.sub [1, 1, 1, 1, 1, 1, 1, 1, 1, 1, 1, 0, 1, 0, 0, 1, 0, 0, 1, 1, 1, 1, 0, 1, 0, 1, 1, 1, 1, 0] c7
noncomputable def r7_33 : Code := Code.sub [1, 1, 1, 1, 1, 1, 1, 1, 1, 1, 1, 0, 1, 0, 0, 1, 0, 0, 1, 1, 1, 1, 0, 1, 0, 1, 1, 1, 1, 1, 0] c7
noncomputable def r7_34 : Code := Code.sub [1, 1, 1, 1, 1, 1, 1, 1, 1, 1, 1, 0, 1, 0, 0, 1, 0, 0, 1, 1, 1, 1, 0, 1, 0, 1, 1, 1, 1, 1, 1, 0] c7
noncomputable def r7_35 : Code := Code.sub [1, 1, 1, 1, 1, 1, 1, 1, 1, 1, 1, 0, 1, 0, 0, 1, 0, 0, 1, 1, 1, 1, 0, 1, 0, 1, 1, 1, 1, 1, 1, 1, 0, 0] c7
noncomputable def r7_36 : Code := Code.sub [1, 1, 1, 1, 1, 1, 1, 1, 1, 1, 1, 0, 1, 0, 0, 1, 0, 0, 1, 1, 1, 1, 0, 1, 0, 1, 1, 1, 1, 1, 1, 1, 0, 1, 0] c7
noncomputable def r7_37 : Code := Code.sub [1, 1, 1, 1, 1, 1, 1, 1, 1, 1, 1, 0, 1, 0, 0, 1, 0, 0, 1, 1, 1, 1, 0, 1, 0, 1, 1, 1, 1, 1, 1, 1, 0, 1, 1] c7
noncomputable def r7_38 : Code := Code.sub [1, 1, 1, 1, 1, 1, 1, 1, 1, 1, 1, 0, 1, 0, 0, 1, 0, 0, 1, 1, 1, 1, 0, 1, 0, 1, 1, 1, 1, 1, 1, 1, 1, 0] c7
noncomputable def r7_39 : Code := Code.sub [1, 1, 1, 1, 1, 1, 1, 1, 1, 1, 1, 0, 1, 0, 0, 1, 0, 0, 1, 1, 1, 1, 0, 1, 0, 1, 1, 1, 1, 1, 1, 1, 1, 1, 0, 0] c7
noncomputable def r7_40 : Code := Code.sub [1, 1, 1, 1, 1, 1, 1, 1, 1, 1, 1, 0, 1, 0, 0, 1, 0, 0, 1, 1, 1, 1, 0, 1, 0, 1, 1, 1, 1, 1, 1, 1, 1, 1, 0, 1, 0] c7
noncomputable def r7_41 : Code := Code.sub [1, 1, 1, 1, 1, 1, 1, 1, 1, 1, 1, 0, 1, 0, 0, 1, 0, 0, 1, 1, 1, 1, 0, 1, 0, 1, 1, 1, 1, 1, 1, 1, 1, 1, 0, 1, 1] c7
noncomputable def r7_42 : Code := Code.sub [1, 1, 1, 1, 1, 1, 1, 1, 1, 1, 1, 0, 1, 0, 0, 1, 0, 0, 1, 1, 1, 1, 0, 1, 0, 1, 1, 1, 1, 1, 1, 1, 1, 1, 1, 0, 0] c7
noncomputable def r7_43 : Code := Code.sub [1, 1, 1, 1, 1, 1, 1, 1, 1, 1, 1, 0, 1, 0, 0, 1, 0, 0, 1, 1, 1, 1, 0, 1, 0, 1, 1, 1, 1, 1, 1, 1, 1, 1, 1, 0, 1, 1] c7
noncomputable def r7_44 : Code := Code.sub [1, 1, 1, 1, 1, 1, 1, 1, 1, 1, 1, 0, 1, 0, 0, 1, 0, 0, 1, 1, 1, 1, 0, 1, 0, 1, 1, 1, 1, 1, 1, 1, 1, 1, 1, 1, 0, 0] c7
noncomputable def r7_45 : Code := Code.sub [1, 1, 1, 1, 1, 1, 1, 1, 1, 1, 1, 0, 1, 0, 0, 1, 0, 0, 1, 1, 1, 1, 0, 1, 0, 1, 1, 1, 1, 1, 1, 1, 1, 1, 1, 1, 0, 1, 0] c7
noncomputable def r7_46 : Code := Code.sub [1, 1, 1, 1, 1, 1, 1, 1, 1, 1, 1, 0, 1, 0, 0, 1, 0, 0, 1, 1, 1, 1, 0, 1, 0, 1, 1, 1, 1, 1, 1, 1, 1, 1, 1, 1, 0, 1, 1, 0] c7
noncomputable def r7_47 : Code := Code.sub [1, 1, 1, 1, 1, 1, 1, 1, 1, 1, 1, 0, 1, 0, 0, 1, 0, 0, 1, 1, 1, 1, 0, 1, 0, 1, 1, 1, 1, 1, 1, 1, 1, 1, 1, 1, 0, 1, 1, 1] c7
noncomputable def r7_48 : Code := Code.sub [1, 1, 1, 1, 1, 1, 1, 1, 1, 1, 1, 0, 1, 0, 0, 1, 0, 0, 1, 1, 1, 1, 0, 1, 0, 1, 1, 1, 1, 1, 1, 1, 1, 1, 1, 1, 1, 0] c7
noncomputable def r7_49 : Code := Code.sub [1, 1, 1, 1, 1, 1, 1, 1, 1, 1, 1, 0, 1, 0, 0, 1, 0, 0, 1, 1, 1, 1, 0, 1, 0, 1, 1, 1, 1, 1, 1, 1, 1, 1, 1, 1, 1, 1, 0] c7
noncomputable def r7_50 : Code := Code.sub [1, 1, 1, 1, 1, 1, 1, 1, 1, 1, 1, 0, 1, 0, 0, 1, 0, 0, 1, 1, 1, 1, 0, 1, 0, 1, 1, 1, 1, 1, 1, 1, 1, 1, 1, 1, 1, 1, 1, 0] c7
noncomputable def r7_51 : Code := Code.sub [1, 1, 1, 1, 1, 1, 1, 1, 1, 1, 1, 0, 1, 0, 0, 1, 0, 0, 1, 1, 1, 1, 0, 1, 0, 1, 1, 1, 1, 1, 1, 1, 1, 1, 1, 1, 1, 1, 1, 1, 0, 0] c7
noncomputable def r7_52 : Code := Code.sub [1, 1, 1, 1, 1, 1, 1, 1, 1, 1, 1, 0, 1, 0, 0, 1, 0, 0, 1, 1, 1, 1, 0, 1, 0, 1, 1, 1, 1, 1, 1, 1, 1, 1, 1, 1, 1, 1, 1, 1, 0, 1, 0, 0] c7
noncomputable def r7_53 : Code := Code.sub [1, 1, 1, 1, 1, 1, 1, 1, 1, 1, 1, 0, 1, 0, 0, 1, 0, 0, 1, 1, 1, 1, 0, 1, 0, 1, 1, 1, 1, 1, 1, 1, 1, 1, 1, 1, 1, 1, 1, 1, 1, 0] c7
noncomputable def r7_54 : Code := Code.sub [1, 1, 1, 1, 1, 1, 1, 1, 1, 1, 1, 0, 1, 0, 0, 1, 0, 0, 1, 1, 1, 1, 0, 1, 0, 1, 1, 1, 1, 1, 1, 1, 1, 1, 1, 1, 1, 1, 1, 1, 1, 1, 0] c7
noncomputable def r7_55 : Code := Code.sub [1, 1, 1, 1, 1, 1, 1, 1, 1, 1, 1, 0, 1, 0, 0, 1, 0, 0, 1, 1, 1, 1, 0, 1, 0, 1, 1, 1, 1, 1, 1, 1, 1, 1, 1, 1, 1, 1, 1, 1, 1, 1, 1, 0] c7
noncomputable def r7_56 : Code := Code.sub [1, 1, 1, 1, 1, 1, 1, 1, 1, 1, 1, 0, 1, 0, 0, 1, 0, 0, 1, 1, 1, 1, 0, 1, 0, 1, 1, 1, 1, 1, 1, 1, 1, 1, 1, 1, 1, 1, 1, 1, 1, 1, 1, 1] c7
noncomputable def r7_57 : Code := Code.sub [1, 1, 1, 1, 1, 1, 1, 1, 1, 1, 1, 0, 1, 0, 0, 1, 0, 0, 1, 1, 1, 1, 1, 0] c7
noncomputable def r7_58 : Code := Code.sub [1, 1, 1, 1, 1, 1, 1, 1, 1, 1, 1, 0, 1, 0, 0, 1, 0, 0, 1, 1, 1, 1, 1, 1, 0, 0] c7
noncomputable def r7_59 : Code := Code.sub [1, 1, 1, 1, 1, 1, 1, 1, 1, 1, 1, 0, 1, 0, 0, 1, 1] c7
noncomputable def r7_60 : Code := Code.sub [1, 1, 1, 1, 1, 1, 1, 1, 1, 1, 1, 1, 0] c7
theorem body7 : c7 = (.seq r7_0 (.seq r7_1 (.seq r7_2 (.seq (.seq r7_3 (.block 0 (.loop (.seq (.seq r7_4 (.cond (.tmp 45) .skip (.exit 0))) (.seq (.block 1 r7_5) r7_6))))) (.seq r7_7 (.seq r7_8 (.seq r7_9 (.seq (.seq r7_10 (.cond (.tmp 90) (.seq r7_11 .ret) .skip)) (.seq (.seq r7_12 (.cond (.tmp 92) (.seq r7_13 .ret) .skip)) (.seq r7_14 (.seq (.seq r7_15 (.block 2 (.loop (.seq (.seq r7_16 (.cond (.tmp 97) .skip (.exit 2))) (.seq (.block 3 r7_17) r7_18))))) (.seq (.seq r7_19 (.block 4 (.loop (.seq (.seq r7_20 (.cond (.tmp 113) .skip (.exit 4))) (.seq (.block 5 (.seq r7_21 (.seq r7_22 (.seq r7_23 (.seq r7_24 (.seq (.seq r7_25 (.block 6 (.seq r7_26 (.cond (.tmp 183) (.seq r7_27 r7_28) (.seq r7_29 (.cond (.tmp 199) (.seq r7_30 r7_31) (.seq r7_32 (.cond (.tmp 207) r7_33 (.seq r7_34 (.cond (.tmp 214) (.seq r7_35 (.seq r7_36 r7_37)) (.seq r7_38 (.cond (.tmp 240) (.seq r7_39 (.seq r7_40 r7_41)) (.seq (.seq r7_42 (.cond (.tmp 264) .skip r7_43)) (.cond (.tmp 264) (.seq r7_44 (.seq r7_45 (.seq r7_46 r7_47))) (.seq r7_48 (.cond (.tmp 293) r7_49 (.seq r7_50 (.seq (.seq r7_51 (.cond (.tmp 147) (.seq r7_52 .ret) .skip)) (.seq r7_53 (.seq r7_54 (.seq r7_55 r7_56))))))))))))))))))))) (.seq r7_57 (.cond (.tmp 354) (.seq r7_58 .ret) .skip)))))))) r7_59))))) (.seq r7_60 .ret))))))))))))) := by kernel_rfl
noncomputable def L7_0 : Lt r7_0 := by refine ⟨?l, ?h⟩; case h => simp only [r7_0, c7, bodyOf, Tryd.f7, Code.sub, opsOf, List.map_cons, List.map_nil, strip]; rfl
theorem w7_0 : Wp r7_0 139 [183, 199, 207, 214, 240, 264, 264, 293, 147, 354] [8] [] [] [some 8] (L7_0).1 := w_plain (by kernel_rfl) (L7_0).2
noncomputable def L7_1 : Lt r7_1 := by refine ⟨?l, ?h⟩; case h => simp only [r7_1, c7, bodyOf, Tryd.f7, Code.sub, opsOf, List.map_cons, List.map_nil, strip]; rfl
theorem w7_1 : Wp r7_1 139 [183, 199, 207, 214, 240, 264, 264, 293, 147, 354] [35, 36, 37, 1] [] [1] [some 35, some 36, some 37, some 1] (L7_1).1 := w_plain (by kernel_rfl) (L7_1).2
noncomputable def L7_2 : Lt r7_2 := by refine ⟨?l, ?h⟩; case h => simp only [r7_2, c7, bodyOf, Tryd.f7, Code.sub, opsOf, List.map_cons, List.map_nil, strip]; rfl
theorem w7_2 : Wp r7_2 139 [183, 199, 207, 214, 240, 264, 264, 293, 147, 354] [9] [] [] [some 9] (L7_2).1 := w_plain (by kernel_rfl) (L7_2).2
noncomputable def L7_3 : Lt r7_3 := by refine ⟨?l, ?h⟩; case h => simp only [r7_3, c7, bodyOf, Tryd.f7, Code.sub, opsOf, List.map_cons, List.map_nil, strip]; rfl
theorem w7_3 : Wp r7_3 139 [183, 199, 207, 214, 240, 264, 264, 293, 147, 354] [10] [] [] [some 10] (L7_3).1 := w_plain (by kernel_rfl) (L7_3).2
noncomputable def L7_4 : Lt r7_4 := by refine ⟨?l, ?h⟩; case h => simp only [r7_4, c7, bodyOf, Tryd.f7, Code.sub, opsOf, List.map_cons, List.map_nil, strip]; rfl
theorem w7_4 : Wp r7_4 139 [183, 199, 207, 214, 240, 264, 264, 293, 147, 354] [38, 39, 40, 41, 42, 43, 44, 45] [] [0, 10] [some 38, some 39, some 40, some 41, some 42, some 43, some 44, some 45] (L7_4).1 := w_plain (by kernel_rfl) (L7_4).2
theorem can7_5 : canonOps (opsOf r7_5) = List.filterMap (fun i => ((opsOf r7_5)[i]?).map (renum [0, 1, 2, 3, 4, 5, 6, 7, 8, 9, 10, 11, 12, 13, 14])) [0, 1, 2, 3, 4, 5, 6, 7, 8, 9, 10, 11, 12, 13, 14] := by kernel_rfl
noncomputable def L7_5 : Lc r7_5 := by refine ⟨?l, (congrArg (List.map strip) can7_5).trans ?h⟩; case h => simp only [r7_5, c7, bodyOf, Tryd.f7, Code.sub, opsOf, List.filterMap_cons, List.filterMap_nil, List.getElem?_cons_succ, List.getElem?_cons_zero, Option.map_some, renum, List.map_cons, List.map_nil, strip]; rfl
theorem w7_5 : Wd r7_5 139 [183, 199, 207, 214, 240, 264, 264, 293, 147, 354] [48, 49, 50, 51, 52, 53, 54, 55, 56, 57, 58, 59, 60, 61, 9] [] [9, 0, 10] [some 48, some 49, some 50, some 51, some 52, some 53, some 54, some 55, some 56, some 57, some 58, some 59, some 60, some 61, some 9] (L7_5).1 [(4, [12]), (8, [12]), (9, [12]), (11, [12])] := w_loud (by kernel_rfl) (L7_5).2
noncomputable def L7_6 : Lt r7_6 := by refine ⟨?l, ?h⟩; case h => simp only [r7_6, c7, bodyOf, Tryd.f7, Code.sub, opsOf, List.map_cons, List.map_nil, strip]; rfl
theorem w7_6 : Wp r7_6 139 [183, 199, 207, 214, 240, 264, 264, 293, 147, 354] [46, 47, 10] [] [10] [some 46, some 47, some 10] (L7_6).1 := w_plain (by kernel_rfl) (L7_6).2
noncomputable def L7_7 : Lt r7_7 := by refine ⟨?l, ?h⟩; case h => simp only [r7_7, c7, bodyOf, Tryd.f7, Code.sub, opsOf, List.map_cons, List.map_nil, strip]; rfl
theorem w7_7 : Wp r7_7 139 [183, 199, 207, 214, 240, 264, 264, 293, 147, 354] [62, 63, 11] [] [9] [some 62, some 63, some 11, none] (L7_7).1 := w_plain (by kernel_rfl) (L7_7).2
theorem can7_8 : canonOps (opsOf r7_8) = opsOf r7_8 := by kernel_rfl
noncomputable def L7_8 : Lc r7_8 := by refine ⟨?l, (congrArg (List.map strip) can7_8).trans ?h⟩; case h => simp only [r7_8, c7, bodyOf, Tryd.f7, Code.sub, opsOf, List.map_cons, List.map_nil, strip]; rfl
theorem w7_8 : Wd r7_8 139 [183, 199, 207, 214, 240, 264, 264, 293, 147, 354] [65, 66, 67, 68, 69, 64, 70, 71, 12, 13] [] [11, 1, 2] [some 65, some 66, some 67, some 68, some 69, some 64, some 70, some 71, some 12, some 13] (L7_8).1 [(0, [3, 4])] := w_loud (by kernel_rfl) (L7_8).2
theorem can7_9 : canonOps (opsOf r7_9) = opsOf r7_9 := by kernel_rfl
noncomputable def L7_9 : Lc r7_9 := by refine ⟨?l, (congrArg (List.map strip) can7_9).trans ?h⟩; case h => simp only [r7_9, c7, bodyOf, Tryd.f7, Code.sub, opsOf, List.map_cons, List.map_nil, strip]; rfl
theorem w7_9 : Wd r7_9 139 [183, 199, 207, 214, 240, 264, 264, 293, 147, 354] [72, 73, 74, 75, 76, 14] [] [11, 1, 2] [some 72, some 73, some 74, some 75, some 76, some 14] (L7_9).1 [(0, [3, 4])] := w_loud (by kernel_rfl) (L7_9).2
noncomputable def L7_10 : Lt r7_10 := by refine ⟨?l, ?h⟩; case h => simp only [r7_10, c7, bodyOf, Tryd.f7, Code.sub, opsOf, List.map_cons, List.map_nil, strip]; rfl
theorem w7_10 : Wp r7_10 139 [183, 199, 207, 214, 240, 264, 264, 293, 147, 354] [77, 78, 79, 80, 81, 82, 83, 84, 85, 86, 87, 88, 89, 90] [] [14, 13, 12] [some 77, some 78, some 79, some 80, some 81, some 82, some 83, some 84, some 85, some 86, some 87, some 88, some 89, some 90] (L7_10).1 := w_plain (by kernel_rfl) (L7_10).2
noncomputable def L7_11 : Lt r7_11 := by refine ⟨?l, ?h⟩; case h => simp only [r7_11, c7, bodyOf, Tryd.f7, Code.sub, opsOf, List.map_cons, List.map_nil, strip]; rfl
theorem w7_11 : Wp r7_11 139 [183, 199, 207, 214, 240, 264, 264, 293, 147, 354] [8] [] [] [some 8] (L7_11).1 := w_plain (by kernel_rfl) (L7_11).2
noncomputable def L7_12 : Lt r7_12 := by refine ⟨?l, ?h⟩; case h => simp only [r7_12, c7, bodyOf, Tryd.f7, Code.sub, opsOf, List.map_cons, List.map_nil, strip]; rfl
theorem w7_12 : Wp r7_12 139 [183, 199, 207, 214, 240, 264, 264, 293, 147, 354] [91, 92] [] [13] [some 91, some 92] (L7_12).1 := w_plain (by kernel_rfl) (L7_12).2
noncomputable def L7_13 : Lt r7_13 := by refine ⟨?l, ?h⟩; case h => simp only [r7_13, c7, bodyOf, Tryd.f7, Code.sub, opsOf, List.map_cons, List.map_nil, strip]; rfl
theorem w7_13 : Wp r7_13 139 [183, 199, 207, 214, 240, 264, 264, 293, 147, 354] [8] [] [] [some 8] (L7_13).1 := w_plain (by kernel_rfl) (L7_13).2
noncomputable def L7_14 : Lt r7_14 := by refine ⟨?l, ?h⟩; case h => simp only [r7_14, c7, bodyOf, Tryd.f7, Code.sub, opsOf, List.map_cons, List.map_nil, strip]; rfl
theorem w7_14 : Wp r7_14 139 [183, 199, 207, 214, 240, 264, 264, 293, 147, 354] [93, 15] [] [] [some 93, some 15] (L7_14).1 := w_plain (by kernel_rfl) (L7_14).2
noncomputable def L7_15 : Lt r7_15 := by refine ⟨?l, ?h⟩; case h => simp only [r7_15, c7, bodyOf, Tryd.f7, Code.sub, opsOf, List.map_cons, List.map_nil, strip]; rfl
theorem w7_15 : Wp r7_15 139 [183, 199, 207, 214, 240, 264, 264, 293, 147, 354] [16] [] [] [some 16] (L7_15).1 := w_plain (by kernel_rfl) (L7_15).2
noncomputable def L7_16 : Lt r7_16 := by refine ⟨?l, ?h⟩; case h => simp only [r7_16, c7, bodyOf, Tryd.f7, Code.sub, opsOf, List.map_cons, List.map_nil, strip]; rfl
theorem w7_16 : Wp r7_16 139 [183, 199, 207, 214, 240, 264, 264, 293, 147, 354] [94, 95, 96, 97] [] [16, 9] [some 94, some 95, some 96, some 97] (L7_16).1 := w_plain (by kernel_rfl) (L7_16).2
noncomputable def L7_17 : Lt r7_17 := by refine ⟨?l, ?h⟩; case h => simp only [r7_17, c7, bodyOf, Tryd.f7, Code.sub, opsOf, List.map_cons, List.map_nil, strip]; rfl
theorem w7_17 : Wp r7_17 139 [183, 199, 207, 214, 240, 264, 264, 293, 147, 354] [100, 101, 102, 103, 104, 105, 15] [] [15, 14, 16] [some 100, some 101, some 102, some 103, some 104, some 105, some 15] (L7_17).1 := w_plain (by kernel_rfl) (L7_17).2
noncomputable def L7_18 : Lt r7_18 := by refine ⟨?l, ?h⟩; case h => simp only [r7_18, c7, bodyOf, Tryd.f7, Code.sub, opsOf, List.map_cons, List.map_nil, strip]; rfl
theorem w7_18 : Wp r7_18 139 [183, 199, 207, 214, 240, 264, 264, 293, 147, 354] [98, 99, 16] [] [16] [some 98, some 99, some 16] (L7_18).1 := w_plain (by kernel_rfl) (L7_18).2
noncomputable def L7_19 : Lt r7_19 := by refine ⟨?l, ?h⟩; case h => simp only [r7_19, c7, bodyOf, Tryd.f7, Code.sub, opsOf, List.map_cons, List.map_nil, strip]; rfl
theorem w7_19 : Wp r7_19 139 [183, 199, 207, 214, 240, 264, 264, 293, 147, 354] [17] [] [] [some 17] (L7_19).1 := w_plain (by kernel_rfl) (L7_19).2
noncomputable def L7_20 : Lt r7_20 := by refine ⟨?l, ?h⟩; case h => simp only [r7_20, c7, bodyOf, Tryd.f7, Code.sub, opsOf, List.map_cons, List.map_nil, strip]; rfl
theorem w7_20 : Wp r7_20 139 [183, 199, 207, 214, 240, 264, 264, 293, 147, 354] [106, 107, 108, 109, 110, 111, 112, 113] [] [3, 17] [some 106, some 107, some 108, some 109, some 110, some 111, some 112, some 113] (L7_20).1 := w_plain (by kernel_rfl) (L7_20).2
noncomputable def L7_21 : Lt r7_21 := by refine ⟨?l, ?h⟩; case h => simp only [r7_21, c7, bodyOf, Tryd.f7, Code.sub, opsOf, List.map_cons, List.map_nil, strip]; rfl
theorem w7_21 : Wp r7_21 139 [183, 199, 207, 214, 240, 264, 264, 293, 147, 354] [116, 117, 118, 119, 18] [] [3, 17] [some 116, some 117, some 118, some 119, some 18, none] (L7_21).1 := w_plain (by kernel_rfl) (L7_21).2
noncomputable def L7_22 : Lt r7_22 := by refine ⟨?l, ?h⟩; case h => simp only [r7_22, c7, bodyOf, Tryd.f7, Code.sub, opsOf, List.map_cons, List.map_nil, strip]; rfl
theorem w7_22 : Wp r7_22 139 [183, 199, 207, 214, 240, 264, 264, 293, 147, 354] [120, 121, 122, 123, 124, 125, 126, 127, 19] [] [18, 15] [some 120, some 121, some 122, some 123, some 124, some 125, some 126, some 127, some 19] (L7_22).1 := w_plain (by kernel_rfl) (L7_22).2
noncomputable def L7_23 : Lt r7_23 := by refine ⟨?l, ?h⟩; case h => simp only [r7_23, c7, bodyOf, Tryd.f7, Code.sub, opsOf, List.map_cons, List.map_nil, strip]; rfl
theorem w7_23 : Wp r7_23 139 [183, 199, 207, 214, 240, 264, 264, 293, 147, 354] [128, 129, 130, 131, 132, 133, 134, 135, 20] [] [18, 15] [some 128, some 129, some 130, some 131, some 132, some 133, some 134, some 135, some 20] (L7_23).1 := w_plain (by kernel_rfl) (L7_23).2
noncomputable def L7_24 : Lt r7_24 := by refine ⟨?l, ?h⟩; case h => simp only [r7_24, c7, bodyOf, Tryd.f7, Code.sub, opsOf, List.map_cons, List.map_nil, strip]; rfl
theorem w7_24 : Wp r7_24 139 [183, 199, 207, 214, 240, 264, 264, 293, 147, 354] [21] [] [] [some 21] (L7_24).1 := w_plain (by kernel_rfl) (L7_24).2
noncomputable def L7_25 : Lt r7_25 := by refine ⟨?l, ?h⟩; case h => simp only [r7_25, c7, bodyOf, Tryd.f7, Code.sub, opsOf, List.map_cons, List.map_nil, strip]; rfl
theorem w7_25 : Wp r7_25 139 [183, 199, 207, 214, 240, 264, 264, 293, 147, 354] [136, 137, 138] [] [18] [some 136, some 137, some 138] (L7_25).1 := w_plain (by kernel_rfl) (L7_25).2
noncomputable def L7_26 : Lt r7_26 := by refine ⟨?l, ?h⟩; case h => simp only [r7_26, c7, bodyOf, Tryd.f7, Code.sub, opsOf, List.map_cons, List.map_nil, strip]; rfl
theorem w7_26 : Wp r7_26 139 [183, 199, 207, 214, 240, 264, 264, 293, 147, 354] [] [183] [138] [some 184, some 183] (L7_26).1 := w_plain (by kernel_rfl) (L7_26).2
noncomputable def L7_27 : Lt r7_27 := by refine ⟨?l, ?h⟩; case h => simp only [r7_27, c7, bodyOf, Tryd.f7, Code.sub, opsOf, List.map_cons, List.map_nil, strip]; rfl
theorem w7_27 : Wp r7_27 139 [183, 199, 207, 214, 240, 264, 264, 293, 147, 354] [] [] [12, 18] [some 185, some 186, some 187, some 188, some 189, some 190, some 191] (L7_27).1 := w_plain (by kernel_rfl) (L7_27).2
noncomputable def L7_28 : Lt r7_28 := by refine ⟨?l, ?h⟩; case h => simp only [r7_28, c7, bodyOf, Tryd.f7, Code.sub, opsOf, List.map_cons, List.map_nil, strip]; rfl
theorem w7_28 : Wp r7_28 139 [183, 199, 207, 214, 240, 264, 264, 293, 147, 354] [] [] [14, 18] [some 192, some 193, some 194, some 195, some 196, some 197, some 198] (L7_28).1 := w_plain (by kernel_rfl) (L7_28).2
noncomputable def L7_29 : Lt r7_29 := by refine ⟨?l, ?h⟩; case h => simp only [r7_29, c7, bodyOf, Tryd.f7, Code.sub, opsOf, List.map_cons, List.map_nil, strip]; rfl
theorem w7_29 : Wp r7_29 139 [183, 199, 207, 214, 240, 264, 264, 293, 147, 354] [] [199] [138] [some 200, some 199] (L7_29).1 := w_plain (by kernel_rfl) (L7_29).2
noncomputable def L7_30 : Lt r7_30 := by refine ⟨?l, ?h⟩; case h => simp only [r7_30, c7, bodyOf, Tryd.f7, Code.sub, opsOf, List.map_cons, List.map_nil, strip]; rfl
theorem w7_30 : Wp r7_30 139 [183, 199, 207, 214, 240, 264, 264, 293, 147, 354] [] [] [12, 19] [some 201, some 202, some 203] (L7_30).1 := w_plain (by kernel_rfl) (L7_30).2
noncomputable def L7_31 : Lt r7_31 := by refine ⟨?l, ?h⟩; case h => simp only [r7_31, c7, bodyOf, Tryd.f7, Code.sub, opsOf, List.map_cons, List.map_nil, strip]; rfl
theorem w7_31 : Wp r7_31 139 [183, 199, 207, 214, 240, 264, 264, 293, 147, 354] [] [] [14, 19] [some 204, some 205, some 206] (L7_31).1 := w_plain (by kernel_rfl) (L7_31).2
noncomputable def L7_32 : Lt r7_32 := by refine ⟨?l, ?h⟩; case h => simp only [r7_32, c7, bodyOf, Tryd.f7, Code.sub, opsOf, List.map_cons, List.map_nil, strip]; rfl
theorem w7_32 : Wp r7_32 139 [183, 199, 207, 214, 240, 264, 264, 293, 147, 354] [] [207] [138] [some 208, some 207] (L7_32).1 := w_plain (by kernel_rfl) (L7_32).2
noncomputable def L7_33 : Lt r7_33 := by refine ⟨?l, ?h⟩; case h => simp only [r7_33, c7, bodyOf, Tryd.f7, Code.sub, opsOf, List.map_cons, List.map_nil, strip]; rfl
theorem w7_33 : Wp r7_33 139 [183, 199, 207, 214, 240, 264, 264, 293, 147, 354] [21] [] [12, 14] [some 209, some 210, some 211, some 212, some 213, some 21] (L7_33).1 := w_plain (by kernel_rfl) (L7_33).2
noncomputable def L7_34 : Lt r7_34 := by refine ⟨?l, ?h⟩; case h => simp only [r7_34, c7, bodyOf, Tryd.f7, Code.sub, opsOf, List.map_cons, List.map_nil, strip]; rfl
theorem w7_34 : Wp r7_34 139 [183, 199, 207, 214, 240, 264, 264, 293, 147, 354] [] [214] [138] [some 215, some 214] (L7_34).1 := w_plain (by kernel_rfl) (L7_34).2
noncomputable def L7_35 : Lt r7_35 := by refine ⟨?l, ?h⟩; case h => simp only [r7_35, c7, bodyOf, Tryd.f7, Code.sub, opsOf, List.map_cons, List.map_nil, strip]; rfl
theorem w7_35 : Wp r7_35 139 [183, 199, 207, 214, 240, 264, 264, 293, 147, 354] [22, 23] [] [12, 18] [some 217, some 218, some 219, some 220, some 221, some 216, some 222, some 223, some 22, some 23] (L7_35).1 := w_plain (by kernel_rfl) (L7_35).2
noncomputable def L7_36 : Lt r7_36 := by refine ⟨?l, ?h⟩; case h => simp only [r7_36, c7, bodyOf, Tryd.f7, Code.sub, opsOf, List.map_cons, List.map_nil, strip]; rfl
theorem w7_36 : Wp r7_36 139 [183, 199, 207, 214, 240, 264, 264, 293, 147, 354] [24, 25] [] [14, 18] [some 225, some 226, some 227, some 228, some 229, some 224, some 230, some 231, some 24, some 25] (L7_36).1 := w_plain (by kernel_rfl) (L7_36).2
noncomputable def L7_37 : Lt r7_37 := by refine ⟨?l, ?h⟩; case h => simp only [r7_37, c7, bodyOf, Tryd.f7, Code.sub, opsOf, List.map_cons, List.map_nil, strip]; rfl
theorem w7_37 : Wp r7_37 139 [183, 199, 207, 214, 240, 264, 264, 293, 147, 354] [21] [] [22, 24, 23, 25] [some 232, some 233, some 234, some 235, some 236, some 237, some 238, some 239, some 21] (L7_37).1 := w_plain (by kernel_rfl) (L7_37).2
noncomputable def L7_38 : Lt r7_38 := by refine ⟨?l, ?h⟩; case h => simp only [r7_38, c7, bodyOf, Tryd.f7, Code.sub, opsOf, List.map_cons, List.map_nil, strip]; rfl
theorem w7_38 : Wp r7_38 139 [183, 199, 207, 214, 240, 264, 264, 293, 147, 354] [] [240] [138] [some 241, some 240] (L7_38).1 := w_plain (by kernel_rfl) (L7_38).2
noncomputable def L7_39 : Lt r7_39 := by refine ⟨?l, ?h⟩; case h => simp only [r7_39, c7, bodyOf, Tryd.f7, Code.sub, opsOf, List.map_cons, List.map_nil, strip]; rfl
theorem w7_39 : Wp r7_39 139 [183, 199, 207, 214, 240, 264, 264, 293, 147, 354] [26, 27] [] [12, 18] [some 243, some 244, some 245, some 246, some 242, some 247, some 248, some 26, some 27] (L7_39).1 := w_plain (by kernel_rfl) (L7_39).2
noncomputable def L7_40 : Lt r7_40 := by refine ⟨?l, ?h⟩; case h => simp only [r7_40, c7, bodyOf, Tryd.f7, Code.sub, opsOf, List.map_cons, List.map_nil, strip]; rfl
theorem w7_40 : Wp r7_40 139 [183, 199, 207, 214, 240, 264, 264, 293, 147, 354] [28, 29] [] [14, 18] [some 250, some 251, some 252, some 253, some 249, some 254, some 255, some 28, some 29] (L7_40).1 := w_plain (by kernel_rfl) (L7_40).2
noncomputable def L7_41 : Lt r7_41 := by refine ⟨?l, ?h⟩; case h => simp only [r7_41, c7, bodyOf, Tryd.f7, Code.sub, opsOf, List.map_cons, List.map_nil, strip]; rfl
theorem w7_41 : Wp r7_41 139 [183, 199, 207, 214, 240, 264, 264, 293, 147, 354] [21] [] [26, 28, 27, 29] [some 256, some 257, some 258, some 259, some 260, some 261, some 262, some 263, some 21] (L7_41).1 := w_plain (by kernel_rfl) (L7_41).2
noncomputable def L7_42 : Lt r7_42 := by refine ⟨?l, ?h⟩; case h => simp only [r7_42, c7, bodyOf, Tryd.f7, Code.sub, opsOf, List.map_cons, List.map_nil, strip]; rfl
theorem w7_42 : Wp r7_42 139 [183, 199, 207, 214, 240, 264, 264, 293, 147, 354] [] [264] [138] [some 265, some 264] (L7_42).1 := w_plain (by kernel_rfl) (L7_42).2
noncomputable def L7_43 : Lt r7_43 := by refine ⟨?l, ?h⟩; case h => simp only [r7_43, c7, bodyOf, Tryd.f7, Code.sub, opsOf, List.map_cons, List.map_nil, strip]; rfl
theorem w7_43 : Wp r7_43 139 [183, 199, 207, 214, 240, 264, 264, 293, 147, 354] [] [264] [138] [some 266, some 264] (L7_43).1 := w_plain (by kernel_rfl) (L7_43).2
noncomputable def L7_44 : Lt r7_44 := by refine ⟨?l, ?h⟩; case h => simp only [r7_44, c7, bodyOf, Tryd.f7, Code.sub, opsOf, List.map_cons, List.map_nil, strip]; rfl
theorem w7_44 : Wp r7_44 139 [183, 199, 207, 214, 240, 264, 264, 293, 147, 354] [30, 31] [] [12, 19, 20] [some 268, some 269, some 270, some 271, some 267, some 272, some 273, some 30, some 31] (L7_44).1 := w_plain (by kernel_rfl) (L7_44).2
noncomputable def L7_45 : Lt r7_45 := by refine ⟨?l, ?h⟩; case h => simp only [r7_45, c7, bodyOf, Tryd.f7, Code.sub, opsOf, List.map_cons, List.map_nil, strip]; rfl
theorem w7_45 : Wp r7_45 139 [183, 199, 207, 214, 240, 264, 264, 293, 147, 354] [32, 33] [] [14, 19, 20] [some 275, some 276, some 277, some 278, some 274, some 279, some 280, some 32, some 33] (L7_45).1 := w_plain (by kernel_rfl) (L7_45).2
noncomputable def L7_46 : Lt r7_46 := by refine ⟨?l, ?h⟩; case h => simp only [r7_46, c7, bodyOf, Tryd.f7, Code.sub, opsOf, List.map_cons, List.map_nil, strip]; rfl
theorem w7_46 : Wp r7_46 139 [183, 199, 207, 214, 240, 264, 264, 293, 147, 354] [21] [] [30, 32, 31, 33] [some 281, some 282, some 283, some 284, some 285, some 286, some 287, some 288, some 21] (L7_46).1 := w_plain (by kernel_rfl) (L7_46).2
noncomputable def L7_47 : Lt r7_47 := by refine ⟨?l, ?h⟩; case h => simp only [r7_47, c7, bodyOf, Tryd.f7, Code.sub, opsOf, List.map_cons, List.map_nil, strip]; rfl
theorem w7_47 : Wp r7_47 139 [183, 199, 207, 214, 240, 264, 264, 293, 147, 354] [15] [] [15, 32] [some 289, some 290, some 291, some 292, some 15] (L7_47).1 := w_plain (by kernel_rfl) (L7_47).2
noncomputable def L7_48 : Lt r7_48 := by refine ⟨?l, ?h⟩; case h => simp only [r7_48, c7, bodyOf, Tryd.f7, Code.sub, opsOf, List.map_cons, List.map_nil, strip]; rfl
theorem w7_48 : Wp r7_48 139 [183, 199, 207, 214, 240, 264, 264, 293, 147, 354] [] [293] [138] [some 294, some 293] (L7_48).1 := w_plain (by kernel_rfl) (L7_48).2
theorem can7_49 : canonOps (opsOf r7_49) = opsOf r7_49 := by kernel_rfl
noncomputable def L7_49 : Lc r7_49 := by refine ⟨?l, (congrArg (List.map strip) can7_49).trans ?h⟩; case h => simp only [r7_49, c7, bodyOf, Tryd.f7, Code.sub, opsOf, List.map_cons, List.map_nil, strip]; rfl
theorem w7_49 : Wd r7_49 139 [183, 199, 207, 214, 240, 264, 264, 293, 147, 354] [21] [] [12, 19, 14, 20] [some 295, some 296, some 297, some 298, some 299, some 300, some 301, some 302, some 303, some 304, some 305, some 306, some 307, some 308, some 309, some 310, some 311, some 312, some 313, some 314, some 315, some 316, some 317, some 318, some 319, some 320, some 321, some 322, some 323, some 324, some 325, some 326, some 327, some 328, some 329, some 330, some 331, some 332, some 21] (L7_49).1 [(7, [3, 9]), (13, [3, 9, 15]), (26, [22, 28]), (32, [22, 28, 34])] := w_loud (by kernel_rfl) (L7_49).2
noncomputable def L7_50 : Lt r7_50 := by refine ⟨?l, ?h⟩; case h => simp only [r7_50, c7, bodyOf, Tryd.f7, Code.sub, opsOf, List.map_cons, List.map_nil, strip]; rfl
theorem w7_50 : Wp r7_50 139 [183, 199, 207, 214, 240, 264, 264, 293, 147, 354] [34] [] [12] [some 139, some 140, some 34] (L7_50).1 := w_plain (by kernel_rfl) (L7_50).2
noncomputable def L7_51 : Lt r7_51 := by refine ⟨?l, ?h⟩; case h => simp only [r7_51, c7, bodyOf, Tryd.f7, Code.sub, opsOf, List.map_cons, List.map_nil, strip]; rfl
theorem w7_51 : Wp r7_51 139 [183, 199, 207, 214, 240, 264, 264, 293, 147, 354] [] [147] [34] [some 141, some 142, some 143, some 144, some 145, some 146, some 147] (L7_51).1 := w_plain (by kernel_rfl) (L7_51).2
noncomputable def L7_52 : Lt r7_52 := by refine ⟨?l, ?h⟩; case h => simp only [r7_52, c7, bodyOf, Tryd.f7, Code.sub, opsOf, List.map_cons, List.map_nil, strip]; rfl
theorem w7_52 : Wp r7_52 139 [183, 199, 207, 214, 240, 264, 264, 293, 147, 354] [8] [] [] [some 8] (L7_52).1 := w_plain (by kernel_rfl) (L7_52).2
theorem can7_53 : canonOps (opsOf r7_53) = opsOf r7_53 := by kernel_rfl
noncomputable def L7_53 : Lc r7_53 := by refine ⟨?l, (congrArg (List.map strip) can7_53).trans ?h⟩; case h => simp only [r7_53, c7, bodyOf, Tryd.f7, Code.sub, opsOf, List.map_cons, List.map_nil, strip]; rfl
theorem w7_53 : Wd r7_53 139 [183, 199, 207, 214, 240, 264, 264, 293, 147, 354] [21] [] [34, 14] [some 148, some 149, some 150, some 151, some 152, some 153, some 154, some 155, some 156, some 157, some 158, some 159, some 160, some 161, some 162, some 163, some 164, some 165, some 166, some 167, some 168, some 169, some 170, some 171, some 172, some 173, some 174, some 175, some 176, some 21] (L7_53).1 [(6, [1, 2, 10]), (9, [1, 2, 10]), (17, [13, 18]), (26, [22, 30])] := w_loud (by kernel_rfl) (L7_53).2
noncomputable def L7_54 : Lt r7_54 := by refine ⟨?l, ?h⟩; case h => simp only [r7_54, c7, bodyOf, Tryd.f7, Code.sub, opsOf, List.map_cons, List.map_nil, strip]; rfl
theorem w7_54 : Wp r7_54 139 [183, 199, 207, 214, 240, 264, 264, 293, 147, 354] [] [] [34] [some 177, some 178] (L7_54).1 := w_plain (by kernel_rfl) (L7_54).2
noncomputable def L7_55 : Lt r7_55 := by refine ⟨?l, ?h⟩; case h => simp only [r7_55, c7, bodyOf, Tryd.f7, Code.sub, opsOf, List.map_cons, List.map_nil, strip]; rfl
theorem w7_55 : Wp r7_55 139 [183, 199, 207, 214, 240, 264, 264, 293, 147, 354] [] [] [34] [some 179, some 180] (L7_55).1 := w_plain (by kernel_rfl) (L7_55).2
noncomputable def L7_56 : Lt r7_56 := by refine ⟨?l, ?h⟩; case h => simp only [r7_56, c7, bodyOf, Tryd.f7, Code.sub, opsOf, List.map_cons, List.map_nil, strip]; rfl
theorem w7_56 : Wp r7_56 139 [183, 199, 207, 214, 240, 264, 264, 293, 147, 354] [] [] [34] [some 181, some 182] (L7_56).1 := w_plain (by kernel_rfl) (L7_56).2
theorem can7_57 : canonOps (opsOf r7_57) = opsOf r7_57 := by kernel_rfl
noncomputable def L7_57 : Lc r7_57 := by refine ⟨?l, (congrArg (List.map strip) can7_57).trans ?h⟩; case h => simp only [r7_57, c7, bodyOf, Tryd.f7, Code.sub, opsOf, List.map_cons, List.map_nil, strip]; rfl
theorem w7_57 : Wd r7_57 139 [183, 199, 207, 214, 240, 264, 264, 293, 147, 354] [] [354] [21, 18, 12, 14] [some 333, some 334, some 335, some 336, some 337, some 338, some 339, some 340, some 341, some 342, some 343, some 344, some 345, some 346, some 347, some 348, some 349, some 350, some 351, some 352, some 353, some 354] (L7_57).1 [(5, [6]), (9, [6, 10]), (19, [15, 22])] := w_loud (by kernel_rfl) (L7_57).2
noncomputable def L7_58 : Lt r7_58 := by refine ⟨?l, ?h⟩; case h => simp only [r7_58, c7, bodyOf, Tryd.f7, Code.sub, opsOf, List.map_cons, List.map_nil, strip]; rfl
theorem w7_58 : Wp r7_58 139 [183, 199, 207, 214, 240, 264, 264, 293, 147, 354] [8] [] [] [some 8] (L7_58).1 := w_plain (by kernel_rfl) (L7_58).2
noncomputable def L7_59 : Lt r7_59 := by refine ⟨?l, ?h⟩; case h => simp only [r7_59, c7, bodyOf, Tryd.f7, Code.sub, opsOf, List.map_cons, List.map_nil, strip]; rfl
theorem w7_59 : Wp r7_59 139 [183, 199, 207, 214, 240, 264, 264, 293, 147, 354] [114, 115, 17] [] [17] [some 114, some 115, some 17] (L7_59).1 := w_plain (by kernel_rfl) (L7_59).2
theorem can7_60 : canonOps (opsOf r7_60) = opsOf r7_60 := by kernel_rfl
noncomputable def L7_60 : Lc r7_60 := by refine ⟨?l, (congrArg (List.map strip) can7_60).trans ?h⟩; case h => simp only [r7_60, c7, bodyOf, Tryd.f7, Code.sub, opsOf, List.map_cons, List.map_nil, strip]; rfl
theorem w7_60 : Wd r7_60 139 [183, 199, 207, 214, 240, 264, 264, 293, 147, 354] [8] [] [12, 14] [some 355, some 356, some 357, some 358, some 359, some 360, some 361, some 362, some 363, some 364, some 365, some 366, some 367, some 368, some 369, some 370, some 371, some 372, some 373, some 374, some 375, some 376, some 377, some 378, some 379, some 380, some 381, some 8] (L7_60).1 [(6, [1, 2, 10]), (9, [1, 2, 10]), (17, [13, 18])] := w_loud (by kernel_rfl) (L7_60).2
theorem k7 : FnIs TT 7 c7 [.tmp 8] 4 := ⟨Tryd.f7, by kernel_rfl, by simp only [Tryd.f7, c7, bodyOf], by kernel_rfl, of_decide_eq_true (by kernel_rfl)⟩
noncomputable def c8 : Code := bodyOf Tryd.f8
noncomputable def r8_0 : Code := Code.sub [0] c8
noncomputable def r8_1 : Code := Code.sub [1, 0] c8
noncomputable def r8_2 : Code := Code.sub [1, 1, 0, 0] c8
noncomputable def r8_3 : Code := Code.sub [1, 1, 0, 1, 0, 0] c8
noncomputable def r8_4 : Code := Code.sub [1, 1, 1, 0] c8
noncomputable def r8_5 : Code := Code.sub [1, 1, 1, 1, 0, 0] c8
noncomputable def r8_6 : Code := Code.sub [1, 1, 1, 1, 0, 1, 0, 0, 0] c8
noncomputable def r8_7 : Code := Code.sub [1, 1, 1, 1, 0, 1, 0, 0, 1, 1, 0, 0, 0] c8
noncomputable def r8_8 : Code := Code.sub [1, 1, 1, 1, 0, 1, 0, 0, 1, 1, 0, 0, 1] c8
noncomputable def r8_9 : Code := Code.sub [1, 1, 1, 1, 0, 1, 0, 0, 1, 1, 1] c8
noncomputable def r8_10 : Code := Code.sub [1, 1, 1, 1, 1, 0, 0] c8
noncomputable def r8_11 : Code := Code.sub [1, 1, 1, 1, 1, 0, 1, 0, 0, 0] c8
noncomputable def r8_12 : Code := Code.sub [1, 1, 1, 1, 1, 0, 1, 0, 0, 1, 1, 0, 0, 0] c8
noncomputable def r8_13 : Code := Code.sub [1, 1, 1, 1, 1, 0, 1, 0, 0, 1, 1, 0, 0, 1, 0] c8
noncomputable def r8_14 : Code := Code.sub [1, 1, 1, 1, 1, 0, 1, 0, 0, 1, 1, 0, 0, 1, 1, 0, 0] c8
noncomputable def r8_15 : Code := Code.sub [1, 1, 1, 1, 1, 0, 1, 0, 0, 1, 1, 0, 0, 1, 1, 0, 1, 0, 0] c8
noncomputable def r8_16 : Code := Code.sub [1, 1, 1, 1, 1, 0, 1, 0, 0, 1, 1, 0, 0, 1, 1, 1] c8
noncomputable def r8_17 : Code := Code.sub [1, 1, 1, 1, 1, 0, 1, 0, 0, 1, 1, 1] c8
noncomputable def r8_18 : Code := Code.sub [1, 1, 1, 1, 1, 1, 0] c8
theorem body8 : c8 = (.seq r8_0 (.seq r8_1 (.seq (.seq r8_2 (.cond (.tmp 25) (.seq r8_3 .ret) .skip)) (.seq r8_4 (.seq (.seq r8_5 (.block 0 (.loop (.seq r8_6 (.seq (.cond (.tmp 36) .skip (.exit 0)) (.seq (.block 1 (.seq r8_7 r8_8)) r8_9)))))) (.seq (.seq r8_10 (.block 2 (.loop (.seq r8_11 (.seq (.cond (.tmp 60) .skip (.exit 2)) (.seq (.block 3 (.seq r8_12 (.seq r8_13 (.seq (.seq r8_14 (.cond (.tmp 70) (.seq r8_15 .ret) .skip)) r8_16)))) r8_17)))))) (.seq r8_18 .ret))))))) := by kernel_rfl
noncomputable def L8_0 : Lt r8_0 := by refine ⟨?l, ?h⟩; case h => simp only [r8_0, c8, bodyOf, Tryd.f8, Code.sub, opsOf, List.map_cons, List.map_nil, strip]; rfl
theorem w8_0 : Wp r8_0 60 [60, 70] [3, 6, 7] [] [0] [some 3, some 6, some 7] (L8_0).1 := w_plain (by kernel_rfl) (L8_0).2
noncomputable def L8_1 : Lt r8_1 := by refine ⟨?l, ?h⟩; case h => simp only [r8_1, c8, bodyOf, Tryd.f8, Code.sub, opsOf, List.map_cons, List.map_nil, strip]; rfl
theorem w8_1 : Wp r8_1 60 [60, 70] [18, 19, 20, 21, 17, 22, 23, 8, 9] [] [1] [some 18, some 19, some 20, some 21, some 17, some 22, some 23, some 8, some 9] (L8_1).1 := w_plain (by kernel_rfl) (L8_1).2
noncomputable def L8_2 : Lt r8_2 := by refine ⟨?l, ?h⟩; case h => simp only [r8_2, c8, bodyOf, Tryd.f8, Code.sub, opsOf, List.map_cons, List.map_nil, strip]; rfl
theorem w8_2 : Wp r8_2 60 [60, 70] [24, 25] [] [9] [some 24, some 25] (L8_2).1 := w_plain (by kernel_rfl) (L8_2).2
noncomputable def L8_3 : Lt r8_3 := by refine ⟨?l, ?h⟩; case h => simp only [r8_3, c8, bodyOf, Tryd.f8, Code.sub, opsOf, List.map_cons, List.map_nil, strip]; rfl
theorem w8_3 : Wp r8_3 60 [60, 70] [6, 7] [] [] [some 6, some 7] (L8_3).1 := w_plain (by kernel_rfl) (L8_3).2
noncomputable def L8_4 : Lt r8_4 := by refine ⟨?l, ?h⟩; case h => simp only [r8_4, c8, bodyOf, Tryd.f8, Code.sub, opsOf, List.map_cons, List.map_nil, strip]; rfl
theorem w8_4 : Wp r8_4 60 [60, 70] [26, 27, 28, 29, 30, 31, 10] [] [8, 2] [some 26, some 27, some 28, some 29, some 30, some 31, some 10] (L8_4).1 := w_plain (by kernel_rfl) (L8_4).2
noncomputable def L8_5 : Lt r8_5 := by refine ⟨?l, ?h⟩; case h => simp only [r8_5, c8, bodyOf, Tryd.f8, Code.sub, opsOf, List.map_cons, List.map_nil, strip]; rfl
theorem w8_5 : Wp r8_5 60 [60, 70] [32, 33, 34, 35] [] [3] [some 32, some 33, some 34, some 35] (L8_5).1 := w_plain (by kernel_rfl) (L8_5).2
noncomputable def L8_6 : Lt r8_6 := by refine ⟨?l, ?h⟩; case h => simp only [r8_6, c8, bodyOf, Tryd.f8, Code.sub, opsOf, List.map_cons, List.map_nil, strip]; rfl
theorem w8_6 : Wp r8_6 60 [60, 70] [36] [] [35, 34] [some 36] (L8_6).1 := w_plain (by kernel_rfl) (L8_6).2
noncomputable def L8_7 : Lt r8_7 := by refine ⟨?l, ?h⟩; case h => simp only [r8_7, c8, bodyOf, Tryd.f8, Code.sub, opsOf, List.map_cons, List.map_nil, strip]; rfl
theorem w8_7 : Wp r8_7 60 [60, 70] [37, 38, 12] [] [33, 35] [some 37, some 38, some 12, none] (L8_7).1 := w_plain (by kernel_rfl) (L8_7).2
theorem can8_8 : canonOps (opsOf r8_8) = List.filterMap (fun i => ((opsOf r8_8)[i]?).map (renum [0, 1, 2, 3, 4, 5, 6, 8, 9, 7, 10, 11, 12, 13, 14, 15, 16])) [0, 1, 2, 3, 4, 5, 6, 8, 9, 7, 10, 11, 12, 13, 14, 15, 16] := by kernel_rfl
noncomputable def L8_8 : Lc r8_8 := by refine ⟨?l, (congrArg (List.map strip) can8_8).trans ?h⟩; case h => simp only [r8_8, c8, bodyOf, Tryd.f8, Code.sub, opsOf, List.filterMap_cons, List.filterMap_nil, List.getElem?_cons_succ, List.getElem?_cons_zero, Option.map_some, renum, List.map_cons, List.map_nil, strip]; rfl
theorem w8_8 : Wd r8_8 60 [60, 70] [39, 40, 41, 42, 43, 44, 45, 47, 48, 46, 49, 50, 51, 52, 53, 54] [] [10, 12] [some 39, some 40, some 41, some 42, some 43, some 44, some 45, some 47, some 48, some 46, some 49, some 50, some 51, some 52, some 53, some 54, none] (L8_8).1 [(4, [9, 10, 12, 13]), (6, [9, 10, 12]), (8, [9, 10])] := w_loud (by kernel_rfl) (L8_8).2
noncomputable def L8_9 : Lt r8_9 := by refine ⟨?l, ?h⟩; case h => simp only [r8_9, c8, bodyOf, Tryd.f8, Code.sub, opsOf, List.map_cons, List.map_nil, strip]; rfl
theorem w8_9 : Wp r8_9 60 [60, 70] [55, 35] [] [35] [some 55, some 35] (L8_9).1 := w_plain (by kernel_rfl) (L8_9).2
noncomputable def L8_10 : Lt r8_10 := by refine ⟨?l, ?h⟩; case h => simp only [r8_10, c8, bodyOf, Tryd.f8, Code.sub, opsOf, List.map_cons, List.map_nil, strip]; rfl
theorem w8_10 : Wp r8_10 60 [60, 70] [56, 57, 58, 59] [] [3] [some 56, some 57, some 58, some 59] (L8_10).1 := w_plain (by kernel_rfl) (L8_10).2
noncomputable def L8_11 : Lt r8_11 := by refine ⟨?l, ?h⟩; case h => simp only [r8_11, c8, bodyOf, Tryd.f8, Code.sub, opsOf, List.map_cons, List.map_nil, strip]; rfl
theorem w8_11 : Wp r8_11 60 [60, 70] [] [60] [59, 58] [some 60] (L8_11).1 := w_plain (by kernel_rfl) (L8_11).2
noncomputable def L8_12 : Lt r8_12 := by refine ⟨?l, ?h⟩; case h => simp only [r8_12, c8, bodyOf, Tryd.f8, Code.sub, opsOf, List.map_cons, List.map_nil, strip]; rfl
theorem w8_12 : Wp r8_12 60 [60, 70] [14] [] [57, 59] [some 61, some 62, some 14] (L8_12).1 := w_plain (by kernel_rfl) (L8_12).2
noncomputable def L8_13 : Lt r8_13 := by refine ⟨?l, ?h⟩; case h => simp only [r8_13, c8, bodyOf, Tryd.f8, Code.sub, opsOf, List.map_cons, List.map_nil, strip]; rfl
theorem w8_13 : Wp r8_13 60 [60, 70] [15, 16] [] [8, 14] [some 64, some 65, some 66, some 63, some 67, some 68, some 15, some 16] (L8_13).1 := w_plain (by kernel_rfl) (L8_13).2
noncomputable def L8_14 : Lt r8_14 := by refine ⟨?l, ?h⟩; case h => simp only [r8_14, c8, bodyOf, Tryd.f8, Code.sub, opsOf, List.map_cons, List.map_nil, strip]; rfl
theorem w8_14 : Wp r8_14 60 [60, 70] [] [70] [16] [some 69, some 70] (L8_14).1 := w_plain (by kernel_rfl) (L8_14).2
noncomputable def L8_15 : Lt r8_15 := by refine ⟨?l, ?h⟩; case h => simp only [r8_15, c8, bodyOf, Tryd.f8, Code.sub, opsOf, List.map_cons, List.map_nil, strip]; rfl
theorem w8_15 : Wp r8_15 60 [60, 70] [6, 7] [] [] [some 6, some 7] (L8_15).1 := w_plain (by kernel_rfl) (L8_15).2
noncomputable def L8_16 : Lt r8_16 := by refine ⟨?l, ?h⟩; case h => simp only [r8_16, c8, bodyOf, Tryd.f8, Code.sub, opsOf, List.map_cons, List.map_nil, strip]; rfl
theorem w8_16 : Wp r8_16 60 [60, 70] [] [] [10, 15] [some 71, some 72, some 73, some 74, some 75, some 76, some 77, some 78, some 79, some 80, none] (L8_16).1 := w_plain (by kernel_rfl) (L8_16).2
noncomputable def L8_17 : Lt r8_17 := by refine ⟨?l, ?h⟩; case h => simp only [r8_17, c8, bodyOf, Tryd.f8, Code.sub, opsOf, List.map_cons, List.map_nil, strip]; rfl
theorem w8_17 : Wp r8_17 60 [60, 70] [59] [] [59] [some 81, some 59] (L8_17).1 := w_plain (by kernel_rfl) (L8_17).2
noncomputable def L8_18 : Lt r8_18 := by refine ⟨?l, ?h⟩; case h => simp only [r8_18, c8, bodyOf, Tryd.f8, Code.sub, opsOf, List.map_cons, List.map_nil, strip]; rfl
theorem w8_18 : Wp r8_18 60 [60, 70] [6, 7] [] [10] [some 82, some 6, some 7] (L8_18).1 := w_plain (by kernel_rfl) (L8_18).2
theorem k8 : FnIs TT 8 c8 [.tmp 6, .tmp 7] 3 := ⟨Tryd.f8, by kernel_rfl, by simp only [Tryd.f8, c8, bodyOf], by kernel_rfl, of_decide_eq_true (by kernel_rfl)⟩
noncomputable def c9 : Code := bodyOf Tryd.f9
noncomputable def r9_0 : Code := Code.sub [0] c9
noncomputable def r9_1 : Code := Code.sub [1, 0] c9
theorem body9 : c9 = (.seq r9_0 (.seq r9_1 .ret)) := by kernel_rfl
noncomputable def L9_0 : Lt r9_0 := by refine ⟨?l, ?h⟩; case h => simp only [r9_0, c9, bodyOf, Tryd.f9, Code.sub, opsOf, List.map_cons, List.map_nil, strip]; rfl
theorem w9_0 : Wp r9_0 3 [] [2] [] [] [some 2] (L9_0).1 := w_plain (by kernel_rfl) (L9_0).2
noncomputable def L9_1 : Lt r9_1 := by refine ⟨?l, ?h⟩; case h => simp only [r9_1, c9, bodyOf, Tryd.f9, Code.sub, opsOf, List.map_cons, List.map_nil, strip]; rfl
theorem w9_1 : Wp r9_1 3 [] [] [] [0, 2] [some 3, some 4, some 5, some 6, some 7, some 8, some 9, some 10, some 11, some 12, none] (L9_1).1 := w_plain (by kernel_rfl) (L9_1).2
theorem k9 : FnIs TT 9 c9 [.cell 2 31] 1 := ⟨Tryd.f9, by kernel_rfl, by simp only [Tryd.f9, c9, bodyOf], by kernel_rfl, of_decide_eq_true (by kernel_rfl)⟩
noncomputable def c10 : Code := bodyOf Tryd.f10
noncomputable def r10_0 : Code := Code.sub [0] c10
noncomputable def r10_1 : Code := Code.sub [1, 0] c10
noncomputable def r10_2 : Code := Code.sub [1, 1, 0, 0] c10
noncomputable def r10_3 : Code := Code.sub [1, 1, 0, 1, 0, 0] c10
noncomputable def r10_4 : Code := Code.sub [1, 1, 1, 0] c10
noncomputable def r10_5 : Code := Code.sub [1, 1, 1, 1, 0] c10
noncomputable def r10_6 : Code := Code.sub [1, 1, 1, 1, 1, 0] c10
theorem body10 : c10 = (.seq r10_0 (.seq r10_1 (.seq (.seq r10_2 (.cond (.tmp 20) (.seq r10_3 .ret) .skip)) (.seq r10_4 (.seq r10_5 (.seq r10_6 .ret)))))) := by kernel_rfl
noncomputable def L10_0 : Lt r10_0 := by refine ⟨?l, ?h⟩; case h => simp only [r10_0, c10, bodyOf, Tryd.f10, Code.sub, opsOf, List.map_cons, List.map_nil, strip]; rfl
theorem w10_0 : Wp r10_0 4 [20] [0] [] [] [some 0] (L10_0).1 := w_plain (by kernel_rfl) (L10_0).2
noncomputable def L10_1 : Lt r10_1 := by refine ⟨?l, ?h⟩; case h => simp only [r10_1, c10, bodyOf, Tryd.f10, Code.sub, opsOf, List.map_cons, List.map_nil, strip]; rfl
theorem w10_1 : Wp r10_1 4 [20] [1, 2] [] [] [some 5, some 6, some 7, some 4, some 8, some 9, some 1, some 2] (L10_1).1 := w_plain (by kernel_rfl) (L10_1).2
noncomputable def L10_2 : Lt r10_2 := by refine ⟨?l, ?h⟩; case h => simp only [r10_2, c10, bodyOf, Tryd.f10, Code.sub, opsOf, List.map_cons, List.map_nil, strip]; rfl
theorem w10_2 : Wp r10_2 4 [20] [] [20] [2, 1] [some 10, some 11, some 12, some 13, some 14, some 15, some 16, some 17, some 18, some 19, some 20] (L10_2).1 := w_plain (by kernel_rfl) (L10_2).2
noncomputable def L10_3 : Lt r10_3 := by refine ⟨?l, ?h⟩; case h => simp only [r10_3, c10, bodyOf, Tryd.f10, Code.sub, opsOf, List.map_cons, List.map_nil, strip]; rfl
theorem w10_3 : Wp r10_3 4 [20] [0] [] [] [some 0] (L10_3).1 := w_plain (by kernel_rfl) (L10_3).2
noncomputable def L10_4 : Lt r10_4 := by refine ⟨?l, ?h⟩; case h => simp only [r10_4, c10, bodyOf, Tryd.f10, Code.sub, opsOf, List.map_cons, List.map_nil, strip]; rfl
theorem w10_4 : Wp r10_4 4 [20] [] [] [1] [some 21, some 22] (L10_4).1 := w_plain (by kernel_rfl) (L10_4).2
noncomputable def L10_5 : Lt r10_5 := by refine ⟨?l, ?h⟩; case h => simp only [r10_5, c10, bodyOf, Tryd.f10, Code.sub, opsOf, List.map_cons, List.map_nil, strip]; rfl
theorem w10_5 : Wp r10_5 4 [20] [3] [] [1] [some 23, some 24, some 3] (L10_5).1 := w_plain (by kernel_rfl) (L10_5).2
noncomputable def L10_6 : Lt r10_6 := by refine ⟨?l, ?h⟩; case h => simp only [r10_6, c10, bodyOf, Tryd.f10, Code.sub, opsOf, List.map_cons, List.map_nil, strip]; rfl
theorem w10_6 : Wp r10_6 4 [20] [0] [] [1, 3] [some 25, some 26, some 27, some 28, some 29, some 30, some 31, some 32, some 33, some 34, some 35, some 36, some 37, some 38, some 39, some 40, some 41, some 42, some 43, some 44, some 45, some 46, some 47, some 48, some 49, some 0] (L10_6).1 := w_plain (by kernel_rfl) (L10_6).2
theorem k10 : FnIs TT 10 c10 [.tmp 0] 0 := ⟨Tryd.f10, by kernel_rfl, by simp only [Tryd.f10, c10, bodyOf], by kernel_rfl, of_decide_eq_true (by kernel_rfl)⟩
noncomputable def c11 : Code := bodyOf Tryd.f11
noncomputable def r11_0 : Code := Code.sub [0] c11
noncomputable def r11_1 : Code := Code.sub [1, 0] c11
noncomputable def r11_2 : Code := Code.sub [1, 1, 0, 0] c11
noncomputable def r11_3 : Code := Code.sub [1, 1, 0, 1, 0] c11
noncomputable def r11_4 : Code := Code.sub [1, 1, 1, 0] c11
theorem body11 : c11 = (.seq r11_0 (.seq r11_1 (.seq (.seq r11_2 (.cond (.tmp 9) r11_3 .skip)) (.seq r11_4 .ret)))) := by kernel_rfl
noncomputable def L11_0 : Lt r11_0 := by refine ⟨?l, ?h⟩; case h => simp only [r11_0, c11, bodyOf, Tryd.f11, Code.sub, opsOf, List.map_cons, List.map_nil, strip]; rfl
theorem w11_0 : Wp r11_0 5 [9] [4] [] [] [some 4] (L11_0).1 := w_plain (by kernel_rfl) (L11_0).2
noncomputable def L11_1 : Lt r11_1 := by refine ⟨?l, ?h⟩; case h => simp only [r11_1, c11, bodyOf, Tryd.f11, Code.sub, opsOf, List.map_cons, List.map_nil, strip]; rfl
theorem w11_1 : Wp r11_1 5 [9] [0] [] [0, 1] [some 5, some 6, some 7, some 0] (L11_1).1 := w_plain (by kernel_rfl) (L11_1).2
noncomputable def L11_2 : Lt r11_2 := by refine ⟨?l, ?h⟩; case h => simp only [r11_2, c11, bodyOf, Tryd.f11, Code.sub, opsOf, List.map_cons, List.map_nil, strip]; rfl
theorem w11_2 : Wp r11_2 5 [9] [] [9] [0] [some 8, some 9] (L11_2).1 := w_plain (by kernel_rfl) (L11_2).2
noncomputable def L11_3 : Lt r11_3 := by refine ⟨?l, ?h⟩; case h => simp only [r11_3, c11, bodyOf, Tryd.f11, Code.sub, opsOf, List.map_cons, List.map_nil, strip]; rfl
theorem w11_3 : Wp r11_3 5 [9] [0] [] [0, 1] [some 10, some 11, some 12, some 0] (L11_3).1 := w_plain (by kernel_rfl) (L11_3).2
noncomputable def L11_4 : Lt r11_4 := by refine ⟨?l, ?h⟩; case h => simp only [r11_4, c11, bodyOf, Tryd.f11, Code.sub, opsOf, List.map_cons, List.map_nil, strip]; rfl
theorem w11_4 : Wp r11_4 5 [9] [4] [] [0] [some 13, some 4] (L11_4).1 := w_plain (by kernel_rfl) (L11_4).2
theorem k11 : FnIs TT 11 c11 [.tmp 4] 2 := ⟨Tryd.f11, by kernel_rfl, by simp only [Tryd.f11, c11, bodyOf], by kernel_rfl, of_decide_eq_true (by kernel_rfl)⟩
noncomputable def c12 : Code := bodyOf Tryd.f12
noncomputable def r12_0 : Code := Code.sub [0] c12
noncomputable def r12_1 : Code := Code.sub [1, 0, 0] c12
noncomputable def r12_2 : Code := Code.sub [1, 0, 1, 1, 0] c12
noncomputable def r12_3 : Code := Code.sub [1, 0, 1, 1, 1, 1] c12
theorem body12 : c12 = (.seq r12_0 (.block 0 (.seq r12_1 (.cond (.tmp 25) .skip (.seq r12_2 (.cond (.tmp 28) .skip r12_3)))))) := by kernel_rfl
noncomputable def L12_0 : Lt r12_0 := by refine ⟨?l, ?h⟩; case h => simp only [r12_0, c12, bodyOf, Tryd.f12, Code.sub, opsOf, List.map_cons, List.map_nil, strip]; rfl
theorem w12_0 : Wp r12_0 8 [25, 28] [6, 7] [] [0, 1, 2] [some 9, some 10, some 11, some 12, some 8, some 13, some 14, some 6, some 7] (L12_0).1 := w_plain (by kernel_rfl) (L12_0).2
noncomputable def L12_1 : Lt r12_1 := by refine ⟨?l, ?h⟩; case h => simp only [r12_1, c12, bodyOf, Tryd.f12, Code.sub, opsOf, List.map_cons, List.map_nil, strip]; rfl
theorem w12_1 : Wp r12_1 8 [25, 28] [] [25] [7] [some 26, some 27, some 25] (L12_1).1 := w_plain (by kernel_rfl) (L12_1).2
noncomputable def L12_2 : Lt r12_2 := by refine ⟨?l, ?h⟩; case h => simp only [r12_2, c12, bodyOf, Tryd.f12, Code.sub, opsOf, List.map_cons, List.map_nil, strip]; rfl
theorem w12_2 : Wp r12_2 8 [25, 28] [] [28] [0] [some 29, some 30, some 28] (L12_2).1 := w_plain (by kernel_rfl) (L12_2).2
noncomputable def L12_3 : Lt r12_3 := by refine ⟨?l, ?h⟩; case h => simp only [r12_3, c12, bodyOf, Tryd.f12, Code.sub, opsOf, List.map_cons, List.map_nil, strip]; rfl
theorem w12_3 : Wp r12_3 8 [25, 28] [] [] [0, 6] [some 15, some 16, some 17, some 18, some 19, some 20, some 21, some 22, some 23, some 24, none] (L12_3).1 := w_plain (by kernel_rfl) (L12_3).2
theorem k12 : FnIs TT 12 c12 [] 3 := ⟨Tryd.f12, by kernel_rfl, by simp only [Tryd.f12, c12, bodyOf], by kernel_rfl, of_decide_eq_true (by kernel_rfl)⟩
noncomputable def c13 : Code := bodyOf Tryd.f13
noncomputable def r13_0 : Code := Code.sub [0] c13
noncomputable def r13_1 : Code := Code.sub [1, 0] c13
theorem body13 : c13 = (.seq r13_0 (.seq r13_1 .ret)) := by kernel_rfl
noncomputable def L13_0 : Lt r13_0 := by refine ⟨?l, ?h⟩; case h => simp only [r13_0, c13, bodyOf, Tryd.f13, Code.sub, opsOf, List.map_cons, List.map_nil, strip]; rfl
theorem w13_0 : Wp r13_0 3 [] [2] [] [] [some 2] (L13_0).1 := w_plain (by kernel_rfl) (L13_0).2
noncomputable def L13_1 : Lt r13_1 := by refine ⟨?l, ?h⟩; case h => simp only [r13_1, c13, bodyOf, Tryd.f13, Code.sub, opsOf, List.map_cons, List.map_nil, strip]; rfl
theorem w13_1 : Wp r13_1 3 [] [2] [] [0] [some 3, some 4, some 5, some 6, some 7, some 8, some 2] (L13_1).1 := w_plain (by kernel_rfl) (L13_1).2
theorem k13 : FnIs TT 13 c13 [.tmp 2] 1 := ⟨Tryd.f13, by kernel_rfl, by simp only [Tryd.f13, c13, bodyOf], by kernel_rfl, of_decide_eq_true (by kernel_rfl)⟩
noncomputable def c14 : Code := bodyOf Tryd.f14
noncomputable def r14_0 : Code := Code.sub [0] c14
noncomputable def r14_1 : Code := Code.sub [1, 0] c14
theorem body14 : c14 = (.seq r14_0 (.seq r14_1 .ret)) := by kernel_rfl
noncomputable def L14_0 : Lt r14_0 := by refine ⟨?l, ?h⟩; case h => simp only [r14_0, c14, bodyOf, Tryd.f14, Code.sub, opsOf, List.map_cons, List.map_nil, strip]; rfl
theorem w14_0 : Wp r14_0 3 [] [2] [] [] [some 2] (L14_0).1 := w_plain (by kernel_rfl) (L14_0).2
noncomputable def L14_1 : Lt r14_1 := by refine ⟨?l, ?h⟩; case h => simp only [r14_1, c14, bodyOf, Tryd.f14, Code.sub, opsOf, List.map_cons, List.map_nil, strip]; rfl
theorem w14_1 : Wp r14_1 3 [] [2] [] [0] [some 3, some 4, some 5, some 6, some 7, some 8, some 2] (L14_1).1 := w_plain (by kernel_rfl) (L14_1).2
theorem k14 : FnIs TT 14 c14 [.tmp 2] 1 := ⟨Tryd.f14, by kernel_rfl, by simp only [Tryd.f14, c14, bodyOf], by kernel_rfl, of_decide_eq_true (by kernel_rfl)⟩
noncomputable def c15 : Code := bodyOf Tryd.f15
noncomputable def r15_0 : Code := Code.sub [0] c15
noncomputable def r15_1 : Code := Code.sub [1, 0, 0] c15
noncomputable def r15_2 : Code := Code.sub [1, 0, 1, 0, 0] c15
noncomputable def r15_3 : Code := Code.sub [1, 1, 0] c15
theorem body15 : c15 = (.seq r15_0 (.seq (.seq r15_1 (.cond (.tmp 4) (.seq r15_2 .ret) .skip)) (.seq r15_3 .ret))) := by kernel_rfl
noncomputable def L15_0 : Lt r15_0 := by refine ⟨?l, ?h⟩; case h => simp only [r15_0, c15, bodyOf, Tryd.f15, Code.sub, opsOf, List.map_cons, List.map_nil, strip]; rfl
theorem w15_0 : Wp r15_0 3 [4] [2] [] [] [some 2] (L15_0).1 := w_plain (by kernel_rfl) (L15_0).2
noncomputable def L15_1 : Lt r15_1 := by refine ⟨?l, ?h⟩; case h => simp only [r15_1, c15, bodyOf, Tryd.f15, Code.sub, opsOf, List.map_cons, List.map_nil, strip]; rfl
theorem w15_1 : Wp r15_1 3 [4] [] [4] [0] [some 3, some 4] (L15_1).1 := w_plain (by kernel_rfl) (L15_1).2
noncomputable def L15_2 : Lt r15_2 := by refine ⟨?l, ?h⟩; case h => simp only [r15_2, c15, bodyOf, Tryd.f15, Code.sub, opsOf, List.map_cons, List.map_nil, strip]; rfl
theorem w15_2 : Wp r15_2 3 [4] [2] [] [0] [some 5, some 6, some 7, some 2] (L15_2).1 := w_plain (by kernel_rfl) (L15_2).2
noncomputable def L15_3 : Lt r15_3 := by refine ⟨?l, ?h⟩; case h => simp only [r15_3, c15, bodyOf, Tryd.f15, Code.sub, opsOf, List.map_cons, List.map_nil, strip]; rfl
theorem w15_3 : Wp r15_3 3 [4] [2] [] [0] [some 8, some 9, some 10, some 2] (L15_3).1 := w_plain (by kernel_rfl) (L15_3).2
theorem k15 : FnIs TT 15 c15 [.tmp 2] 1 := ⟨Tryd.f15, by kernel_rfl, by simp only [Tryd.f15, c15, bodyOf], by kernel_rfl, of_decide_eq_true (by kernel_rfl)⟩
noncomputable def c16 : Code := bodyOf Tryd.f16
noncomputable def r16_0 : Code := Code.sub [0] c16
noncomputable def r16_1 : Code := Code.sub [1, 0] c16
noncomputable def r16_2 : Code := Code.sub [1, 1, 0, 0] c16
noncomputable def r16_3 : Code := Code.sub [1, 1, 0, 1, 0, 0] c16
noncomputable def r16_4 : Code := Code.sub [1, 1, 1, 0] c16
theorem body16 : c16 = (.seq r16_0 (.seq r16_1 (.seq (.seq r16_2 (.cond (.tmp 24) (.seq r16_3 .ret) .skip)) (.seq r16_4 .ret)))) := by kernel_rfl
noncomputable def L16_0 : Lt r16_0 := by refine ⟨?l, ?h⟩; case h => simp only [r16_0, c16, bodyOf, Tryd.f16, Code.sub, opsOf, List.map_cons, List.map_nil, strip]; rfl
theorem w16_0 : Wp r16_0 9 [24] [6, 7] [] [] [some 6, some 7] (L16_0).1 := w_plain (by kernel_rfl) (L16_0).2
theorem can16_1 : canonOps (opsOf r16_1) = opsOf r16_1 := by kernel_rfl
noncomputable def L16_1 : Lc r16_1 := by refine ⟨?l, (congrArg (List.map strip) can16_1).trans ?h⟩; case h => simp only [r16_1, c16, bodyOf, Tryd.f16, Code.sub, opsOf, List.map_cons, List.map_nil, strip]; rfl
theorem w16_1 : Wd r16_1 9 [24] [8] [] [1, 0, 2] [some 9, some 10, some 11, some 12, some 13, some 14, some 15, some 16, some 17, some 18, some 19, some 20, some 21, some 8] (L16_1).1 [(3, [5]), (9, [5, 11])] := w_loud (by kernel_rfl) (L16_1).2
noncomputable def L16_2 : Lt r16_2 := by refine ⟨?l, ?h⟩; case h => simp only [r16_2, c16, bodyOf, Tryd.f16, Code.sub, opsOf, List.map_cons, List.map_nil, strip]; rfl
theorem w16_2 : Wp r16_2 9 [24] [] [24] [8] [some 22, some 23, some 24] (L16_2).1 := w_plain (by kernel_rfl) (L16_2).2
noncomputable def L16_3 : Lt r16_3 := by refine ⟨?l, ?h⟩; case h => simp only [r16_3, c16, bodyOf, Tryd.f16, Code.sub, opsOf, List.map_cons, List.map_nil, strip]; rfl
theorem w16_3 : Wp r16_3 9 [24] [6, 7] [] [] [some 6, some 7] (L16_3).1 := w_plain (by kernel_rfl) (L16_3).2
noncomputable def L16_4 : Lt r16_4 := by refine ⟨?l, ?h⟩; case h => simp only [r16_4, c16, bodyOf, Tryd.f16, Code.sub, opsOf, List.map_cons, List.map_nil, strip]; rfl
theorem w16_4 : Wp r16_4 9 [24] [6, 7] [] [0, 8] [some 25, some 26, some 27, some 28, some 29, some 30, some 31, some 32, some 6, some 7] (L16_4).1 := w_plain (by kernel_rfl) (L16_4).2
theorem k16 : FnIs TT 16 c16 [.tmp 6, .tmp 7] 3 := ⟨Tryd.f16, by kernel_rfl, by simp only [Tryd.f16, c16, bodyOf], by kernel_rfl, of_decide_eq_true (by kernel_rfl)⟩
noncomputable def c17 : Code := bodyOf Tryd.f17
noncomputable def r17_0 : Code := Code.sub [0] c17
noncomputable def r17_1 : Code := Code.sub [1, 0, 0] c17
noncomputable def r17_2 : Code := Code.sub [1, 0, 1, 0, 0] c17
noncomputable def r17_3 : Code := Code.sub [1, 1, 0] c17
theorem body17 : c17 = (.seq r17_0 (.seq (.seq r17_1 (.cond (.tmp 15) (.seq r17_2 .ret) .skip)) (.seq r17_3 .ret))) := by kernel_rfl
noncomputable def L17_0 : Lt r17_0 := by refine ⟨?l, ?h⟩; case h => simp only [r17_0, c17, bodyOf, Tryd.f17, Code.sub, opsOf, List.map_cons, List.map_nil, strip]; rfl
theorem w17_0 : Wp r17_0 5 [15] [4] [] [] [some 4] (L17_0).1 := w_plain (by kernel_rfl) (L17_0).2
noncomputable def L17_1 : Lt r17_1 := by refine ⟨?l, ?h⟩; case h => simp only [r17_1, c17, bodyOf, Tryd.f17, Code.sub, opsOf, List.map_cons, List.map_nil, strip]; rfl
theorem w17_1 : Wp r17_1 5 [15] [] [15] [1, 0] [some 5, some 6, some 7, some 8, some 9, some 10, some 11, some 12, some 13, some 14, some 15] (L17_1).1 := w_plain (by kernel_rfl) (L17_1).2
noncomputable def L17_2 : Lt r17_2 := by refine ⟨?l, ?h⟩; case h => simp only [r17_2, c17, bodyOf, Tryd.f17, Code.sub, opsOf, List.map_cons, List.map_nil, strip]; rfl
theorem w17_2 : Wp r17_2 5 [15] [4] [] [] [some 4] (L17_2).1 := w_plain (by kernel_rfl) (L17_2).2
noncomputable def L17_3 : Lt r17_3 := by refine ⟨?l, ?h⟩; case h => simp only [r17_3, c17, bodyOf, Tryd.f17, Code.sub, opsOf, List.map_cons, List.map_nil, strip]; rfl
theorem w17_3 : Wp r17_3 5 [15] [4] [] [0, 1] [some 16, some 17, some 18, some 19, some 20, some 21, some 22, some 4] (L17_3).1 := w_plain (by kernel_rfl) (L17_3).2
theorem k17 : FnIs TT 17 c17 [.tmp 4] 2 := ⟨Tryd.f17, by kernel_rfl, by simp only [Tryd.f17, c17, bodyOf], by kernel_rfl, of_decide_eq_true (by kernel_rfl)⟩
noncomputable def c18 : Code := bodyOf Tryd.f18
noncomputable def r18_0 : Code := Code.sub [0] c18
noncomputable def r18_1 : Code := Code.sub [1, 0] c18
theorem body18 : c18 = (.seq r18_0 (.seq r18_1 .ret)) := by kernel_rfl
noncomputable def L18_0 : Lt r18_0 := by refine ⟨?l, ?h⟩; case h => simp only [r18_0, c18, bodyOf, Tryd.f18, Code.sub, opsOf, List.map_cons, List.map_nil, strip]; rfl
theorem w18_0 : Wp r18_0 7 [] [6] [] [] [some 6] (L18_0).1 := w_plain (by kernel_rfl) (L18_0).2
theorem can18_1 : canonOps (opsOf r18_1) = opsOf r18_1 := by kernel_rfl
noncomputable def L18_1 : Lc r18_1 := by refine ⟨?l, (congrArg (List.map strip) can18_1).trans ?h⟩; case h => simp only [r18_1, c18, bodyOf, Tryd.f18, Code.sub, opsOf, List.map_cons, List.map_nil, strip]; rfl
theorem w18_1 : Wd r18_1 7 [] [6] [] [1, 0, 2] [some 7, some 8, some 9, some 10, some 11, some 12, some 13, some 14, some 15, some 16, some 17, some 18, some 19, some 6] (L18_1).1 [(3, [5]), (9, [5, 11])] := w_loud (by kernel_rfl) (L18_1).2
theorem k18 : FnIs TT 18 c18 [.tmp 6] 3 := ⟨Tryd.f18, by kernel_rfl, by simp only [Tryd.f18, c18, bodyOf], by kernel_rfl, of_decide_eq_true (by kernel_rfl)⟩
noncomputable def c19 : Code := bodyOf Tryd.f19
noncomputable def r19_0 : Code := Code.sub [0] c19
noncomputable def r19_1 : Code := Code.sub [1, 0] c19
theorem body19 : c19 = (.seq r19_0 (.seq r19_1 .ret)) := by kernel_rfl
noncomputable def L19_0 : Lt r19_0 := by refine ⟨?l, ?h⟩; case h => simp only [r19_0, c19, bodyOf, Tryd.f19, Code.sub, opsOf, List.map_cons, List.map_nil, strip]; rfl
theorem w19_0 : Wp r19_0 3 [] [2] [] [] [some 2] (L19_0).1 := w_plain (by kernel_rfl) (L19_0).2
noncomputable def L19_1 : Lt r19_1 := by refine ⟨?l, ?h⟩; case h => simp only [r19_1, c19, bodyOf, Tryd.f19, Code.sub, opsOf, List.map_cons, List.map_nil, strip]; rfl
theorem w19_1 : Wp r19_1 3 [] [2] [] [0] [some 3, some 4, some 5, some 6, some 2] (L19_1).1 := w_plain (by kernel_rfl) (L19_1).2
theorem k19 : FnIs TT 19 c19 [.tmp 2] 1 := ⟨Tryd.f19, by kernel_rfl, by simp only [Tryd.f19, c19, bodyOf], by kernel_rfl, of_decide_eq_true (by kernel_rfl)⟩
noncomputable def c20 : Code := bodyOf Tryd.f20
noncomputable def r20_0 : Code := Code.sub [0] c20
noncomputable def r20_1 : Code := Code.sub [1, 0] c20
theorem body20 : c20 = (.seq r20_0 (.seq r20_1 .ret)) := by kernel_rfl
noncomputable def L20_0 : Lt r20_0 := by refine ⟨?l, ?h⟩; case h => simp only [r20_0, c20, bodyOf, Tryd.f20, Code.sub, opsOf, List.map_cons, List.map_nil, strip]; rfl
theorem w20_0 : Wp r20_0 5 [] [4] [] [] [some 4] (L20_0).1 := w_plain (by kernel_rfl) (L20_0).2
noncomputable def L20_1 : Lt r20_1 := by refine ⟨?l, ?h⟩; case h => simp only [r20_1, c20, bodyOf, Tryd.f20, Code.sub, opsOf, List.map_cons, List.map_nil, strip]; rfl
theorem w20_1 : Wp r20_1 5 [] [4] [] [0, 1] [some 5, some 6, some 7, some 8, some 9, some 4] (L20_1).1 := w_plain (by kernel_rfl) (L20_1).2
theorem k20 : FnIs TT 20 c20 [.tmp 4] 2 := ⟨Tryd.f20, by kernel_rfl, by simp only [Tryd.f20, c20, bodyOf], by kernel_rfl, of_decide_eq_true (by kernel_rfl)⟩
noncomputable def c21 : Code := bodyOf Tryd.f21
noncomputable def r21_0 : Code := Code.sub [0] c21
noncomputable def r21_1 : Code := Code.sub [1, 0] c21
theorem body21 : c21 = (.seq r21_0 (.seq r21_1 .ret)) := by kernel_rfl
noncomputable def L21_0 : Lt r21_0 := by refine ⟨?l, ?h⟩; case h => simp only [r21_0, c21, bodyOf, Tryd.f21, Code.sub, opsOf, List.map_cons, List.map_nil, strip]; rfl
theorem w21_0 : Wp r21_0 7 [] [6] [] [] [some 6] (L21_0).1 := w_plain (by kernel_rfl) (L21_0).2
theorem can21_1 : canonOps (opsOf r21_1) = opsOf r21_1 := by kernel_rfl
noncomputable def L21_1 : Lc r21_1 := by refine ⟨?l, (congrArg (List.map strip) can21_1).trans ?h⟩; case h => simp only [r21_1, c21, bodyOf, Tryd.f21, Code.sub, opsOf, List.map_cons, List.map_nil, strip]; rfl
theorem w21_1 : Wd r21_1 7 [] [6] [] [1, 0, 2] [some 7, some 8, some 9, some 10, some 11, some 12, some 13, some 14, some 15, some 16, some 17, some 18, some 19, some 6] (L21_1).1 [(3, [5]), (9, [5, 11])] := w_loud (by kernel_rfl) (L21_1).2
theorem k21 : FnIs TT 21 c21 [.tmp 6] 3 := ⟨Tryd.f21, by kernel_rfl, by simp only [Tryd.f21, c21, bodyOf], by kernel_rfl, of_decide_eq_true (by kernel_rfl)⟩
noncomputable def c22 : Code := bodyOf Tryd.f22
noncomputable def r22_0 : Code := Code.sub [0] c22
noncomputable def r22_1 : Code := Code.sub [1, 0, 0] c22
noncomputable def r22_2 : Code := Code.sub [1, 0, 1, 0, 0] c22
noncomputable def r22_3 : Code := Code.sub [1, 1, 0] c22
noncomputable def r22_4 : Code := Code.sub [1, 1, 1, 0] c22
theorem body22 : c22 = (.seq r22_0 (.seq (.seq r22_1 (.cond (.tmp 12) (.seq r22_2 .ret) .skip)) (.seq r22_3 (.seq r22_4 .ret)))) := by kernel_rfl
noncomputable def L22_0 : Lt r22_0 := by refine ⟨?l, ?h⟩; case h => simp only [r22_0, c22, bodyOf, Tryd.f22, Code.sub, opsOf, List.map_cons, List.map_nil, strip]; rfl
theorem w22_0 : Wp r22_0 3 [12] [2] [] [] [some 2] (L22_0).1 := w_plain (by kernel_rfl) (L22_0).2
noncomputable def L22_1 : Lt r22_1 := by refine ⟨?l, ?h⟩; case h => simp only [r22_1, c22, bodyOf, Tryd.f22, Code.sub, opsOf, List.map_cons, List.map_nil, strip]; rfl
theorem w22_1 : Wp r22_1 3 [12] [] [12] [0] [some 3, some 4, some 5, some 6, some 7, some 8, some 9, some 10, some 11, some 12] (L22_1).1 := w_plain (by kernel_rfl) (L22_1).2
noncomputable def L22_2 : Lt r22_2 := by refine ⟨?l, ?h⟩; case h => simp only [r22_2, c22, bodyOf, Tryd.f22, Code.sub, opsOf, List.map_cons, List.map_nil, strip]; rfl
theorem w22_2 : Wp r22_2 3 [12] [2] [] [] [some 2] (L22_2).1 := w_plain (by kernel_rfl) (L22_2).2
noncomputable def L22_3 : Lt r22_3 := by refine ⟨?l, ?h⟩; case h => simp only [r22_3, c22, bodyOf, Tryd.f22, Code.sub, opsOf, List.map_cons, List.map_nil, strip]; rfl
theorem w22_3 : Wp r22_3 3 [12] [] [] [0] [some 13, some 14, some 15, some 16, some 17, some 18, some 19, none] (L22_3).1 := w_plain (by kernel_rfl) (L22_3).2
noncomputable def L22_4 : Lt r22_4 := by refine ⟨?l, ?h⟩; case h => simp only [r22_4, c22, bodyOf, Tryd.f22, Code.sub, opsOf, List.map_cons, List.map_nil, strip]; rfl
theorem w22_4 : Wp r22_4 3 [12] [2] [] [0] [some 20, some 21, some 22, some 23, some 24, some 25, some 26, some 27, some 28, some 29, some 30, some 31, some 2] (L22_4).1 := w_plain (by kernel_rfl) (L22_4).2
theorem k22 : FnIs TT 22 c22 [.tmp 2] 1 := ⟨Tryd.f22, by kernel_rfl, by simp only [Tryd.f22, c22, bodyOf], by kernel_rfl, of_decide_eq_true (by kernel_rfl)⟩
noncomputable def c23 : Code := bodyOf Tryd.f23
noncomputable def r23_0 : Code := Code.sub [0] c23
noncomputable def r23_1 : Code := Code.sub [1, 0] c23
noncomputable def r23_2 : Code := Code.sub [1, 1, 0, 0] c23
noncomputable def r23_3 : Code := Code.sub [1, 1, 0, 1, 0] c23
noncomputable def r23_4 : Code := Code.sub [1, 1, 1, 0] c23
theorem body23 : c23 = (.seq r23_0 (.seq r23_1 (.seq (.seq r23_2 (.cond (.tmp 17) r23_3 .skip)) (.seq r23_4 .ret)))) := by kernel_rfl
noncomputable def L23_0 : Lt r23_0 := by refine ⟨?l, ?h⟩; case h => simp only [r23_0, c23, bodyOf, Tryd.f23, Code.sub, opsOf, List.map_cons, List.map_nil, strip]; rfl
theorem w23_0 : Wp r23_0 7 [17] [4, 5] [] [] [some 4, some 5] (L23_0).1 := w_plain (by kernel_rfl) (L23_0).2
noncomputable def L23_1 : Lt r23_1 := by refine ⟨?l, ?h⟩; case h => simp only [r23_1, c23, bodyOf, Tryd.f23, Code.sub, opsOf, List.map_cons, List.map_nil, strip]; rfl
theorem w23_1 : Wp r23_1 7 [17] [6] [] [] [some 6] (L23_1).1 := w_plain (by kernel_rfl) (L23_1).2
noncomputable def L23_2 : Lt r23_2 := by refine ⟨?l, ?h⟩; case h => simp only [r23_2, c23, bodyOf, Tryd.f23, Code.sub, opsOf, List.map_cons, List.map_nil, strip]; rfl
theorem w23_2 : Wp r23_2 7 [17] [] [17] [1, 0] [some 7, some 8, some 9, some 10, some 11, some 12, some 13, some 14, some 15, some 16, some 17] (L23_2).1 := w_plain (by kernel_rfl) (L23_2).2
noncomputable def L23_3 : Lt r23_3 := by refine ⟨?l, ?h⟩; case h => simp only [r23_3, c23, bodyOf, Tryd.f23, Code.sub, opsOf, List.map_cons, List.map_nil, strip]; rfl
theorem w23_3 : Wp r23_3 7 [17] [6] [] [0, 1] [some 18, some 19, some 20, some 21, some 22, some 23, some 24, some 25, some 26, some 6] (L23_3).1 := w_plain (by kernel_rfl) (L23_3).2
noncomputable def L23_4 : Lt r23_4 := by refine ⟨?l, ?h⟩; case h => simp only [r23_4, c23, bodyOf, Tryd.f23, Code.sub, opsOf, List.map_cons, List.map_nil, strip]; rfl
theorem w23_4 : Wp r23_4 7 [17] [4, 5] [] [0, 1, 6] [some 27, some 28, some 29, some 30, some 31, some 32, some 33, some 34, some 35, some 4, some 5] (L23_4).1 := w_plain (by kernel_rfl) (L23_4).2
theorem k23 : FnIs TT 23 c23 [.tmp 4, .tmp 5] 2 := ⟨Tryd.f23, by kernel_rfl, by simp only [Tryd.f23, c23, bodyOf], by kernel_rfl, of_decide_eq_true (by kernel_rfl)⟩
noncomputable def c24 : Code := bodyOf Tryd.f24
noncomputable def r24_0 : Code := Code.sub [0] c24
noncomputable def r24_1 : Code := Code.sub [1, 0, 0] c24
noncomputable def r24_2 : Code := Code.sub [1, 0, 1, 0, 0] c24
noncomputable def r24_3 : Code := Code.sub [1, 1, 0] c24
theorem body24 : c24 = (.seq r24_0 (.seq (.seq r24_1 (.cond (.tmp 13) (.seq r24_2 .ret) .skip)) (.seq r24_3 .ret))) := by kernel_rfl
noncomputable def L24_0 : Lt r24_0 := by refine ⟨?l, ?h⟩; case h => simp only [r24_0, c24, bodyOf, Tryd.f24, Code.sub, opsOf, List.map_cons, List.map_nil, strip]; rfl
theorem w24_0 : Wp r24_0 8 [13] [6, 7] [] [] [some 6, some 7] (L24_0).1 := w_plain (by kernel_rfl) (L24_0).2
noncomputable def L24_1 : Lt r24_1 := by refine ⟨?l, ?h⟩; case h => simp only [r24_1, c24, bodyOf, Tryd.f24, Code.sub, opsOf, List.map_cons, List.map_nil, strip]; rfl
theorem w24_1 : Wp r24_1 8 [13] [] [13] [2] [some 8, some 9, some 10, some 11, some 12, some 13] (L24_1).1 := w_plain (by kernel_rfl) (L24_1).2
noncomputable def L24_2 : Lt r24_2 := by refine ⟨?l, ?h⟩; case h => simp only [r24_2, c24, bodyOf, Tryd.f24, Code.sub, opsOf, List.map_cons, List.map_nil, strip]; rfl
theorem w24_2 : Wp r24_2 8 [13] [6, 7] [] [] [some 6, some 7] (L24_2).1 := w_plain (by kernel_rfl) (L24_2).2
noncomputable def L24_3 : Lt r24_3 := by refine ⟨?l, ?h⟩; case h => simp only [r24_3, c24, bodyOf, Tryd.f24, Code.sub, opsOf, List.map_cons, List.map_nil, strip]; rfl
theorem w24_3 : Wp r24_3 8 [13] [6, 7] [] [0, 1, 2] [some 14, some 15, some 16, some 17, some 18, some 19, some 20, some 21, some 22, some 6, some 7] (L24_3).1 := w_plain (by kernel_rfl) (L24_3).2
theorem k24 : FnIs TT 24 c24 [.tmp 6, .tmp 7] 3 := ⟨Tryd.f24, by kernel_rfl, by simp only [Tryd.f24, c24, bodyOf], by kernel_rfl, of_decide_eq_true (by kernel_rfl)⟩
noncomputable def c25 : Code := bodyOf Tryd.f25
noncomputable def r25_0 : Code := Code.sub [0] c25
noncomputable def r25_1 : Code := Code.sub [1, 0] c25
theorem body25 : c25 = (.seq r25_0 (.seq r25_1 .ret)) := by kernel_rfl
noncomputable def L25_0 : Lt r25_0 := by refine ⟨?l, ?h⟩; case h => simp only [r25_0, c25, bodyOf, Tryd.f25, Code.sub, opsOf, List.map_cons, List.map_nil, strip]; rfl
theorem w25_0 : Wp r25_0 3 [] [2] [] [] [some 2] (L25_0).1 := w_plain (by kernel_rfl) (L25_0).2
noncomputable def L25_1 : Lt r25_1 := by refine ⟨?l, ?h⟩; case h => simp only [r25_1, c25, bodyOf, Tryd.f25, Code.sub, opsOf, List.map_cons, List.map_nil, strip]; rfl
theorem w25_1 : Wp r25_1 3 [] [2] [] [0] [some 3, some 4, some 5, some 6, some 2] (L25_1).1 := w_plain (by kernel_rfl) (L25_1).2
theorem k25 : FnIs TT 25 c25 [.tmp 2] 1 := ⟨Tryd.f25, by kernel_rfl, by simp only [Tryd.f25, c25, bodyOf], by kernel_rfl, of_decide_eq_true (by kernel_rfl)⟩
noncomputable def c26 : Code := bodyOf Tryd.f26
noncomputable def r26_0 : Code := Code.sub [0] c26
noncomputable def r26_1 : Code := Code.sub [1, 0] c26
noncomputable def r26_2 : Code := Code.sub [1, 1, 0, 0] c26
noncomputable def r26_3 : Code := Code.sub [1, 1, 0, 1, 0, 0, 0, 0] c26
noncomputable def r26_4 : Code := Code.sub [1, 1, 0, 1, 0, 0, 1, 0, 0] c26
noncomputable def r26_5 : Code := Code.sub [1, 1, 0, 1, 0, 0, 1, 1] c26
noncomputable def r26_6 : Code := Code.sub [1, 1, 1, 0] c26
theorem body26 : c26 = (.seq r26_0 (.seq r26_1 (.seq (.seq r26_2 (.block 0 (.loop (.seq (.seq r26_3 (.cond (.tmp 12) .skip (.exit 0))) (.seq (.block 1 r26_4) r26_5))))) (.seq r26_6 .ret)))) := by kernel_rfl
noncomputable def L26_0 : Lt r26_0 := by refine ⟨?l, ?h⟩; case h => simp only [r26_0, c26, bodyOf, Tryd.f26, Code.sub, opsOf, List.map_cons, List.map_nil, strip]; rfl
theorem w26_0 : Wp r26_0 5 [12] [2] [] [] [some 2] (L26_0).1 := w_plain (by kernel_rfl) (L26_0).2
noncomputable def L26_1 : Lt r26_1 := by refine ⟨?l, ?h⟩; case h => simp only [r26_1, c26, bodyOf, Tryd.f26, Code.sub, opsOf, List.map_cons, List.map_nil, strip]; rfl
theorem w26_1 : Wp r26_1 5 [12] [3] [] [] [some 3] (L26_1).1 := w_plain (by kernel_rfl) (L26_1).2
noncomputable def L26_2 : Lt r26_2 := by refine ⟨?l, ?h⟩; case h => simp only [r26_2, c26, bodyOf, Tryd.f26, Code.sub, opsOf, List.map_cons, List.map_nil, strip]; rfl
theorem w26_2 : Wp r26_2 5 [12] [4] [] [] [some 4] (L26_2).1 := w_plain (by kernel_rfl) (L26_2).2
noncomputable def L26_3 : Lt r26_3 := by refine ⟨?l, ?h⟩; case h => simp only [r26_3, c26, bodyOf, Tryd.f26, Code.sub, opsOf, List.map_cons, List.map_nil, strip]; rfl
theorem w26_3 : Wp r26_3 5 [12] [] [12] [0, 4] [some 5, some 6, some 7, some 8, some 9, some 10, some 11, some 12] (L26_3).1 := w_plain (by kernel_rfl) (L26_3).2
noncomputable def L26_4 : Lt r26_4 := by refine ⟨?l, ?h⟩; case h => simp only [r26_4, c26, bodyOf, Tryd.f26, Code.sub, opsOf, List.map_cons, List.map_nil, strip]; rfl
theorem w26_4 : Wp r26_4 5 [12] [3] [] [3, 0, 4] [some 15, some 16, some 17, some 18, some 19, some 20, some 21, some 3] (L26_4).1 := w_plain (by kernel_rfl) (L26_4).2
noncomputable def L26_5 : Lt r26_5 := by refine ⟨?l, ?h⟩; case h => simp only [r26_5, c26, bodyOf, Tryd.f26, Code.sub, opsOf, List.map_cons, List.map_nil, strip]; rfl
theorem w26_5 : Wp r26_5 5 [12] [4] [] [4] [some 13, some 14, some 4] (L26_5).1 := w_plain (by kernel_rfl) (L26_5).2
noncomputable def L26_6 : Lt r26_6 := by refine ⟨?l, ?h⟩; case h => simp only [r26_6, c26, bodyOf, Tryd.f26, Code.sub, opsOf, List.map_cons, List.map_nil, strip]; rfl
theorem w26_6 : Wp r26_6 5 [12] [2] [] [3] [some 22, some 2] (L26_6).1 := w_plain (by kernel_rfl) (L26_6).2
theorem k26 : FnIs TT 26 c26 [.tmp 2] 1 := ⟨Tryd.f26, by kernel_rfl, by simp only [Tryd.f26, c26, bodyOf], by kernel_rfl, of_decide_eq_true (by kernel_rfl)⟩
noncomputable def c27 : Code := bodyOf Tryd.f27
noncomputable def r27_0 : Code := Code.sub [0] c27
noncomputable def r27_1 : Code := Code.sub [1, 0] c27
noncomputable def r27_2 : Code := Code.sub [1, 1, 0, 0] c27
noncomputable def r27_3 : Code := Code.sub [1, 1, 0, 1, 0, 0, 0, 0] c27
noncomputable def r27_4 : Code := Code.sub [1, 1, 0, 1, 0, 0, 1, 0, 0, 0] c27
noncomputable def r27_5 : Code := Code.sub [1, 1, 0, 1, 0, 0, 1, 0, 0, 1, 0, 0] c27
noncomputable def r27_6 : Code := Code.sub [1, 1, 0, 1, 0, 0, 1, 0, 0, 1, 0, 1, 0, 0] c27
noncomputable def r27_7 : Code := Code.sub [1, 1, 0, 1, 0, 0, 1, 0, 0, 1, 1] c27
noncomputable def r27_8 : Code := Code.sub [1, 1, 0, 1, 0, 0, 1, 1] c27
noncomputable def r27_9 : Code := Code.sub [1, 1, 1, 0] c27
theorem body27 : c27 = (.seq r27_0 (.seq r27_1 (.seq (.seq r27_2 (.block 0 (.loop (.seq (.seq r27_3 (.cond (.tmp 22) .skip (.exit 0))) (.seq (.block 1 (.seq r27_4 (.seq (.seq r27_5 (.cond (.tmp 39) (.seq r27_6 .ret) .skip)) r27_7))) r27_8))))) (.seq r27_9 .ret)))) := by kernel_rfl
noncomputable def L27_0 : Lt r27_0 := by refine ⟨?l, ?h⟩; case h => simp only [r27_0, c27, bodyOf, Tryd.f27, Code.sub, opsOf, List.map_cons, List.map_nil, strip]; rfl
theorem w27_0 : Wp r27_0 11 [22, 39] [3, 6] [] [0] [some 3, some 6] (L27_0).1 := w_plain (by kernel_rfl) (L27_0).2
theorem can27_1 : canonOps (opsOf r27_1) = List.filterMap (fun i => ((opsOf r27_1)[i]?).map (renum [0, 1, 2, 3, 4, 5, 6, 7])) [0, 1, 2, 3, 4, 5, 6, 7] := by kernel_rfl
noncomputable def L27_1 : Lc r27_1 := by refine ⟨?l, (congrArg (List.map strip) can27_1).trans ?h⟩; case h => simp only [r27_1, c27, bodyOf, Tryd.f27, Code.sub, opsOf, List.filterMap_cons, List.filterMap_nil, List.getElem?_cons_succ, List.getElem?_cons_zero, Option.map_some, renum, List.map_cons, List.map_nil, strip]; rfl
theorem w27_1 : Wd r27_1 11 [22, 39] [7] [] [3, 1, 2] [some 11, some 12, some 13, some 14, some 15, some 16, some 17, some 7] (L27_1).1 [(0, [2, 3, 6])] := w_loud (by kernel_rfl) (L27_1).2
noncomputable def L27_2 : Lt r27_2 := by refine ⟨?l, ?h⟩; case h => simp only [r27_2, c27, bodyOf, Tryd.f27, Code.sub, opsOf, List.map_cons, List.map_nil, strip]; rfl
theorem w27_2 : Wp r27_2 11 [22, 39] [8] [] [] [some 8] (L27_2).1 := w_plain (by kernel_rfl) (L27_2).2
noncomputable def L27_3 : Lt r27_3 := by refine ⟨?l, ?h⟩; case h => simp only [r27_3, c27, bodyOf, Tryd.f27, Code.sub, opsOf, List.map_cons, List.map_nil, strip]; rfl
theorem w27_3 : Wp r27_3 11 [22, 39] [] [22] [8, 3] [some 18, some 19, some 20, some 21, some 22] (L27_3).1 := w_plain (by kernel_rfl) (L27_3).2
theorem can27_4 : canonOps (opsOf r27_4) = opsOf r27_4 := by kernel_rfl
noncomputable def L27_4 : Lc r27_4 := by refine ⟨?l, (congrArg (List.map strip) can27_4).trans ?h⟩; case h => simp only [r27_4, c27, bodyOf, Tryd.f27, Code.sub, opsOf, List.map_cons, List.map_nil, strip]; rfl
theorem w27_4 : Wd r27_4 11 [22, 39] [9, 10] [] [7, 3, 8] [some 26, some 27, some 28, some 29, some 30, some 31, some 32, some 33, some 34, some 35, some 25, some 36, some 37, some 9, some 10] (L27_4).1 [(3, [9]), (5, [9]), (8, [9])] := w_loud (by kernel_rfl) (L27_4).2
noncomputable def L27_5 : Lt r27_5 := by refine ⟨?l, ?h⟩; case h => simp only [r27_5, c27, bodyOf, Tryd.f27, Code.sub, opsOf, List.map_cons, List.map_nil, strip]; rfl
theorem w27_5 : Wp r27_5 11 [22, 39] [] [39] [10] [some 38, some 39] (L27_5).1 := w_plain (by kernel_rfl) (L27_5).2
noncomputable def L27_6 : Lt r27_6 := by refine ⟨?l, ?h⟩; case h => simp only [r27_6, c27, bodyOf, Tryd.f27, Code.sub, opsOf, List.map_cons, List.map_nil, strip]; rfl
theorem w27_6 : Wp r27_6 11 [22, 39] [6] [] [] [some 6] (L27_6).1 := w_plain (by kernel_rfl) (L27_6).2
noncomputable def L27_7 : Lt r27_7 := by refine ⟨?l, ?h⟩; case h => simp only [r27_7, c27, bodyOf, Tryd.f27, Code.sub, opsOf, List.map_cons, List.map_nil, strip]; rfl
theorem w27_7 : Wp r27_7 11 [22, 39] [] [] [7, 9] [some 40, some 41, some 42, some 43, some 44, some 45, some 46, some 47, some 48, some 49, none] (L27_7).1 := w_plain (by kernel_rfl) (L27_7).2
noncomputable def L27_8 : Lt r27_8 := by refine ⟨?l, ?h⟩; case h => simp only [r27_8, c27, bodyOf, Tryd.f27, Code.sub, opsOf, List.map_cons, List.map_nil, strip]; rfl
theorem w27_8 : Wp r27_8 11 [22, 39] [8] [] [8] [some 23, some 24, some 8] (L27_8).1 := w_plain (by kernel_rfl) (L27_8).2
noncomputable def L27_9 : Lt r27_9 := by refine ⟨?l, ?h⟩; case h => simp only [r27_9, c27, bodyOf, Tryd.f27, Code.sub, opsOf, List.map_cons, List.map_nil, strip]; rfl
theorem w27_9 : Wp r27_9 11 [22, 39] [6] [] [7] [some 50, some 6] (L27_9).1 := w_plain (by kernel_rfl) (L27_9).2
theorem k27 : FnIs TT 27 c27 [.tmp 6] 3 := ⟨Tryd.f27, by kernel_rfl, by simp only [Tryd.f27, c27, bodyOf], by kernel_rfl, of_decide_eq_true (by kernel_rfl)⟩
noncomputable def c28 : Code := bodyOf Tryd.f28
noncomputable def r28_0 : Code := Code.sub [0] c28
noncomputable def r28_1 : Code := Code.sub [1, 0, 0] c28
noncomputable def r28_2 : Code := Code.sub [1, 0, 1, 0, 0] c28
noncomputable def r28_3 : Code := Code.sub [1, 1, 0] c28
theorem body28 : c28 = (.seq r28_0 (.seq (.seq r28_1 (.cond (.tmp 15) (.seq r28_2 .ret) .skip)) (.seq r28_3 .ret))) := by kernel_rfl
noncomputable def L28_0 : Lt r28_0 := by refine ⟨?l, ?h⟩; case h => simp only [r28_0, c28, bodyOf, Tryd.f28, Code.sub, opsOf, List.map_cons, List.map_nil, strip]; rfl
theorem w28_0 : Wp r28_0 5 [15] [4] [] [] [some 4] (L28_0).1 := w_plain (by kernel_rfl) (L28_0).2
noncomputable def L28_1 : Lt r28_1 := by refine ⟨?l, ?h⟩; case h => simp only [r28_1, c28, bodyOf, Tryd.f28, Code.sub, opsOf, List.map_cons, List.map_nil, strip]; rfl
theorem w28_1 : Wp r28_1 5 [15] [] [15] [1, 0] [some 5, some 6, some 7, some 8, some 9, some 10, some 11, some 12, some 13, some 14, some 15] (L28_1).1 := w_plain (by kernel_rfl) (L28_1).2
noncomputable def L28_2 : Lt r28_2 := by refine ⟨?l, ?h⟩; case h => simp only [r28_2, c28, bodyOf, Tryd.f28, Code.sub, opsOf, List.map_cons, List.map_nil, strip]; rfl
theorem w28_2 : Wp r28_2 5 [15] [4] [] [] [some 4] (L28_2).1 := w_plain (by kernel_rfl) (L28_2).2
noncomputable def L28_3 : Lt r28_3 := by refine ⟨?l, ?h⟩; case h => simp only [r28_3, c28, bodyOf, Tryd.f28, Code.sub, opsOf, List.map_cons, List.map_nil, strip]; rfl
theorem w28_3 : Wp r28_3 5 [15] [4] [] [0, 1] [some 16, some 17, some 18, some 19, some 20, some 21, some 22, some 4] (L28_3).1 := w_plain (by kernel_rfl) (L28_3).2
theorem k28 : FnIs TT 28 c28 [.tmp 4] 2 := ⟨Tryd.f28, by kernel_rfl, by simp only [Tryd.f28, c28, bodyOf], by kernel_rfl, of_decide_eq_true (by kernel_rfl)⟩
noncomputable def c29 : Code := bodyOf Tryd.f29
noncomputable def r29_0 : Code := Code.sub [0] c29
noncomputable def r29_1 : Code := Code.sub [1, 0, 0] c29
noncomputable def r29_2 : Code := Code.sub [1, 0, 1, 0, 0] c29
noncomputable def r29_3 : Code := Code.sub [1, 0, 1, 0, 1, 0] c29
noncomputable def r29_4 : Code := Code.sub [1, 0, 1, 0, 1, 1, 0] c29
noncomputable def r29_5 : Code := Code.sub [1, 0, 1, 0, 1, 1, 1, 0, 0] c29
noncomputable def r29_6 : Code := Code.sub [1, 0, 1, 0, 1, 1, 1, 0, 1, 0] c29
noncomputable def r29_7 : Code := Code.sub [1, 0, 1, 0, 1, 1, 1, 0, 1, 1, 0] c29
noncomputable def r29_8 : Code := Code.sub [1, 0, 1, 0, 1, 1, 1, 1, 0] c29
noncomputable def r29_9 : Code := Code.sub [1, 0, 1, 0, 1, 1, 1, 1, 1, 0] c29
noncomputable def r29_10 : Code := Code.sub [1, 1, 0] c29
noncomputable def r29_11 : Code := Code.sub [1, 1, 1, 0] c29
theorem body29 : c29 = (.seq r29_0 (.seq (.seq r29_1 (.block 0 (.seq r29_2 (.cond (.tmp 8) r29_3 (.seq r29_4 (.cond (.tmp 13) (.seq r29_5 (.seq r29_6 (.cond (.tmp 16) r29_7 .skip))) (.seq r29_8 (.cond (.tmp 17) r29_9 .ret)))))))) (.seq r29_10 (.cond (.tmp 27) r29_11 .skip)))) := by kernel_rfl
noncomputable def L29_0 : Lt r29_0 := by refine ⟨?l, ?h⟩; case h => simp only [r29_0, c29, bodyOf, Tryd.f29, Code.sub, opsOf, List.map_cons, List.map_nil, strip]; rfl
theorem w29_0 : Wp r29_0 8 [8, 13, 16, 17, 27] [6] [] [] [some 6] (L29_0).1 := w_plain (by kernel_rfl) (L29_0).2
noncomputable def L29_1 : Lt r29_1 := by refine ⟨?l, ?h⟩; case h => simp only [r29_1, c29, bodyOf, Tryd.f29, Code.sub, opsOf, List.map_cons, List.map_nil, strip]; rfl
theorem w29_1 : Wp r29_1 8 [8, 13, 16, 17, 27] [7] [] [1] [some 7] (L29_1).1 := w_plain (by kernel_rfl) (L29_1).2
noncomputable def L29_2 : Lt r29_2 := by refine ⟨?l, ?h⟩; case h => simp only [r29_2, c29, bodyOf, Tryd.f29, Code.sub, opsOf, List.map_cons, List.map_nil, strip]; rfl
theorem w29_2 : Wp r29_2 8 [8, 13, 16, 17, 27] [] [8] [7] [some 9, some 8] (L29_2).1 := w_plain (by kernel_rfl) (L29_2).2
noncomputable def L29_3 : Lt r29_3 := by refine ⟨?l, ?h⟩; case h => simp only [r29_3, c29, bodyOf, Tryd.f29, Code.sub, opsOf, List.map_cons, List.map_nil, strip]; rfl
theorem w29_3 : Wp r29_3 8 [8, 13, 16, 17, 27] [6] [] [2] [some 10, some 11, some 12, some 6] (L29_3).1 := w_plain (by kernel_rfl) (L29_3).2
noncomputable def L29_4 : Lt r29_4 := by refine ⟨?l, ?h⟩; case h => simp only [r29_4, c29, bodyOf, Tryd.f29, Code.sub, opsOf, List.map_cons, List.map_nil, strip]; rfl
theorem w29_4 : Wp r29_4 8 [8, 13, 16, 17, 27] [] [13] [7] [some 14, some 13] (L29_4).1 := w_plain (by kernel_rfl) (L29_4).2
noncomputable def L29_5 : Lt r29_5 := by refine ⟨?l, ?h⟩; case h => simp only [r29_5, c29, bodyOf, Tryd.f29, Code.sub, opsOf, List.map_cons, List.map_nil, strip]; rfl
theorem w29_5 : Wp r29_5 8 [8, 13, 16, 17, 27] [6] [] [] [some 6] (L29_5).1 := w_plain (by kernel_rfl) (L29_5).2
noncomputable def L29_6 : Lt r29_6 := by refine ⟨?l, ?h⟩; case h => simp only [r29_6, c29, bodyOf, Tryd.f29, Code.sub, opsOf, List.map_cons, List.map_nil, strip]; rfl
theorem w29_6 : Wp r29_6 8 [8, 13, 16, 17, 27] [] [16] [2] [some 15, some 16] (L29_6).1 := w_plain (by kernel_rfl) (L29_6).2
noncomputable def L29_7 : Lt r29_7 := by refine ⟨?l, ?h⟩; case h => simp only [r29_7, c29, bodyOf, Tryd.f29, Code.sub, opsOf, List.map_cons, List.map_nil, strip]; rfl
theorem w29_7 : Wp r29_7 8 [8, 13, 16, 17, 27] [6] [] [] [some 6] (L29_7).1 := w_plain (by kernel_rfl) (L29_7).2
noncomputable def L29_8 : Lt r29_8 := by refine ⟨?l, ?h⟩; case h => simp only [r29_8, c29, bodyOf, Tryd.f29, Code.sub, opsOf, List.map_cons, List.map_nil, strip]; rfl
theorem w29_8 : Wp r29_8 8 [8, 13, 16, 17, 27] [] [17] [7] [some 18, some 17] (L29_8).1 := w_plain (by kernel_rfl) (L29_8).2
noncomputable def L29_9 : Lt r29_9 := by refine ⟨?l, ?h⟩; case h => simp only [r29_9, c29, bodyOf, Tryd.f29, Code.sub, opsOf, List.map_cons, List.map_nil, strip]; rfl
theorem w29_9 : Wp r29_9 8 [8, 13, 16, 17, 27] [6] [] [0, 2] [some 19, some 20, some 21, some 22, some 23, some 24, some 6] (L29_9).1 := w_plain (by kernel_rfl) (L29_9).2
noncomputable def L29_10 : Lt r29_10 := by refine ⟨?l, ?h⟩; case h => simp only [r29_10, c29, bodyOf, Tryd.f29, Code.sub, opsOf, List.map_cons, List.map_nil, strip]; rfl
theorem w29_10 : Wp r29_10 8 [8, 13, 16, 17, 27] [] [27] [0] [some 25, some 26, some 27] (L29_10).1 := w_plain (by kernel_rfl) (L29_10).2
noncomputable def L29_11 : Lt r29_11 := by refine ⟨?l, ?h⟩; case h => simp only [r29_11, c29, bodyOf, Tryd.f29, Code.sub, opsOf, List.map_cons, List.map_nil, strip]; rfl
theorem w29_11 : Wp r29_11 8 [8, 13, 16, 17, 27] [] [] [0, 6] [some 28, some 29, some 30, some 31, some 32, some 33, some 34, some 35, some 36, some 37, none] (L29_11).1 := w_plain (by kernel_rfl) (L29_11).2
theorem k29 : FnIs TT 29 c29 [] 3 := ⟨Tryd.f29, by kernel_rfl, by simp only [Tryd.f29, c29, bodyOf], by kernel_rfl, of_decide_eq_true (by kernel_rfl)⟩
noncomputable def c30 : Code := bodyOf Tryd.f30
noncomputable def r30_0 : Code := Code.sub [0] c30
noncomputable def r30_1 : Code := Code.sub [1, 0, 0] c30
noncomputable def r30_2 : Code := Code.sub [1, 0, 1, 0, 0] c30
noncomputable def r30_3 : Code := Code.sub [1, 1, 0] c30
noncomputable def r30_4 : Code := Code.sub [1, 1, 1, 0] c30
theorem body30 : c30 = (.seq r30_0 (.seq (.seq r30_1 (.cond (.tmp 12) (.seq r30_2 .ret) .skip)) (.seq r30_3 (.seq r30_4 .ret)))) := by kernel_rfl
noncomputable def L30_0 : Lt r30_0 := by refine ⟨?l, ?h⟩; case h => simp only [r30_0, c30, bodyOf, Tryd.f30, Code.sub, opsOf, List.map_cons, List.map_nil, strip]; rfl
theorem w30_0 : Wp r30_0 3 [12] [2] [] [] [some 2] (L30_0).1 := w_plain (by kernel_rfl) (L30_0).2
noncomputable def L30_1 : Lt r30_1 := by refine ⟨?l, ?h⟩; case h => simp only [r30_1, c30, bodyOf, Tryd.f30, Code.sub, opsOf, List.map_cons, List.map_nil, strip]; rfl
theorem w30_1 : Wp r30_1 3 [12] [] [12] [0] [some 3, some 4, some 5, some 6, some 7, some 8, some 9, some 10, some 11, some 12] (L30_1).1 := w_plain (by kernel_rfl) (L30_1).2
noncomputable def L30_2 : Lt r30_2 := by refine ⟨?l, ?h⟩; case h => simp only [r30_2, c30, bodyOf, Tryd.f30, Code.sub, opsOf, List.map_cons, List.map_nil, strip]; rfl
theorem w30_2 : Wp r30_2 3 [12] [2] [] [] [some 2] (L30_2).1 := w_plain (by kernel_rfl) (L30_2).2
noncomputable def L30_3 : Lt r30_3 := by refine ⟨?l, ?h⟩; case h => simp only [r30_3, c30, bodyOf, Tryd.f30, Code.sub, opsOf, List.map_cons, List.map_nil, strip]; rfl
theorem w30_3 : Wp r30_3 3 [12] [] [] [0] [some 13, some 14, some 15, some 16, some 17, some 18, some 19, none] (L30_3).1 := w_plain (by kernel_rfl) (L30_3).2
noncomputable def L30_4 : Lt r30_4 := by refine ⟨?l, ?h⟩; case h => simp only [r30_4, c30, bodyOf, Tryd.f30, Code.sub, opsOf, List.map_cons, List.map_nil, strip]; rfl
theorem w30_4 : Wp r30_4 3 [12] [2] [] [0] [some 20, some 21, some 22, some 23, some 24, some 25, some 26, some 27, some 28, some 29, some 30, some 31, some 2] (L30_4).1 := w_plain (by kernel_rfl) (L30_4).2
theorem k30 : FnIs TT 30 c30 [.tmp 2] 1 := ⟨Tryd.f30, by kernel_rfl, by simp only [Tryd.f30, c30, bodyOf], by kernel_rfl, of_decide_eq_true (by kernel_rfl)⟩
noncomputable def c31 : Code := bodyOf Tryd.f31
noncomputable def r31_0 : Code := Code.sub [0] c31
noncomputable def r31_1 : Code := Code.sub [1, 0] c31
noncomputable def r31_2 : Code := Code.sub [1, 1, 0, 0] c31
noncomputable def r31_3 : Code := Code.sub [1, 1, 0, 1, 0] c31
noncomputable def r31_4 : Code := Code.sub [1, 1, 1, 0] c31
theorem body31 : c31 = (.seq r31_0 (.seq r31_1 (.seq (.seq r31_2 (.cond (.tmp 18) r31_3 .skip)) (.seq r31_4 .ret)))) := by kernel_rfl
noncomputable def L31_0 : Lt r31_0 := by refine ⟨?l, ?h⟩; case h => simp only [r31_0, c31, bodyOf, Tryd.f31, Code.sub, opsOf, List.map_cons, List.map_nil, strip]; rfl
theorem w31_0 : Wp r31_0 7 [18] [4, 5] [] [] [some 4, some 5] (L31_0).1 := w_plain (by kernel_rfl) (L31_0).2
noncomputable def L31_1 : Lt r31_1 := by refine ⟨?l, ?h⟩; case h => simp only [r31_1, c31, bodyOf, Tryd.f31, Code.sub, opsOf, List.map_cons, List.map_nil, strip]; rfl
theorem w31_1 : Wp r31_1 7 [18] [6] [] [] [some 6] (L31_1).1 := w_plain (by kernel_rfl) (L31_1).2
noncomputable def L31_2 : Lt r31_2 := by refine ⟨?l, ?h⟩; case h => simp only [r31_2, c31, bodyOf, Tryd.f31, Code.sub, opsOf, List.map_cons, List.map_nil, strip]; rfl
theorem w31_2 : Wp r31_2 7 [18] [] [18] [1, 0] [some 7, some 8, some 9, some 10, some 11, some 12, some 13, some 14, some 15, some 16, some 17, some 18] (L31_2).1 := w_plain (by kernel_rfl) (L31_2).2
noncomputable def L31_3 : Lt r31_3 := by refine ⟨?l, ?h⟩; case h => simp only [r31_3, c31, bodyOf, Tryd.f31, Code.sub, opsOf, List.map_cons, List.map_nil, strip]; rfl
theorem w31_3 : Wp r31_3 7 [18] [6] [] [0, 1] [some 19, some 20, some 21, some 22, some 23, some 24, some 25, some 26, some 27, some 28, some 6] (L31_3).1 := w_plain (by kernel_rfl) (L31_3).2
noncomputable def L31_4 : Lt r31_4 := by refine ⟨?l, ?h⟩; case h => simp only [r31_4, c31, bodyOf, Tryd.f31, Code.sub, opsOf, List.map_cons, List.map_nil, strip]; rfl
theorem w31_4 : Wp r31_4 7 [18] [4, 5] [] [0, 1, 6] [some 29, some 30, some 31, some 32, some 33, some 34, some 35, some 36, some 37, some 4, some 5] (L31_4).1 := w_plain (by kernel_rfl) (L31_4).2
theorem k31 : FnIs TT 31 c31 [.tmp 4, .tmp 5] 2 := ⟨Tryd.f31, by kernel_rfl, by simp only [Tryd.f31, c31, bodyOf], by kernel_rfl, of_decide_eq_true (by kernel_rfl)⟩
noncomputable def c32 : Code := bodyOf Tryd.f32
noncomputable def r32_0 : Code := Code.sub [0] c32
noncomputable def r32_1 : Code := Code.sub [1, 0, 0] c32
noncomputable def r32_2 : Code := Code.sub [1, 0, 1, 0, 0] c32
noncomputable def r32_3 : Code := Code.sub [1, 1, 0] c32
theorem body32 : c32 = (.seq r32_0 (.seq (.seq r32_1 (.cond (.tmp 13) (.seq r32_2 .ret) .skip)) (.seq r32_3 .ret))) := by kernel_rfl
noncomputable def L32_0 : Lt r32_0 := by refine ⟨?l, ?h⟩; case h => simp only [r32_0, c32, bodyOf, Tryd.f32, Code.sub, opsOf, List.map_cons, List.map_nil, strip]; rfl
theorem w32_0 : Wp r32_0 8 [13] [6, 7] [] [] [some 6, some 7] (L32_0).1 := w_plain (by kernel_rfl) (L32_0).2
noncomputable def L32_1 : Lt r32_1 := by refine ⟨?l, ?h⟩; case h => simp only [r32_1, c32, bodyOf, Tryd.f32, Code.sub, opsOf, List.map_cons, List.map_nil, strip]; rfl
theorem w32_1 : Wp r32_1 8 [13] [] [13] [2] [some 8, some 9, some 10, some 11, some 12, some 13] (L32_1).1 := w_plain (by kernel_rfl) (L32_1).2
noncomputable def L32_2 : Lt r32_2 := by refine ⟨?l, ?h⟩; case h => simp only [r32_2, c32, bodyOf, Tryd.f32, Code.sub, opsOf, List.map_cons, List.map_nil, strip]; rfl
theorem w32_2 : Wp r32_2 8 [13] [6, 7] [] [] [some 6, some 7] (L32_2).1 := w_plain (by kernel_rfl) (L32_2).2
noncomputable def L32_3 : Lt r32_3 := by refine ⟨?l, ?h⟩; case h => simp only [r32_3, c32, bodyOf, Tryd.f32, Code.sub, opsOf, List.map_cons, List.map_nil, strip]; rfl
theorem w32_3 : Wp r32_3 8 [13] [6, 7] [] [0, 1, 2] [some 14, some 15, some 16, some 17, some 18, some 19, some 20, some 21, some 22, some 6, some 7] (L32_3).1 := w_plain (by kernel_rfl) (L32_3).2
theorem k32 : FnIs TT 32 c32 [.tmp 6, .tmp 7] 3 := ⟨Tryd.f32, by kernel_rfl, by simp only [Tryd.f32, c32, bodyOf], by kernel_rfl, of_decide_eq_true (by kernel_rfl)⟩
noncomputable def c33 : Code := bodyOf Tryd.f33
noncomputable def r33_0 : Code := Code.sub [0] c33
noncomputable def r33_1 : Code := Code.sub [1, 0, 0] c33
noncomputable def r33_2 : Code := Code.sub [1, 0, 1, 0, 0] c33
noncomputable def r33_3 : Code := Code.sub [1, 1, 0] c33
noncomputable def r33_4 : Code := Code.sub [1, 1, 1, 0, 0] c33
noncomputable def r33_5 : Code := Code.sub [1, 1, 1, 0, 1, 0, 0] c33
noncomputable def r33_6 : Code := Code.sub [1, 1, 1, 1, 0] c33
theorem body33 : c33 = (.seq r33_0 (.seq (.seq r33_1 (.cond (.tmp 14) (.seq r33_2 .ret) .skip)) (.seq r33_3 (.seq (.seq r33_4 (.cond (.tmp 30) (.seq r33_5 .ret) .skip)) (.seq r33_6 .ret))))) := by kernel_rfl
noncomputable def L33_0 : Lt r33_0 := by refine ⟨?l, ?h⟩; case h => simp only [r33_0, c33, bodyOf, Tryd.f33, Code.sub, opsOf, List.map_cons, List.map_nil, strip]; rfl
theorem w33_0 : Wp r33_0 9 [14, 30] [6, 7] [] [] [some 6, some 7] (L33_0).1 := w_plain (by kernel_rfl) (L33_0).2
noncomputable def L33_1 : Lt r33_1 := by refine ⟨?l, ?h⟩; case h => simp only [r33_1, c33, bodyOf, Tryd.f33, Code.sub, opsOf, List.map_cons, List.map_nil, strip]; rfl
theorem w33_1 : Wp r33_1 9 [14, 30] [] [14] [1, 2] [some 9, some 10, some 11, some 12, some 13, some 14] (L33_1).1 := w_plain (by kernel_rfl) (L33_1).2
noncomputable def L33_2 : Lt r33_2 := by refine ⟨?l, ?h⟩; case h => simp only [r33_2, c33, bodyOf, Tryd.f33, Code.sub, opsOf, List.map_cons, List.map_nil, strip]; rfl
theorem w33_2 : Wp r33_2 9 [14, 30] [6, 7] [] [] [some 6, some 7] (L33_2).1 := w_plain (by kernel_rfl) (L33_2).2
theorem can33_3 : canonOps (opsOf r33_3) = opsOf r33_3 := by kernel_rfl
noncomputable def L33_3 : Lc r33_3 := by refine ⟨?l, (congrArg (List.map strip) can33_3).trans ?h⟩; case h => simp only [r33_3, c33, bodyOf, Tryd.f33, Code.sub, opsOf, List.map_cons, List.map_nil, strip]; rfl
theorem w33_3 : Wd r33_3 9 [14, 30] [8] [] [1, 0, 2] [some 15, some 16, some 17, some 18, some 19, some 20, some 21, some 22, some 23, some 24, some 25, some 26, some 27, some 8] (L33_3).1 [(3, [5]), (9, [5, 11])] := w_loud (by kernel_rfl) (L33_3).2
noncomputable def L33_4 : Lt r33_4 := by refine ⟨?l, ?h⟩; case h => simp only [r33_4, c33, bodyOf, Tryd.f33, Code.sub, opsOf, List.map_cons, List.map_nil, strip]; rfl
theorem w33_4 : Wp r33_4 9 [14, 30] [] [30] [8] [some 28, some 29, some 30] (L33_4).1 := w_plain (by kernel_rfl) (L33_4).2
noncomputable def L33_5 : Lt r33_5 := by refine ⟨?l, ?h⟩; case h => simp only [r33_5, c33, bodyOf, Tryd.f33, Code.sub, opsOf, List.map_cons, List.map_nil, strip]; rfl
theorem w33_5 : Wp r33_5 9 [14, 30] [6, 7] [] [] [some 6, some 7] (L33_5).1 := w_plain (by kernel_rfl) (L33_5).2
noncomputable def L33_6 : Lt r33_6 := by refine ⟨?l, ?h⟩; case h => simp only [r33_6, c33, bodyOf, Tryd.f33, Code.sub, opsOf, List.map_cons, List.map_nil, strip]; rfl
theorem w33_6 : Wp r33_6 9 [14, 30] [6, 7] [] [0, 8] [some 31, some 32, some 33, some 34, some 35, some 36, some 37, some 38, some 6, some 7] (L33_6).1 := w_plain (by kernel_rfl) (L33_6).2
theorem k33 : FnIs TT 33 c33 [.tmp 6, .tmp 7] 3 := ⟨Tryd.f33, by kernel_rfl, by simp only [Tryd.f33, c33, bodyOf], by kernel_rfl, of_decide_eq_true (by kernel_rfl)⟩
noncomputable def c34 : Code := bodyOf Tryd.f34
noncomputable def r34_0 : Code := Code.sub [0] c34
noncomputable def r34_1 : Code := Code.sub [1, 0] c34
noncomputable def r34_2 : Code := Code.sub [1, 1, 0, 0] c34
noncomputable def r34_3 : Code := Code.sub [1, 1, 0, 1, 0, 0, 0, 0] c34
noncomputable def r34_4 : Code := Code.sub [1, 1, 0, 1, 0, 0, 1, 0, 0] c34
noncomputable def r34_5 : Code := Code.sub [1, 1, 0, 1, 0, 0, 1, 1] c34
noncomputable def r34_6 : Code := Code.sub [1, 1, 1, 0] c34
theorem body34 : c34 = (.seq r34_0 (.seq r34_1 (.seq (.seq r34_2 (.block 0 (.loop (.seq (.seq r34_3 (.cond (.tmp 21) .skip (.exit 0))) (.seq (.block 1 r34_4) r34_5))))) (.seq r34_6 .ret)))) := by kernel_rfl
noncomputable def L34_0 : Lt r34_0 := by refine ⟨?l, ?h⟩; case h => simp only [r34_0, c34, bodyOf, Tryd.f34, Code.sub, opsOf, List.map_cons, List.map_nil, strip]; rfl
theorem w34_0 : Wp r34_0 7 [21] [4] [] [] [some 4] (L34_0).1 := w_plain (by kernel_rfl) (L34_0).2
noncomputable def L34_1 : Lt r34_1 := by refine ⟨?l, ?h⟩; case h => simp only [r34_1, c34, bodyOf, Tryd.f34, Code.sub, opsOf, List.map_cons, List.map_nil, strip]; rfl
theorem w34_1 : Wp r34_1 7 [21] [5] [] [] [some 5] (L34_1).1 := w_plain (by kernel_rfl) (L34_1).2
noncomputable def L34_2 : Lt r34_2 := by refine ⟨?l, ?h⟩; case h => simp only [r34_2, c34, bodyOf, Tryd.f34, Code.sub, opsOf, List.map_cons, List.map_nil, strip]; rfl
theorem w34_2 : Wp r34_2 7 [21] [6] [] [] [some 6] (L34_2).1 := w_plain (by kernel_rfl) (L34_2).2
noncomputable def L34_3 : Lt r34_3 := by refine ⟨?l, ?h⟩; case h => simp only [r34_3, c34, bodyOf, Tryd.f34, Code.sub, opsOf, List.map_cons, List.map_nil, strip]; rfl
theorem w34_3 : Wp r34_3 7 [21] [] [21] [6, 1, 5, 0] [some 7, some 8, some 9, some 10, some 11, some 12, some 13, some 14, some 15, some 16, some 17, some 18, some 19, some 20, some 21] (L34_3).1 := w_plain (by kernel_rfl) (L34_3).2
noncomputable def L34_4 : Lt r34_4 := by refine ⟨?l, ?h⟩; case h => simp only [r34_4, c34, bodyOf, Tryd.f34, Code.sub, opsOf, List.map_cons, List.map_nil, strip]; rfl
theorem w34_4 : Wp r34_4 7 [21] [5] [] [5, 0, 1, 6] [some 24, some 25, some 26, some 27, some 28, some 29, some 30, some 31, some 5] (L34_4).1 := w_plain (by kernel_rfl) (L34_4).2
noncomputable def L34_5 : Lt r34_5 := by refine ⟨?l, ?h⟩; case h => simp only [r34_5, c34, bodyOf, Tryd.f34, Code.sub, opsOf, List.map_cons, List.map_nil, strip]; rfl
theorem w34_5 : Wp r34_5 7 [21] [6] [] [6] [some 22, some 23, some 6] (L34_5).1 := w_plain (by kernel_rfl) (L34_5).2
noncomputable def L34_6 : Lt r34_6 := by refine ⟨?l, ?h⟩; case h => simp only [r34_6, c34, bodyOf, Tryd.f34, Code.sub, opsOf, List.map_cons, List.map_nil, strip]; rfl
theorem w34_6 : Wp r34_6 7 [21] [4] [] [5] [some 32, some 33, some 4] (L34_6).1 := w_plain (by kernel_rfl) (L34_6).2
theorem k34 : FnIs TT 34 c34 [.tmp 4] 2 := ⟨Tryd.f34, by kernel_rfl, by simp only [Tryd.f34, c34, bodyOf], by kernel_rfl, of_decide_eq_true (by kernel_rfl)⟩
noncomputable def c35 : Code := bodyOf Tryd.f35
noncomputable def r35_0 : Code := Code.sub [0] c35
noncomputable def r35_1 : Code := Code.sub [1, 0] c35
noncomputable def r35_2 : Code := Code.sub [1, 1, 0] c35
noncomputable def r35_3 : Code := Code.sub [1, 1, 1, 0] c35
noncomputable def r35_4 : Code := Code.sub [1, 1, 1, 1, 0] c35
theorem body35 : c35 = (.seq r35_0 (.seq r35_1 (.seq r35_2 (.seq r35_3 (.seq r35_4 .ret))))) := by kernel_rfl
noncomputable def L35_0 : Lt r35_0 := by refine ⟨?l, ?h⟩; case h => simp only [r35_0, c35, bodyOf, Tryd.f35, Code.sub, opsOf, List.map_cons, List.map_nil, strip]; rfl
theorem w35_0 : Wp r35_0 4 [] [2] [] [] [some 2] (L35_0).1 := w_plain (by kernel_rfl) (L35_0).2
noncomputable def L35_1 : Lt r35_1 := by refine ⟨?l, ?h⟩; case h => simp only [r35_1, c35, bodyOf, Tryd.f35, Code.sub, opsOf, List.map_cons, List.map_nil, strip]; rfl
theorem w35_1 : Wp r35_1 4 [] [3] [] [0] [some 4, some 5, some 6, some 3, none] (L35_1).1 := w_plain (by kernel_rfl) (L35_1).2
noncomputable def L35_2 : Lt r35_2 := by refine ⟨?l, ?h⟩; case h => simp only [r35_2, c35, bodyOf, Tryd.f35, Code.sub, opsOf, List.map_cons, List.map_nil, strip]; rfl
theorem w35_2 : Wp r35_2 4 [] [] [] [0, 3] [some 7, some 8, some 9, some 10, some 11, some 12, none] (L35_2).1 := w_plain (by kernel_rfl) (L35_2).2
noncomputable def L35_3 : Lt r35_3 := by refine ⟨?l, ?h⟩; case h => simp only [r35_3, c35, bodyOf, Tryd.f35, Code.sub, opsOf, List.map_cons, List.map_nil, strip]; rfl
theorem w35_3 : Wp r35_3 4 [] [] [] [0, 3] [some 13, some 14, some 15, none] (L35_3).1 := w_plain (by kernel_rfl) (L35_3).2
noncomputable def L35_4 : Lt r35_4 := by refine ⟨?l, ?h⟩; case h => simp only [r35_4, c35, bodyOf, Tryd.f35, Code.sub, opsOf, List.map_cons, List.map_nil, strip]; rfl
theorem w35_4 : Wp r35_4 4 [] [2] [] [3] [some 2] (L35_4).1 := w_plain (by kernel_rfl) (L35_4).2
theorem k35 : FnIs TT 35 c35 [.tmp 2] 1 := ⟨Tryd.f35, by kernel_rfl, by simp only [Tryd.f35, c35, bodyOf], by kernel_rfl, of_decide_eq_true (by kernel_rfl)⟩
noncomputable def c36 : Code := bodyOf Tryd.f36
noncomputable def r36_0 : Code := Code.sub [0] c36
noncomputable def r36_1 : Code := Code.sub [1, 0, 0] c36
noncomputable def r36_2 : Code := Code.sub [1, 0, 1, 0, 0] c36
noncomputable def r36_3 : Code := Code.sub [1, 1, 0, 0] c36
noncomputable def r36_4 : Code := Code.sub [1, 1, 0, 1, 0, 0, 0, 0] c36
noncomputable def r36_5 : Code := Code.sub [1, 1, 0, 1, 0, 0, 1, 0, 0, 0] c36
noncomputable def r36_6 : Code := Code.sub [1, 1, 0, 1, 0, 0, 1, 0, 0, 1, 0, 0] c36
noncomputable def r36_7 : Code := Code.sub [1, 1, 0, 1, 0, 0, 1, 1] c36
noncomputable def r36_8 : Code := Code.sub [1, 1, 1, 0] c36
theorem body36 : c36 = (.seq r36_0 (.seq (.seq r36_1 (.cond (.tmp 10) (.seq r36_2 .ret) .skip)) (.seq (.seq r36_3 (.block 0 (.loop (.seq (.seq r36_4 (.cond (.tmp 14) .skip (.exit 0))) (.seq (.block 1 (.seq r36_5 (.cond (.tmp 25) (.seq r36_6 .ret) .skip))) r36_7))))) (.seq r36_8 .ret)))) := by kernel_rfl
noncomputable def L36_0 : Lt r36_0 := by refine ⟨?l, ?h⟩; case h => simp only [r36_0, c36, bodyOf, Tryd.f36, Code.sub, opsOf, List.map_cons, List.map_nil, strip]; rfl
theorem w36_0 : Wp r36_0 6 [10, 14, 25] [4] [] [] [some 4] (L36_0).1 := w_plain (by kernel_rfl) (L36_0).2
noncomputable def L36_1 : Lt r36_1 := by refine ⟨?l, ?h⟩; case h => simp only [r36_1, c36, bodyOf, Tryd.f36, Code.sub, opsOf, List.map_cons, List.map_nil, strip]; rfl
theorem w36_1 : Wp r36_1 6 [10, 14, 25] [] [10] [0, 1] [some 6, some 7, some 8, some 9, some 10] (L36_1).1 := w_plain (by kernel_rfl) (L36_1).2
noncomputable def L36_2 : Lt r36_2 := by refine ⟨?l, ?h⟩; case h => simp only [r36_2, c36, bodyOf, Tryd.f36, Code.sub, opsOf, List.map_cons, List.map_nil, strip]; rfl
theorem w36_2 : Wp r36_2 6 [10, 14, 25] [4] [] [] [some 4] (L36_2).1 := w_plain (by kernel_rfl) (L36_2).2
noncomputable def L36_3 : Lt r36_3 := by refine ⟨?l, ?h⟩; case h => simp only [r36_3, c36, bodyOf, Tryd.f36, Code.sub, opsOf, List.map_cons, List.map_nil, strip]; rfl
theorem w36_3 : Wp r36_3 6 [10, 14, 25] [5] [] [] [some 5] (L36_3).1 := w_plain (by kernel_rfl) (L36_3).2
noncomputable def L36_4 : Lt r36_4 := by refine ⟨?l, ?h⟩; case h => simp only [r36_4, c36, bodyOf, Tryd.f36, Code.sub, opsOf, List.map_cons, List.map_nil, strip]; rfl
theorem w36_4 : Wp r36_4 6 [10, 14, 25] [] [14] [5, 0] [some 11, some 12, some 13, some 14] (L36_4).1 := w_plain (by kernel_rfl) (L36_4).2
noncomputable def L36_5 : Lt r36_5 := by refine ⟨?l, ?h⟩; case h => simp only [r36_5, c36, bodyOf, Tryd.f36, Code.sub, opsOf, List.map_cons, List.map_nil, strip]; rfl
theorem w36_5 : Wp r36_5 6 [10, 14, 25] [] [25] [0, 1, 5] [some 17, some 18, some 19, some 20, some 21, some 22, some 23, some 24, some 25] (L36_5).1 := w_plain (by kernel_rfl) (L36_5).2
noncomputable def L36_6 : Lt r36_6 := by refine ⟨?l, ?h⟩; case h => simp only [r36_6, c36, bodyOf, Tryd.f36, Code.sub, opsOf, List.map_cons, List.map_nil, strip]; rfl
theorem w36_6 : Wp r36_6 6 [10, 14, 25] [4] [] [] [some 4] (L36_6).1 := w_plain (by kernel_rfl) (L36_6).2
noncomputable def L36_7 : Lt r36_7 := by refine ⟨?l, ?h⟩; case h => simp only [r36_7, c36, bodyOf, Tryd.f36, Code.sub, opsOf, List.map_cons, List.map_nil, strip]; rfl
theorem w36_7 : Wp r36_7 6 [10, 14, 25] [5] [] [5] [some 15, some 16, some 5] (L36_7).1 := w_plain (by kernel_rfl) (L36_7).2
noncomputable def L36_8 : Lt r36_8 := by refine ⟨?l, ?h⟩; case h => simp only [r36_8, c36, bodyOf, Tryd.f36, Code.sub, opsOf, List.map_cons, List.map_nil, strip]; rfl
theorem w36_8 : Wp r36_8 6 [10, 14, 25] [4] [] [] [some 4] (L36_8).1 := w_plain (by kernel_rfl) (L36_8).2
theorem k36 : FnIs TT 36 c36 [.tmp 4] 2 := ⟨Tryd.f36, by kernel_rfl, by simp only [Tryd.f36, c36, bodyOf], by kernel_rfl, of_decide_eq_true (by kernel_rfl)⟩
noncomputable def c37 : Code := bodyOf Tryd.f37
noncomputable def r37_0 : Code := Code.sub [0] c37
noncomputable def r37_1 : Code := Code.sub [1, 0] c37
theorem body37 : c37 = (.seq r37_0 (.seq r37_1 .ret)) := by kernel_rfl
noncomputable def L37_0 : Lt r37_0 := by refine ⟨?l, ?h⟩; case h => simp only [r37_0, c37, bodyOf, Tryd.f37, Code.sub, opsOf, List.map_cons, List.map_nil, strip]; rfl
theorem w37_0 : Wp r37_0 3 [] [2] [] [] [some 2] (L37_0).1 := w_plain (by kernel_rfl) (L37_0).2
noncomputable def L37_1 : Lt r37_1 := by refine ⟨?l, ?h⟩; case h => simp only [r37_1, c37, bodyOf, Tryd.f37, Code.sub, opsOf, List.map_cons, List.map_nil, strip]; rfl
theorem w37_1 : Wp r37_1 3 [] [2] [] [0] [some 3, some 4, some 5, some 6, some 7, some 8, some 2] (L37_1).1 := w_plain (by kernel_rfl) (L37_1).2
theorem k37 : FnIs TT 37 c37 [.tmp 2] 1 := ⟨Tryd.f37, by kernel_rfl, by simp only [Tryd.f37, c37, bodyOf], by kernel_rfl, of_decide_eq_true (by kernel_rfl)⟩
noncomputable def c38 : Code := bodyOf Tryd.f38
noncomputable def r38_0 : Code := Code.sub [0] c38
noncomputable def r38_1 : Code := Code.sub [1, 0, 0] c38
noncomputable def r38_2 : Code := Code.sub [1, 0, 1, 0, 0] c38
noncomputable def r38_3 : Code := Code.sub [1, 1, 0, 0] c38
noncomputable def r38_4 : Code := Code.sub [1, 1, 0, 1, 0, 0, 0, 0] c38
noncomputable def r38_5 : Code := Code.sub [1, 1, 0, 1, 0, 0, 1, 0, 0, 0] c38
noncomputable def r38_6 : Code := Code.sub [1, 1, 0, 1, 0, 0, 1, 0, 0, 1, 0, 0] c38
noncomputable def r38_7 : Code := Code.sub [1, 1, 0, 1, 0, 0, 1, 1] c38
noncomputable def r38_8 : Code := Code.sub [1, 1, 1, 0] c38
theorem body38 : c38 = (.seq r38_0 (.seq (.seq r38_1 (.cond (.tmp 10) (.seq r38_2 .ret) .skip)) (.seq (.seq r38_3 (.block 0 (.loop (.seq (.seq r38_4 (.cond (.tmp 14) .skip (.exit 0))) (.seq (.block 1 (.seq r38_5 (.cond (.tmp 25) (.seq r38_6 .ret) .skip))) r38_7))))) (.seq r38_8 .ret)))) := by kernel_rfl
noncomputable def L38_0 : Lt r38_0 := by refine ⟨?l, ?h⟩; case h => simp only [r38_0, c38, bodyOf, Tryd.f38, Code.sub, opsOf, List.map_cons, List.map_nil, strip]; rfl
theorem w38_0 : Wp r38_0 6 [10, 14, 25] [4] [] [] [some 4] (L38_0).1 := w_plain (by kernel_rfl) (L38_0).2
noncomputable def L38_1 : Lt r38_1 := by refine ⟨?l, ?h⟩; case h => simp only [r38_1, c38, bodyOf, Tryd.f38, Code.sub, opsOf, List.map_cons, List.map_nil, strip]; rfl
theorem w38_1 : Wp r38_1 6 [10, 14, 25] [] [10] [0, 1] [some 6, some 7, some 8, some 9, some 10] (L38_1).1 := w_plain (by kernel_rfl) (L38_1).2
noncomputable def L38_2 : Lt r38_2 := by refine ⟨?l, ?h⟩; case h => simp only [r38_2, c38, bodyOf, Tryd.f38, Code.sub, opsOf, List.map_cons, List.map_nil, strip]; rfl
theorem w38_2 : Wp r38_2 6 [10, 14, 25] [4] [] [] [some 4] (L38_2).1 := w_plain (by kernel_rfl) (L38_2).2
noncomputable def L38_3 : Lt r38_3 := by refine ⟨?l, ?h⟩; case h => simp only [r38_3, c38, bodyOf, Tryd.f38, Code.sub, opsOf, List.map_cons, List.map_nil, strip]; rfl
theorem w38_3 : Wp r38_3 6 [10, 14, 25] [5] [] [] [some 5] (L38_3).1 := w_plain (by kernel_rfl) (L38_3).2
noncomputable def L38_4 : Lt r38_4 := by refine ⟨?l, ?h⟩; case h => simp only [r38_4, c38, bodyOf, Tryd.f38, Code.sub, opsOf, List.map_cons, List.map_nil, strip]; rfl
theorem w38_4 : Wp r38_4 6 [10, 14, 25] [] [14] [5, 0] [some 11, some 12, some 13, some 14] (L38_4).1 := w_plain (by kernel_rfl) (L38_4).2
noncomputable def L38_5 : Lt r38_5 := by refine ⟨?l, ?h⟩; case h => simp only [r38_5, c38, bodyOf, Tryd.f38, Code.sub, opsOf, List.map_cons, List.map_nil, strip]; rfl
theorem w38_5 : Wp r38_5 6 [10, 14, 25] [] [25] [0, 1, 5] [some 17, some 18, some 19, some 20, some 21, some 22, some 23, some 24, some 25] (L38_5).1 := w_plain (by kernel_rfl) (L38_5).2
noncomputable def L38_6 : Lt r38_6 := by refine ⟨?l, ?h⟩; case h => simp only [r38_6, c38, bodyOf, Tryd.f38, Code.sub, opsOf, List.map_cons, List.map_nil, strip]; rfl
theorem w38_6 : Wp r38_6 6 [10, 14, 25] [4] [] [] [some 4] (L38_6).1 := w_plain (by kernel_rfl) (L38_6).2
noncomputable def L38_7 : Lt r38_7 := by refine ⟨?l, ?h⟩; case h => simp only [r38_7, c38, bodyOf, Tryd.f38, Code.sub, opsOf, List.map_cons, List.map_nil, strip]; rfl
theorem w38_7 : Wp r38_7 6 [10, 14, 25] [5] [] [5] [some 15, some 16, some 5] (L38_7).1 := w_plain (by kernel_rfl) (L38_7).2
noncomputable def L38_8 : Lt r38_8 := by refine ⟨?l, ?h⟩; case h => simp only [r38_8, c38, bodyOf, Tryd.f38, Code.sub, opsOf, List.map_cons, List.map_nil, strip]; rfl
theorem w38_8 : Wp r38_8 6 [10, 14, 25] [4] [] [] [some 4] (L38_8).1 := w_plain (by kernel_rfl) (L38_8).2
theorem k38 : FnIs TT 38 c38 [.tmp 4] 2 := ⟨Tryd.f38, by kernel_rfl, by simp only [Tryd.f38, c38, bodyOf], by kernel_rfl, of_decide_eq_true (by kernel_rfl)⟩
noncomputable def c39 : Code := bodyOf Tryd.f39
noncomputable def r39_0 : Code := Code.sub [0] c39
noncomputable def r39_1 : Code := Code.sub [1, 0] c39
theorem body39 : c39 = (.seq r39_0 (.seq r39_1 .ret)) := by kernel_rfl
noncomputable def L39_0 : Lt r39_0 := by refine ⟨?l, ?h⟩; case h => simp only [r39_0, c39, bodyOf, Tryd.f39, Code.sub, opsOf, List.map_cons, List.map_nil, strip]; rfl
theorem w39_0 : Wp r39_0 3 [] [2] [] [] [some 2] (L39_0).1 := w_plain (by kernel_rfl) (L39_0).2
noncomputable def L39_1 : Lt r39_1 := by refine ⟨?l, ?h⟩; case h => simp only [r39_1, c39, bodyOf, Tryd.f39, Code.sub, opsOf, List.map_cons, List.map_nil, strip]; rfl
theorem w39_1 : Wp r39_1 3 [] [2] [] [0] [some 3, some 4, some 5, some 6, some 7, some 8, some 2] (L39_1).1 := w_plain (by kernel_rfl) (L39_1).2
theorem k39 : FnIs TT 39 c39 [.tmp 2] 1 := ⟨Tryd.f39, by kernel_rfl, by simp only [Tryd.f39, c39, bodyOf], by kernel_rfl, of_decide_eq_true (by kernel_rfl)⟩
noncomputable def c40 : Code := bodyOf Tryd.f40
noncomputable def r40_0 : Code := Code.sub [0] c40
noncomputable def r40_1 : Code := Code.sub [1, 0, 0] c40
noncomputable def r40_2 : Code := Code.sub [1, 0, 1, 0, 0] c40
noncomputable def r40_3 : Code := Code.sub [1, 1, 0] c40
theorem body40 : c40 = (.seq r40_0 (.seq (.seq r40_1 (.cond (.tmp 9) (.seq r40_2 .ret) .skip)) (.seq r40_3 .ret))) := by kernel_rfl
noncomputable def L40_0 : Lt r40_0 := by refine ⟨?l, ?h⟩; case h => simp only [r40_0, c40, bodyOf, Tryd.f40, Code.sub, opsOf, List.map_cons, List.map_nil, strip]; rfl
theorem w40_0 : Wp r40_0 4 [9] [2, 3] [] [] [some 2, some 3] (L40_0).1 := w_plain (by kernel_rfl) (L40_0).2
noncomputable def L40_1 : Lt r40_1 := by refine ⟨?l, ?h⟩; case h => simp only [r40_1, c40, bodyOf, Tryd.f40, Code.sub, opsOf, List.map_cons, List.map_nil, strip]; rfl
theorem w40_1 : Wp r40_1 4 [9] [] [9] [0] [some 4, some 5, some 6, some 7, some 8, some 9] (L40_1).1 := w_plain (by kernel_rfl) (L40_1).2
noncomputable def L40_2 : Lt r40_2 := by refine ⟨?l, ?h⟩; case h => simp only [r40_2, c40, bodyOf, Tryd.f40, Code.sub, opsOf, List.map_cons, List.map_nil, strip]; rfl
theorem w40_2 : Wp r40_2 4 [9] [2, 3] [] [] [some 2, some 3] (L40_2).1 := w_plain (by kernel_rfl) (L40_2).2
noncomputable def L40_3 : Lt r40_3 := by refine ⟨?l, ?h⟩; case h => simp only [r40_3, c40, bodyOf, Tryd.f40, Code.sub, opsOf, List.map_cons, List.map_nil, strip]; rfl
theorem w40_3 : Wp r40_3 4 [9] [2, 3] [] [0] [some 10, some 11, some 12, some 13, some 2, some 3] (L40_3).1 := w_plain (by kernel_rfl) (L40_3).2
theorem k40 : FnIs TT 40 c40 [.tmp 2, .tmp 3] 1 := ⟨Tryd.f40, by kernel_rfl, by simp only [Tryd.f40, c40, bodyOf], by kernel_rfl, of_decide_eq_true (by kernel_rfl)⟩
noncomputable def c41 : Code := bodyOf Tryd.f41
noncomputable def r41_0 : Code := Code.sub [0] c41
noncomputable def r41_1 : Code := Code.sub [1, 0, 0] c41
noncomputable def r41_2 : Code := Code.sub [1, 0, 1, 0, 0] c41
noncomputable def r41_3 : Code := Code.sub [1, 1, 0] c41
noncomputable def r41_4 : Code := Code.sub [1, 1, 1, 0, 0] c41
noncomputable def r41_5 : Code := Code.sub [1, 1, 1, 0, 1, 0, 0, 0, 0] c41
noncomputable def r41_6 : Code := Code.sub [1, 1, 1, 0, 1, 0, 0, 1, 0, 0] c41
noncomputable def r41_7 : Code := Code.sub [1, 1, 1, 0, 1, 0, 0, 1, 1] c41
noncomputable def r41_8 : Code := Code.sub [1, 1, 1, 1, 0] c41
theorem body41 : c41 = (.seq r41_0 (.seq (.seq r41_1 (.cond (.tmp 10) (.seq r41_2 .ret) .skip)) (.seq r41_3 (.seq (.seq r41_4 (.block 0 (.loop (.seq (.seq r41_5 (.cond (.tmp 24) .skip (.exit 0))) (.seq (.block 1 r41_6) r41_7))))) (.seq r41_8 .ret))))) := by kernel_rfl
noncomputable def L41_0 : Lt r41_0 := by refine ⟨?l, ?h⟩; case h => simp only [r41_0, c41, bodyOf, Tryd.f41, Code.sub, opsOf, List.map_cons, List.map_nil, strip]; rfl
theorem w41_0 : Wp r41_0 9 [10, 24] [4, 5] [] [] [some 4, some 5] (L41_0).1 := w_plain (by kernel_rfl) (L41_0).2
noncomputable def L41_1 : Lt r41_1 := by refine ⟨?l, ?h⟩; case h => simp only [r41_1, c41, bodyOf, Tryd.f41, Code.sub, opsOf, List.map_cons, List.map_nil, strip]; rfl
theorem w41_1 : Wp r41_1 9 [10, 24] [] [10] [1] [some 9, some 10] (L41_1).1 := w_plain (by kernel_rfl) (L41_1).2
noncomputable def L41_2 : Lt r41_2 := by refine ⟨?l, ?h⟩; case h => simp only [r41_2, c41, bodyOf, Tryd.f41, Code.sub, opsOf, List.map_cons, List.map_nil, strip]; rfl
theorem w41_2 : Wp r41_2 9 [10, 24] [4, 5] [] [] [some 4, some 5] (L41_2).1 := w_plain (by kernel_rfl) (L41_2).2
noncomputable def L41_3 : Lt r41_3 := by refine ⟨?l, ?h⟩; case h => simp only [r41_3, c41, bodyOf, Tryd.f41, Code.sub, opsOf, List.map_cons, List.map_nil, strip]; rfl
theorem w41_3 : Wp r41_3 9 [10, 24] [6, 7] [] [0, 1] [some 12, some 13, some 14, some 15, some 11, some 16, some 17, some 6, some 7] (L41_3).1 := w_plain (by kernel_rfl) (L41_3).2
noncomputable def L41_4 : Lt r41_4 := by refine ⟨?l, ?h⟩; case h => simp only [r41_4, c41, bodyOf, Tryd.f41, Code.sub, opsOf, List.map_cons, List.map_nil, strip]; rfl
theorem w41_4 : Wp r41_4 9 [10, 24] [8] [] [] [some 8] (L41_4).1 := w_plain (by kernel_rfl) (L41_4).2
noncomputable def L41_5 : Lt r41_5 := by refine ⟨?l, ?h⟩; case h => simp only [r41_5, c41, bodyOf, Tryd.f41, Code.sub, opsOf, List.map_cons, List.map_nil, strip]; rfl
theorem w41_5 : Wp r41_5 9 [10, 24] [] [24] [7, 8, 1] [some 18, some 19, some 20, some 21, some 22, some 23, some 24] (L41_5).1 := w_plain (by kernel_rfl) (L41_5).2
noncomputable def L41_6 : Lt r41_6 := by refine ⟨?l, ?h⟩; case h => simp only [r41_6, c41, bodyOf, Tryd.f41, Code.sub, opsOf, List.map_cons, List.map_nil, strip]; rfl
theorem w41_6 : Wp r41_6 9 [10, 24] [] [] [0, 6, 1, 8] [some 27, some 28, some 29, some 30, some 31, some 32, some 33, some 34] (L41_6).1 := w_plain (by kernel_rfl) (L41_6).2
noncomputable def L41_7 : Lt r41_7 := by refine ⟨?l, ?h⟩; case h => simp only [r41_7, c41, bodyOf, Tryd.f41, Code.sub, opsOf, List.map_cons, List.map_nil, strip]; rfl
theorem w41_7 : Wp r41_7 9 [10, 24] [8] [] [8] [some 25, some 26, some 8] (L41_7).1 := w_plain (by kernel_rfl) (L41_7).2
noncomputable def L41_8 : Lt r41_8 := by refine ⟨?l, ?h⟩; case h => simp only [r41_8, c41, bodyOf, Tryd.f41, Code.sub, opsOf, List.map_cons, List.map_nil, strip]; rfl
theorem w41_8 : Wp r41_8 9 [10, 24] [4, 5] [] [6, 7] [some 35, some 36, some 4, some 5] (L41_8).1 := w_plain (by kernel_rfl) (L41_8).2
theorem k41 : FnIs TT 41 c41 [.tmp 4, .tmp 5] 2 := ⟨Tryd.f41, by kernel_rfl, by simp only [Tryd.f41, c41, bodyOf], by kernel_rfl, of_decide_eq_true (by kernel_rfl)⟩
noncomputable def c42 : Code := bodyOf Tryd.f42
noncomputable def r42_0 : Code := Code.sub [0] c42
noncomputable def r42_1 : Code := Code.sub [1, 0] c42
theorem body42 : c42 = (.seq r42_0 (.seq r42_1 .ret)) := by kernel_rfl
noncomputable def L42_0 : Lt r42_0 := by refine ⟨?l, ?h⟩; case h => simp only [r42_0, c42, bodyOf, Tryd.f42, Code.sub, opsOf, List.map_cons, List.map_nil, strip]; rfl
theorem w42_0 : Wp r42_0 1 [] [0] [] [] [some 0] (L42_0).1 := w_plain (by kernel_rfl) (L42_0).2
noncomputable def L42_1 : Lt r42_1 := by refine ⟨?l, ?h⟩; case h => simp only [r42_1, c42, bodyOf, Tryd.f42, Code.sub, opsOf, List.map_cons, List.map_nil, strip]; rfl
theorem w42_1 : Wp r42_1 1 [] [0] [] [] [some 1, some 2, some 3, some 4, some 5, some 6, some 0] (L42_1).1 := w_plain (by kernel_rfl) (L42_1).2
theorem k42 : FnIs TT 42 c42 [.tmp 0] 0 := ⟨Tryd.f42, by kernel_rfl, by simp only [Tryd.f42, c42, bodyOf], by kernel_rfl, of_decide_eq_true (by kernel_rfl)⟩
noncomputable def c43 : Code := bodyOf Tryd.f43
noncomputable def r43_0 : Code := Code.sub [0] c43
noncomputable def r43_1 : Code := Code.sub [1, 0] c43
theorem body43 : c43 = (.seq r43_0 (.seq r43_1 .ret)) := by kernel_rfl
noncomputable def L43_0 : Lt r43_0 := by refine ⟨?l, ?h⟩; case h => simp only [r43_0, c43, bodyOf, Tryd.f43, Code.sub, opsOf, List.map_cons, List.map_nil, strip]; rfl
theorem w43_0 : Wp r43_0 3 [] [2] [] [] [some 2] (L43_0).1 := w_plain (by kernel_rfl) (L43_0).2
noncomputable def L43_1 : Lt r43_1 := by refine ⟨?l, ?h⟩; case h => simp only [r43_1, c43, bodyOf, Tryd.f43, Code.sub, opsOf, List.map_cons, List.map_nil, strip]; rfl
theorem w43_1 : Wp r43_1 3 [] [2] [] [0] [some 3, some 4, some 5, some 6, some 7, some 2] (L43_1).1 := w_plain (by kernel_rfl) (L43_1).2
theorem k43 : FnIs TT 43 c43 [.tmp 2] 1 := ⟨Tryd.f43, by kernel_rfl, by simp only [Tryd.f43, c43, bodyOf], by kernel_rfl, of_decide_eq_true (by kernel_rfl)⟩
noncomputable def c44 : Code := bodyOf Tryd.f44
noncomputable def r44_0 : Code := Code.sub [0] c44
noncomputable def r44_1 : Code := Code.sub [1, 0, 0] c44
noncomputable def r44_2 : Code := Code.sub [1, 0, 1, 0, 0] c44
noncomputable def r44_3 : Code := Code.sub [1, 0, 1, 0, 1, 0, 0] c44
noncomputable def r44_4 : Code := Code.sub [1, 0, 1, 0, 1, 1, 0] c44
noncomputable def r44_5 : Code := Code.sub [1, 0, 1, 0, 1, 1, 1, 0, 0] c44
noncomputable def r44_6 : Code := Code.sub [1, 0, 1, 0, 1, 1, 1, 1, 0] c44
noncomputable def r44_7 : Code := Code.sub [1, 0, 1, 0, 1, 1, 1, 1, 1, 0, 0] c44
noncomputable def r44_8 : Code := Code.sub [1, 1, 0] c44
theorem body44 : c44 = (.seq r44_0 (.seq (.seq r44_1 (.block 0 (.seq r44_2 (.cond (.tmp 9) (.seq r44_3 .ret) (.seq r44_4 (.cond (.tmp 14) (.seq r44_5 .ret) (.seq r44_6 (.cond (.tmp 19) (.seq r44_7 .ret) .skip)))))))) (.seq r44_8 .ret))) := by kernel_rfl
noncomputable def L44_0 : Lt r44_0 := by refine ⟨?l, ?h⟩; case h => simp only [r44_0, c44, bodyOf, Tryd.f44, Code.sub, opsOf, List.map_cons, List.map_nil, strip]; rfl
theorem w44_0 : Wp r44_0 9 [9, 14, 19] [6, 7] [] [] [some 6, some 7] (L44_0).1 := w_plain (by kernel_rfl) (L44_0).2
noncomputable def L44_1 : Lt r44_1 := by refine ⟨?l, ?h⟩; case h => simp only [r44_1, c44, bodyOf, Tryd.f44, Code.sub, opsOf, List.map_cons, List.map_nil, strip]; rfl
theorem w44_1 : Wp r44_1 9 [9, 14, 19] [8] [] [1] [some 8] (L44_1).1 := w_plain (by kernel_rfl) (L44_1).2
noncomputable def L44_2 : Lt r44_2 := by refine ⟨?l, ?h⟩; case h => simp only [r44_2, c44, bodyOf, Tryd.f44, Code.sub, opsOf, List.map_cons, List.map_nil, strip]; rfl
theorem w44_2 : Wp r44_2 9 [9, 14, 19] [] [9] [8] [some 10, some 9] (L44_2).1 := w_plain (by kernel_rfl) (L44_2).2
noncomputable def L44_3 : Lt r44_3 := by refine ⟨?l, ?h⟩; case h => simp only [r44_3, c44, bodyOf, Tryd.f44, Code.sub, opsOf, List.map_cons, List.map_nil, strip]; rfl
theorem w44_3 : Wp r44_3 9 [9, 14, 19] [6, 7] [] [2] [some 11, some 12, some 13, some 6, some 7] (L44_3).1 := w_plain (by kernel_rfl) (L44_3).2
noncomputable def L44_4 : Lt r44_4 := by refine ⟨?l, ?h⟩; case h => simp only [r44_4, c44, bodyOf, Tryd.f44, Code.sub, opsOf, List.map_cons, List.map_nil, strip]; rfl
theorem w44_4 : Wp r44_4 9 [9, 14, 19] [] [14] [8] [some 15, some 14] (L44_4).1 := w_plain (by kernel_rfl) (L44_4).2
noncomputable def L44_5 : Lt r44_5 := by refine ⟨?l, ?h⟩; case h => simp only [r44_5, c44, bodyOf, Tryd.f44, Code.sub, opsOf, List.map_cons, List.map_nil, strip]; rfl
theorem w44_5 : Wp r44_5 9 [9, 14, 19] [6, 7] [] [2] [some 16, some 17, some 18, some 6, some 7] (L44_5).1 := w_plain (by kernel_rfl) (L44_5).2
noncomputable def L44_6 : Lt r44_6 := by refine ⟨?l, ?h⟩; case h => simp only [r44_6, c44, bodyOf, Tryd.f44, Code.sub, opsOf, List.map_cons, List.map_nil, strip]; rfl
theorem w44_6 : Wp r44_6 9 [9, 14, 19] [] [19] [8] [some 20, some 19] (L44_6).1 := w_plain (by kernel_rfl) (L44_6).2
noncomputable def L44_7 : Lt r44_7 := by refine ⟨?l, ?h⟩; case h => simp only [r44_7, c44, bodyOf, Tryd.f44, Code.sub, opsOf, List.map_cons, List.map_nil, strip]; rfl
theorem w44_7 : Wp r44_7 9 [9, 14, 19] [6, 7] [] [0, 2] [some 21, some 22, some 23, some 24, some 25, some 26, some 6, some 7] (L44_7).1 := w_plain (by kernel_rfl) (L44_7).2
noncomputable def L44_8 : Lt r44_8 := by refine ⟨?l, ?h⟩; case h => simp only [r44_8, c44, bodyOf, Tryd.f44, Code.sub, opsOf, List.map_cons, List.map_nil, strip]; rfl
theorem w44_8 : Wp r44_8 9 [9, 14, 19] [6, 7] [] [] [some 6, some 7] (L44_8).1 := w_plain (by kernel_rfl) (L44_8).2
theorem k44 : FnIs TT 44 c44 [.tmp 6, .tmp 7] 3 := ⟨Tryd.f44, by kernel_rfl, by simp only [Tryd.f44, c44, bodyOf], by kernel_rfl, of_decide_eq_true (by kernel_rfl)⟩
noncomputable def c45 : Code := bodyOf Tryd.f45
noncomputable def r45_0 : Code := Code.sub [0] c45
noncomputable def r45_1 : Code := Code.sub [1, 0, 0] c45
noncomputable def r45_2 : Code := Code.sub [1, 0, 1, 0, 0] c45
noncomputable def r45_3 : Code := Code.sub [1, 1, 0] c45
theorem body45 : c45 = (.seq r45_0 (.seq (.seq r45_1 (.cond (.tmp 4) (.seq r45_2 .ret) .skip)) (.seq r45_3 .ret))) := by kernel_rfl
noncomputable def L45_0 : Lt r45_0 := by refine ⟨?l, ?h⟩; case h => simp only [r45_0, c45, bodyOf, Tryd.f45, Code.sub, opsOf, List.map_cons, List.map_nil, strip]; rfl
theorem w45_0 : Wp r45_0 3 [4] [2] [] [] [some 2] (L45_0).1 := w_plain (by kernel_rfl) (L45_0).2
noncomputable def L45_1 : Lt r45_1 := by refine ⟨?l, ?h⟩; case h => simp only [r45_1, c45, bodyOf, Tryd.f45, Code.sub, opsOf, List.map_cons, List.map_nil, strip]; rfl
theorem w45_1 : Wp r45_1 3 [4] [] [4] [0] [some 3, some 4] (L45_1).1 := w_plain (by kernel_rfl) (L45_1).2
noncomputable def L45_2 : Lt r45_2 := by refine ⟨?l, ?h⟩; case h => simp only [r45_2, c45, bodyOf, Tryd.f45, Code.sub, opsOf, List.map_cons, List.map_nil, strip]; rfl
theorem w45_2 : Wp r45_2 3 [4] [2] [] [0] [some 5, some 6, some 7, some 8, some 9, some 2] (L45_2).1 := w_plain (by kernel_rfl) (L45_2).2
theorem can45_3 : canonOps (opsOf r45_3) = List.filterMap (fun i => ((opsOf r45_3)[i]?).map (renum [0, 1, 2, 3, 4, 5, 6, 7, 8, 9, 10])) [0, 1, 2, 3, 4, 5, 6, 7, 8, 9, 10] := by kernel_rfl
noncomputable def L45_3 : Lc r45_3 := by refine ⟨?l, (congrArg (List.map strip) can45_3).trans ?h⟩; case h => simp only [r45_3, c45, bodyOf, Tryd.f45, Code.sub, opsOf, List.filterMap_cons, List.filterMap_nil, List.getElem?_cons_succ, List.getElem?_cons_zero, Option.map_some, renum, List.map_cons, List.map_nil, strip]; rfl
theorem w45_3 : Wd r45_3 3 [4] [2] [] [0] [some 10, some 11, some 12, some 13, some 14, some 15, some 16, some 17, some 18, some 19, some 2] (L45_3).1 [(6, [2, 7]), (8, [11])] := w_loud (by kernel_rfl) (L45_3).2
theorem k45 : FnIs TT 45 c45 [.tmp 2] 1 := ⟨Tryd.f45, by kernel_rfl, by simp only [Tryd.f45, c45, bodyOf], by kernel_rfl, of_decide_eq_true (by kernel_rfl)⟩
noncomputable def c46 : Code := bodyOf Tryd.f46
noncomputable def r46_0 : Code := Code.sub [0] c46
noncomputable def r46_1 : Code := Code.sub [1, 0] c46
noncomputable def r46_2 : Code := Code.sub [1, 1, 0] c46
noncomputable def r46_3 : Code := Code.sub [1, 1, 1, 0, 0] c46
noncomputable def r46_4 : Code := Code.sub [1, 1, 1, 0, 1, 0, 0, 0, 0] c46
noncomputable def r46_5 : Code := Code.sub [1, 1, 1, 0, 1, 0, 0, 1, 0, 0] c46
noncomputable def r46_6 : Code := Code.sub [1, 1, 1, 0, 1, 0, 0, 1, 1] c46
noncomputable def r46_7 : Code := Code.sub [1, 1, 1, 1, 0] c46
theorem body46 : c46 = (.seq r46_0 (.seq r46_1 (.seq r46_2 (.seq (.seq r46_3 (.block 0 (.loop (.seq (.seq r46_4 (.cond (.tmp 20) .skip (.exit 0))) (.seq (.block 1 r46_5) r46_6))))) (.seq r46_7 .ret))))) := by kernel_rfl
noncomputable def L46_0 : Lt r46_0 := by refine ⟨?l, ?h⟩; case h => simp only [r46_0, c46, bodyOf, Tryd.f46, Code.sub, opsOf, List.map_cons, List.map_nil, strip]; rfl
theorem w46_0 : Wp r46_0 8 [20] [4] [] [] [some 4] (L46_0).1 := w_plain (by kernel_rfl) (L46_0).2
noncomputable def L46_1 : Lt r46_1 := by refine ⟨?l, ?h⟩; case h => simp only [r46_1, c46, bodyOf, Tryd.f46, Code.sub, opsOf, List.map_cons, List.map_nil, strip]; rfl
theorem w46_1 : Wp r46_1 8 [20] [5] [] [] [some 5] (L46_1).1 := w_plain (by kernel_rfl) (L46_1).2
noncomputable def L46_2 : Lt r46_2 := by refine ⟨?l, ?h⟩; case h => simp only [r46_2, c46, bodyOf, Tryd.f46, Code.sub, opsOf, List.map_cons, List.map_nil, strip]; rfl
theorem w46_2 : Wp r46_2 8 [20] [6] [] [0] [some 8, some 9, some 6] (L46_2).1 := w_plain (by kernel_rfl) (L46_2).2
noncomputable def L46_3 : Lt r46_3 := by refine ⟨?l, ?h⟩; case h => simp only [r46_3, c46, bodyOf, Tryd.f46, Code.sub, opsOf, List.map_cons, List.map_nil, strip]; rfl
theorem w46_3 : Wp r46_3 8 [20] [7] [] [] [some 7] (L46_3).1 := w_plain (by kernel_rfl) (L46_3).2
theorem can46_4 : canonOps (opsOf r46_4) = opsOf r46_4 := by kernel_rfl
noncomputable def L46_4 : Lc r46_4 := by refine ⟨?l, (congrArg (List.map strip) can46_4).trans ?h⟩; case h => simp only [r46_4, c46, bodyOf, Tryd.f46, Code.sub, opsOf, List.map_cons, List.map_nil, strip]; rfl
theorem w46_4 : Wd r46_4 8 [20] [] [20] [7, 1, 0] [some 10, some 11, some 12, some 13, some 14, some 15, some 16, some 17, some 18, some 19, some 20] (L46_4).1 [(7, [3, 11]), (8, [3, 11])] := w_loud (by kernel_rfl) (L46_4).2
noncomputable def L46_5 : Lt r46_5 := by refine ⟨?l, ?h⟩; case h => simp only [r46_5, c46, bodyOf, Tryd.f46, Code.sub, opsOf, List.map_cons, List.map_nil, strip]; rfl
theorem w46_5 : Wp r46_5 8 [20] [5] [] [5, 6, 1, 7] [some 23, some 24, some 25, some 26, some 27, some 28, some 29, some 30, some 5] (L46_5).1 := w_plain (by kernel_rfl) (L46_5).2
noncomputable def L46_6 : Lt r46_6 := by refine ⟨?l, ?h⟩; case h => simp only [r46_6, c46, bodyOf, Tryd.f46, Code.sub, opsOf, List.map_cons, List.map_nil, strip]; rfl
theorem w46_6 : Wp r46_6 8 [20] [7] [] [7] [some 21, some 22, some 7] (L46_6).1 := w_plain (by kernel_rfl) (L46_6).2
noncomputable def L46_7 : Lt r46_7 := by refine ⟨?l, ?h⟩; case h => simp only [r46_7, c46, bodyOf, Tryd.f46, Code.sub, opsOf, List.map_cons, List.map_nil, strip]; rfl
theorem w46_7 : Wp r46_7 8 [20] [4] [] [5] [some 31, some 32, some 4] (L46_7).1 := w_plain (by kernel_rfl) (L46_7).2
theorem k46 : FnIs TT 46 c46 [.tmp 4] 2 := ⟨Tryd.f46, by kernel_rfl, by simp only [Tryd.f46, c46, bodyOf], by kernel_rfl, of_decide_eq_true (by kernel_rfl)⟩
noncomputable def c47 : Code := bodyOf Tryd.f47
noncomputable def r47_0 : Code := Code.sub [0] c47
noncomputable def r47_1 : Code := Code.sub [1, 0] c47
theorem body47 : c47 = (.seq r47_0 (.seq r47_1 .ret)) := by kernel_rfl
noncomputable def L47_0 : Lt r47_0 := by refine ⟨?l, ?h⟩; case h => simp only [r47_0, c47, bodyOf, Tryd.f47, Code.sub, opsOf, List.map_cons, List.map_nil, strip]; rfl
theorem w47_0 : Wp r47_0 5 [] [4] [] [] [some 4] (L47_0).1 := w_plain (by kernel_rfl) (L47_0).2
noncomputable def L47_1 : Lt r47_1 := by refine ⟨?l, ?h⟩; case h => simp only [r47_1, c47, bodyOf, Tryd.f47, Code.sub, opsOf, List.map_cons, List.map_nil, strip]; rfl
theorem w47_1 : Wp r47_1 5 [] [4] [] [0, 1] [some 5, some 6, some 7, some 4] (L47_1).1 := w_plain (by kernel_rfl) (L47_1).2
theorem k47 : FnIs TT 47 c47 [.tmp 4] 2 := ⟨Tryd.f47, by kernel_rfl, by simp only [Tryd.f47, c47, bodyOf], by kernel_rfl, of_decide_eq_true (by kernel_rfl)⟩
noncomputable def c48 : Code := bodyOf Tryd.f48
noncomputable def r48_0 : Code := Code.sub [0] c48
noncomputable def r48_1 : Code := Code.sub [1, 0, 0] c48
noncomputable def r48_2 : Code := Code.sub [1, 0, 1, 0, 0] c48
noncomputable def r48_3 : Code := Code.sub [1, 1, 0] c48
noncomputable def r48_4 : Code := Code.sub [1, 1, 1, 0] c48
noncomputable def r48_5 : Code := Code.sub [1, 1, 1, 1, 0] c48
noncomputable def r48_6 : Code := Code.sub [1, 1, 1, 1, 1, 0] c48
theorem body48 : c48 = (.seq r48_0 (.seq (.seq r48_1 (.cond (.tmp 36) (.seq r48_2 .ret) .skip)) (.seq r48_3 (.seq r48_4 (.seq r48_5 (.seq r48_6 .ret)))))) := by kernel_rfl
noncomputable def L48_0 : Lt r48_0 := by refine ⟨?l, ?h⟩; case h => simp only [r48_0, c48, bodyOf, Tryd.f48, Code.sub, opsOf, List.map_cons, List.map_nil, strip]; rfl
theorem w48_0 : Wp r48_0 9 [36] [6, 7] [] [] [some 6, some 7] (L48_0).1 := w_plain (by kernel_rfl) (L48_0).2
noncomputable def L48_1 : Lt r48_1 := by refine ⟨?l, ?h⟩; case h => simp only [r48_1, c48, bodyOf, Tryd.f48, Code.sub, opsOf, List.map_cons, List.map_nil, strip]; rfl
theorem w48_1 : Wp r48_1 9 [36] [] [36] [1, 2, 0] [some 9, some 10, some 11, some 12, some 13, some 14, some 15, some 16, some 17, some 18, some 19, some 20, some 21, some 22, some 23, some 24, some 25, some 26, some 27, some 28, some 29, some 30, some 31, some 32, some 33, some 34, some 35, some 36] (L48_1).1 := w_plain (by kernel_rfl) (L48_1).2
noncomputable def L48_2 : Lt r48_2 := by refine ⟨?l, ?h⟩; case h => simp only [r48_2, c48, bodyOf, Tryd.f48, Code.sub, opsOf, List.map_cons, List.map_nil, strip]; rfl
theorem w48_2 : Wp r48_2 9 [36] [6, 7] [] [] [some 6, some 7] (L48_2).1 := w_plain (by kernel_rfl) (L48_2).2
noncomputable def L48_3 : Lt r48_3 := by refine ⟨?l, ?h⟩; case h => simp only [r48_3, c48, bodyOf, Tryd.f48, Code.sub, opsOf, List.map_cons, List.map_nil, strip]; rfl
theorem w48_3 : Wp r48_3 9 [36] [8] [] [0] [some 37, some 38, some 39, some 40, some 41, some 42, some 8] (L48_3).1 := w_plain (by kernel_rfl) (L48_3).2
noncomputable def L48_4 : Lt r48_4 := by refine ⟨?l, ?h⟩; case h => simp only [r48_4, c48, bodyOf, Tryd.f48, Code.sub, opsOf, List.map_cons, List.map_nil, strip]; rfl
theorem w48_4 : Wp r48_4 9 [36] [] [] [0, 1, 2] [some 43, some 44, some 45, some 46, some 47, some 48, some 49, some 50, some 51, some 52, some 53, some 54, some 55, some 56, some 57, none] (L48_4).1 := w_plain (by kernel_rfl) (L48_4).2
noncomputable def L48_5 : Lt r48_5 := by refine ⟨?l, ?h⟩; case h => simp only [r48_5, c48, bodyOf, Tryd.f48, Code.sub, opsOf, List.map_cons, List.map_nil, strip]; rfl
theorem w48_5 : Wp r48_5 9 [36] [] [] [0, 2] [some 58, some 59, some 60, some 61, some 62, some 63, some 64, some 65, some 66, none] (L48_5).1 := w_plain (by kernel_rfl) (L48_5).2
noncomputable def L48_6 : Lt r48_6 := by refine ⟨?l, ?h⟩; case h => simp only [r48_6, c48, bodyOf, Tryd.f48, Code.sub, opsOf, List.map_cons, List.map_nil, strip]; rfl
theorem w48_6 : Wp r48_6 9 [36] [6, 7] [] [8] [some 67, some 6, some 7] (L48_6).1 := w_plain (by kernel_rfl) (L48_6).2
theorem k48 : FnIs TT 48 c48 [.tmp 6, .tmp 7] 3 := ⟨Tryd.f48, by kernel_rfl, by simp only [Tryd.f48, c48, bodyOf], by kernel_rfl, of_decide_eq_true (by kernel_rfl)⟩
noncomputable def c49 : Code := bodyOf Tryd.f49
noncomputable def r49_0 : Code := Code.sub [0] c49
noncomputable def r49_1 : Code := Code.sub [1, 0] c49
theorem body49 : c49 = (.seq r49_0 (.seq r49_1 .ret)) := by kernel_rfl
noncomputable def L49_0 : Lt r49_0 := by refine ⟨?l, ?h⟩; case h => simp only [r49_0, c49, bodyOf, Tryd.f49, Code.sub, opsOf, List.map_cons, List.map_nil, strip]; rfl
theorem w49_0 : Wp r49_0 3 [] [2] [] [] [some 2] (L49_0).1 := w_plain (by kernel_rfl) (L49_0).2
noncomputable def L49_1 : Lt r49_1 := by refine ⟨?l, ?h⟩; case h => simp only [r49_1, c49, bodyOf, Tryd.f49, Code.sub, opsOf, List.map_cons, List.map_nil, strip]; rfl
theorem w49_1 : Wp r49_1 3 [] [2] [] [0] [some 3, some 4, some 5, some 6, some 2] (L49_1).1 := w_plain (by kernel_rfl) (L49_1).2
theorem k49 : FnIs TT 49 c49 [.tmp 2] 1 := ⟨Tryd.f49, by kernel_rfl, by simp only [Tryd.f49, c49, bodyOf], by kernel_rfl, of_decide_eq_true (by kernel_rfl)⟩
noncomputable def c50 : Code := bodyOf Tryd.f50
noncomputable def r50_0 : Code := Code.sub [0] c50
noncomputable def r50_1 : Code := Code.sub [1, 0] c50
theorem body50 : c50 = (.seq r50_0 (.seq r50_1 .ret)) := by kernel_rfl
noncomputable def L50_0 : Lt r50_0 := by refine ⟨?l, ?h⟩; case h => simp only [r50_0, c50, bodyOf, Tryd.f50, Code.sub, opsOf, List.map_cons, List.map_nil, strip]; rfl
theorem w50_0 : Wp r50_0 3 [] [2] [] [] [some 2] (L50_0).1 := w_plain (by kernel_rfl) (L50_0).2
noncomputable def L50_1 : Lt r50_1 := by refine ⟨?l, ?h⟩; case h => simp only [r50_1, c50, bodyOf, Tryd.f50, Code.sub, opsOf, List.map_cons, List.map_nil, strip]; rfl
theorem w50_1 : Wp r50_1 3 [] [2] [] [0] [some 3, some 4, some 5, some 2] (L50_1).1 := w_plain (by kernel_rfl) (L50_1).2
theorem k50 : FnIs TT 50 c50 [.tmp 2] 1 := ⟨Tryd.f50, by kernel_rfl, by simp only [Tryd.f50, c50, bodyOf], by kernel_rfl, of_decide_eq_true (by kernel_rfl)⟩
noncomputable def c51 : Code := bodyOf Tryd.f51
noncomputable def r51_0 : Code := Code.sub [0] c51
noncomputable def r51_1 : Code := Code.sub [1, 0, 0] c51
noncomputable def r51_2 : Code := Code.sub [1, 0, 1, 0, 0] c51
noncomputable def r51_3 : Code := Code.sub [1, 1, 0] c51
noncomputable def r51_4 : Code := Code.sub [1, 1, 1, 0, 0] c51
noncomputable def r51_5 : Code := Code.sub [1, 1, 1, 0, 1, 0, 0] c51
noncomputable def r51_6 : Code := Code.sub [1, 1, 1, 1, 0, 0] c51
noncomputable def r51_7 : Code := Code.sub [1, 1, 1, 1, 0, 1, 0, 0, 0, 0] c51
noncomputable def r51_8 : Code := Code.sub [1, 1, 1, 1, 0, 1, 0, 0, 1, 0, 0] c51
noncomputable def r51_9 : Code := Code.sub [1, 1, 1, 1, 0, 1, 0, 0, 1, 1] c51
noncomputable def r51_10 : Code := Code.sub [1, 1, 1, 1, 1, 0] c51
theorem body51 : c51 = (.seq r51_0 (.seq (.seq r51_1 (.cond (.tmp 10) (.seq r51_2 .ret) .skip)) (.seq r51_3 (.seq (.seq r51_4 (.cond (.tmp 19) (.seq r51_5 .ret) .skip)) (.seq (.seq r51_6 (.block 0 (.loop (.seq (.seq r51_7 (.cond (.tmp 23) .skip (.exit 0))) (.seq (.block 1 r51_8) r51_9))))) (.seq r51_10 .ret)))))) := by kernel_rfl
noncomputable def L51_0 : Lt r51_0 := by refine ⟨?l, ?h⟩; case h => simp only [r51_0, c51, bodyOf, Tryd.f51, Code.sub, opsOf, List.map_cons, List.map_nil, strip]; rfl
theorem w51_0 : Wp r51_0 9 [10, 19, 23] [4, 5] [] [] [some 4, some 5] (L51_0).1 := w_plain (by kernel_rfl) (L51_0).2
noncomputable def L51_1 : Lt r51_1 := by refine ⟨?l, ?h⟩; case h => simp only [r51_1, c51, bodyOf, Tryd.f51, Code.sub, opsOf, List.map_cons, List.map_nil, strip]; rfl
theorem w51_1 : Wp r51_1 9 [10, 19, 23] [] [10] [1] [some 9, some 10] (L51_1).1 := w_plain (by kernel_rfl) (L51_1).2
noncomputable def L51_2 : Lt r51_2 := by refine ⟨?l, ?h⟩; case h => simp only [r51_2, c51, bodyOf, Tryd.f51, Code.sub, opsOf, List.map_cons, List.map_nil, strip]; rfl
theorem w51_2 : Wp r51_2 9 [10, 19, 23] [4, 5] [] [] [some 4, some 5] (L51_2).1 := w_plain (by kernel_rfl) (L51_2).2
noncomputable def L51_3 : Lt r51_3 := by refine ⟨?l, ?h⟩; case h => simp only [r51_3, c51, bodyOf, Tryd.f51, Code.sub, opsOf, List.map_cons, List.map_nil, strip]; rfl
theorem w51_3 : Wp r51_3 9 [10, 19, 23] [6, 7] [] [0, 1] [some 12, some 13, some 14, some 15, some 11, some 16, some 17, some 6, some 7] (L51_3).1 := w_plain (by kernel_rfl) (L51_3).2
noncomputable def L51_4 : Lt r51_4 := by refine ⟨?l, ?h⟩; case h => simp only [r51_4, c51, bodyOf, Tryd.f51, Code.sub, opsOf, List.map_cons, List.map_nil, strip]; rfl
theorem w51_4 : Wp r51_4 9 [10, 19, 23] [] [19] [7] [some 18, some 19] (L51_4).1 := w_plain (by kernel_rfl) (L51_4).2
noncomputable def L51_5 : Lt r51_5 := by refine ⟨?l, ?h⟩; case h => simp only [r51_5, c51, bodyOf, Tryd.f51, Code.sub, opsOf, List.map_cons, List.map_nil, strip]; rfl
theorem w51_5 : Wp r51_5 9 [10, 19, 23] [4, 5] [] [] [some 4, some 5] (L51_5).1 := w_plain (by kernel_rfl) (L51_5).2
noncomputable def L51_6 : Lt r51_6 := by refine ⟨?l, ?h⟩; case h => simp only [r51_6, c51, bodyOf, Tryd.f51, Code.sub, opsOf, List.map_cons, List.map_nil, strip]; rfl
theorem w51_6 : Wp r51_6 9 [10, 19, 23] [8] [] [] [some 8] (L51_6).1 := w_plain (by kernel_rfl) (L51_6).2
noncomputable def L51_7 : Lt r51_7 := by refine ⟨?l, ?h⟩; case h => simp only [r51_7, c51, bodyOf, Tryd.f51, Code.sub, opsOf, List.map_cons, List.map_nil, strip]; rfl
theorem w51_7 : Wp r51_7 9 [10, 19, 23] [] [23] [8, 1] [some 20, some 21, some 22, some 23] (L51_7).1 := w_plain (by kernel_rfl) (L51_7).2
noncomputable def L51_8 : Lt r51_8 := by refine ⟨?l, ?h⟩; case h => simp only [r51_8, c51, bodyOf, Tryd.f51, Code.sub, opsOf, List.map_cons, List.map_nil, strip]; rfl
theorem w51_8 : Wp r51_8 9 [10, 19, 23] [] [] [0, 6, 1, 8] [some 26, some 27, some 28, some 29, some 30, some 31, some 32, some 33] (L51_8).1 := w_plain (by kernel_rfl) (L51_8).2
noncomputable def L51_9 : Lt r51_9 := by refine ⟨?l, ?h⟩; case h => simp only [r51_9, c51, bodyOf, Tryd.f51, Code.sub, opsOf, List.map_cons, List.map_nil, strip]; rfl
theorem w51_9 : Wp r51_9 9 [10, 19, 23] [8] [] [8] [some 24, some 25, some 8] (L51_9).1 := w_plain (by kernel_rfl) (L51_9).2
noncomputable def L51_10 : Lt r51_10 := by refine ⟨?l, ?h⟩; case h => simp only [r51_10, c51, bodyOf, Tryd.f51, Code.sub, opsOf, List.map_cons, List.map_nil, strip]; rfl
theorem w51_10 : Wp r51_10 9 [10, 19, 23] [4, 5] [] [6] [some 34, some 4, some 5] (L51_10).1 := w_plain (by kernel_rfl) (L51_10).2
theorem k51 : FnIs TT 51 c51 [.tmp 4, .tmp 5] 2 := ⟨Tryd.f51, by kernel_rfl, by simp only [Tryd.f51, c51, bodyOf], by kernel_rfl, of_decide_eq_true (by kernel_rfl)⟩
noncomputable def c52 : Code := bodyOf Tryd.f52
noncomputable def r52_0 : Code := Code.sub [0] c52
noncomputable def r52_1 : Code := Code.sub [1, 0, 0] c52
noncomputable def r52_2 : Code := Code.sub [1, 0, 1, 0, 0] c52
noncomputable def r52_3 : Code := Code.sub [1, 1, 0] c52
noncomputable def r52_4 : Code := Code.sub [1, 1, 1, 0] c52
noncomputable def r52_5 : Code := Code.sub [1, 1, 1, 1, 0, 0] c52
noncomputable def r52_6 : Code := Code.sub [1, 1, 1, 1, 0, 1, 0, 0, 0, 0] c52
noncomputable def r52_7 : Code := Code.sub [1, 1, 1, 1, 0, 1, 0, 0, 1, 0, 0] c52
noncomputable def r52_8 : Code := Code.sub [1, 1, 1, 1, 0, 1, 0, 0, 1, 1] c52
noncomputable def r52_9 : Code := Code.sub [1, 1, 1, 1, 1, 0] c52
theorem body52 : c52 = (.seq r52_0 (.seq (.seq r52_1 (.cond (.tmp 38) (.seq r52_2 .ret) .skip)) (.seq r52_3 (.seq r52_4 (.seq (.seq r52_5 (.block 0 (.loop (.seq (.seq r52_6 (.cond (.tmp 62) .skip (.exit 0))) (.seq (.block 1 r52_7) r52_8))))) (.seq r52_9 .ret)))))) := by kernel_rfl
noncomputable def L52_0 : Lt r52_0 := by refine ⟨?l, ?h⟩; case h => simp only [r52_0, c52, bodyOf, Tryd.f52, Code.sub, opsOf, List.map_cons, List.map_nil, strip]; rfl
theorem w52_0 : Wp r52_0 10 [38, 62] [6, 7] [] [] [some 6, some 7] (L52_0).1 := w_plain (by kernel_rfl) (L52_0).2
noncomputable def L52_1 : Lt r52_1 := by refine ⟨?l, ?h⟩; case h => simp only [r52_1, c52, bodyOf, Tryd.f52, Code.sub, opsOf, List.map_cons, List.map_nil, strip]; rfl
theorem w52_1 : Wp r52_1 10 [38, 62] [] [38] [1, 2, 0] [some 10, some 11, some 12, some 13, some 14, some 15, some 16, some 17, some 18, some 19, some 20, some 21, some 22, some 23, some 24, some 25, some 26, some 27, some 28, some 29, some 30, some 31, some 32, some 33, some 34, some 35, some 36, some 37, some 38] (L52_1).1 := w_plain (by kernel_rfl) (L52_1).2
noncomputable def L52_2 : Lt r52_2 := by refine ⟨?l, ?h⟩; case h => simp only [r52_2, c52, bodyOf, Tryd.f52, Code.sub, opsOf, List.map_cons, List.map_nil, strip]; rfl
theorem w52_2 : Wp r52_2 10 [38, 62] [6, 7] [] [] [some 6, some 7] (L52_2).1 := w_plain (by kernel_rfl) (L52_2).2
noncomputable def L52_3 : Lt r52_3 := by refine ⟨?l, ?h⟩; case h => simp only [r52_3, c52, bodyOf, Tryd.f52, Code.sub, opsOf, List.map_cons, List.map_nil, strip]; rfl
theorem w52_3 : Wp r52_3 10 [38, 62] [8] [] [0] [some 39, some 40, some 41, some 42, some 43, some 44, some 8] (L52_3).1 := w_plain (by kernel_rfl) (L52_3).2
noncomputable def L52_4 : Lt r52_4 := by refine ⟨?l, ?h⟩; case h => simp only [r52_4, c52, bodyOf, Tryd.f52, Code.sub, opsOf, List.map_cons, List.map_nil, strip]; rfl
theorem w52_4 : Wp r52_4 10 [38, 62] [] [] [0, 1, 2] [some 45, some 46, some 47, some 48, some 49, some 50, some 51, some 52, some 53, some 54, some 55, some 56, some 57, some 58, some 59, none] (L52_4).1 := w_plain (by kernel_rfl) (L52_4).2
noncomputable def L52_5 : Lt r52_5 := by refine ⟨?l, ?h⟩; case h => simp only [r52_5, c52, bodyOf, Tryd.f52, Code.sub, opsOf, List.map_cons, List.map_nil, strip]; rfl
theorem w52_5 : Wp r52_5 10 [38, 62] [9] [] [] [some 9] (L52_5).1 := w_plain (by kernel_rfl) (L52_5).2
noncomputable def L52_6 : Lt r52_6 := by refine ⟨?l, ?h⟩; case h => simp only [r52_6, c52, bodyOf, Tryd.f52, Code.sub, opsOf, List.map_cons, List.map_nil, strip]; rfl
theorem w52_6 : Wp r52_6 10 [38, 62] [] [62] [9, 2] [some 60, some 61, some 62] (L52_6).1 := w_plain (by kernel_rfl) (L52_6).2
noncomputable def L52_7 : Lt r52_7 := by refine ⟨?l, ?h⟩; case h => simp only [r52_7, c52, bodyOf, Tryd.f52, Code.sub, opsOf, List.map_cons, List.map_nil, strip]; rfl
theorem w52_7 : Wp r52_7 10 [38, 62] [] [] [0] [some 65, some 66, some 67, some 68, some 69, some 70, some 71, some 72, some 73, none] (L52_7).1 := w_plain (by kernel_rfl) (L52_7).2
noncomputable def L52_8 : Lt r52_8 := by refine ⟨?l, ?h⟩; case h => simp only [r52_8, c52, bodyOf, Tryd.f52, Code.sub, opsOf, List.map_cons, List.map_nil, strip]; rfl
theorem w52_8 : Wp r52_8 10 [38, 62] [9] [] [9] [some 63, some 64, some 9] (L52_8).1 := w_plain (by kernel_rfl) (L52_8).2
noncomputable def L52_9 : Lt r52_9 := by refine ⟨?l, ?h⟩; case h => simp only [r52_9, c52, bodyOf, Tryd.f52, Code.sub, opsOf, List.map_cons, List.map_nil, strip]; rfl
theorem w52_9 : Wp r52_9 10 [38, 62] [6, 7] [] [8] [some 74, some 6, some 7] (L52_9).1 := w_plain (by kernel_rfl) (L52_9).2
theorem k52 : FnIs TT 52 c52 [.tmp 6, .tmp 7] 3 := ⟨Tryd.f52, by kernel_rfl, by simp only [Tryd.f52, c52, bodyOf], by kernel_rfl, of_decide_eq_true (by kernel_rfl)⟩
noncomputable def c53 : Code := bodyOf Tryd.f53
noncomputable def r53_0 : Code := Code.sub [0] c53
noncomputable def r53_1 : Code := Code.sub [1, 0] c53
theorem body53 : c53 = (.seq r53_0 (.seq r53_1 .ret)) := by kernel_rfl
noncomputable def L53_0 : Lt r53_0 := by refine ⟨?l, ?h⟩; case h => simp only [r53_0, c53, bodyOf, Tryd.f53, Code.sub, opsOf, List.map_cons, List.map_nil, strip]; rfl
theorem w53_0 : Wp r53_0 5 [] [4] [] [] [some 4] (L53_0).1 := w_plain (by kernel_rfl) (L53_0).2
noncomputable def L53_1 : Lt r53_1 := by refine ⟨?l, ?h⟩; case h => simp only [r53_1, c53, bodyOf, Tryd.f53, Code.sub, opsOf, List.map_cons, List.map_nil, strip]; rfl
theorem w53_1 : Wp r53_1 5 [] [4] [] [0, 1] [some 5, some 6, some 7, some 8, some 9, some 4] (L53_1).1 := w_plain (by kernel_rfl) (L53_1).2
theorem k53 : FnIs TT 53 c53 [.tmp 4] 2 := ⟨Tryd.f53, by kernel_rfl, by simp only [Tryd.f53, c53, bodyOf], by kernel_rfl, of_decide_eq_true (by kernel_rfl)⟩
noncomputable def c54 : Code := bodyOf Tryd.f54
noncomputable def r54_0 : Code := Code.sub [0] c54
noncomputable def r54_1 : Code := Code.sub [1, 0, 0] c54
noncomputable def r54_2 : Code := Code.sub [1, 0, 1, 0, 0] c54
noncomputable def r54_3 : Code := Code.sub [1, 1, 0] c54
theorem body54 : c54 = (.seq r54_0 (.seq (.seq r54_1 (.cond (.tmp 19) (.seq r54_2 .ret) .skip)) (.seq r54_3 .ret))) := by kernel_rfl
noncomputable def L54_0 : Lt r54_0 := by refine ⟨?l, ?h⟩; case h => simp only [r54_0, c54, bodyOf, Tryd.f54, Code.sub, opsOf, List.map_cons, List.map_nil, strip]; rfl
theorem w54_0 : Wp r54_0 7 [19] [6] [] [] [some 6] (L54_0).1 := w_plain (by kernel_rfl) (L54_0).2
noncomputable def L54_1 : Lt r54_1 := by refine ⟨?l, ?h⟩; case h => simp only [r54_1, c54, bodyOf, Tryd.f54, Code.sub, opsOf, List.map_cons, List.map_nil, strip]; rfl
theorem w54_1 : Wp r54_1 7 [19] [] [19] [2, 0, 1] [some 7, some 8, some 9, some 10, some 11, some 12, some 13, some 14, some 15, some 16, some 17, some 18, some 19] (L54_1).1 := w_plain (by kernel_rfl) (L54_1).2
noncomputable def L54_2 : Lt r54_2 := by refine ⟨?l, ?h⟩; case h => simp only [r54_2, c54, bodyOf, Tryd.f54, Code.sub, opsOf, List.map_cons, List.map_nil, strip]; rfl
theorem w54_2 : Wp r54_2 7 [19] [6] [] [] [some 6] (L54_2).1 := w_plain (by kernel_rfl) (L54_2).2
noncomputable def L54_3 : Lt r54_3 := by refine ⟨?l, ?h⟩; case h => simp only [r54_3, c54, bodyOf, Tryd.f54, Code.sub, opsOf, List.map_cons, List.map_nil, strip]; rfl
theorem w54_3 : Wp r54_3 7 [19] [6] [] [0, 1, 2] [some 20, some 21, some 22, some 23, some 24, some 25, some 26, some 6] (L54_3).1 := w_plain (by kernel_rfl) (L54_3).2
theorem k54 : FnIs TT 54 c54 [.tmp 6] 3 := ⟨Tryd.f54, by kernel_rfl, by simp only [Tryd.f54, c54, bodyOf], by kernel_rfl, of_decide_eq_true (by kernel_rfl)⟩
noncomputable def c55 : Code := bodyOf Tryd.f55
noncomputable def r55_0 : Code := Code.sub [0] c55
noncomputable def r55_1 : Code := Code.sub [1, 0] c55
theorem body55 : c55 = (.seq r55_0 (.seq r55_1 .ret)) := by kernel_rfl
noncomputable def L55_0 : Lt r55_0 := by refine ⟨?l, ?h⟩; case h => simp only [r55_0, c55, bodyOf, Tryd.f55, Code.sub, opsOf, List.map_cons, List.map_nil, strip]; rfl
theorem w55_0 : Wp r55_0 3 [] [2] [] [] [some 2] (L55_0).1 := w_plain (by kernel_rfl) (L55_0).2
theorem can55_1 : canonOps (opsOf r55_1) = List.filterMap (fun i => ((opsOf r55_1)[i]?).map (renum [0, 1, 2, 3, 4, 5, 6, 7, 8])) [0, 1, 2, 3, 4, 5, 6, 7, 8] := by kernel_rfl
noncomputable def L55_1 : Lc r55_1 := by refine ⟨?l, (congrArg (List.map strip) can55_1).trans ?h⟩; case h => simp only [r55_1, c55, bodyOf, Tryd.f55, Code.sub, opsOf, List.filterMap_cons, List.filterMap_nil, List.getElem?_cons_succ, List.getElem?_cons_zero, Option.map_some, renum, List.map_cons, List.map_nil, strip]; rfl
theorem w55_1 : Wd r55_1 3 [] [2] [] [0] [some 3, some 4, some 5, some 6, some 7, some 8, some 9, some 10, some 2] (L55_1).1 [(5, [1, 7])] := w_loud (by kernel_rfl) (L55_1).2
theorem k55 : FnIs TT 55 c55 [.tmp 2] 1 := ⟨Tryd.f55, by kernel_rfl, by simp only [Tryd.f55, c55, bodyOf], by kernel_rfl, of_decide_eq_true (by kernel_rfl)⟩
noncomputable def c56 : Code := bodyOf Tryd.f56
noncomputable def r56_0 : Code := Code.sub [0] c56
noncomputable def r56_1 : Code := Code.sub [1, 0] c56
theorem body56 : c56 = (.seq r56_0 (.seq r56_1 .ret)) := by kernel_rfl
noncomputable def L56_0 : Lt r56_0 := by refine ⟨?l, ?h⟩; case h => simp only [r56_0, c56, bodyOf, Tryd.f56, Code.sub, opsOf, List.map_cons, List.map_nil, strip]; rfl
theorem w56_0 : Wp r56_0 9 [] [8] [] [] [some 8] (L56_0).1 := w_plain (by kernel_rfl) (L56_0).2
noncomputable def L56_1 : Lt r56_1 := by refine ⟨?l, ?h⟩; case h => simp only [r56_1, c56, bodyOf, Tryd.f56, Code.sub, opsOf, List.map_cons, List.map_nil, strip]; rfl
theorem w56_1 : Wp r56_1 9 [] [8] [] [0, 1, 2, 3] [some 9, some 10, some 11, some 12, some 13, some 14, some 15, some 8] (L56_1).1 := w_plain (by kernel_rfl) (L56_1).2
theorem k56 : FnIs TT 56 c56 [.tmp 8] 4 := ⟨Tryd.f56, by kernel_rfl, by simp only [Tryd.f56, c56, bodyOf], by kernel_rfl, of_decide_eq_true (by kernel_rfl)⟩
noncomputable def c57 : Code := bodyOf Tryd.f57
noncomputable def r57_0 : Code := Code.sub [0] c57
noncomputable def r57_1 : Code := Code.sub [1, 0] c57
theorem body57 : c57 = (.seq r57_0 (.seq r57_1 .ret)) := by kernel_rfl
noncomputable def L57_0 : Lt r57_0 := by refine ⟨?l, ?h⟩; case h => simp only [r57_0, c57, bodyOf, Tryd.f57, Code.sub, opsOf, List.map_cons, List.map_nil, strip]; rfl
theorem w57_0 : Wp r57_0 5 [] [4] [] [] [some 4] (L57_0).1 := w_plain (by kernel_rfl) (L57_0).2
noncomputable def L57_1 : Lt r57_1 := by refine ⟨?l, ?h⟩; case h => simp only [r57_1, c57, bodyOf, Tryd.f57, Code.sub, opsOf, List.map_cons, List.map_nil, strip]; rfl
theorem w57_1 : Wp r57_1 5 [] [4] [] [0, 1] [some 5, some 6, some 7, some 4] (L57_1).1 := w_plain (by kernel_rfl) (L57_1).2
theorem k57 : FnIs TT 57 c57 [.tmp 4] 2 := ⟨Tryd.f57, by kernel_rfl, by simp only [Tryd.f57, c57, bodyOf], by kernel_rfl, of_decide_eq_true (by kernel_rfl)⟩
noncomputable def c58 : Code := bodyOf Tryd.f58
noncomputable def r58_0 : Code := Code.sub [0] c58
noncomputable def r58_1 : Code := Code.sub [1, 0] c58
theorem body58 : c58 = (.seq r58_0 (.seq r58_1 .ret)) := by kernel_rfl
noncomputable def L58_0 : Lt r58_0 := by refine ⟨?l, ?h⟩; case h => simp only [r58_0, c58, bodyOf, Tryd.f58, Code.sub, opsOf, List.map_cons, List.map_nil, strip]; rfl
theorem w58_0 : Wp r58_0 3 [] [2] [] [] [some 2] (L58_0).1 := w_plain (by kernel_rfl) (L58_0).2
noncomputable def L58_1 : Lt r58_1 := by refine ⟨?l, ?h⟩; case h => simp only [r58_1, c58, bodyOf, Tryd.f58, Code.sub, opsOf, List.map_cons, List.map_nil, strip]; rfl
theorem w58_1 : Wp r58_1 3 [] [2] [] [0] [some 3, some 4, some 2] (L58_1).1 := w_plain (by kernel_rfl) (L58_1).2
theorem k58 : FnIs TT 58 c58 [.tmp 2] 1 := ⟨Tryd.f58, by kernel_rfl, by simp only [Tryd.f58, c58, bodyOf], by kernel_rfl, of_decide_eq_true (by kernel_rfl)⟩
noncomputable def c59 : Code := bodyOf Tryd.f59
noncomputable def r59_0 : Code := Code.sub [0] c59
noncomputable def r59_1 : Code := Code.sub [1, 0] c59
theorem body59 : c59 = (.seq r59_0 (.seq r59_1 .ret)) := by kernel_rfl
noncomputable def L59_0 : Lt r59_0 := by refine ⟨?l, ?h⟩; case h => simp only [r59_0, c59, bodyOf, Tryd.f59, Code.sub, opsOf, List.map_cons, List.map_nil, strip]; rfl
theorem w59_0 : Wp r59_0 7 [] [6] [] [] [some 6] (L59_0).1 := w_plain (by kernel_rfl) (L59_0).2
noncomputable def L59_1 : Lt r59_1 := by refine ⟨?l, ?h⟩; case h => simp only [r59_1, c59, bodyOf, Tryd.f59, Code.sub, opsOf, List.map_cons, List.map_nil, strip]; rfl
theorem w59_1 : Wp r59_1 7 [] [6] [] [0, 1, 2] [some 7, some 8, some 9, some 10, some 11, some 12, some 6] (L59_1).1 := w_plain (by kernel_rfl) (L59_1).2
theorem k59 : FnIs TT 59 c59 [.tmp 6] 3 := ⟨Tryd.f59, by kernel_rfl, by simp only [Tryd.f59, c59, bodyOf], by kernel_rfl, of_decide_eq_true (by kernel_rfl)⟩
noncomputable def c60 : Code := bodyOf Tryd.f60
noncomputable def r60_0 : Code := Code.sub [0] c60
noncomputable def r60_1 : Code := Code.sub [1, 0, 0] c60
noncomputable def r60_2 : Code := Code.sub [1, 0, 1, 0, 0] c60
noncomputable def r60_3 : Code := Code.sub [1, 1, 0] c60
theorem body60 : c60 = (.seq r60_0 (.seq (.seq r60_1 (.cond (.tmp 12) (.seq r60_2 .ret) .skip)) (.seq r60_3 .ret))) := by kernel_rfl
noncomputable def L60_0 : Lt r60_0 := by refine ⟨?l, ?h⟩; case h => simp only [r60_0, c60, bodyOf, Tryd.f60, Code.sub, opsOf, List.map_cons, List.map_nil, strip]; rfl
theorem w60_0 : Wp r60_0 5 [12] [4] [] [] [some 4] (L60_0).1 := w_plain (by kernel_rfl) (L60_0).2
noncomputable def L60_1 : Lt r60_1 := by refine ⟨?l, ?h⟩; case h => simp only [r60_1, c60, bodyOf, Tryd.f60, Code.sub, opsOf, List.map_cons, List.map_nil, strip]; rfl
theorem w60_1 : Wp r60_1 5 [12] [] [12] [1, 0] [some 5, some 6, some 7, some 8, some 9, some 10, some 11, some 12] (L60_1).1 := w_plain (by kernel_rfl) (L60_1).2
noncomputable def L60_2 : Lt r60_2 := by refine ⟨?l, ?h⟩; case h => simp only [r60_2, c60, bodyOf, Tryd.f60, Code.sub, opsOf, List.map_cons, List.map_nil, strip]; rfl
theorem w60_2 : Wp r60_2 5 [12] [4] [] [] [some 4] (L60_2).1 := w_plain (by kernel_rfl) (L60_2).2
noncomputable def L60_3 : Lt r60_3 := by refine ⟨?l, ?h⟩; case h => simp only [r60_3, c60, bodyOf, Tryd.f60, Code.sub, opsOf, List.map_cons, List.map_nil, strip]; rfl
theorem w60_3 : Wp r60_3 5 [12] [4] [] [0, 1] [some 13, some 14, some 15, some 16, some 17, some 18, some 19, some 4] (L60_3).1 := w_plain (by kernel_rfl) (L60_3).2
theorem k60 : FnIs TT 60 c60 [.tmp 4] 2 := ⟨Tryd.f60, by kernel_rfl, by simp only [Tryd.f60, c60, bodyOf], by kernel_rfl, of_decide_eq_true (by kernel_rfl)⟩
noncomputable def c61 : Code := bodyOf Tryd.f61
noncomputable def r61_0 : Code := Code.sub [0] c61
noncomputable def r61_1 : Code := Code.sub [1, 0, 0] c61
noncomputable def r61_2 : Code := Code.sub [1, 0, 1, 0, 0] c61
noncomputable def r61_3 : Code := Code.sub [1, 1, 0] c61
theorem body61 : c61 = (.seq r61_0 (.seq (.seq r61_1 (.cond (.tmp 21) (.seq r61_2 .ret) .skip)) (.seq r61_3 .ret))) := by kernel_rfl
noncomputable def L61_0 : Lt r61_0 := by refine ⟨?l, ?h⟩; case h => simp only [r61_0, c61, bodyOf, Tryd.f61, Code.sub, opsOf, List.map_cons, List.map_nil, strip]; rfl
theorem w61_0 : Wp r61_0 9 [21] [8] [] [] [some 8] (L61_0).1 := w_plain (by kernel_rfl) (L61_0).2
noncomputable def L61_1 : Lt r61_1 := by refine ⟨?l, ?h⟩; case h => simp only [r61_1, c61, bodyOf, Tryd.f61, Code.sub, opsOf, List.map_cons, List.map_nil, strip]; rfl
theorem w61_1 : Wp r61_1 9 [21] [] [21] [2, 0, 1] [some 9, some 10, some 11, some 12, some 13, some 14, some 15, some 16, some 17, some 18, some 19, some 20, some 21] (L61_1).1 := w_plain (by kernel_rfl) (L61_1).2
noncomputable def L61_2 : Lt r61_2 := by refine ⟨?l, ?h⟩; case h => simp only [r61_2, c61, bodyOf, Tryd.f61, Code.sub, opsOf, List.map_cons, List.map_nil, strip]; rfl
theorem w61_2 : Wp r61_2 9 [21] [8] [] [] [some 8] (L61_2).1 := w_plain (by kernel_rfl) (L61_2).2
noncomputable def L61_3 : Lt r61_3 := by refine ⟨?l, ?h⟩; case h => simp only [r61_3, c61, bodyOf, Tryd.f61, Code.sub, opsOf, List.map_cons, List.map_nil, strip]; rfl
theorem w61_3 : Wp r61_3 9 [21] [8] [] [0, 1, 2, 3] [some 22, some 23, some 24, some 25, some 26, some 27, some 28, some 29, some 8] (L61_3).1 := w_plain (by kernel_rfl) (L61_3).2
theorem k61 : FnIs TT 61 c61 [.tmp 8] 4 := ⟨Tryd.f61, by kernel_rfl, by simp only [Tryd.f61, c61, bodyOf], by kernel_rfl, of_decide_eq_true (by kernel_rfl)⟩
noncomputable def c62 : Code := bodyOf Tryd.f62
noncomputable def r62_0 : Code := Code.sub [0] c62
noncomputable def r62_1 : Code := Code.sub [1, 0, 0] c62
noncomputable def r62_2 : Code := Code.sub [1, 0, 1, 0, 0] c62
noncomputable def r62_3 : Code := Code.sub [1, 1, 0] c62
theorem body62 : c62 = (.seq r62_0 (.seq (.seq r62_1 (.cond (.tmp 12) (.seq r62_2 .ret) .skip)) (.seq r62_3 .ret))) := by kernel_rfl
noncomputable def L62_0 : Lt r62_0 := by refine ⟨?l, ?h⟩; case h => simp only [r62_0, c62, bodyOf, Tryd.f62, Code.sub, opsOf, List.map_cons, List.map_nil, strip]; rfl
theorem w62_0 : Wp r62_0 5 [12] [4] [] [] [some 4] (L62_0).1 := w_plain (by kernel_rfl) (L62_0).2
noncomputable def L62_1 : Lt r62_1 := by refine ⟨?l, ?h⟩; case h => simp only [r62_1, c62, bodyOf, Tryd.f62, Code.sub, opsOf, List.map_cons, List.map_nil, strip]; rfl
theorem w62_1 : Wp r62_1 5 [12] [] [12] [1, 0] [some 5, some 6, some 7, some 8, some 9, some 10, some 11, some 12] (L62_1).1 := w_plain (by kernel_rfl) (L62_1).2
noncomputable def L62_2 : Lt r62_2 := by refine ⟨?l, ?h⟩; case h => simp only [r62_2, c62, bodyOf, Tryd.f62, Code.sub, opsOf, List.map_cons, List.map_nil, strip]; rfl
theorem w62_2 : Wp r62_2 5 [12] [4] [] [] [some 4] (L62_2).1 := w_plain (by kernel_rfl) (L62_2).2
noncomputable def L62_3 : Lt r62_3 := by refine ⟨?l, ?h⟩; case h => simp only [r62_3, c62, bodyOf, Tryd.f62, Code.sub, opsOf, List.map_cons, List.map_nil, strip]; rfl
theorem w62_3 : Wp r62_3 5 [12] [4] [] [0, 1] [some 13, some 14, some 15, some 16, some 17, some 18, some 19, some 4] (L62_3).1 := w_plain (by kernel_rfl) (L62_3).2
theorem k62 : FnIs TT 62 c62 [.tmp 4] 2 := ⟨Tryd.f62, by kernel_rfl, by simp only [Tryd.f62, c62, bodyOf], by kernel_rfl, of_decide_eq_true (by kernel_rfl)⟩
noncomputable def c63 : Code := bodyOf Tryd.f63
noncomputable def r63_0 : Code := Code.sub [0] c63
noncomputable def r63_1 : Code := Code.sub [1, 0, 0] c63
noncomputable def r63_2 : Code := Code.sub [1, 0, 1, 0, 0] c63
noncomputable def r63_3 : Code := Code.sub [1, 1, 0] c63
noncomputable def r63_4 : Code := Code.sub [1, 1, 1, 0] c63
theorem body63 : c63 = (.seq r63_0 (.seq (.seq r63_1 (.cond (.tmp 18) (.seq r63_2 .ret) .skip)) (.seq r63_3 (.seq r63_4 .ret)))) := by kernel_rfl
noncomputable def L63_0 : Lt r63_0 := by refine ⟨?l, ?h⟩; case h => simp only [r63_0, c63, bodyOf, Tryd.f63, Code.sub, opsOf, List.map_cons, List.map_nil, strip]; rfl
theorem w63_0 : Wp r63_0 7 [18] [6] [] [] [some 6] (L63_0).1 := w_plain (by kernel_rfl) (L63_0).2
noncomputable def L63_1 : Lt r63_1 := by refine ⟨?l, ?h⟩; case h => simp only [r63_1, c63, bodyOf, Tryd.f63, Code.sub, opsOf, List.map_cons, List.map_nil, strip]; rfl
theorem w63_1 : Wp r63_1 7 [18] [] [18] [1, 0] [some 7, some 8, some 9, some 10, some 11, some 12, some 13, some 14, some 15, some 16, some 17, some 18] (L63_1).1 := w_plain (by kernel_rfl) (L63_1).2
noncomputable def L63_2 : Lt r63_2 := by refine ⟨?l, ?h⟩; case h => simp only [r63_2, c63, bodyOf, Tryd.f63, Code.sub, opsOf, List.map_cons, List.map_nil, strip]; rfl
theorem w63_2 : Wp r63_2 7 [18] [6] [] [] [some 6] (L63_2).1 := w_plain (by kernel_rfl) (L63_2).2
noncomputable def L63_3 : Lt r63_3 := by refine ⟨?l, ?h⟩; case h => simp only [r63_3, c63, bodyOf, Tryd.f63, Code.sub, opsOf, List.map_cons, List.map_nil, strip]; rfl
theorem w63_3 : Wp r63_3 7 [18] [] [] [0, 1, 2] [some 19, some 20, some 21, some 22, some 23, some 24, some 25, none] (L63_3).1 := w_plain (by kernel_rfl) (L63_3).2
noncomputable def L63_4 : Lt r63_4 := by refine ⟨?l, ?h⟩; case h => simp only [r63_4, c63, bodyOf, Tryd.f63, Code.sub, opsOf, List.map_cons, List.map_nil, strip]; rfl
theorem w63_4 : Wp r63_4 7 [18] [6] [] [] [some 6] (L63_4).1 := w_plain (by kernel_rfl) (L63_4).2
theorem k63 : FnIs TT 63 c63 [.tmp 6] 3 := ⟨Tryd.f63, by kernel_rfl, by simp only [Tryd.f63, c63, bodyOf], by kernel_rfl, of_decide_eq_true (by kernel_rfl)⟩
noncomputable def c64 : Code := bodyOf Tryd.f64
noncomputable def r64_0 : Code := Code.sub [0] c64
noncomputable def r64_1 : Code := Code.sub [1, 0, 0] c64
noncomputable def r64_2 : Code := Code.sub [1, 0, 1, 0, 0] c64
noncomputable def r64_3 : Code := Code.sub [1, 1, 0] c64
theorem body64 : c64 = (.seq r64_0 (.seq (.seq r64_1 (.cond (.tmp 15) (.seq r64_2 .ret) .skip)) (.seq r64_3 .ret))) := by kernel_rfl
noncomputable def L64_0 : Lt r64_0 := by refine ⟨?l, ?h⟩; case h => simp only [r64_0, c64, bodyOf, Tryd.f64, Code.sub, opsOf, List.map_cons, List.map_nil, strip]; rfl
theorem w64_0 : Wp r64_0 7 [15] [6] [] [] [some 6] (L64_0).1 := w_plain (by kernel_rfl) (L64_0).2
noncomputable def L64_1 : Lt r64_1 := by refine ⟨?l, ?h⟩; case h => simp only [r64_1, c64, bodyOf, Tryd.f64, Code.sub, opsOf, List.map_cons, List.map_nil, strip]; rfl
theorem w64_1 : Wp r64_1 7 [15] [] [15] [2, 0, 1] [some 7, some 8, some 9, some 10, some 11, some 12, some 13, some 14, some 15] (L64_1).1 := w_plain (by kernel_rfl) (L64_1).2
noncomputable def L64_2 : Lt r64_2 := by refine ⟨?l, ?h⟩; case h => simp only [r64_2, c64, bodyOf, Tryd.f64, Code.sub, opsOf, List.map_cons, List.map_nil, strip]; rfl
theorem w64_2 : Wp r64_2 7 [15] [6] [] [] [some 6] (L64_2).1 := w_plain (by kernel_rfl) (L64_2).2
noncomputable def L64_3 : Lt r64_3 := by refine ⟨?l, ?h⟩; case h => simp only [r64_3, c64, bodyOf, Tryd.f64, Code.sub, opsOf, List.map_cons, List.map_nil, strip]; rfl
theorem w64_3 : Wp r64_3 7 [15] [6] [] [1, 2] [some 16, some 17, some 18, some 19, some 20, some 6] (L64_3).1 := w_plain (by kernel_rfl) (L64_3).2
theorem k64 : FnIs TT 64 c64 [.tmp 6] 3 := ⟨Tryd.f64, by kernel_rfl, by simp only [Tryd.f64, c64, bodyOf], by kernel_rfl, of_decide_eq_true (by kernel_rfl)⟩
noncomputable def c65 : Code := bodyOf Tryd.f65
noncomputable def r65_0 : Code := Code.sub [0] c65
noncomputable def r65_1 : Code := Code.sub [1, 0, 0] c65
noncomputable def r65_2 : Code := Code.sub [1, 0, 1, 0, 0, 0] c65
noncomputable def r65_3 : Code := Code.sub [1, 0, 1, 0, 0, 1, 0, 0] c65
noncomputable def r65_4 : Code := Code.sub [1, 0, 1, 0, 1, 0] c65
noncomputable def r65_5 : Code := Code.sub [1, 0, 1, 0, 1, 1, 0] c65
noncomputable def r65_6 : Code := Code.sub [1, 0, 1, 0, 1, 1, 1, 0, 0] c65
noncomputable def r65_7 : Code := Code.sub [1, 0, 1, 0, 1, 1, 1, 0, 1, 0] c65
noncomputable def r65_8 : Code := Code.sub [1, 0, 1, 0, 1, 1, 1, 1, 0] c65
noncomputable def r65_9 : Code := Code.sub [1, 0, 1, 0, 1, 1, 1, 1, 1, 0] c65
noncomputable def r65_10 : Code := Code.sub [1, 0, 1, 0, 1, 1, 1, 1, 1, 1, 0, 0] c65
noncomputable def r65_11 : Code := Code.sub [1, 0, 1, 0, 1, 1, 1, 1, 1, 1, 0, 1, 0, 0] c65
noncomputable def r65_12 : Code := Code.sub [1, 0, 1, 0, 1, 1, 1, 1, 1, 1, 0, 1, 0, 1, 0] c65
noncomputable def r65_13 : Code := Code.sub [1, 0, 1, 0, 1, 1, 1, 1, 1, 1, 1, 0] c65
noncomputable def r65_14 : Code := Code.sub [1, 1, 0] c65
noncomputable def r65_15 : Code := Code.sub [1, 1, 1, 0] c65
theorem body65 : c65 = (.seq r65_0 (.seq (.seq r65_1 (.cond (.tmp 11) (.seq (.seq r65_2 (.cond (.tmp 17) (.seq r65_3 .ret) .skip)) (.seq r65_4 (.seq r65_5 (.seq (.seq r65_6 (.cond (.tmp 23) r65_7 .skip)) (.seq r65_8 (.seq r65_9 (.seq (.seq r65_10 (.cond (.tmp 34) (.seq r65_11 (.seq r65_12 .ret)) .skip)) (.seq r65_13 .ret)))))))) .skip)) (.seq r65_14 (.seq r65_15 .ret)))) := by kernel_rfl
noncomputable def L65_0 : Lt r65_0 := by refine ⟨?l, ?h⟩; case h => simp only [r65_0, c65, bodyOf, Tryd.f65, Code.sub, opsOf, List.map_cons, List.map_nil, strip]; rfl
theorem w65_0 : Wp r65_0 10 [11, 17, 23, 34] [4] [] [] [some 4] (L65_0).1 := w_plain (by kernel_rfl) (L65_0).2
noncomputable def L65_1 : Lt r65_1 := by refine ⟨?l, ?h⟩; case h => simp only [r65_1, c65, bodyOf, Tryd.f65, Code.sub, opsOf, List.map_cons, List.map_nil, strip]; rfl
theorem w65_1 : Wp r65_1 10 [11, 17, 23, 34] [] [11] [1] [some 10, some 11] (L65_1).1 := w_plain (by kernel_rfl) (L65_1).2
noncomputable def L65_2 : Lt r65_2 := by refine ⟨?l, ?h⟩; case h => simp only [r65_2, c65, bodyOf, Tryd.f65, Code.sub, opsOf, List.map_cons, List.map_nil, strip]; rfl
theorem w65_2 : Wp r65_2 10 [11, 17, 23, 34] [] [17] [0] [some 12, some 13, some 14, some 15, some 16, some 17] (L65_2).1 := w_plain (by kernel_rfl) (L65_2).2
noncomputable def L65_3 : Lt r65_3 := by refine ⟨?l, ?h⟩; case h => simp only [r65_3, c65, bodyOf, Tryd.f65, Code.sub, opsOf, List.map_cons, List.map_nil, strip]; rfl
theorem w65_3 : Wp r65_3 10 [11, 17, 23, 34] [4] [] [0] [some 18, some 19, some 4] (L65_3).1 := w_plain (by kernel_rfl) (L65_3).2
noncomputable def L65_4 : Lt r65_4 := by refine ⟨?l, ?h⟩; case h => simp only [r65_4, c65, bodyOf, Tryd.f65, Code.sub, opsOf, List.map_cons, List.map_nil, strip]; rfl
theorem w65_4 : Wp r65_4 10 [11, 17, 23, 34] [5] [] [] [some 5] (L65_4).1 := w_plain (by kernel_rfl) (L65_4).2
noncomputable def L65_5 : Lt r65_5 := by refine ⟨?l, ?h⟩; case h => simp only [r65_5, c65, bodyOf, Tryd.f65, Code.sub, opsOf, List.map_cons, List.map_nil, strip]; rfl
theorem w65_5 : Wp r65_5 10 [11, 17, 23, 34] [6] [] [0] [some 20, some 21, some 6] (L65_5).1 := w_plain (by kernel_rfl) (L65_5).2
noncomputable def L65_6 : Lt r65_6 := by refine ⟨?l, ?h⟩; case h => simp only [r65_6, c65, bodyOf, Tryd.f65, Code.sub, opsOf, List.map_cons, List.map_nil, strip]; rfl
theorem w65_6 : Wp r65_6 10 [11, 17, 23, 34] [] [23] [0] [some 22, some 23] (L65_6).1 := w_plain (by kernel_rfl) (L65_6).2
noncomputable def L65_7 : Lt r65_7 := by refine ⟨?l, ?h⟩; case h => simp only [r65_7, c65, bodyOf, Tryd.f65, Code.sub, opsOf, List.map_cons, List.map_nil, strip]; rfl
theorem w65_7 : Wp r65_7 10 [11, 17, 23, 34] [6] [] [6] [some 24, some 25, some 6] (L65_7).1 := w_plain (by kernel_rfl) (L65_7).2
noncomputable def L65_8 : Lt r65_8 := by refine ⟨?l, ?h⟩; case h => simp only [r65_8, c65, bodyOf, Tryd.f65, Code.sub, opsOf, List.map_cons, List.map_nil, strip]; rfl
theorem w65_8 : Wp r65_8 10 [11, 17, 23, 34] [7] [] [6] [some 26, some 27, some 7] (L65_8).1 := w_plain (by kernel_rfl) (L65_8).2
noncomputable def L65_9 : Lt r65_9 := by refine ⟨?l, ?h⟩; case h => simp only [r65_9, c65, bodyOf, Tryd.f65, Code.sub, opsOf, List.map_cons, List.map_nil, strip]; rfl
theorem w65_9 : Wp r65_9 10 [11, 17, 23, 34] [] [] [7, 5, 6] [some 28, some 29, some 30, some 31, some 32] (L65_9).1 := w_plain (by kernel_rfl) (L65_9).2
noncomputable def L65_10 : Lt r65_10 := by refine ⟨?l, ?h⟩; case h => simp only [r65_10, c65, bodyOf, Tryd.f65, Code.sub, opsOf, List.map_cons, List.map_nil, strip]; rfl
theorem w65_10 : Wp r65_10 10 [11, 17, 23, 34] [] [34] [0] [some 33, some 34] (L65_10).1 := w_plain (by kernel_rfl) (L65_10).2
noncomputable def L65_11 : Lt r65_11 := by refine ⟨?l, ?h⟩; case h => simp only [r65_11, c65, bodyOf, Tryd.f65, Code.sub, opsOf, List.map_cons, List.map_nil, strip]; rfl
theorem w65_11 : Wp r65_11 10 [11, 17, 23, 34] [] [] [5] [some 35, none] (L65_11).1 := w_plain (by kernel_rfl) (L65_11).2
noncomputable def L65_12 : Lt r65_12 := by refine ⟨?l, ?h⟩; case h => simp only [r65_12, c65, bodyOf, Tryd.f65, Code.sub, opsOf, List.map_cons, List.map_nil, strip]; rfl
theorem w65_12 : Wp r65_12 10 [11, 17, 23, 34] [4] [] [7, 5] [some 36, some 37, some 38, some 39, some 4] (L65_12).1 := w_plain (by kernel_rfl) (L65_12).2
noncomputable def L65_13 : Lt r65_13 := by refine ⟨?l, ?h⟩; case h => simp only [r65_13, c65, bodyOf, Tryd.f65, Code.sub, opsOf, List.map_cons, List.map_nil, strip]; rfl
theorem w65_13 : Wp r65_13 10 [11, 17, 23, 34] [4] [] [7, 5] [some 40, some 41, some 42, some 43, some 4] (L65_13).1 := w_plain (by kernel_rfl) (L65_13).2
noncomputable def L65_14 : Lt r65_14 := by refine ⟨?l, ?h⟩; case h => simp only [r65_14, c65, bodyOf, Tryd.f65, Code.sub, opsOf, List.map_cons, List.map_nil, strip]; rfl
theorem w65_14 : Wp r65_14 10 [11, 17, 23, 34] [8, 9] [] [1, 0] [some 45, some 46, some 47, some 48, some 49, some 50, some 44, some 51, some 52, some 8, some 9] (L65_14).1 := w_plain (by kernel_rfl) (L65_14).2
noncomputable def L65_15 : Lt r65_15 := by refine ⟨?l, ?h⟩; case h => simp only [r65_15, c65, bodyOf, Tryd.f65, Code.sub, opsOf, List.map_cons, List.map_nil, strip]; rfl
theorem w65_15 : Wp r65_15 10 [11, 17, 23, 34] [4] [] [9] [some 53, some 4] (L65_15).1 := w_plain (by kernel_rfl) (L65_15).2
theorem k65 : FnIs TT 65 c65 [.tmp 4] 2 := ⟨Tryd.f65, by kernel_rfl, by simp only [Tryd.f65, c65, bodyOf], by kernel_rfl, of_decide_eq_true (by kernel_rfl)⟩
noncomputable def c66 : Code := bodyOf Tryd.f66
noncomputable def r66_0 : Code := Code.sub [0] c66
noncomputable def r66_1 : Code := Code.sub [1, 0, 0] c66
noncomputable def r66_2 : Code := Code.sub [1, 0, 1, 0, 0] c66
noncomputable def r66_3 : Code := Code.sub [1, 1, 0] c66
theorem body66 : c66 = (.seq r66_0 (.seq (.seq r66_1 (.cond (.tmp 3) (.seq r66_2 .ret) .skip)) (.seq r66_3 .ret))) := by kernel_rfl
noncomputable def L66_0 : Lt r66_0 := by refine ⟨?l, ?h⟩; case h => simp only [r66_0, c66, bodyOf, Tryd.f66, Code.sub, opsOf, List.map_cons, List.map_nil, strip]; rfl
theorem w66_0 : Wp r66_0 3 [3] [2] [] [] [some 2] (L66_0).1 := w_plain (by kernel_rfl) (L66_0).2
noncomputable def L66_1 : Lt r66_1 := by refine ⟨?l, ?h⟩; case h => simp only [r66_1, c66, bodyOf, Tryd.f66, Code.sub, opsOf, List.map_cons, List.map_nil, strip]; rfl
theorem w66_1 : Wp r66_1 3 [3] [] [3] [0] [some 3] (L66_1).1 := w_plain (by kernel_rfl) (L66_1).2
noncomputable def L66_2 : Lt r66_2 := by refine ⟨?l, ?h⟩; case h => simp only [r66_2, c66, bodyOf, Tryd.f66, Code.sub, opsOf, List.map_cons, List.map_nil, strip]; rfl
theorem w66_2 : Wp r66_2 3 [3] [2] [] [] [some 2] (L66_2).1 := w_plain (by kernel_rfl) (L66_2).2
noncomputable def L66_3 : Lt r66_3 := by refine ⟨?l, ?h⟩; case h => simp only [r66_3, c66, bodyOf, Tryd.f66, Code.sub, opsOf, List.map_cons, List.map_nil, strip]; rfl
theorem w66_3 : Wp r66_3 3 [3] [2] [] [] [some 2] (L66_3).1 := w_plain (by kernel_rfl) (L66_3).2
theorem k66 : FnIs TT 66 c66 [.tmp 2] 1 := ⟨Tryd.f66, by kernel_rfl, by simp only [Tryd.f66, c66, bodyOf], by kernel_rfl, of_decide_eq_true (by kernel_rfl)⟩
noncomputable def c67 : Code := bodyOf Tryd.f67
noncomputable def r67_0 : Code := Code.sub [0] c67
noncomputable def r67_1 : Code := Code.sub [1, 0, 0] c67
noncomputable def r67_2 : Code := Code.sub [1, 0, 1, 0, 0] c67
noncomputable def r67_3 : Code := Code.sub [1, 1, 0] c67
noncomputable def r67_4 : Code := Code.sub [1, 1, 1, 0] c67
theorem body67 : c67 = (.seq r67_0 (.seq (.seq r67_1 (.cond (.tmp 18) (.seq r67_2 .ret) .skip)) (.seq r67_3 (.seq r67_4 .ret)))) := by kernel_rfl
noncomputable def L67_0 : Lt r67_0 := by refine ⟨?l, ?h⟩; case h => simp only [r67_0, c67, bodyOf, Tryd.f67, Code.sub, opsOf, List.map_cons, List.map_nil, strip]; rfl
theorem w67_0 : Wp r67_0 7 [18] [6] [] [] [some 6] (L67_0).1 := w_plain (by kernel_rfl) (L67_0).2
noncomputable def L67_1 : Lt r67_1 := by refine ⟨?l, ?h⟩; case h => simp only [r67_1, c67, bodyOf, Tryd.f67, Code.sub, opsOf, List.map_cons, List.map_nil, strip]; rfl
theorem w67_1 : Wp r67_1 7 [18] [] [18] [1, 0] [some 7, some 8, some 9, some 10, some 11, some 12, some 13, some 14, some 15, some 16, some 17, some 18] (L67_1).1 := w_plain (by kernel_rfl) (L67_1).2
noncomputable def L67_2 : Lt r67_2 := by refine ⟨?l, ?h⟩; case h => simp only [r67_2, c67, bodyOf, Tryd.f67, Code.sub, opsOf, List.map_cons, List.map_nil, strip]; rfl
theorem w67_2 : Wp r67_2 7 [18] [6] [] [] [some 6] (L67_2).1 := w_plain (by kernel_rfl) (L67_2).2
noncomputable def L67_3 : Lt r67_3 := by refine ⟨?l, ?h⟩; case h => simp only [r67_3, c67, bodyOf, Tryd.f67, Code.sub, opsOf, List.map_cons, List.map_nil, strip]; rfl
theorem w67_3 : Wp r67_3 7 [18] [] [] [0, 1, 2] [some 19, some 20, some 21, some 22, some 23, some 24, some 25, none] (L67_3).1 := w_plain (by kernel_rfl) (L67_3).2
noncomputable def L67_4 : Lt r67_4 := by refine ⟨?l, ?h⟩; case h => simp only [r67_4, c67, bodyOf, Tryd.f67, Code.sub, opsOf, List.map_cons, List.map_nil, strip]; rfl
theorem w67_4 : Wp r67_4 7 [18] [6] [] [] [some 6] (L67_4).1 := w_plain (by kernel_rfl) (L67_4).2
theorem k67 : FnIs TT 67 c67 [.tmp 6] 3 := ⟨Tryd.f67, by kernel_rfl, by simp only [Tryd.f67, c67, bodyOf], by kernel_rfl, of_decide_eq_true (by kernel_rfl)⟩
noncomputable def c68 : Code := bodyOf Tryd.f68
noncomputable def r68_0 : Code := Code.sub [0] c68
noncomputable def r68_1 : Code := Code.sub [1, 0, 0] c68
noncomputable def r68_2 : Code := Code.sub [1, 0, 1, 0, 0] c68
noncomputable def r68_3 : Code := Code.sub [1, 1, 0] c68
theorem body68 : c68 = (.seq r68_0 (.seq (.seq r68_1 (.cond (.tmp 4) (.seq r68_2 .ret) .skip)) (.seq r68_3 .ret))) := by kernel_rfl
noncomputable def L68_0 : Lt r68_0 := by refine ⟨?l, ?h⟩; case h => simp only [r68_0, c68, bodyOf, Tryd.f68, Code.sub, opsOf, List.map_cons, List.map_nil, strip]; rfl
theorem w68_0 : Wp r68_0 3 [4] [2] [] [] [some 2] (L68_0).1 := w_plain (by kernel_rfl) (L68_0).2
noncomputable def L68_1 : Lt r68_1 := by refine ⟨?l, ?h⟩; case h => simp only [r68_1, c68, bodyOf, Tryd.f68, Code.sub, opsOf, List.map_cons, List.map_nil, strip]; rfl
theorem w68_1 : Wp r68_1 3 [4] [] [4] [0] [some 3, some 4] (L68_1).1 := w_plain (by kernel_rfl) (L68_1).2
noncomputable def L68_2 : Lt r68_2 := by refine ⟨?l, ?h⟩; case h => simp only [r68_2, c68, bodyOf, Tryd.f68, Code.sub, opsOf, List.map_cons, List.map_nil, strip]; rfl
theorem w68_2 : Wp r68_2 3 [4] [2] [] [0] [some 5, some 6, some 7, some 8, some 2] (L68_2).1 := w_plain (by kernel_rfl) (L68_2).2
noncomputable def L68_3 : Lt r68_3 := by refine ⟨?l, ?h⟩; case h => simp only [r68_3, c68, bodyOf, Tryd.f68, Code.sub, opsOf, List.map_cons, List.map_nil, strip]; rfl
theorem w68_3 : Wp r68_3 3 [4] [2] [] [0] [some 9, some 10, some 11, some 12, some 13, some 14, some 2] (L68_3).1 := w_plain (by kernel_rfl) (L68_3).2
theorem k68 : FnIs TT 68 c68 [.tmp 2] 1 := ⟨Tryd.f68, by kernel_rfl, by simp only [Tryd.f68, c68, bodyOf], by kernel_rfl, of_decide_eq_true (by kernel_rfl)⟩
noncomputable def c69 : Code := bodyOf Tryd.f69
noncomputable def r69_0 : Code := Code.sub [0] c69
noncomputable def r69_1 : Code := Code.sub [1, 0] c69
noncomputable def r69_2 : Code := Code.sub [1, 1, 0] c69
theorem body69 : c69 = (.seq r69_0 (.seq r69_1 (.seq r69_2 .ret))) := by kernel_rfl
noncomputable def L69_0 : Lt r69_0 := by refine ⟨?l, ?h⟩; case h => simp only [r69_0, c69, bodyOf, Tryd.f69, Code.sub, opsOf, List.map_cons, List.map_nil, strip]; rfl
theorem w69_0 : Wp r69_0 4 [] [2] [] [] [some 2] (L69_0).1 := w_plain (by kernel_rfl) (L69_0).2
noncomputable def L69_1 : Lt r69_1 := by refine ⟨?l, ?h⟩; case h => simp only [r69_1, c69, bodyOf, Tryd.f69, Code.sub, opsOf, List.map_cons, List.map_nil, strip]; rfl
theorem w69_1 : Wp r69_1 4 [] [3] [] [0] [some 4, some 5, some 6, some 3] (L69_1).1 := w_plain (by kernel_rfl) (L69_1).2
noncomputable def L69_2 : Lt r69_2 := by refine ⟨?l, ?h⟩; case h => simp only [r69_2, c69, bodyOf, Tryd.f69, Code.sub, opsOf, List.map_cons, List.map_nil, strip]; rfl
theorem w69_2 : Wp r69_2 4 [] [2] [] [0, 3] [some 7, some 8, some 9, some 10, some 11, some 12, some 13, some 14, some 2] (L69_2).1 := w_plain (by kernel_rfl) (L69_2).2
theorem k69 : FnIs TT 69 c69 [.tmp 2] 1 := ⟨Tryd.f69, by kernel_rfl, by simp only [Tryd.f69, c69, bodyOf], by kernel_rfl, of_decide_eq_true (by kernel_rfl)⟩
noncomputable def c70 : Code := bodyOf Tryd.f70
noncomputable def r70_0 : Code := Code.sub [0] c70
noncomputable def r70_1 : Code := Code.sub [1, 0, 0, 0, 0, 0] c70
noncomputable def r70_2 : Code := Code.sub [1, 0, 0, 0, 1, 0, 0] c70
noncomputable def r70_3 : Code := Code.sub [1, 0, 0, 0, 1, 0, 1, 0] c70
noncomputable def r70_4 : Code := Code.sub [1, 0, 0, 0, 1, 0, 1, 1, 0] c70
noncomputable def r70_5 : Code := Code.sub [1, 0, 0, 0, 1, 0, 1, 1, 1, 0] c70
noncomputable def r70_6 : Code := Code.sub [1, 0, 0, 0, 1, 0, 1, 1, 1, 1, 0] c70
noncomputable def r70_7 : Code := Code.sub [1, 0, 0, 0, 1, 0, 1, 1, 1, 1, 1, 0] c70
noncomputable def r70_8 : Code := Code.sub [1, 0, 0, 0, 1, 0, 1, 1, 1, 1, 1, 1, 0] c70
noncomputable def r70_9 : Code := Code.sub [1, 0, 0, 0, 1, 0, 1, 1, 1, 1, 1, 1, 1, 0] c70
noncomputable def r70_10 : Code := Code.sub [1, 0, 0, 0, 1, 0, 1, 1, 1, 1, 1, 1, 1, 1, 0] c70
noncomputable def r70_11 : Code := Code.sub [1, 0, 0, 0, 1, 0, 1, 1, 1, 1, 1, 1, 1, 1, 1] c70
noncomputable def r70_12 : Code := Code.sub [1, 1, 0] c70
noncomputable def r70_13 : Code := Code.sub [1, 1, 1, 0, 0] c70
noncomputable def r70_14 : Code := Code.sub [1, 1, 1, 0, 1, 0, 0] c70
noncomputable def r70_15 : Code := Code.sub [1, 1, 1, 0, 1, 0, 1, 0] c70
noncomputable def r70_16 : Code := Code.sub [1, 1, 1, 0, 1, 0, 1, 1, 0] c70
noncomputable def r70_17 : Code := Code.sub [1, 1, 1, 0, 1, 0, 1, 1, 1, 0] c70
noncomputable def r70_18 : Code := Code.sub [1, 1, 1, 0, 1, 0, 1, 1, 1, 1, 0] c70
noncomputable def r70_19 : Code := Code.sub [1, 1, 1, 0, 1, 0, 1, 1, 1, 1, 1] c70
noncomputable def r70_20 : Code := Code.sub [1, 1, 1, 1, 0, 0] c70
noncomputable def r70_21 : Code := Code.sub [1, 1, 1, 1, 0, 1, 0, 0] c70
noncomputable def r70_22 : Code := Code.sub [1, 1, 1, 1, 0, 1, 0, 1, 0] c70
noncomputable def r70_23 : Code := Code.sub [1, 1, 1, 1, 0, 1, 0, 1, 1, 0] c70
noncomputable def r70_24 : Code := Code.sub [1, 1, 1, 1, 0, 1, 0, 1, 1, 1] c70
noncomputable def r70_25 : Code := Code.sub [1, 1, 1, 1, 1, 0] c70
noncomputable def r70_26 : Code := Code.sub [1, 1, 1, 1, 1, 1, 0] c70
theorem body70 : c70 = (.seq r70_0 (.seq (.block 0 (.loop (.seq (.seq r70_1 (.cond (.tmp 20) .skip (.exit 0))) (.block 1 (.seq r70_2 (.seq r70_3 (.seq r70_4 (.seq r70_5 (.seq r70_6 (.seq r70_7 (.seq r70_8 (.seq r70_9 (.seq r70_10 r70_11))))))))))))) (.seq r70_12 (.seq (.seq r70_13 (.cond (.tmp 99) (.seq r70_14 (.seq r70_15 (.seq r70_16 (.seq r70_17 (.seq r70_18 r70_19))))) .skip)) (.seq (.seq r70_20 (.cond (.tmp 139) (.seq r70_21 (.seq r70_22 (.seq r70_23 r70_24))) .skip)) (.seq r70_25 (.cond (.tmp 161) r70_26 .skip))))))) := by kernel_rfl
noncomputable def L70_0 : Lt r70_0 := by refine ⟨?l, ?h⟩; case h => simp only [r70_0, c70, bodyOf, Tryd.f70, Code.sub, opsOf, List.map_cons, List.map_nil, strip]; rfl
theorem w70_0 : Wp r70_0 17 [20, 99, 139, 161] [4] [] [0] [some 17, some 18, some 4] (L70_0).1 := w_plain (by kernel_rfl) (L70_0).2
noncomputable def L70_1 : Lt r70_1 := by refine ⟨?l, ?h⟩; case h => simp only [r70_1, c70, bodyOf, Tryd.f70, Code.sub, opsOf, List.map_cons, List.map_nil, strip]; rfl
theorem w70_1 : Wp r70_1 17 [20, 99, 139, 161] [] [20] [4] [some 19, some 20] (L70_1).1 := w_plain (by kernel_rfl) (L70_1).2
noncomputable def L70_2 : Lt r70_2 := by refine ⟨?l, ?h⟩; case h => simp only [r70_2, c70, bodyOf, Tryd.f70, Code.sub, opsOf, List.map_cons, List.map_nil, strip]; rfl
theorem w70_2 : Wp r70_2 17 [20, 99, 139, 161] [5] [] [1] [some 21, some 22, some 23, some 5] (L70_2).1 := w_plain (by kernel_rfl) (L70_2).2
noncomputable def L70_3 : Lt r70_3 := by refine ⟨?l, ?h⟩; case h => simp only [r70_3, c70, bodyOf, Tryd.f70, Code.sub, opsOf, List.map_cons, List.map_nil, strip]; rfl
theorem w70_3 : Wp r70_3 17 [20, 99, 139, 161] [1] [] [1] [some 24, some 25, some 1] (L70_3).1 := w_plain (by kernel_rfl) (L70_3).2
noncomputable def L70_4 : Lt r70_4 := by refine ⟨?l, ?h⟩; case h => simp only [r70_4, c70, bodyOf, Tryd.f70, Code.sub, opsOf, List.map_cons, List.map_nil, strip]; rfl
theorem w70_4 : Wp r70_4 17 [20, 99, 139, 161] [6, 7] [] [5] [some 26, some 27, some 28, some 29, some 6, some 7] (L70_4).1 := w_plain (by kernel_rfl) (L70_4).2
noncomputable def L70_5 : Lt r70_5 := by refine ⟨?l, ?h⟩; case h => simp only [r70_5, c70, bodyOf, Tryd.f70, Code.sub, opsOf, List.map_cons, List.map_nil, strip]; rfl
theorem w70_5 : Wp r70_5 17 [20, 99, 139, 161] [8, 9] [] [7] [some 30, some 31, some 32, some 33, some 34, some 35, some 8, some 9] (L70_5).1 := w_plain (by kernel_rfl) (L70_5).2
noncomputable def L70_6 : Lt r70_6 := by refine ⟨?l, ?h⟩; case h => simp only [r70_6, c70, bodyOf, Tryd.f70, Code.sub, opsOf, List.map_cons, List.map_nil, strip]; rfl
theorem w70_6 : Wp r70_6 17 [20, 99, 139, 161] [10, 11] [] [6] [some 36, some 37, some 38, some 39, some 40, some 41, some 10, some 11] (L70_6).1 := w_plain (by kernel_rfl) (L70_6).2
theorem can70_7 : canonOps (opsOf r70_7) = opsOf r70_7 := by kernel_rfl
noncomputable def L70_7 : Lc r70_7 := by refine ⟨?l, (congrArg (List.map strip) can70_7).trans ?h⟩; case h => simp only [r70_7, c70, bodyOf, Tryd.f70, Code.sub, opsOf, List.map_cons, List.map_nil, strip]; rfl
theorem w70_7 : Wd r70_7 17 [20, 99, 139, 161] [] [] [0, 4, 9] [some 42, some 43, some 44, some 45, some 46, some 47, some 48, some 49, some 50, some 51, some 52, some 53, none, some 54, none] (L70_7).1 [] := w_loud (by kernel_rfl) (L70_7).2
theorem can70_8 : canonOps (opsOf r70_8) = opsOf r70_8 := by kernel_rfl
noncomputable def L70_8 : Lc r70_8 := by refine ⟨?l, (congrArg (List.map strip) can70_8).trans ?h⟩; case h => simp only [r70_8, c70, bodyOf, Tryd.f70, Code.sub, opsOf, List.map_cons, List.map_nil, strip]; rfl
theorem w70_8 : Wd r70_8 17 [20, 99, 139, 161] [] [] [0, 4, 8] [some 55, some 56, some 57, some 58, some 59, some 60, some 61, some 62, some 63, some 64, some 65, some 66, none, some 67, none] (L70_8).1 [] := w_loud (by kernel_rfl) (L70_8).2
theorem can70_9 : canonOps (opsOf r70_9) = opsOf r70_9 := by kernel_rfl
noncomputable def L70_9 : Lc r70_9 := by refine ⟨?l, (congrArg (List.map strip) can70_9).trans ?h⟩; case h => simp only [r70_9, c70, bodyOf, Tryd.f70, Code.sub, opsOf, List.map_cons, List.map_nil, strip]; rfl
theorem w70_9 : Wd r70_9 17 [20, 99, 139, 161] [] [] [0, 4, 11] [some 68, some 69, some 70, some 71, some 72, some 73, some 74, some 75, some 76, some 77, some 78, some 79, none, some 80, none] (L70_9).1 [] := w_loud (by kernel_rfl) (L70_9).2
theorem can70_10 : canonOps (opsOf r70_10) = opsOf r70_10 := by kernel_rfl
noncomputable def L70_10 : Lc r70_10 := by refine ⟨?l, (congrArg (List.map strip) can70_10).trans ?h⟩; case h => simp only [r70_10, c70, bodyOf, Tryd.f70, Code.sub, opsOf, List.map_cons, List.map_nil, strip]; rfl
theorem w70_10 : Wd r70_10 17 [20, 99, 139, 161] [] [] [0, 4, 10] [some 81, some 82, some 83, some 84, some 85, some 86, some 87, some 88, some 89, some 90, some 91, some 92, none, some 93, none] (L70_10).1 [] := w_loud (by kernel_rfl) (L70_10).2
noncomputable def L70_11 : Lt r70_11 := by refine ⟨?l, ?h⟩; case h => simp only [r70_11, c70, bodyOf, Tryd.f70, Code.sub, opsOf, List.map_cons, List.map_nil, strip]; rfl
theorem w70_11 : Wp r70_11 17 [20, 99, 139, 161] [4] [] [4] [some 94, some 95, some 4] (L70_11).1 := w_plain (by kernel_rfl) (L70_11).2
noncomputable def L70_12 : Lt r70_12 := by refine ⟨?l, ?h⟩; case h => simp only [r70_12, c70, bodyOf, Tryd.f70, Code.sub, opsOf, List.map_cons, List.map_nil, strip]; rfl
theorem w70_12 : Wp r70_12 17 [20, 99, 139, 161] [12] [] [1] [some 96, some 97, some 12] (L70_12).1 := w_plain (by kernel_rfl) (L70_12).2
noncomputable def L70_13 : Lt r70_13 := by refine ⟨?l, ?h⟩; case h => simp only [r70_13, c70, bodyOf, Tryd.f70, Code.sub, opsOf, List.map_cons, List.map_nil, strip]; rfl
theorem w70_13 : Wp r70_13 17 [20, 99, 139, 161] [] [99] [4] [some 98, some 99] (L70_13).1 := w_plain (by kernel_rfl) (L70_13).2
noncomputable def L70_14 : Lt r70_14 := by refine ⟨?l, ?h⟩; case h => simp only [r70_14, c70, bodyOf, Tryd.f70, Code.sub, opsOf, List.map_cons, List.map_nil, strip]; rfl
theorem w70_14 : Wp r70_14 17 [20, 99, 139, 161] [13] [] [12] [some 100, some 101, some 13] (L70_14).1 := w_plain (by kernel_rfl) (L70_14).2
noncomputable def L70_15 : Lt r70_15 := by refine ⟨?l, ?h⟩; case h => simp only [r70_15, c70, bodyOf, Tryd.f70, Code.sub, opsOf, List.map_cons, List.map_nil, strip]; rfl
theorem w70_15 : Wp r70_15 17 [20, 99, 139, 161] [12] [] [12] [some 102, some 103, some 12] (L70_15).1 := w_plain (by kernel_rfl) (L70_15).2
noncomputable def L70_16 : Lt r70_16 := by refine ⟨?l, ?h⟩; case h => simp only [r70_16, c70, bodyOf, Tryd.f70, Code.sub, opsOf, List.map_cons, List.map_nil, strip]; rfl
theorem w70_16 : Wp r70_16 17 [20, 99, 139, 161] [14, 15] [] [13] [some 104, some 105, some 106, some 107, some 108, some 109, some 14, some 15] (L70_16).1 := w_plain (by kernel_rfl) (L70_16).2
theorem can70_17 : canonOps (opsOf r70_17) = opsOf r70_17 := by kernel_rfl
noncomputable def L70_17 : Lc r70_17 := by refine ⟨?l, (congrArg (List.map strip) can70_17).trans ?h⟩; case h => simp only [r70_17, c70, bodyOf, Tryd.f70, Code.sub, opsOf, List.map_cons, List.map_nil, strip]; rfl
theorem w70_17 : Wd r70_17 17 [20, 99, 139, 161] [] [] [0, 4, 15] [some 110, some 111, some 112, some 113, some 114, some 115, some 116, some 117, some 118, some 119, some 120, some 121, none, some 122, none] (L70_17).1 [] := w_loud (by kernel_rfl) (L70_17).2
theorem can70_18 : canonOps (opsOf r70_18) = opsOf r70_18 := by kernel_rfl
noncomputable def L70_18 : Lc r70_18 := by refine ⟨?l, (congrArg (List.map strip) can70_18).trans ?h⟩; case h => simp only [r70_18, c70, bodyOf, Tryd.f70, Code.sub, opsOf, List.map_cons, List.map_nil, strip]; rfl
theorem w70_18 : Wd r70_18 17 [20, 99, 139, 161] [] [] [0, 4, 14] [some 123, some 124, some 125, some 126, some 127, some 128, some 129, some 130, some 131, some 132, some 133, some 134, none, some 135, none] (L70_18).1 [] := w_loud (by kernel_rfl) (L70_18).2
noncomputable def L70_19 : Lt r70_19 := by refine ⟨?l, ?h⟩; case h => simp only [r70_19, c70, bodyOf, Tryd.f70, Code.sub, opsOf, List.map_cons, List.map_nil, strip]; rfl
theorem w70_19 : Wp r70_19 17 [20, 99, 139, 161] [4] [] [4] [some 136, some 137, some 4] (L70_19).1 := w_plain (by kernel_rfl) (L70_19).2
noncomputable def L70_20 : Lt r70_20 := by refine ⟨?l, ?h⟩; case h => simp only [r70_20, c70, bodyOf, Tryd.f70, Code.sub, opsOf, List.map_cons, List.map_nil, strip]; rfl
theorem w70_20 : Wp r70_20 17 [20, 99, 139, 161] [] [139] [4] [some 138, some 139] (L70_20).1 := w_plain (by kernel_rfl) (L70_20).2
noncomputable def L70_21 : Lt r70_21 := by refine ⟨?l, ?h⟩; case h => simp only [r70_21, c70, bodyOf, Tryd.f70, Code.sub, opsOf, List.map_cons, List.map_nil, strip]; rfl
theorem w70_21 : Wp r70_21 17 [20, 99, 139, 161] [16] [] [12] [some 140, some 141, some 142, some 16] (L70_21).1 := w_plain (by kernel_rfl) (L70_21).2
noncomputable def L70_22 : Lt r70_22 := by refine ⟨?l, ?h⟩; case h => simp only [r70_22, c70, bodyOf, Tryd.f70, Code.sub, opsOf, List.map_cons, List.map_nil, strip]; rfl
theorem w70_22 : Wp r70_22 17 [20, 99, 139, 161] [12] [] [12] [some 143, some 144, some 12] (L70_22).1 := w_plain (by kernel_rfl) (L70_22).2
theorem can70_23 : canonOps (opsOf r70_23) = opsOf r70_23 := by kernel_rfl
noncomputable def L70_23 : Lc r70_23 := by refine ⟨?l, (congrArg (List.map strip) can70_23).trans ?h⟩; case h => simp only [r70_23, c70, bodyOf, Tryd.f70, Code.sub, opsOf, List.map_cons, List.map_nil, strip]; rfl
theorem w70_23 : Wd r70_23 17 [20, 99, 139, 161] [] [] [0, 4, 16] [some 145, some 146, some 147, some 148, some 149, some 150, some 151, some 152, some 153, some 154, some 155, some 156, none, some 157, none] (L70_23).1 [] := w_loud (by kernel_rfl) (L70_23).2
noncomputable def L70_24 : Lt r70_24 := by refine ⟨?l, ?h⟩; case h => simp only [r70_24, c70, bodyOf, Tryd.f70, Code.sub, opsOf, List.map_cons, List.map_nil, strip]; rfl
theorem w70_24 : Wp r70_24 17 [20, 99, 139, 161] [4] [] [4] [some 158, some 159, some 4] (L70_24).1 := w_plain (by kernel_rfl) (L70_24).2
noncomputable def L70_25 : Lt r70_25 := by refine ⟨?l, ?h⟩; case h => simp only [r70_25, c70, bodyOf, Tryd.f70, Code.sub, opsOf, List.map_cons, List.map_nil, strip]; rfl
theorem w70_25 : Wp r70_25 17 [20, 99, 139, 161] [] [161] [4] [some 160, some 161] (L70_25).1 := w_plain (by kernel_rfl) (L70_25).2
noncomputable def L70_26 : Lt r70_26 := by refine ⟨?l, ?h⟩; case h => simp only [r70_26, c70, bodyOf, Tryd.f70, Code.sub, opsOf, List.map_cons, List.map_nil, strip]; rfl
theorem w70_26 : Wp r70_26 17 [20, 99, 139, 161] [] [] [0, 12] [some 162, some 163, some 164, some 165, some 166, none] (L70_26).1 := w_plain (by kernel_rfl) (L70_26).2
theorem k70 : FnIs TT 70 c70 [] 2 := ⟨Tryd.f70, by kernel_rfl, by simp only [Tryd.f70, c70, bodyOf], by kernel_rfl, of_decide_eq_true (by kernel_rfl)⟩
noncomputable def c72 : Code := bodyOf Tryd.f72
noncomputable def r72_0 : Code := Code.sub [0] c72
noncomputable def r72_1 : Code := Code.sub [1, 0] c72
theorem body72 : c72 = (.seq r72_0 (.seq r72_1 .ret)) := by kernel_rfl
noncomputable def L72_0 : Lt r72_0 := by refine ⟨?l, ?h⟩; case h => simp only [r72_0, c72, bodyOf, Tryd.f72, Code.sub, opsOf, List.map_cons, List.map_nil, strip]; rfl
theorem w72_0 : Wp r72_0 3 [] [2] [] [] [some 2] (L72_0).1 := w_plain (by kernel_rfl) (L72_0).2
noncomputable def L72_1 : Lt r72_1 := by refine ⟨?l, ?h⟩; case h => simp only [r72_1, c72, bodyOf, Tryd.f72, Code.sub, opsOf, List.map_cons, List.map_nil, strip]; rfl
theorem w72_1 : Wp r72_1 3 [] [2] [] [0] [some 3, some 4, some 5, some 2] (L72_1).1 := w_plain (by kernel_rfl) (L72_1).2
theorem k72 : FnIs TT 72 c72 [.tmp 2] 1 := ⟨Tryd.f72, by kernel_rfl, by simp only [Tryd.f72, c72, bodyOf], by kernel_rfl, of_decide_eq_true (by kernel_rfl)⟩
noncomputable def c73 : Code := bodyOf Tryd.f73
noncomputable def r73_0 : Code := Code.sub [0] c73
noncomputable def r73_1 : Code := Code.sub [1, 0, 0] c73
noncomputable def r73_2 : Code := Code.sub [1, 0, 1, 0, 0] c73
noncomputable def r73_3 : Code := Code.sub [1, 0, 1, 0, 1] c73
noncomputable def r73_4 : Code := Code.sub [1, 1, 0, 0] c73
noncomputable def r73_5 : Code := Code.sub [1, 1, 0, 1, 0, 0] c73
noncomputable def r73_6 : Code := Code.sub [1, 1, 0, 1, 0, 1] c73
noncomputable def r73_7 : Code := Code.sub [1, 1, 1, 0, 0] c73
noncomputable def r73_8 : Code := Code.sub [1, 1, 1, 0, 1, 0, 0] c73
noncomputable def r73_9 : Code := Code.sub [1, 1, 1, 0, 1, 0, 1] c73
noncomputable def r73_10 : Code := Code.sub [1, 1, 1, 1, 0] c73
theorem body73 : c73 = (.seq r73_0 (.seq (.seq r73_1 (.cond (.tmp 4) (.seq r73_2 r73_3) .skip)) (.seq (.seq r73_4 (.cond (.tmp 8) (.seq r73_5 r73_6) .skip)) (.seq (.seq r73_7 (.cond (.tmp 14) (.seq r73_8 r73_9) .skip)) (.seq r73_10 .ret))))) := by kernel_rfl
noncomputable def L73_0 : Lt r73_0 := by refine ⟨?l, ?h⟩; case h => simp only [r73_0, c73, bodyOf, Tryd.f73, Code.sub, opsOf, List.map_cons, List.map_nil, strip]; rfl
theorem w73_0 : Wp r73_0 3 [4, 8, 14] [2] [] [] [some 2] (L73_0).1 := w_plain (by kernel_rfl) (L73_0).2
noncomputable def L73_1 : Lt r73_1 := by refine ⟨?l, ?h⟩; case h => simp only [r73_1, c73, bodyOf, Tryd.f73, Code.sub, opsOf, List.map_cons, List.map_nil, strip]; rfl
theorem w73_1 : Wp r73_1 3 [4, 8, 14] [] [4] [0] [some 3, some 4] (L73_1).1 := w_plain (by kernel_rfl) (L73_1).2
noncomputable def L73_2 : Lt r73_2 := by refine ⟨?l, ?h⟩; case h => simp only [r73_2, c73, bodyOf, Tryd.f73, Code.sub, opsOf, List.map_cons, List.map_nil, strip]; rfl
theorem w73_2 : Wp r73_2 3 [4, 8, 14] [0] [] [0] [some 5, some 6, some 0] (L73_2).1 := w_plain (by kernel_rfl) (L73_2).2
noncomputable def L73_3 : Lt r73_3 := by refine ⟨?l, ?h⟩; case h => simp only [r73_3, c73, bodyOf, Tryd.f73, Code.sub, opsOf, List.map_cons, List.map_nil, strip]; rfl
theorem w73_3 : Wp r73_3 3 [4, 8, 14] [2] [] [] [some 2] (L73_3).1 := w_plain (by kernel_rfl) (L73_3).2
noncomputable def L73_4 : Lt r73_4 := by refine ⟨?l, ?h⟩; case h => simp only [r73_4, c73, bodyOf, Tryd.f73, Code.sub, opsOf, List.map_cons, List.map_nil, strip]; rfl
theorem w73_4 : Wp r73_4 3 [4, 8, 14] [] [8] [0] [some 7, some 8] (L73_4).1 := w_plain (by kernel_rfl) (L73_4).2
noncomputable def L73_5 : Lt r73_5 := by refine ⟨?l, ?h⟩; case h => simp only [r73_5, c73, bodyOf, Tryd.f73, Code.sub, opsOf, List.map_cons, List.map_nil, strip]; rfl
theorem w73_5 : Wp r73_5 3 [4, 8, 14] [0] [] [0] [some 9, some 10, some 0] (L73_5).1 := w_plain (by kernel_rfl) (L73_5).2
noncomputable def L73_6 : Lt r73_6 := by refine ⟨?l, ?h⟩; case h => simp only [r73_6, c73, bodyOf, Tryd.f73, Code.sub, opsOf, List.map_cons, List.map_nil, strip]; rfl
theorem w73_6 : Wp r73_6 3 [4, 8, 14] [2] [] [2] [some 11, some 12, some 2] (L73_6).1 := w_plain (by kernel_rfl) (L73_6).2
noncomputable def L73_7 : Lt r73_7 := by refine ⟨?l, ?h⟩; case h => simp only [r73_7, c73, bodyOf, Tryd.f73, Code.sub, opsOf, List.map_cons, List.map_nil, strip]; rfl
theorem w73_7 : Wp r73_7 3 [4, 8, 14] [] [14] [0] [some 13, some 14] (L73_7).1 := w_plain (by kernel_rfl) (L73_7).2
noncomputable def L73_8 : Lt r73_8 := by refine ⟨?l, ?h⟩; case h => simp only [r73_8, c73, bodyOf, Tryd.f73, Code.sub, opsOf, List.map_cons, List.map_nil, strip]; rfl
theorem w73_8 : Wp r73_8 3 [4, 8, 14] [0] [] [0] [some 15, some 16, some 0] (L73_8).1 := w_plain (by kernel_rfl) (L73_8).2
noncomputable def L73_9 : Lt r73_9 := by refine ⟨?l, ?h⟩; case h => simp only [r73_9, c73, bodyOf, Tryd.f73, Code.sub, opsOf, List.map_cons, List.map_nil, strip]; rfl
theorem w73_9 : Wp r73_9 3 [4, 8, 14] [2] [] [2] [some 17, some 18, some 2] (L73_9).1 := w_plain (by kernel_rfl) (L73_9).2
noncomputable def L73_10 : Lt r73_10 := by refine ⟨?l, ?h⟩; case h => simp only [r73_10, c73, bodyOf, Tryd.f73, Code.sub, opsOf, List.map_cons, List.map_nil, strip]; rfl
theorem w73_10 : Wp r73_10 3 [4, 8, 14] [2] [] [2, 0] [some 19, some 20, some 21, some 22, some 23, some 24, some 2] (L73_10).1 := w_plain (by kernel_rfl) (L73_10).2
theorem k73 : FnIs TT 73 c73 [.tmp 2] 1 := ⟨Tryd.f73, by kernel_rfl, by simp only [Tryd.f73, c73, bodyOf], by kernel_rfl, of_decide_eq_true (by kernel_rfl)⟩
noncomputable def c74 : Code := bodyOf Tryd.f74
noncomputable def r74_0 : Code := Code.sub [0] c74
noncomputable def r74_1 : Code := Code.sub [1, 0, 0] c74
noncomputable def r74_2 : Code := Code.sub [1, 0, 1, 0, 0] c74
noncomputable def r74_3 : Code := Code.sub [1, 1, 0] c74
theorem body74 : c74 = (.seq r74_0 (.seq (.seq r74_1 (.cond (.tmp 3) (.seq r74_2 .ret) .skip)) (.seq r74_3 .ret))) := by kernel_rfl
noncomputable def L74_0 : Lt r74_0 := by refine ⟨?l, ?h⟩; case h => simp only [r74_0, c74, bodyOf, Tryd.f74, Code.sub, opsOf, List.map_cons, List.map_nil, strip]; rfl
theorem w74_0 : Wp r74_0 3 [3] [2] [] [] [some 2] (L74_0).1 := w_plain (by kernel_rfl) (L74_0).2
noncomputable def L74_1 : Lt r74_1 := by refine ⟨?l, ?h⟩; case h => simp only [r74_1, c74, bodyOf, Tryd.f74, Code.sub, opsOf, List.map_cons, List.map_nil, strip]; rfl
theorem w74_1 : Wp r74_1 3 [3] [] [3] [0] [some 3] (L74_1).1 := w_plain (by kernel_rfl) (L74_1).2
noncomputable def L74_2 : Lt r74_2 := by refine ⟨?l, ?h⟩; case h => simp only [r74_2, c74, bodyOf, Tryd.f74, Code.sub, opsOf, List.map_cons, List.map_nil, strip]; rfl
theorem w74_2 : Wp r74_2 3 [3] [2] [] [] [some 2] (L74_2).1 := w_plain (by kernel_rfl) (L74_2).2
noncomputable def L74_3 : Lt r74_3 := by refine ⟨?l, ?h⟩; case h => simp only [r74_3, c74, bodyOf, Tryd.f74, Code.sub, opsOf, List.map_cons, List.map_nil, strip]; rfl
theorem w74_3 : Wp r74_3 3 [3] [2] [] [] [some 2] (L74_3).1 := w_plain (by kernel_rfl) (L74_3).2
theorem k74 : FnIs TT 74 c74 [.tmp 2] 1 := ⟨Tryd.f74, by kernel_rfl, by simp only [Tryd.f74, c74, bodyOf], by kernel_rfl, of_decide_eq_true (by kernel_rfl)⟩
/- what rewriting uses in the walks -/
attribute [simp] w_seq w_cond_tmp w_ret w_skip w_exit w_block w_loop r_nil r_seq r_seq_ret r_seq_exit r_block
attribute [simp] r_block_ret r_block_exit r_loop r_loop_ret r_loop_exit cnd_t cnd_f rg_some lgo_n lgo_c lops_nil lops_cons
attribute [simp] lk_some lop1_plain lop1_guard gdv_b gdv_u gd_tt gd_ff gd_tf gd_ft lput_s lput_n lev_t
attribute [simp] lev_c lev_g lev_f lget_n lget_c lset_n lset_c lkeep_n lkeep_c lsets_n lsets_c lconds_n
attribute [simp] lconds_c lfill qf_d okx lresults lresultsL lres_tmp o_move o_assign o_bin o_pick o_nilCheck
attribute [simp] o_fieldAddr o_load o_len o_store o_conv o_un o_extract o_append o_call2 o_callv o_buildSlice o_box
attribute [simp] o_alloc o_build o_indexAddr o_slice o_index o_field o_makeFunc o_makeSlice o_min o_max loOf_none loOf_some
attribute [simp] hiOf_none hiOf_some natOf_int sliceS_some sliceA_some strOp sz_str cat_str list_str s_binOp fastBin s_unOp
attribute [simp] fastUn boolEq int_beq int_bne txt_beq one_int one_slice one_ptr one_bool one_str cells_int cells_slice
attribute [simp] cells_ptr cells_bool cells_str cells_agg flatEq_n flatEq_c ba_beq closedA_l closedL_n closedL_c closedV_int closedV_str
attribute [simp] closedV_bool loadRow_new window over Instr.fill repl lst_nil lst_cons lks_some lkc_some lloud_some lreads_n
attribute [simp] lreads_c lsame_d eqV_int eqV_slice eqV_ptr eqV_agg eqL_n eqL_c eqV_str eqV_bool eqV_undef o_lookup
attribute [simp] o_mapUpdate o_insert o_mapEntry o_entryStore o_makeMap o_makeInterface o_typeAssert o_delete o_invoke inv_of est_int one_map
attribute [simp] one_iface cells_map cells_iface eqV_map eqV_ifc
attribute [simp] body7 w7_0 L7_0 w7_1 L7_1 w7_2 L7_2 w7_3 L7_3 w7_4 L7_4 w7_5 L7_5 w7_6 L7_6 w7_7 L7_7 w7_8 L7_8 w7_9 L7_9 w7_10 L7_10 w7_11 L7_11 w7_12 L7_12 w7_13 L7_13 w7_14 L7_14 w7_15 L7_15 w7_16 L7_16 w7_17 L7_17 w7_18 L7_18 w7_19 L7_19 w7_20 L7_20 w7_21 L7_21 w7_22 L7_22 w7_23 L7_23 w7_24 L7_24 w7_25 L7_25 w7_26 L7_26 w7_27 L7_27 w7_28 L7_28 w7_29 L7_29 w7_30 L7_30 w7_31 L7_31 w7_32 L7_32 w7_33 L7_33 w7_34 L7_34 w7_35 L7_35 w7_36 L7_36 w7_37 L7_37 w7_38 L7_38 w7_39 L7_39 w7_40 L7_40 w7_41 L7_41 w7_42 L7_42 w7_43 L7_43 w7_44 L7_44 w7_45 L7_45 w7_46 L7_46 w7_47 L7_47 w7_48 L7_48 w7_49 L7_49 w7_50 L7_50 w7_51 L7_51 w7_52 L7_52 w7_53 L7_53 w7_54 L7_54 w7_55 L7_55 w7_56 L7_56 w7_57 L7_57 w7_58 L7_58 w7_59 L7_59 w7_60 L7_60
attribute [simp] body8 w8_0 L8_0 w8_1 L8_1 w8_2 L8_2 w8_3 L8_3 w8_4 L8_4 w8_5 L8_5 w8_6 L8_6 w8_7 L8_7 w8_8 L8_8 w8_9 L8_9 w8_10 L8_10 w8_11 L8_11 w8_12 L8_12 w8_13 L8_13 w8_14 L8_14 w8_15 L8_15 w8_16 L8_16 w8_17 L8_17 w8_18 L8_18
attribute [simp] body9 w9_0 L9_0 w9_1 L9_1
attribute [simp] body10 w10_0 L10_0 w10_1 L10_1 w10_2 L10_2 w10_3 L10_3 w10_4 L10_4 w10_5 L10_5 w10_6 L10_6
attribute [simp] body11 w11_0 L11_0 w11_1 L11_1 w11_2 L11_2 w11_3 L11_3 w11_4 L11_4
attribute [simp] body12 w12_0 L12_0 w12_1 L12_1 w12_2 L12_2 w12_3 L12_3
attribute [simp] body13 w13_0 L13_0 w13_1 L13_1
attribute [simp] body14 w14_0 L14_0 w14_1 L14_1
attribute [simp] body15 w15_0 L15_0 w15_1 L15_1 w15_2 L15_2 w15_3 L15_3
attribute [simp] body16 w16_0 L16_0 w16_1 L16_1 w16_2 L16_2 w16_3 L16_3 w16_4 L16_4
attribute [simp] body17 w17_0 L17_0 w17_1 L17_1 w17_2 L17_2 w17_3 L17_3
attribute [simp] body18 w18_0 L18_0 w18_1 L18_1
attribute [simp] body19 w19_0 L19_0 w19_1 L19_1
attribute [simp] body20 w20_0 L20_0 w20_1 L20_1
attribute [simp] body21 w21_0 L21_0 w21_1 L21_1
attribute [simp] body22 w22_0 L22_0 w22_1 L22_1 w22_2 L22_2 w22_3 L22_3 w22_4 L22_4
attribute [simp] body23 w23_0 L23_0 w23_1 L23_1 w23_2 L23_2 w23_3 L23_3 w23_4 L23_4
attribute [simp] body24 w24_0 L24_0 w24_1 L24_1 w24_2 L24_2 w24_3 L24_3
attribute [simp] body25 w25_0 L25_0 w25_1 L25_1
attribute [simp] body26 w26_0 L26_0 w26_1 L26_1 w26_2 L26_2 w26_3 L26_3 w26_4 L26_4 w26_5 L26_5 w26_6 L26_6
attribute [simp] body27 w27_0 L27_0 w27_1 L27_1 w27_2 L27_2 w27_3 L27_3 w27_4 L27_4 w27_5 L27_5 w27_6 L27_6 w27_7 L27_7 w27_8 L27_8 w27_9 L27_9
attribute [simp] body28 w28_0 L28_0 w28_1 L28_1 w28_2 L28_2 w28_3 L28_3
attribute [simp] body29 w29_0 L29_0 w29_1 L29_1 w29_2 L29_2 w29_3 L29_3 w29_4 L29_4 w29_5 L29_5 w29_6 L29_6 w29_7 L29_7 w29_8 L29_8 w29_9 L29_9 w29_10 L29_10 w29_11 L29_11
attribute [simp] body30 w30_0 L30_0 w30_1 L30_1 w30_2 L30_2 w30_3 L30_3 w30_4 L30_4
attribute [simp] body31 w31_0 L31_0 w31_1 L31_1 w31_2 L31_2 w31_3 L31_3 w31_4 L31_4
attribute [simp] body32 w32_0 L32_0 w32_1 L32_1 w32_2 L32_2 w32_3 L32_3
attribute [simp] body33 w33_0 L33_0 w33_1 L33_1 w33_2 L33_2 w33_3 L33_3 w33_4 L33_4 w33_5 L33_5 w33_6 L33_6
attribute [simp] body34 w34_0 L34_0 w34_1 L34_1 w34_2 L34_2 w34_3 L34_3 w34_4 L34_4 w34_5 L34_5 w34_6 L34_6
attribute [simp] body35 w35_0 L35_0 w35_1 L35_1 w35_2 L35_2 w35_3 L35_3 w35_4 L35_4
attribute [simp] body36 w36_0 L36_0 w36_1 L36_1 w36_2 L36_2 w36_3 L36_3 w36_4 L36_4 w36_5 L36_5 w36_6 L36_6 w36_7 L36_7 w36_8 L36_8
attribute [simp] body37 w37_0 L37_0 w37_1 L37_1
attribute [simp] body38 w38_0 L38_0 w38_1 L38_1 w38_2 L38_2 w38_3 L38_3 w38_4 L38_4 w38_5 L38_5 w38_6 L38_6 w38_7 L38_7 w38_8 L38_8
attribute [simp] body39 w39_0 L39_0 w39_1 L39_1
attribute [simp] body40 w40_0 L40_0 w40_1 L40_1 w40_2 L40_2 w40_3 L40_3
attribute [simp] body41 w41_0 L41_0 w41_1 L41_1 w41_2 L41_2 w41_3 L41_3 w41_4 L41_4 w41_5 L41_5 w41_6 L41_6 w41_7 L41_7 w41_8 L41_8
attribute [simp] body42 w42_0 L42_0 w42_1 L42_1
attribute [simp] body43 w43_0 L43_0 w43_1 L43_1
attribute [simp] body44 w44_0 L44_0 w44_1 L44_1 w44_2 L44_2 w44_3 L44_3 w44_4 L44_4 w44_5 L44_5 w44_6 L44_6 w44_7 L44_7 w44_8 L44_8
attribute [simp] body45 w45_0 L45_0 w45_1 L45_1 w45_2 L45_2 w45_3 L45_3
attribute [simp] body46 w46_0 L46_0 w46_1 L46_1 w46_2 L46_2 w46_3 L46_3 w46_4 L46_4 w46_5 L46_5 w46_6 L46_6 w46_7 L46_7
attribute [simp] body47 w47_0 L47_0 w47_1 L47_1
attribute [simp] body48 w48_0 L48_0 w48_1 L48_1 w48_2 L48_2 w48_3 L48_3 w48_4 L48_4 w48_5 L48_5 w48_6 L48_6
attribute [simp] body49 w49_0 L49_0 w49_1 L49_1
attribute [simp] body50 w50_0 L50_0 w50_1 L50_1
attribute [simp] body51 w51_0 L51_0 w51_1 L51_1 w51_2 L51_2 w51_3 L51_3 w51_4 L51_4 w51_5 L51_5 w51_6 L51_6 w51_7 L51_7 w51_8 L51_8 w51_9 L51_9 w51_10 L51_10
attribute [simp] body52 w52_0 L52_0 w52_1 L52_1 w52_2 L52_2 w52_3 L52_3 w52_4 L52_4 w52_5 L52_5 w52_6 L52_6 w52_7 L52_7 w52_8 L52_8 w52_9 L52_9
attribute [simp] body53 w53_0 L53_0 w53_1 L53_1
attribute [simp] body54 w54_0 L54_0 w54_1 L54_1 w54_2 L54_2 w54_3 L54_3
attribute [simp] body55 w55_0 L55_0 w55_1 L55_1
attribute [simp] body56 w56_0 L56_0 w56_1 L56_1
attribute [simp] body57 w57_0 L57_0 w57_1 L57_1
attribute [simp] body58 w58_0 L58_0 w58_1 L58_1
attribute [simp] body59 w59_0 L59_0 w59_1 L59_1
attribute [simp] body60 w60_0 L60_0 w60_1 L60_1 w60_2 L60_2 w60_3 L60_3
attribute [simp] body61 w61_0 L61_0 w61_1 L61_1 w61_2 L61_2 w61_3 L61_3
attribute [simp] body62 w62_0 L62_0 w62_1 L62_1 w62_2 L62_2 w62_3 L62_3
attribute [simp] body63 w63_0 L63_0 w63_1 L63_1 w63_2 L63_2 w63_3 L63_3 w63_4 L63_4
attribute [simp] body64 w64_0 L64_0 w64_1 L64_1 w64_2 L64_2 w64_3 L64_3
attribute [simp] body65 w65_0 L65_0 w65_1 L65_1 w65_2 L65_2 w65_3 L65_3 w65_4 L65_4 w65_5 L65_5 w65_6 L65_6 w65_7 L65_7 w65_8 L65_8 w65_9 L65_9 w65_10 L65_10 w65_11 L65_11 w65_12 L65_12 w65_13 L65_13 w65_14 L65_14 w65_15 L65_15
attribute [simp] body66 w66_0 L66_0 w66_1 L66_1 w66_2 L66_2 w66_3 L66_3
attribute [simp] body67 w67_0 L67_0 w67_1 L67_1 w67_2 L67_2 w67_3 L67_3 w67_4 L67_4
attribute [simp] body68 w68_0 L68_0 w68_1 L68_1 w68_2 L68_2 w68_3 L68_3
attribute [simp] body69 w69_0 L69_0 w69_1 L69_1 w69_2 L69_2
attribute [simp] body70 w70_0 L70_0 w70_1 L70_1 w70_2 L70_2 w70_3 L70_3 w70_4 L70_4 w70_5 L70_5 w70_6 L70_6 w70_7 L70_7 w70_8 L70_8 w70_9 L70_9 w70_10 L70_10 w70_11 L70_11 w70_12 L70_12 w70_13 L70_13 w70_14 L70_14 w70_15 L70_15 w70_16 L70_16 w70_17 L70_17 w70_18 L70_18 w70_19 L70_19 w70_20 L70_20 w70_21 L70_21 w70_22 L70_22 w70_23 L70_23 w70_24 L70_24 w70_25 L70_25 w70_26 L70_26
attribute [simp] body72 w72_0 L72_0 w72_1 L72_1
attribute [simp] body73 w73_0 L73_0 w73_1 L73_1 w73_2 L73_2 w73_3 L73_3 w73_4 L73_4 w73_5 L73_5 w73_6 L73_6 w73_7 L73_7 w73_8 L73_8 w73_9 L73_9 w73_10 L73_10
attribute [simp] body74 w74_0 L74_0 w74_1 L74_1 w74_2 L74_2 w74_3 L74_3
end Go.Proofs.YtggbgelfgfmikaaDoor.gen

