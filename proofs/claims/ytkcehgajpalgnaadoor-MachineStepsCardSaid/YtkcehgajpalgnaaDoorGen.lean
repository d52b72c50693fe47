/-
  This text names the regions of the functions that are walked, with the slots that they read and set, and the facts of the types.
  No condition.
-/
import Derived.Test.YtkcehgajpalgnaaDoorProg
import Derived.Test.YtkcehgajpalgnaaDoorShD
set_option maxRecDepth 100000
set_option linter.unusedSimpArgs false
set_option linter.unusedVariables false
namespace Go.Proofs.YtkcehgajpalgnaaDoor.gen
open Go.Sh
def fns : List FuncId := [3, 5, 6, 7, 8, 9, 10, 11, 12, 13, 14, 15, 16, 17, 18, 19, 20, 21, 22, 23, 24, 25, 26, 27, 28, 29, 30, 32, 33, 34, 35, 36, 37, 38, 39, 41, 42, 43, 44, 45, 46, 47, 48, 49, 50, 52, 53, 54]
noncomputable def TT : FuncId → Option Func := Sh.tabOf Tryd.prog fns
variable {S : Sums} {m : Mem} {k : List Fr} {E : LEnv} {Q : Post}
abbrev Lt (c : Code) := {l : List Oper // (opsOf c).map strip = l}
abbrev Lc (c : Code) := {l : List Oper // (canonOps (opsOf c)).map strip = l}
abbrev Wp (c : Code) (nv : Nat) (C ups cs nd : List Nat) (ds : List (Option Nat)) (l : List Oper) : Prop := ∀ {S : Sums} {m : Mem} {k : List Fr} {E : LEnv} {Q : Post}, W Tryd.prog TT S nv C c k E m Q ↔ Rg Tryd.prog TT S nv C ups cs (lgo E nd (lops Tryd.prog (callw Tryd.prog TT S) ds l E m)) k E Q
abbrev Wd (c : Code) (nv : Nat) (C ups cs nd : List Nat) (ds : List (Option Nat)) (l : List Oper) (places : List (Nat × List Nat)) : Prop := ∀ {S : Sums} {m : Mem} {k : List Fr} {E : LEnv} {Q : Post}, W Tryd.prog TT S nv C c k E m Q ↔ Rg Tryd.prog TT S nv C ups cs (lgo E nd (lloud Tryd.prog (callw Tryd.prog TT S) ds l places (lstates Tryd.prog (callw Tryd.prog TT S) ds l E m))) k E Q
theorem ap33 : apOk Tryd.prog 33 1 8 = true := by kernel_rfl
theorem ap52 : apOk Tryd.prog 52 5 40 = true := by kernel_rfl
theorem b37 : (Tryd.prog.info? 37).isSome = true := by kernel_rfl
theorem b43 : (Tryd.prog.info? 43).isSome = true := by kernel_rfl
theorem b52 : (Tryd.prog.info? 52).isSome = true := by kernel_rfl
theorem b75 : (Tryd.prog.info? 75).isSome = true := by kernel_rfl
theorem bo37 : buildOk Tryd.prog 37 [.int .u64 0, .int .u64 0, .int .u64 0, .int .u64 0, .int .u64 0, .int .u64 0, .int .u64 0, .int .u64 0, .int .u64 0, .int .u64 0, .int .u64 0, .int .u64 0, .int .u64 0, .int .u64 0, .int .u64 0, .int .u64 0, .int .u64 0, .int .u64 0, .int .u64 0, .int .u64 0, .int .u64 0, .int .u64 0, .int .u64 0, .int .u64 0, .int .u64 0, .int .u64 0, .int .u64 0, .int .u64 0, .int .u64 0, .int .u64 0, .int .u64 0, .int .u64 0, .int .u64 0, .int .u64 0, .int .u64 0, .int .u64 0, .int .u64 0, .int .u64 0, .int .u64 0, .int .u64 0, .int .u64 0, .int .u64 0, .int .u64 0, .int .u64 0, .int .u64 0, .int .u64 0, .int .u64 0, .int .u64 0, .int .u64 0, .int .u64 0, .int .u64 0, .int .u64 0, .int .u64 0, .int .u64 0, .int .u64 0, .int .u64 0, .int .u64 0, .int .u64 0, .int .u64 0, .int .u64 0, .int .u64 0, .int .u64 0, .int .u64 0, .int .u64 0, .int .u64 0, .int .u64 0, .int .u64 0, .int .u64 0, .int .u64 0, .int .u64 0, .int .u64 0, .int .u64 0, .int .u64 0, .int .u64 0, .int .u64 0, .int .u64 0, .int .u64 0, .int .u64 0, .int .u64 0, .int .u64 0, .int .u64 0, .int .u64 0, .int .u64 0, .int .u64 0, .int .u64 0, .int .u64 0, .int .u64 0, .int .u64 0, .int .u64 0, .int .u64 0, .int .u64 0, .int .u64 0, .int .u64 0, .int .u64 0, .int .u64 0, .int .u64 0, .int .u64 0, .int .u64 0, .int .u64 0, .int .u64 0, .int .u64 0, .int .u64 0, .int .u64 0, .int .u64 0, .int .u64 0, .int .u64 0, .int .u64 0, .int .u64 0, .int .u64 0, .int .u64 0, .int .u64 0, .int .u64 0, .int .u64 0, .int .u64 0, .int .u64 0, .int .u64 0, .int .u64 0, .int .u64 0, .int .u64 0, .int .u64 0, .int .u64 0, .int .u64 0, .int .u64 0, .int .u64 0, .int .u64 0, .int .u64 0, .int .u64 0, .int .u64 0, .int .u64 0, .int .u64 0, .int .u64 0, .int .u64 0, .int .u64 0, .int .u64 0, .int .u64 0, .int .u64 0, .int .u64 0, .int .u64 0, .int .u64 0, .int .u64 0, .int .u64 0, .int .u64 0, .int .u64 0, .int .u64 0, .int .u64 0, .int .u64 0, .int .u64 0, .int .u64 0, .int .u64 0, .int .u64 0, .int .u64 0, .int .u64 0, .int .u64 0, .int .u64 0, .int .u64 0, .int .u64 0, .int .u64 0, .int .u64 0, .int .u64 0, .int .u64 0, .int .u64 0, .int .u64 0, .int .u64 0, .int .u64 0, .int .u64 0, .int .u64 0, .int .u64 0, .int .u64 0, .int .u64 0, .int .u64 0, .int .u64 0, .int .u64 0, .int .u64 0, .int .u64 0, .int .u64 0, .int .u64 0, .int .u64 0, .int .u64 0, .int .u64 0, .int .u64 0, .int .u64 0, .int .u64 0, .int .u64 0, .int .u64 0, .int .u64 0, .int .u64 0, .int .u64 0, .int .u64 0, .int .u64 0, .int .u64 0, .int .u64 0, .int .u64 0, .int .u64 0, .int .u64 0, .int .u64 0, .int .u64 0, .int .u64 0, .int .u64 0, .int .u64 0, .int .u64 0, .int .u64 0, .int .u64 0, .int .u64 0, .int .u64 0, .int .u64 0, .int .u64 0, .int .u64 0, .int .u64 0, .int .u64 0, .int .u64 0, .int .u64 0, .int .u64 0, .int .u64 0, .int .u64 0, .int .u64 0, .int .u64 0, .int .u64 0, .int .u64 0, .int .u64 0, .int .u64 0, .int .u64 0, .int .u64 0, .int .u64 0, .int .u64 0, .int .u64 0, .int .u64 0, .int .u64 0, .int .u64 0, .int .u64 0, .int .u64 0, .int .u64 0, .int .u64 0, .int .u64 0, .int .u64 0, .int .u64 0, .int .u64 0, .int .u64 0, .int .u64 0, .int .u64 0, .int .u64 0, .int .u64 0, .int .u64 0, .int .u64 0, .int .u64 0, .int .u64 0, .int .u64 0, .int .u64 0, .int .u64 0, .int .u64 0, .int .u64 0, .int .u64 0, .int .u64 0, .int .u64 0, .int .u64 0, .int .u64 0, .int .u64 0, .int .u64 0, .int .u64 0, .int .u64 0, .int .u64 0, .int .u64 0, .int .u64 0, .int .u64 0, .int .u64 0, .int .u64 0, .int .u64 0, .int .u64 0, .int .u64 0, .int .u64 0, .int .u64 0, .int .u64 0, .int .u64 0, .int .u64 0, .int .u64 0, .int .u64 0, .int .u64 0, .int .u64 0, .int .u64 0, .int .u64 0, .int .u64 0, .int .u64 0, .int .u64 0, .int .u64 0, .int .u64 0, .int .u64 0, .int .u64 0, .int .u64 0, .int .u64 0, .int .u64 0, .int .u64 0, .int .u64 0, .int .u64 0, .int .u64 0, .int .u64 0, .int .u64 0, .int .u64 0, .int .u64 0, .int .u64 0, .int .u64 0, .int .u64 0, .int .u64 0, .int .u64 0, .int .u64 0, .int .u64 0, .int .u64 0, .int .u64 0, .int .u64 0, .int .u64 0, .int .u64 0, .int .u64 0, .int .u64 0, .int .u64 0, .int .u64 0, .int .u64 0, .int .u64 0, .int .u64 0, .int .u64 0, .int .u64 0, .int .u64 0, .int .u64 0, .int .u64 0, .int .u64 0, .int .u64 0, .int .u64 0, .int .u64 0, .int .u64 0, .int .u64 0, .int .u64 0, .int .u64 0, .int .u64 0, .int .u64 0, .int .u64 0, .int .u64 0, .int .u64 0, .int .u64 0, .int .u64 0, .int .u64 0, .int .u64 0, .int .u64 0, .int .u64 0, .int .u64 0, .int .u64 0, .int .u64 0, .int .u64 0, .int .u64 0, .int .u64 0, .int .u64 0, .int .u64 0, .int .u64 0, .int .u64 0, .int .u64 0, .int .u64 0, .int .u64 0, .int .u64 0, .int .u64 0, .int .u64 0, .int .u64 0, .int .u64 0, .int .u64 0, .int .u64 0, .int .u64 0, .int .u64 0, .int .u64 0, .int .u64 0, .int .u64 0, .int .u64 0, .int .u64 0, .int .u64 0, .int .u64 0, .int .u64 0, .int .u64 0, .int .u64 0, .int .u64 0, .int .u64 0, .int .u64 0, .int .u64 0, .int .u64 0, .int .u64 0, .int .u64 0, .int .u64 0, .int .u64 0, .int .u64 0, .int .u64 0, .int .u64 0, .int .u64 0, .int .u64 0, .int .u64 0, .int .u64 0, .int .u64 0, .int .u64 0, .int .u64 0, .int .u64 0, .int .u64 0, .int .u64 0, .int .u64 0, .int .u64 0, .int .u64 0, .int .u64 0, .int .u64 0, .int .u64 0, .int .u64 0, .int .u64 0, .int .u64 0, .int .u64 0, .int .u64 0, .int .u64 0, .int .u64 0, .int .u64 0, .int .u64 0, .int .u64 0, .int .u64 0, .int .u64 0, .int .u64 0, .int .u64 0, .int .u64 0, .int .u64 0, .int .i64 0, .int .i64 0, .int .i64 0, .int .i64 0, .int .i64 0] [(0, 16), (16, 400), (416, 1), (417, 1), (418, 1), (419, 1), (420, 1)] = true := by kernel_rfl
theorem bo43 : buildOk Tryd.prog 43 [.int .i64 0, .slice none 0 0] [(0, 1), (1, 1)] = true := by kernel_rfl
theorem bo52 : buildOk Tryd.prog 52 [.int .i64 0, .int .i64 0, .int .i64 0, .int .i64 0, .int .i64 0] [(0, 1), (1, 1), (2, 1), (3, 1), (4, 1)] = true := by kernel_rfl
theorem bo75 : buildOk Tryd.prog 75 [.slice none 0 0, .int .i64 0] [(0, 1), (1, 1)] = true := by kernel_rfl
theorem bs3 : bsOk Tryd.prog 3 [.int .i64 0] = true := by kernel_rfl
theorem bs33 : bsOk Tryd.prog 33 [.int .u64 0] = true := by kernel_rfl
theorem bs52 : bsOk Tryd.prog 52 [.int .i64 0, .int .i64 0, .int .i64 0, .int .i64 0, .int .i64 0] = true := by kernel_rfl
theorem fa37_0 : faOk Tryd.prog 37 0 0 = true := by kernel_rfl
theorem fa37_1 : faOk Tryd.prog 37 1 16 = true := by kernel_rfl
theorem fa37_2 : faOk Tryd.prog 37 2 416 = true := by kernel_rfl
theorem fa37_3 : faOk Tryd.prog 37 3 417 = true := by kernel_rfl
theorem fa37_4 : faOk Tryd.prog 37 4 418 = true := by kernel_rfl
theorem fa37_5 : faOk Tryd.prog 37 5 419 = true := by kernel_rfl
theorem fa37_6 : faOk Tryd.prog 37 6 420 = true := by kernel_rfl
theorem fa43_0 : faOk Tryd.prog 43 0 0 = true := by kernel_rfl
theorem fa43_1 : faOk Tryd.prog 43 1 1 = true := by kernel_rfl
theorem fa52_0 : faOk Tryd.prog 52 0 0 = true := by kernel_rfl
theorem fa52_1 : faOk Tryd.prog 52 1 1 = true := by kernel_rfl
theorem fa52_2 : faOk Tryd.prog 52 2 2 = true := by kernel_rfl
theorem fa52_3 : faOk Tryd.prog 52 3 3 = true := by kernel_rfl
theorem fa52_4 : faOk Tryd.prog 52 4 4 = true := by kernel_rfl
theorem fa75_0 : faOk Tryd.prog 75 0 0 = true := by kernel_rfl
theorem fa75_1 : faOk Tryd.prog 75 1 1 = true := by kernel_rfl
theorem ld2 : ldOk Tryd.prog 2 = true := by kernel_rfl
theorem ld23 : ldOk Tryd.prog 23 = true := by kernel_rfl
theorem ld3 : ldOk Tryd.prog 3 = true := by kernel_rfl
theorem ld33 : ldOk Tryd.prog 33 = true := by kernel_rfl
theorem ld34 : agOk Tryd.prog 34 16 = true := by kernel_rfl
theorem ld35 : agOk Tryd.prog 35 400 = true := by kernel_rfl
theorem ld37 : agOk Tryd.prog 37 421 = true := by kernel_rfl
theorem ld52 : agOk Tryd.prog 52 5 = true := by kernel_rfl
theorem ld9 : ldOk Tryd.prog 9 = true := by kernel_rfl
theorem sz2 : sizeOfT Tryd.prog 2 = some 1 := by kernel_rfl
theorem sz23 : sizeOfT Tryd.prog 23 = some 1 := by kernel_rfl
theorem sz3 : sizeOfT Tryd.prog 3 = some 1 := by kernel_rfl
theorem sz33 : sizeOfT Tryd.prog 33 = some 1 := by kernel_rfl
theorem sz37 : sizeOfT Tryd.prog 37 = some 421 := by kernel_rfl
theorem sz52 : sizeOfT Tryd.prog 52 = some 5 := by kernel_rfl
theorem sz80 : sizeOfT Tryd.prog 80 = some 3 := by kernel_rfl
theorem sz9 : sizeOfT Tryd.prog 9 = some 1 := by kernel_rfl
theorem u2 : Tryd.prog.underlying 2 = some (.int .i64) := by kernel_rfl
theorem u22 : Tryd.prog.underlying 22 = some (.slice 52) := by kernel_rfl
theorem u23 : Tryd.prog.underlying 23 = some (.slice 33) := by kernel_rfl
theorem u27 : Tryd.prog.underlying 27 = some (.pointer 75) := by kernel_rfl
theorem u3 : Tryd.prog.underlying 3 = some (.int .i64) := by kernel_rfl
theorem u33 : Tryd.prog.underlying 33 = some (.int .u64) := by kernel_rfl
theorem u34 : Tryd.prog.underlying 34 = some (.array 16 33) := by kernel_rfl
theorem u35 : Tryd.prog.underlying 35 = some (.array 400 33) := by kernel_rfl
theorem u4 : Tryd.prog.underlying 4 = some .bool := by kernel_rfl
theorem u65 : Tryd.prog.underlying 65 = some (.int .u64) := by kernel_rfl
theorem u76 : Tryd.prog.underlying 76 = some (.slice 9) := by kernel_rfl
theorem u80 : Tryd.prog.underlying 80 = some (.array 3 3) := by kernel_rfl
theorem u82 : Tryd.prog.underlying 82 = some (.slice 3) := by kernel_rfl
theorem u9 : Tryd.prog.underlying 9 = some .string := by kernel_rfl
theorem zo37 : zeroOk Tryd.prog 37 [.int .u64 0, .int .u64 0, .int .u64 0, .int .u64 0, .int .u64 0, .int .u64 0, .int .u64 0, .int .u64 0, .int .u64 0, .int .u64 0, .int .u64 0, .int .u64 0, .int .u64 0, .int .u64 0, .int .u64 0, .int .u64 0, .int .u64 0, .int .u64 0, .int .u64 0, .int .u64 0, .int .u64 0, .int .u64 0, .int .u64 0, .int .u64 0, .int .u64 0, .int .u64 0, .int .u64 0, .int .u64 0, .int .u64 0, .int .u64 0, .int .u64 0, .int .u64 0, .int .u64 0, .int .u64 0, .int .u64 0, .int .u64 0, .int .u64 0, .int .u64 0, .int .u64 0, .int .u64 0, .int .u64 0, .int .u64 0, .int .u64 0, .int .u64 0, .int .u64 0, .int .u64 0, .int .u64 0, .int .u64 0, .int .u64 0, .int .u64 0, .int .u64 0, .int .u64 0, .int .u64 0, .int .u64 0, .int .u64 0, .int .u64 0, .int .u64 0, .int .u64 0, .int .u64 0, .int .u64 0, .int .u64 0, .int .u64 0, .int .u64 0, .int .u64 0, .int .u64 0, .int .u64 0, .int .u64 0, .int .u64 0, .int .u64 0, .int .u64 0, .int .u64 0, .int .u64 0, .int .u64 0, .int .u64 0, .int .u64 0, .int .u64 0, .int .u64 0, .int .u64 0, .int .u64 0, .int .u64 0, .int .u64 0, .int .u64 0, .int .u64 0, .int .u64 0, .int .u64 0, .int .u64 0, .int .u64 0, .int .u64 0, .int .u64 0, .int .u64 0, .int .u64 0, .int .u64 0, .int .u64 0, .int .u64 0, .int .u64 0, .int .u64 0, .int .u64 0, .int .u64 0, .int .u64 0, .int .u64 0, .int .u64 0, .int .u64 0, .int .u64 0, .int .u64 0, .int .u64 0, .int .u64 0, .int .u64 0, .int .u64 0, .int .u64 0, .int .u64 0, .int .u64 0, .int .u64 0, .int .u64 0, .int .u64 0, .int .u64 0, .int .u64 0, .int .u64 0, .int .u64 0, .int .u64 0, .int .u64 0, .int .u64 0, .int .u64 0, .int .u64 0, .int .u64 0, .int .u64 0, .int .u64 0, .int .u64 0, .int .u64 0, .int .u64 0, .int .u64 0, .int .u64 0, .int .u64 0, .int .u64 0, .int .u64 0, .int .u64 0, .int .u64 0, .int .u64 0, .int .u64 0, .int .u64 0, .int .u64 0, .int .u64 0, .int .u64 0, .int .u64 0, .int .u64 0, .int .u64 0, .int .u64 0, .int .u64 0, .int .u64 0, .int .u64 0, .int .u64 0, .int .u64 0, .int .u64 0, .int .u64 0, .int .u64 0, .int .u64 0, .int .u64 0, .int .u64 0, .int .u64 0, .int .u64 0, .int .u64 0, .int .u64 0, .int .u64 0, .int .u64 0, .int .u64 0, .int .u64 0, .int .u64 0, .int .u64 0, .int .u64 0, .int .u64 0, .int .u64 0, .int .u64 0, .int .u64 0, .int .u64 0, .int .u64 0, .int .u64 0, .int .u64 0, .int .u64 0, .int .u64 0, .int .u64 0, .int .u64 0, .int .u64 0, .int .u64 0, .int .u64 0, .int .u64 0, .int .u64 0, .int .u64 0, .int .u64 0, .int .u64 0, .int .u64 0, .int .u64 0, .int .u64 0, .int .u64 0, .int .u64 0, .int .u64 0, .int .u64 0, .int .u64 0, .int .u64 0, .int .u64 0, .int .u64 0, .int .u64 0, .int .u64 0, .int .u64 0, .int .u64 0, .int .u64 0, .int .u64 0, .int .u64 0, .int .u64 0, .int .u64 0, .int .u64 0, .int .u64 0, .int .u64 0, .int .u64 0, .int .u64 0, .int .u64 0, .int .u64 0, .int .u64 0, .int .u64 0, .int .u64 0, .int .u64 0, .int .u64 0, .int .u64 0, .int .u64 0, .int .u64 0, .int .u64 0, .int .u64 0, .int .u64 0, .int .u64 0, .int .u64 0, .int .u64 0, .int .u64 0, .int .u64 0, .int .u64 0, .int .u64 0, .int .u64 0, .int .u64 0, .int .u64 0, .int .u64 0, .int .u64 0, .int .u64 0, .int .u64 0, .int .u64 0, .int .u64 0, .int .u64 0, .int .u64 0, .int .u64 0, .int .u64 0, .int .u64 0, .int .u64 0, .int .u64 0, .int .u64 0, .int .u64 0, .int .u64 0, .int .u64 0, .int .u64 0, .int .u64 0, .int .u64 0, .int .u64 0, .int .u64 0, .int .u64 0, .int .u64 0, .int .u64 0, .int .u64 0, .int .u64 0, .int .u64 0, .int .u64 0, .int .u64 0, .int .u64 0, .int .u64 0, .int .u64 0, .int .u64 0, .int .u64 0, .int .u64 0, .int .u64 0, .int .u64 0, .int .u64 0, .int .u64 0, .int .u64 0, .int .u64 0, .int .u64 0, .int .u64 0, .int .u64 0, .int .u64 0, .int .u64 0, .int .u64 0, .int .u64 0, .int .u64 0, .int .u64 0, .int .u64 0, .int .u64 0, .int .u64 0, .int .u64 0, .int .u64 0, .int .u64 0, .int .u64 0, .int .u64 0, .int .u64 0, .int .u64 0, .int .u64 0, .int .u64 0, .int .u64 0, .int .u64 0, .int .u64 0, .int .u64 0, .int .u64 0, .int .u64 0, .int .u64 0, .int .u64 0, .int .u64 0, .int .u64 0, .int .u64 0, .int .u64 0, .int .u64 0, .int .u64 0, .int .u64 0, .int .u64 0, .int .u64 0, .int .u64 0, .int .u64 0, .int .u64 0, .int .u64 0, .int .u64 0, .int .u64 0, .int .u64 0, .int .u64 0, .int .u64 0, .int .u64 0, .int .u64 0, .int .u64 0, .int .u64 0, .int .u64 0, .int .u64 0, .int .u64 0, .int .u64 0, .int .u64 0, .int .u64 0, .int .u64 0, .int .u64 0, .int .u64 0, .int .u64 0, .int .u64 0, .int .u64 0, .int .u64 0, .int .u64 0, .int .u64 0, .int .u64 0, .int .u64 0, .int .u64 0, .int .u64 0, .int .u64 0, .int .u64 0, .int .u64 0, .int .u64 0, .int .u64 0, .int .u64 0, .int .u64 0, .int .u64 0, .int .u64 0, .int .u64 0, .int .u64 0, .int .u64 0, .int .u64 0, .int .u64 0, .int .u64 0, .int .u64 0, .int .u64 0, .int .u64 0, .int .u64 0, .int .u64 0, .int .u64 0, .int .u64 0, .int .u64 0, .int .u64 0, .int .u64 0, .int .u64 0, .int .u64 0, .int .u64 0, .int .u64 0, .int .u64 0, .int .u64 0, .int .u64 0, .int .u64 0, .int .u64 0, .int .u64 0, .int .u64 0, .int .u64 0, .int .u64 0, .int .u64 0, .int .u64 0, .int .u64 0, .int .u64 0, .int .u64 0, .int .u64 0, .int .u64 0, .int .u64 0, .int .u64 0, .int .u64 0, .int .u64 0, .int .u64 0, .int .u64 0, .int .u64 0, .int .u64 0, .int .u64 0, .int .u64 0, .int .u64 0, .int .u64 0, .int .u64 0, .int .u64 0, .int .u64 0, .int .u64 0, .int .u64 0, .int .u64 0, .int .u64 0, .int .u64 0, .int .u64 0, .int .u64 0, .int .u64 0, .int .i64 0, .int .i64 0, .int .i64 0, .int .i64 0, .int .i64 0] = true := by kernel_rfl
theorem zo52 : zeroOk Tryd.prog 52 [.int .i64 0, .int .i64 0, .int .i64 0, .int .i64 0, .int .i64 0] = true := by kernel_rfl
theorem zo80 : zeroOk Tryd.prog 80 [.int .i64 0, .int .i64 0, .int .i64 0] = true := by kernel_rfl
noncomputable def c3 : Code := bodyOf Tryd.f3
noncomputable def r3_0 : Code := Code.sub [0] c3
noncomputable def r3_1 : Code := Code.sub [1, 0] c3
noncomputable def r3_2 : Code := Code.sub [1, 1, 0] c3
noncomputable def r3_3 : Code := Code.sub [1, 1, 1, 0] c3
noncomputable def r3_4 : Code := Code.sub [1, 1, 1, 1, 0, 0] c3
noncomputable def r3_5 : Code := Code.sub [1, 1, 1, 1, 0, 1, 0, 0] c3
noncomputable def r3_6 : Code := Code.sub [1, 1, 1, 1, 1, 0] c3
noncomputable def r3_7 : Code := Code.sub [1, 1, 1, 1, 1, 1, 0, 0] c3
noncomputable def r3_8 : Code := Code.sub [1, 1, 1, 1, 1, 1, 0, 1, 0, 0, 0, 0] c3
noncomputable def r3_9 : Code := Code.sub [1, 1, 1, 1, 1, 1, 0, 1, 0, 0, 1, 0, 0, 0] c3
noncomputable def r3_10 : Code := Code.sub [1, 1, 1, 1, 1, 1, 0, 1, 0, 0, 1, 0, 0, 1, 0, 0] c3
noncomputable def r3_11 : Code := Code.sub [1, 1, 1, 1, 1, 1, 0, 1, 0, 0, 1, 0, 0, 1, 0, 1, 0] c3
noncomputable def r3_12 : Code := Code.sub [1, 1, 1, 1, 1, 1, 0, 1, 0, 0, 1, 0, 0, 1, 1] c3
noncomputable def r3_13 : Code := Code.sub [1, 1, 1, 1, 1, 1, 0, 1, 0, 0, 1, 1] c3
noncomputable def r3_14 : Code := Code.sub [1, 1, 1, 1, 1, 1, 1, 0] c3
noncomputable def r3_15 : Code := Code.sub [1, 1, 1, 1, 1, 1, 1, 1, 0] c3
noncomputable def r3_16 : Code := Code.sub [1, 1, 1, 1, 1, 1, 1, 1, 1, 0, 0] c3
noncomputable def r3_17 : Code := Code.sub [1, 1, 1, 1, 1, 1, 1, 1, 1, 0, 1, 0, 0, 0, 0] c3
noncomputable def r3_18 : Code := Code.sub [1, 1, 1, 1, 1, 1, 1, 1, 1, 0, 1, 0, 0, 1, 0, 0, 0] c3
noncomputable def r3_19 : Code := Code.sub [1, 1, 1, 1, 1, 1, 1, 1, 1, 0, 1, 0, 0, 1, 0, 0, 1, 0] c3
noncomputable def r3_20 : Code := Code.sub [1, 1, 1, 1, 1, 1, 1, 1, 1, 0, 1, 0, 0, 1, 0, 0, 1, 1, 0] c3
noncomputable def r3_21 : Code := Code.sub [1, 1, 1, 1, 1, 1, 1, 1, 1, 0, 1, 0, 0, 1, 0, 0, 1, 1, 1, 0, 0] c3
noncomputable def r3_22 : Code := Code.sub [1, 1, 1, 1, 1, 1, 1, 1, 1, 0, 1, 0, 0, 1, 1] c3
noncomputable def r3_23 : Code := Code.sub [1, 1, 1, 1, 1, 1, 1, 1, 1, 1, 0] c3
theorem body3 : c3 = (.seq r3_0 (.seq r3_1 (.seq r3_2 (.seq r3_3 (.seq (.seq r3_4 (.cond (.tmp 36) (.seq r3_5 .ret) .skip)) (.seq r3_6 (.seq (.seq r3_7 (.block 0 (.loop (.seq (.seq r3_8 (.cond (.tmp 49) .skip (.exit 0))) (.seq (.block 1 (.seq r3_9 (.seq (.seq r3_10 (.cond (.tmp 63) r3_11 .skip)) r3_12))) r3_13))))) (.seq r3_14 (.seq r3_15 (.seq (.seq r3_16 (.block 2 (.loop (.seq (.seq r3_17 (.cond (.tmp 96) .skip (.exit 2))) (.seq (.block 3 (.seq r3_18 (.seq r3_19 (.seq r3_20 (.cond (.tmp 168) (.seq r3_21 .ret) .skip))))) r3_22))))) (.seq r3_23 .ret))))))))))) := by kernel_rfl
noncomputable def L3_0 : Lt r3_0 := by refine ⟨?l, ?h⟩; case h => simp only [r3_0, c3, bodyOf, Tryd.f3, Code.sub, opsOf, List.map_cons, List.map_nil, strip]; rfl
theorem w3_0 : Wp r3_0 21 [36, 49, 63, 96, 168] [12] [] [] [some 12] (L3_0).1 := w_plain (by kernel_rfl) (L3_0).2
noncomputable def L3_1 : Lt r3_1 := by refine ⟨?l, ?h⟩; case h => simp only [r3_1, c3, bodyOf, Tryd.f3, Code.sub, opsOf, List.map_cons, List.map_nil, strip]; rfl
theorem w3_1 : Wp r3_1 21 [36, 49, 63, 96, 168] [13] [] [0, 5] [some 21, some 22, some 23, some 13] (L3_1).1 := w_plain (by kernel_rfl) (L3_1).2
noncomputable def L3_2 : Lt r3_2 := by refine ⟨?l, ?h⟩; case h => simp only [r3_2, c3, bodyOf, Tryd.f3, Code.sub, opsOf, List.map_cons, List.map_nil, strip]; rfl
theorem w3_2 : Wp r3_2 21 [36, 49, 63, 96, 168] [14] [] [2] [some 24, some 25, some 14] (L3_2).1 := w_plain (by kernel_rfl) (L3_2).2
noncomputable def L3_3 : Lt r3_3 := by refine ⟨?l, ?h⟩; case h => simp only [r3_3, c3, bodyOf, Tryd.f3, Code.sub, opsOf, List.map_cons, List.map_nil, strip]; rfl
theorem w3_3 : Wp r3_3 21 [36, 49, 63, 96, 168] [15, 16] [] [14] [some 27, some 28, some 26, some 29, some 30, some 15, some 16] (L3_3).1 := w_plain (by kernel_rfl) (L3_3).2
noncomputable def L3_4 : Lt r3_4 := by refine ⟨?l, ?h⟩; case h => simp only [r3_4, c3, bodyOf, Tryd.f3, Code.sub, opsOf, List.map_cons, List.map_nil, strip]; rfl
theorem w3_4 : Wp r3_4 21 [36, 49, 63, 96, 168] [] [36] [16] [some 31, some 32, some 33, some 34, some 35, some 36] (L3_4).1 := w_plain (by kernel_rfl) (L3_4).2
noncomputable def L3_5 : Lt r3_5 := by refine ⟨?l, ?h⟩; case h => simp only [r3_5, c3, bodyOf, Tryd.f3, Code.sub, opsOf, List.map_cons, List.map_nil, strip]; rfl
theorem w3_5 : Wp r3_5 21 [36, 49, 63, 96, 168] [12] [] [] [some 12] (L3_5).1 := w_plain (by kernel_rfl) (L3_5).2
noncomputable def L3_6 : Lt r3_6 := by refine ⟨?l, ?h⟩; case h => simp only [r3_6, c3, bodyOf, Tryd.f3, Code.sub, opsOf, List.map_cons, List.map_nil, strip]; rfl
theorem w3_6 : Wp r3_6 21 [36, 49, 63, 96, 168] [17] [] [4] [some 37, some 38, some 39, some 40, some 41, some 17] (L3_6).1 := w_plain (by kernel_rfl) (L3_6).2
noncomputable def L3_7 : Lt r3_7 := by refine ⟨?l, ?h⟩; case h => simp only [r3_7, c3, bodyOf, Tryd.f3, Code.sub, opsOf, List.map_cons, List.map_nil, strip]; rfl
theorem w3_7 : Wp r3_7 21 [36, 49, 63, 96, 168] [18] [] [] [some 18] (L3_7).1 := w_plain (by kernel_rfl) (L3_7).2
noncomputable def L3_8 : Lt r3_8 := by refine ⟨?l, ?h⟩; case h => simp only [r3_8, c3, bodyOf, Tryd.f3, Code.sub, opsOf, List.map_cons, List.map_nil, strip]; rfl
theorem w3_8 : Wp r3_8 21 [36, 49, 63, 96, 168] [] [49] [1, 18] [some 42, some 43, some 44, some 45, some 46, some 47, some 48, some 49] (L3_8).1 := w_plain (by kernel_rfl) (L3_8).2
theorem can3_9 : canonOps (opsOf r3_9) = opsOf r3_9 := by kernel_rfl
noncomputable def L3_9 : Lc r3_9 := by refine ⟨?l, (congrArg (List.map strip) can3_9).trans ?h⟩; case h => simp only [r3_9, c3, bodyOf, Tryd.f3, Code.sub, opsOf, List.map_cons, List.map_nil, strip]; rfl
theorem w3_9 : Wd r3_9 21 [36, 49, 63, 96, 168] [] [] [17, 1, 18] [some 52, some 53, some 54, some 55, some 56, some 57, some 58, some 59, some 60, none] (L3_9).1 [(5, [9])] := w_loud (by kernel_rfl) (L3_9).2
noncomputable def L3_10 : Lt r3_10 := by refine ⟨?l, ?h⟩; case h => simp only [r3_10, c3, bodyOf, Tryd.f3, Code.sub, opsOf, List.map_cons, List.map_nil, strip]; rfl
theorem w3_10 : Wp r3_10 21 [36, 49, 63, 96, 168] [] [63] [18] [some 61, some 62, some 63] (L3_10).1 := w_plain (by kernel_rfl) (L3_10).2
theorem can3_11 : canonOps (opsOf r3_11) = opsOf r3_11 := by kernel_rfl
noncomputable def L3_11 : Lc r3_11 := by refine ⟨?l, (congrArg (List.map strip) can3_11).trans ?h⟩; case h => simp only [r3_11, c3, bodyOf, Tryd.f3, Code.sub, opsOf, List.map_cons, List.map_nil, strip]; rfl
theorem w3_11 : Wd r3_11 21 [36, 49, 63, 96, 168] [] [] [17, 1, 18] [some 64, some 65, some 66, some 67, some 68, some 69, some 70, some 71, some 72, some 73, none] (L3_11).1 [(5, [10])] := w_loud (by kernel_rfl) (L3_11).2
theorem can3_12 : canonOps (opsOf r3_12) = opsOf r3_12 := by kernel_rfl
noncomputable def L3_12 : Lc r3_12 := by refine ⟨?l, (congrArg (List.map strip) can3_12).trans ?h⟩; case h => simp only [r3_12, c3, bodyOf, Tryd.f3, Code.sub, opsOf, List.map_cons, List.map_nil, strip]; rfl
theorem w3_12 : Wd r3_12 21 [36, 49, 63, 96, 168] [] [] [17, 1, 18] [some 74, some 75, some 76, some 77, some 78, some 79, some 80, some 81, some 82, some 83, none] (L3_12).1 [(5, [10])] := w_loud (by kernel_rfl) (L3_12).2
noncomputable def L3_13 : Lt r3_13 := by refine ⟨?l, ?h⟩; case h => simp only [r3_13, c3, bodyOf, Tryd.f3, Code.sub, opsOf, List.map_cons, List.map_nil, strip]; rfl
theorem w3_13 : Wp r3_13 21 [36, 49, 63, 96, 168] [18] [] [18] [some 50, some 51, some 18] (L3_13).1 := w_plain (by kernel_rfl) (L3_13).2
noncomputable def L3_14 : Lt r3_14 := by refine ⟨?l, ?h⟩; case h => simp only [r3_14, c3, bodyOf, Tryd.f3, Code.sub, opsOf, List.map_cons, List.map_nil, strip]; rfl
theorem w3_14 : Wp r3_14 21 [36, 49, 63, 96, 168] [19] [] [17] [some 84, some 85, some 86, some 19, none] (L3_14).1 := w_plain (by kernel_rfl) (L3_14).2
noncomputable def L3_15 : Lt r3_15 := by refine ⟨?l, ?h⟩; case h => simp only [r3_15, c3, bodyOf, Tryd.f3, Code.sub, opsOf, List.map_cons, List.map_nil, strip]; rfl
theorem w3_15 : Wp r3_15 21 [36, 49, 63, 96, 168] [3] [] [3] [some 87, some 88, some 89, some 3] (L3_15).1 := w_plain (by kernel_rfl) (L3_15).2
noncomputable def L3_16 : Lt r3_16 := by refine ⟨?l, ?h⟩; case h => simp only [r3_16, c3, bodyOf, Tryd.f3, Code.sub, opsOf, List.map_cons, List.map_nil, strip]; rfl
theorem w3_16 : Wp r3_16 21 [36, 49, 63, 96, 168] [20] [] [] [some 20] (L3_16).1 := w_plain (by kernel_rfl) (L3_16).2
noncomputable def L3_17 : Lt r3_17 := by refine ⟨?l, ?h⟩; case h => simp only [r3_17, c3, bodyOf, Tryd.f3, Code.sub, opsOf, List.map_cons, List.map_nil, strip]; rfl
theorem w3_17 : Wp r3_17 21 [36, 49, 63, 96, 168] [] [96] [20, 19] [some 90, some 91, some 92, some 93, some 94, some 95, some 96] (L3_17).1 := w_plain (by kernel_rfl) (L3_17).2
noncomputable def L3_18 : Lt r3_18 := by refine ⟨?l, ?h⟩; case h => simp only [r3_18, c3, bodyOf, Tryd.f3, Code.sub, opsOf, List.map_cons, List.map_nil, strip]; rfl
theorem w3_18 : Wp r3_18 21 [36, 49, 63, 96, 168] [] [] [17, 13, 15, 3] [some 99, some 100, some 101, some 102, some 103] (L3_18).1 := w_plain (by kernel_rfl) (L3_18).2
noncomputable def L3_19 : Lt r3_19 := by refine ⟨?l, ?h⟩; case h => simp only [r3_19, c3, bodyOf, Tryd.f3, Code.sub, opsOf, List.map_cons, List.map_nil, strip]; rfl
theorem w3_19 : Wp r3_19 21 [36, 49, 63, 96, 168] [] [] [13, 14, 3, 19] [some 104, some 105, some 106, some 107] (L3_19).1 := w_plain (by kernel_rfl) (L3_19).2
noncomputable def L3_20 : Lt r3_20 := by refine ⟨?l, ?h⟩; case h => simp only [r3_20, c3, bodyOf, Tryd.f3, Code.sub, opsOf, List.map_cons, List.map_nil, strip]; rfl
theorem w3_20 : Wp r3_20 21 [36, 49, 63, 96, 168] [] [168] [17, 19] [some 108, some 109, some 110, some 111, some 112, some 113, some 114, some 115, some 116, some 117, some 118, some 119, some 120, some 121, some 122, some 123, some 124, some 125, some 126, some 127, some 128, some 129, some 130, some 131, some 132, some 133, some 134, some 135, some 136, some 137, some 138, some 139, some 140, some 141, some 142, some 143, some 144, some 145, some 146, some 147, some 148, some 149, some 150, some 151, some 152, some 153, some 154, some 155, some 156, some 157, some 158, some 159, some 160, some 161, some 162, some 163, some 164, some 165, some 166, some 167, some 168] (L3_20).1 := w_plain (by kernel_rfl) (L3_20).2
noncomputable def L3_21 : Lt r3_21 := by refine ⟨?l, ?h⟩; case h => simp only [r3_21, c3, bodyOf, Tryd.f3, Code.sub, opsOf, List.map_cons, List.map_nil, strip]; rfl
theorem w3_21 : Wp r3_21 21 [36, 49, 63, 96, 168] [12] [] [] [some 12] (L3_21).1 := w_plain (by kernel_rfl) (L3_21).2
noncomputable def L3_22 : Lt r3_22 := by refine ⟨?l, ?h⟩; case h => simp only [r3_22, c3, bodyOf, Tryd.f3, Code.sub, opsOf, List.map_cons, List.map_nil, strip]; rfl
theorem w3_22 : Wp r3_22 21 [36, 49, 63, 96, 168] [20] [] [20] [some 97, some 98, some 20] (L3_22).1 := w_plain (by kernel_rfl) (L3_22).2
theorem can3_23 : canonOps (opsOf r3_23) = opsOf r3_23 := by kernel_rfl
noncomputable def L3_23 : Lc r3_23 := by refine ⟨?l, (congrArg (List.map strip) can3_23).trans ?h⟩; case h => simp only [r3_23, c3, bodyOf, Tryd.f3, Code.sub, opsOf, List.map_cons, List.map_nil, strip]; rfl
theorem w3_23 : Wd r3_23 21 [36, 49, 63, 96, 168] [12] [] [15, 14] [some 169, some 170, some 171, some 172, some 173, some 174, some 175, some 12] (L3_23).1 [(5, [1, 6])] := w_loud (by kernel_rfl) (L3_23).2
theorem k3 : FnIs TT 3 c3 [.tmp 12] 6 := ⟨Tryd.f3, by kernel_rfl, by simp only [Tryd.f3, c3, bodyOf], by kernel_rfl, of_decide_eq_true (by kernel_rfl)⟩
noncomputable def c7 : Code := bodyOf Tryd.f7
noncomputable def r7_0 : Code := Code.sub [0] c7
noncomputable def r7_1 : Code := Code.sub [1, 0] c7
noncomputable def r7_2 : Code := Code.sub [1, 1, 0] c7
noncomputable def r7_3 : Code := Code.sub [1, 1, 1, 0, 0] c7
noncomputable def r7_4 : Code := Code.sub [1, 1, 1, 0, 1, 0, 0, 0, 0] c7
noncomputable def r7_5 : Code := Code.sub [1, 1, 1, 0, 1, 0, 0, 1, 0, 0, 0] c7
noncomputable def r7_6 : Code := Code.sub [1, 1, 1, 0, 1, 0, 0, 1, 0, 0, 1, 0, 0] c7
noncomputable def r7_7 : Code := Code.sub [1, 1, 1, 0, 1, 0, 0, 1, 0, 0, 1, 0, 1, 0, 0] c7
noncomputable def r7_8 : Code := Code.sub [1, 1, 1, 0, 1, 0, 0, 1, 0, 0, 1, 0, 1, 0, 1, 0, 0] c7
noncomputable def r7_9 : Code := Code.sub [1, 1, 1, 0, 1, 0, 0, 1, 0, 0, 1, 0, 1, 0, 1, 0, 1, 0, 0, 0] c7
noncomputable def r7_10 : Code := Code.sub [1, 1, 1, 0, 1, 0, 0, 1, 0, 0, 1, 0, 1, 0, 1, 0, 1, 0, 0, 1, 1] c7
noncomputable def r7_11 : Code := Code.sub [1, 1, 1, 0, 1, 0, 0, 1, 0, 0, 1, 0, 1, 0, 1, 0, 1, 0, 1, 0] c7
noncomputable def r7_12 : Code := Code.sub [1, 1, 1, 0, 1, 0, 0, 1, 0, 0, 1, 0, 1, 0, 1, 0, 1, 0, 1, 1, 0, 0] c7
noncomputable def r7_13 : Code := Code.sub [1, 1, 1, 0, 1, 0, 0, 1, 0, 0, 1, 0, 1, 0, 1, 0, 1, 0, 1, 1, 0, 1, 1, 0] c7
noncomputable def r7_14 : Code := Code.sub [1, 1, 1, 0, 1, 0, 0, 1, 0, 0, 1, 0, 1, 0, 1, 0, 1, 0, 1, 1, 0, 1, 1, 1, 1, 0] c7
noncomputable def r7_15 : Code := Code.sub [1, 1, 1, 0, 1, 0, 0, 1, 0, 0, 1, 0, 1, 0, 1, 0, 1, 0, 1, 1, 0, 1, 1, 1, 1, 1, 1, 0] c7
noncomputable def r7_16 : Code := Code.sub [1, 1, 1, 0, 1, 0, 0, 1, 0, 0, 1, 0, 1, 0, 1, 0, 1, 0, 1, 1, 0, 1, 1, 1, 1, 1, 1, 1, 1] c7
noncomputable def r7_17 : Code := Code.sub [1, 1, 1, 0, 1, 0, 0, 1, 0, 0, 1, 0, 1, 0, 1, 0, 1, 0, 1, 1, 1, 0] c7
noncomputable def r7_18 : Code := Code.sub [1, 1, 1, 0, 1, 0, 0, 1, 0, 0, 1, 0, 1, 0, 1, 1, 0] c7
noncomputable def r7_19 : Code := Code.sub [1, 1, 1, 0, 1, 0, 0, 1, 0, 0, 1, 0, 1, 0, 1, 1, 1, 0, 0] c7
noncomputable def r7_20 : Code := Code.sub [1, 1, 1, 0, 1, 0, 0, 1, 0, 0, 1, 0, 1, 0, 1, 1, 1, 0, 1, 0, 0, 0, 0] c7
noncomputable def r7_21 : Code := Code.sub [1, 1, 1, 0, 1, 0, 0, 1, 0, 0, 1, 0, 1, 0, 1, 1, 1, 0, 1, 0, 0, 1, 0, 0, 0] c7
noncomputable def r7_22 : Code := Code.sub [1, 1, 1, 0, 1, 0, 0, 1, 0, 0, 1, 0, 1, 0, 1, 1, 1, 0, 1, 0, 0, 1, 0, 0, 1, 0, 0] c7
noncomputable def r7_23 : Code := Code.sub [1, 1, 1, 0, 1, 0, 0, 1, 0, 0, 1, 0, 1, 0, 1, 1, 1, 0, 1, 0, 0, 1, 0, 0, 1, 0, 1, 0] c7
noncomputable def r7_24 : Code := Code.sub [1, 1, 1, 0, 1, 0, 0, 1, 0, 0, 1, 0, 1, 0, 1, 1, 1, 0, 1, 0, 0, 1, 0, 0, 1, 0, 1, 1, 0] c7
noncomputable def r7_25 : Code := Code.sub [1, 1, 1, 0, 1, 0, 0, 1, 0, 0, 1, 0, 1, 0, 1, 1, 1, 0, 1, 0, 0, 1, 0, 0, 1, 0, 1, 1, 1, 0] c7
noncomputable def r7_26 : Code := Code.sub [1, 1, 1, 0, 1, 0, 0, 1, 0, 0, 1, 0, 1, 0, 1, 1, 1, 0, 1, 0, 0, 1, 0, 0, 1, 0, 1, 1, 1, 1, 0] c7
noncomputable def r7_27 : Code := Code.sub [1, 1, 1, 0, 1, 0, 0, 1, 0, 0, 1, 0, 1, 0, 1, 1, 1, 0, 1, 0, 0, 1, 0, 0, 1, 0, 1, 1, 1, 1, 1, 0] c7
noncomputable def r7_28 : Code := Code.sub [1, 1, 1, 0, 1, 0, 0, 1, 0, 0, 1, 0, 1, 0, 1, 1, 1, 0, 1, 0, 0, 1, 0, 0, 1, 0, 1, 1, 1, 1, 1, 1] c7
noncomputable def r7_29 : Code := Code.sub [1, 1, 1, 0, 1, 0, 0, 1, 0, 0, 1, 0, 1, 0, 1, 1, 1, 0, 1, 0, 0, 1, 1] c7
noncomputable def r7_30 : Code := Code.sub [1, 1, 1, 0, 1, 0, 0, 1, 0, 0, 1, 0, 1, 0, 1, 1, 1, 1, 0] c7
noncomputable def r7_31 : Code := Code.sub [1, 1, 1, 0, 1, 0, 0, 1, 0, 0, 1, 0, 1, 0, 1, 1, 1, 1, 1, 0] c7
noncomputable def r7_32 : Code := Code.sub [1, 1, 1, 0, 1, 0, 0, 1, 0, 0, 1, 1] c7
noncomputable def r7_33 : Code := Code.sub [1, 1, 1, 0, 1, 0, 0, 1, 1] c7
noncomputable def r7_34 : Code := Code.sub [1, 1, 1, 1, 0] c7
theorem body7 : c7 = (.seq r7_0 (.seq r7_1 (.seq r7_2 (.seq (.seq r7_3 (.block 0 (.loop (.seq (.seq r7_4 (.cond (.tmp 19) .skip (.exit 0))) (.seq (.block 1 (.seq r7_5 (.seq (.seq r7_6 (.cond (.tmp 27) (.seq r7_7 (.seq (.seq r7_8 (.block 2 (.seq (.seq r7_9 (.cond (.tmp 49) .skip r7_10)) (.cond (.tmp 49) r7_11 (.seq (.seq r7_12 (.cond (.tmp 59) .skip (.seq r7_13 (.cond (.tmp 59) .skip (.seq r7_14 (.cond (.tmp 59) .skip (.seq r7_15 (.cond (.tmp 59) .skip r7_16)))))))) (.cond (.tmp 59) r7_17 .skip)))))) (.seq r7_18 (.seq (.seq r7_19 (.block 3 (.loop (.seq (.seq r7_20 (.cond (.tmp 77) .skip (.exit 3))) (.seq (.block 4 (.seq r7_21 (.block 5 (.seq r7_22 (.cond (.tmp 82) r7_23 (.seq r7_24 (.cond (.tmp 85) r7_25 (.seq r7_26 (.cond (.tmp 88) r7_27 r7_28))))))))) r7_29))))) (.seq r7_30 (.cond (.tmp 93) r7_31 .skip)))))) .skip)) r7_32))) r7_33))))) (.seq r7_34 .ret))))) := by kernel_rfl
noncomputable def L7_0 : Lt r7_0 := by refine ⟨?l, ?h⟩; case h => simp only [r7_0, c7, bodyOf, Tryd.f7, Code.sub, opsOf, List.map_cons, List.map_nil, strip]; rfl
theorem w7_0 : Wp r7_0 81 [82, 85, 88, 93] [6] [] [] [some 6] (L7_0).1 := w_plain (by kernel_rfl) (L7_0).2
noncomputable def L7_1 : Lt r7_1 := by refine ⟨?l, ?h⟩; case h => simp only [r7_1, c7, bodyOf, Tryd.f7, Code.sub, opsOf, List.map_cons, List.map_nil, strip]; rfl
theorem w7_1 : Wp r7_1 81 [82, 85, 88, 93] [7] [] [] [some 7] (L7_1).1 := w_plain (by kernel_rfl) (L7_1).2
noncomputable def L7_2 : Lt r7_2 := by refine ⟨?l, ?h⟩; case h => simp only [r7_2, c7, bodyOf, Tryd.f7, Code.sub, opsOf, List.map_cons, List.map_nil, strip]; rfl
theorem w7_2 : Wp r7_2 81 [82, 85, 88, 93] [13, 14, 15, 16, 8] [] [0, 1] [some 13, some 14, some 15, some 16, some 8] (L7_2).1 := w_plain (by kernel_rfl) (L7_2).2
noncomputable def L7_3 : Lt r7_3 := by refine ⟨?l, ?h⟩; case h => simp only [r7_3, c7, bodyOf, Tryd.f7, Code.sub, opsOf, List.map_cons, List.map_nil, strip]; rfl
theorem w7_3 : Wp r7_3 81 [82, 85, 88, 93] [9] [] [] [some 9] (L7_3).1 := w_plain (by kernel_rfl) (L7_3).2
noncomputable def L7_4 : Lt r7_4 := by refine ⟨?l, ?h⟩; case h => simp only [r7_4, c7, bodyOf, Tryd.f7, Code.sub, opsOf, List.map_cons, List.map_nil, strip]; rfl
theorem w7_4 : Wp r7_4 81 [82, 85, 88, 93] [17, 18, 19] [] [9, 8] [some 17, some 18, some 19] (L7_4).1 := w_plain (by kernel_rfl) (L7_4).2
noncomputable def L7_5 : Lt r7_5 := by refine ⟨?l, ?h⟩; case h => simp only [r7_5, c7, bodyOf, Tryd.f7, Code.sub, opsOf, List.map_cons, List.map_nil, strip]; rfl
theorem w7_5 : Wp r7_5 81 [82, 85, 88, 93] [22, 23, 24, 25, 10] [] [0, 9] [some 22, some 23, some 24, some 25, some 10, none] (L7_5).1 := w_plain (by kernel_rfl) (L7_5).2
noncomputable def L7_6 : Lt r7_6 := by refine ⟨?l, ?h⟩; case h => simp only [r7_6, c7, bodyOf, Tryd.f7, Code.sub, opsOf, List.map_cons, List.map_nil, strip]; rfl
theorem w7_6 : Wp r7_6 81 [82, 85, 88, 93] [26, 27] [] [2] [some 26, some 27] (L7_6).1 := w_plain (by kernel_rfl) (L7_6).2
theorem can7_7 : canonOps (opsOf r7_7) = opsOf r7_7 := by kernel_rfl
noncomputable def L7_7 : Lc r7_7 := by refine ⟨?l, (congrArg (List.map strip) can7_7).trans ?h⟩; case h => simp only [r7_7, c7, bodyOf, Tryd.f7, Code.sub, opsOf, List.map_cons, List.map_nil, strip]; rfl
theorem w7_7 : Wd r7_7 81 [82, 85, 88, 93] [28, 29, 30, 31, 32, 33, 34, 35, 36, 37, 38, 39, 40, 41, 42, 43, 44, 45, 46] [] [10] [some 28, some 29, some 30, some 31, some 32, some 33, some 34, some 35, some 36, some 37, some 38, some 39, some 40, some 41, some 42, some 43, some 44, some 45, some 46, none] (L7_7).1 [(1, [2]), (5, [2, 6]), (8, [2, 6, 9]), (11, [2, 6, 9, 12]), (14, [2, 6, 9, 12, 16])] := w_loud (by kernel_rfl) (L7_7).2
noncomputable def L7_8 : Lt r7_8 := by refine ⟨?l, ?h⟩; case h => simp only [r7_8, c7, bodyOf, Tryd.f7, Code.sub, opsOf, List.map_cons, List.map_nil, strip]; rfl
theorem w7_8 : Wp r7_8 81 [82, 85, 88, 93] [47, 48] [] [10] [some 47, some 48] (L7_8).1 := w_plain (by kernel_rfl) (L7_8).2
noncomputable def L7_9 : Lt r7_9 := by refine ⟨?l, ?h⟩; case h => simp only [r7_9, c7, bodyOf, Tryd.f7, Code.sub, opsOf, List.map_cons, List.map_nil, strip]; rfl
theorem w7_9 : Wp r7_9 81 [82, 85, 88, 93] [50, 49] [] [48] [some 50, some 49] (L7_9).1 := w_plain (by kernel_rfl) (L7_9).2
noncomputable def L7_10 : Lt r7_10 := by refine ⟨?l, ?h⟩; case h => simp only [r7_10, c7, bodyOf, Tryd.f7, Code.sub, opsOf, List.map_cons, List.map_nil, strip]; rfl
theorem w7_10 : Wp r7_10 81 [82, 85, 88, 93] [51, 49] [] [48] [some 51, some 49] (L7_10).1 := w_plain (by kernel_rfl) (L7_10).2
noncomputable def L7_11 : Lt r7_11 := by refine ⟨?l, ?h⟩; case h => simp only [r7_11, c7, bodyOf, Tryd.f7, Code.sub, opsOf, List.map_cons, List.map_nil, strip]; rfl
theorem w7_11 : Wp r7_11 81 [82, 85, 88, 93] [52, 53, 54, 55, 56, 57, 58] [] [8, 10] [some 52, some 53, some 54, some 55, some 56, some 57, some 58, none] (L7_11).1 := w_plain (by kernel_rfl) (L7_11).2
noncomputable def L7_12 : Lt r7_12 := by refine ⟨?l, ?h⟩; case h => simp only [r7_12, c7, bodyOf, Tryd.f7, Code.sub, opsOf, List.map_cons, List.map_nil, strip]; rfl
theorem w7_12 : Wp r7_12 81 [82, 85, 88, 93] [60, 59] [] [48] [some 60, some 59] (L7_12).1 := w_plain (by kernel_rfl) (L7_12).2
noncomputable def L7_13 : Lt r7_13 := by refine ⟨?l, ?h⟩; case h => simp only [r7_13, c7, bodyOf, Tryd.f7, Code.sub, opsOf, List.map_cons, List.map_nil, strip]; rfl
theorem w7_13 : Wp r7_13 81 [82, 85, 88, 93] [61, 59] [] [48] [some 61, some 59] (L7_13).1 := w_plain (by kernel_rfl) (L7_13).2
noncomputable def L7_14 : Lt r7_14 := by refine ⟨?l, ?h⟩; case h => simp only [r7_14, c7, bodyOf, Tryd.f7, Code.sub, opsOf, List.map_cons, List.map_nil, strip]; rfl
theorem w7_14 : Wp r7_14 81 [82, 85, 88, 93] [62, 59] [] [48] [some 62, some 59] (L7_14).1 := w_plain (by kernel_rfl) (L7_14).2
noncomputable def L7_15 : Lt r7_15 := by refine ⟨?l, ?h⟩; case h => simp only [r7_15, c7, bodyOf, Tryd.f7, Code.sub, opsOf, List.map_cons, List.map_nil, strip]; rfl
theorem w7_15 : Wp r7_15 81 [82, 85, 88, 93] [63, 59] [] [48] [some 63, some 59] (L7_15).1 := w_plain (by kernel_rfl) (L7_15).2
noncomputable def L7_16 : Lt r7_16 := by refine ⟨?l, ?h⟩; case h => simp only [r7_16, c7, bodyOf, Tryd.f7, Code.sub, opsOf, List.map_cons, List.map_nil, strip]; rfl
theorem w7_16 : Wp r7_16 81 [82, 85, 88, 93] [64, 59] [] [48] [some 64, some 59] (L7_16).1 := w_plain (by kernel_rfl) (L7_16).2
noncomputable def L7_17 : Lt r7_17 := by refine ⟨?l, ?h⟩; case h => simp only [r7_17, c7, bodyOf, Tryd.f7, Code.sub, opsOf, List.map_cons, List.map_nil, strip]; rfl
theorem w7_17 : Wp r7_17 81 [82, 85, 88, 93] [65, 66, 67, 68] [] [10] [some 65, some 66, some 67, some 68, none] (L7_17).1 := w_plain (by kernel_rfl) (L7_17).2
noncomputable def L7_18 : Lt r7_18 := by refine ⟨?l, ?h⟩; case h => simp only [r7_18, c7, bodyOf, Tryd.f7, Code.sub, opsOf, List.map_cons, List.map_nil, strip]; rfl
theorem w7_18 : Wp r7_18 81 [82, 85, 88, 93] [69, 11] [] [10] [some 69, some 11, none] (L7_18).1 := w_plain (by kernel_rfl) (L7_18).2
noncomputable def L7_19 : Lt r7_19 := by refine ⟨?l, ?h⟩; case h => simp only [r7_19, c7, bodyOf, Tryd.f7, Code.sub, opsOf, List.map_cons, List.map_nil, strip]; rfl
theorem w7_19 : Wp r7_19 81 [82, 85, 88, 93] [12] [] [] [some 12] (L7_19).1 := w_plain (by kernel_rfl) (L7_19).2
noncomputable def L7_20 : Lt r7_20 := by refine ⟨?l, ?h⟩; case h => simp only [r7_20, c7, bodyOf, Tryd.f7, Code.sub, opsOf, List.map_cons, List.map_nil, strip]; rfl
theorem w7_20 : Wp r7_20 81 [82, 85, 88, 93] [70, 71, 72, 73, 74, 75, 76, 77] [] [12, 11, 8] [some 70, some 71, some 72, some 73, some 74, some 75, some 76, some 77] (L7_20).1 := w_plain (by kernel_rfl) (L7_20).2
noncomputable def L7_21 : Lt r7_21 := by refine ⟨?l, ?h⟩; case h => simp only [r7_21, c7, bodyOf, Tryd.f7, Code.sub, opsOf, List.map_cons, List.map_nil, strip]; rfl
theorem w7_21 : Wp r7_21 81 [82, 85, 88, 93] [80] [] [12] [some 80] (L7_21).1 := w_plain (by kernel_rfl) (L7_21).2
noncomputable def L7_22 : Lt r7_22 := by refine ⟨?l, ?h⟩; case h => simp only [r7_22, c7, bodyOf, Tryd.f7, Code.sub, opsOf, List.map_cons, List.map_nil, strip]; rfl
theorem w7_22 : Wp r7_22 81 [82, 85, 88, 93] [] [82] [80] [some 83, some 82] (L7_22).1 := w_plain (by kernel_rfl) (L7_22).2
noncomputable def L7_23 : Lt r7_23 := by refine ⟨?l, ?h⟩; case h => simp only [r7_23, c7, bodyOf, Tryd.f7, Code.sub, opsOf, List.map_cons, List.map_nil, strip]; rfl
theorem w7_23 : Wp r7_23 81 [82, 85, 88, 93] [] [] [11] [some 84, none] (L7_23).1 := w_plain (by kernel_rfl) (L7_23).2
noncomputable def L7_24 : Lt r7_24 := by refine ⟨?l, ?h⟩; case h => simp only [r7_24, c7, bodyOf, Tryd.f7, Code.sub, opsOf, List.map_cons, List.map_nil, strip]; rfl
theorem w7_24 : Wp r7_24 81 [82, 85, 88, 93] [] [85] [80] [some 86, some 85] (L7_24).1 := w_plain (by kernel_rfl) (L7_24).2
noncomputable def L7_25 : Lt r7_25 := by refine ⟨?l, ?h⟩; case h => simp only [r7_25, c7, bodyOf, Tryd.f7, Code.sub, opsOf, List.map_cons, List.map_nil, strip]; rfl
theorem w7_25 : Wp r7_25 81 [82, 85, 88, 93] [] [] [11] [some 87, none] (L7_25).1 := w_plain (by kernel_rfl) (L7_25).2
noncomputable def L7_26 : Lt r7_26 := by refine ⟨?l, ?h⟩; case h => simp only [r7_26, c7, bodyOf, Tryd.f7, Code.sub, opsOf, List.map_cons, List.map_nil, strip]; rfl
theorem w7_26 : Wp r7_26 81 [82, 85, 88, 93] [] [88] [80] [some 89, some 88] (L7_26).1 := w_plain (by kernel_rfl) (L7_26).2
noncomputable def L7_27 : Lt r7_27 := by refine ⟨?l, ?h⟩; case h => simp only [r7_27, c7, bodyOf, Tryd.f7, Code.sub, opsOf, List.map_cons, List.map_nil, strip]; rfl
theorem w7_27 : Wp r7_27 81 [82, 85, 88, 93] [] [] [11] [some 90, none] (L7_27).1 := w_plain (by kernel_rfl) (L7_27).2
noncomputable def L7_28 : Lt r7_28 := by refine ⟨?l, ?h⟩; case h => simp only [r7_28, c7, bodyOf, Tryd.f7, Code.sub, opsOf, List.map_cons, List.map_nil, strip]; rfl
theorem w7_28 : Wp r7_28 81 [82, 85, 88, 93] [] [] [11] [some 81, none] (L7_28).1 := w_plain (by kernel_rfl) (L7_28).2
noncomputable def L7_29 : Lt r7_29 := by refine ⟨?l, ?h⟩; case h => simp only [r7_29, c7, bodyOf, Tryd.f7, Code.sub, opsOf, List.map_cons, List.map_nil, strip]; rfl
theorem w7_29 : Wp r7_29 81 [82, 85, 88, 93] [78, 79, 12] [] [12] [some 78, some 79, some 12] (L7_29).1 := w_plain (by kernel_rfl) (L7_29).2
noncomputable def L7_30 : Lt r7_30 := by refine ⟨?l, ?h⟩; case h => simp only [r7_30, c7, bodyOf, Tryd.f7, Code.sub, opsOf, List.map_cons, List.map_nil, strip]; rfl
theorem w7_30 : Wp r7_30 81 [82, 85, 88, 93] [] [93] [9] [some 91, some 92, some 93] (L7_30).1 := w_plain (by kernel_rfl) (L7_30).2
noncomputable def L7_31 : Lt r7_31 := by refine ⟨?l, ?h⟩; case h => simp only [r7_31, c7, bodyOf, Tryd.f7, Code.sub, opsOf, List.map_cons, List.map_nil, strip]; rfl
theorem w7_31 : Wp r7_31 81 [82, 85, 88, 93] [] [] [11, 10] [some 94, none] (L7_31).1 := w_plain (by kernel_rfl) (L7_31).2
noncomputable def L7_32 : Lt r7_32 := by refine ⟨?l, ?h⟩; case h => simp only [r7_32, c7, bodyOf, Tryd.f7, Code.sub, opsOf, List.map_cons, List.map_nil, strip]; rfl
theorem w7_32 : Wp r7_32 81 [82, 85, 88, 93] [7] [] [7, 10] [some 95, some 96, some 97, some 98, some 7] (L7_32).1 := w_plain (by kernel_rfl) (L7_32).2
noncomputable def L7_33 : Lt r7_33 := by refine ⟨?l, ?h⟩; case h => simp only [r7_33, c7, bodyOf, Tryd.f7, Code.sub, opsOf, List.map_cons, List.map_nil, strip]; rfl
theorem w7_33 : Wp r7_33 81 [82, 85, 88, 93] [20, 21, 9] [] [9] [some 20, some 21, some 9] (L7_33).1 := w_plain (by kernel_rfl) (L7_33).2
noncomputable def L7_34 : Lt r7_34 := by refine ⟨?l, ?h⟩; case h => simp only [r7_34, c7, bodyOf, Tryd.f7, Code.sub, opsOf, List.map_cons, List.map_nil, strip]; rfl
theorem w7_34 : Wp r7_34 81 [82, 85, 88, 93] [6] [] [7] [some 99, some 6] (L7_34).1 := w_plain (by kernel_rfl) (L7_34).2
theorem k7 : FnIs TT 7 c7 [.tmp 6] 3 := ⟨Tryd.f7, by kernel_rfl, by simp only [Tryd.f7, c7, bodyOf], by kernel_rfl, of_decide_eq_true (by kernel_rfl)⟩
noncomputable def c8 : Code := bodyOf Tryd.f8
noncomputable def r8_0 : Code := Code.sub [0] c8
noncomputable def r8_1 : Code := Code.sub [1, 0] c8
noncomputable def r8_2 : Code := Code.sub [1, 1, 0, 0] c8
noncomputable def r8_3 : Code := Code.sub [1, 1, 0, 1, 0, 0, 0, 0] c8
noncomputable def r8_4 : Code := Code.sub [1, 1, 0, 1, 0, 0, 1, 0, 0, 0] c8
noncomputable def r8_5 : Code := Code.sub [1, 1, 0, 1, 0, 0, 1, 0, 0, 1, 0] c8
noncomputable def r8_6 : Code := Code.sub [1, 1, 0, 1, 0, 0, 1, 0, 0, 1, 1, 0] c8
noncomputable def r8_7 : Code := Code.sub [1, 1, 0, 1, 0, 0, 1, 0, 0, 1, 1, 1, 0, 0, 0, 0] c8
noncomputable def r8_8 : Code := Code.sub [1, 1, 0, 1, 0, 0, 1, 0, 0, 1, 1, 1, 0, 0, 1, 0, 0] c8
noncomputable def r8_9 : Code := Code.sub [1, 1, 0, 1, 0, 0, 1, 0, 0, 1, 1, 1, 0, 0, 1, 1] c8
noncomputable def r8_10 : Code := Code.sub [1, 1, 0, 1, 0, 0, 1, 1] c8
noncomputable def r8_11 : Code := Code.sub [1, 1, 1, 0] c8
theorem body8 : c8 = (.seq r8_0 (.seq r8_1 (.seq (.seq r8_2 (.block 0 (.loop (.seq (.seq r8_3 (.cond (.tmp 17) .skip (.exit 0))) (.seq (.block 1 (.seq r8_4 (.seq r8_5 (.seq r8_6 (.block 2 (.loop (.seq (.seq r8_7 (.cond (.tmp 44) .skip (.exit 2))) (.seq (.block 3 r8_8) r8_9)))))))) r8_10))))) (.seq r8_11 .ret)))) := by kernel_rfl
noncomputable def L8_0 : Lt r8_0 := by refine ⟨?l, ?h⟩; case h => simp only [r8_0, c8, bodyOf, Tryd.f8, Code.sub, opsOf, List.map_cons, List.map_nil, strip]; rfl
theorem w8_0 : Wp r8_0 9 [17, 44] [2] [] [] [some 2] (L8_0).1 := w_plain (by kernel_rfl) (L8_0).2
noncomputable def L8_1 : Lt r8_1 := by refine ⟨?l, ?h⟩; case h => simp only [r8_1, c8, bodyOf, Tryd.f8, Code.sub, opsOf, List.map_cons, List.map_nil, strip]; rfl
theorem w8_1 : Wp r8_1 9 [17, 44] [3] [] [] [some 9, some 3] (L8_1).1 := w_plain (by kernel_rfl) (L8_1).2
noncomputable def L8_2 : Lt r8_2 := by refine ⟨?l, ?h⟩; case h => simp only [r8_2, c8, bodyOf, Tryd.f8, Code.sub, opsOf, List.map_cons, List.map_nil, strip]; rfl
theorem w8_2 : Wp r8_2 9 [17, 44] [4] [] [] [some 4] (L8_2).1 := w_plain (by kernel_rfl) (L8_2).2
noncomputable def L8_3 : Lt r8_3 := by refine ⟨?l, ?h⟩; case h => simp only [r8_3, c8, bodyOf, Tryd.f8, Code.sub, opsOf, List.map_cons, List.map_nil, strip]; rfl
theorem w8_3 : Wp r8_3 9 [17, 44] [] [17] [0, 4] [some 10, some 11, some 12, some 13, some 14, some 15, some 16, some 17] (L8_3).1 := w_plain (by kernel_rfl) (L8_3).2
noncomputable def L8_4 : Lt r8_4 := by refine ⟨?l, ?h⟩; case h => simp only [r8_4, c8, bodyOf, Tryd.f8, Code.sub, opsOf, List.map_cons, List.map_nil, strip]; rfl
theorem w8_4 : Wp r8_4 9 [17, 44] [5] [] [0, 4] [some 20, some 21, some 22, some 23, some 24, some 25, some 5] (L8_4).1 := w_plain (by kernel_rfl) (L8_4).2
noncomputable def L8_5 : Lt r8_5 := by refine ⟨?l, ?h⟩; case h => simp only [r8_5, c8, bodyOf, Tryd.f8, Code.sub, opsOf, List.map_cons, List.map_nil, strip]; rfl
theorem w8_5 : Wp r8_5 9 [17, 44] [6, 7] [] [3, 0, 4, 5] [some 27, some 28, some 29, some 30, some 31, some 32, some 33, some 34, some 35, some 36, some 26, some 37, some 38, some 6, some 7] (L8_5).1 := w_plain (by kernel_rfl) (L8_5).2
noncomputable def L8_6 : Lt r8_6 := by refine ⟨?l, ?h⟩; case h => simp only [r8_6, c8, bodyOf, Tryd.f8, Code.sub, opsOf, List.map_cons, List.map_nil, strip]; rfl
theorem w8_6 : Wp r8_6 9 [17, 44] [8] [] [] [some 8] (L8_6).1 := w_plain (by kernel_rfl) (L8_6).2
noncomputable def L8_7 : Lt r8_7 := by refine ⟨?l, ?h⟩; case h => simp only [r8_7, c8, bodyOf, Tryd.f8, Code.sub, opsOf, List.map_cons, List.map_nil, strip]; rfl
theorem w8_7 : Wp r8_7 9 [17, 44] [] [44] [7, 8, 5] [some 39, some 40, some 41, some 42, some 43, some 44] (L8_7).1 := w_plain (by kernel_rfl) (L8_7).2
noncomputable def L8_8 : Lt r8_8 := by refine ⟨?l, ?h⟩; case h => simp only [r8_8, c8, bodyOf, Tryd.f8, Code.sub, opsOf, List.map_cons, List.map_nil, strip]; rfl
theorem w8_8 : Wp r8_8 9 [17, 44] [] [] [3, 6, 0, 4, 8] [some 47, some 48, some 49, some 50, some 51, some 52, some 53, some 54, some 55, some 56, some 57, some 58] (L8_8).1 := w_plain (by kernel_rfl) (L8_8).2
noncomputable def L8_9 : Lt r8_9 := by refine ⟨?l, ?h⟩; case h => simp only [r8_9, c8, bodyOf, Tryd.f8, Code.sub, opsOf, List.map_cons, List.map_nil, strip]; rfl
theorem w8_9 : Wp r8_9 9 [17, 44] [8] [] [8] [some 45, some 46, some 8] (L8_9).1 := w_plain (by kernel_rfl) (L8_9).2
noncomputable def L8_10 : Lt r8_10 := by refine ⟨?l, ?h⟩; case h => simp only [r8_10, c8, bodyOf, Tryd.f8, Code.sub, opsOf, List.map_cons, List.map_nil, strip]; rfl
theorem w8_10 : Wp r8_10 9 [17, 44] [4] [] [4] [some 18, some 19, some 4] (L8_10).1 := w_plain (by kernel_rfl) (L8_10).2
noncomputable def L8_11 : Lt r8_11 := by refine ⟨?l, ?h⟩; case h => simp only [r8_11, c8, bodyOf, Tryd.f8, Code.sub, opsOf, List.map_cons, List.map_nil, strip]; rfl
theorem w8_11 : Wp r8_11 9 [17, 44] [2] [] [3] [some 59, some 2] (L8_11).1 := w_plain (by kernel_rfl) (L8_11).2
theorem k8 : FnIs TT 8 c8 [.tmp 2] 1 := ⟨Tryd.f8, by kernel_rfl, by simp only [Tryd.f8, c8, bodyOf], by kernel_rfl, of_decide_eq_true (by kernel_rfl)⟩
noncomputable def c9 : Code := bodyOf Tryd.f9
noncomputable def r9_0 : Code := Code.sub [0] c9
noncomputable def r9_1 : Code := Code.sub [1, 0] c9
noncomputable def r9_2 : Code := Code.sub [1, 1, 0, 0] c9
noncomputable def r9_3 : Code := Code.sub [1, 1, 0, 1, 0, 0] c9
noncomputable def r9_4 : Code := Code.sub [1, 1, 1, 0, 0] c9
noncomputable def r9_5 : Code := Code.sub [1, 1, 1, 0, 1, 0, 0, 0, 0] c9
noncomputable def r9_6 : Code := Code.sub [1, 1, 1, 0, 1, 0, 0, 1, 0, 0] c9
noncomputable def r9_7 : Code := Code.sub [1, 1, 1, 0, 1, 0, 0, 1, 0, 1, 0, 0] c9
noncomputable def r9_8 : Code := Code.sub [1, 1, 1, 0, 1, 0, 0, 1, 0, 1, 0, 1, 0] c9
noncomputable def r9_9 : Code := Code.sub [1, 1, 1, 0, 1, 0, 0, 1, 0, 1, 0, 1, 1, 0, 0] c9
noncomputable def r9_10 : Code := Code.sub [1, 1, 1, 0, 1, 0, 0, 1, 0, 1, 1, 0, 0] c9
noncomputable def r9_11 : Code := Code.sub [1, 1, 1, 0, 1, 0, 0, 1, 0, 1, 1, 0, 1, 0, 0, 0, 0] c9
noncomputable def r9_12 : Code := Code.sub [1, 1, 1, 0, 1, 0, 0, 1, 0, 1, 1, 0, 1, 0, 0, 1, 0, 0] c9
noncomputable def r9_13 : Code := Code.sub [1, 1, 1, 0, 1, 0, 0, 1, 0, 1, 1, 0, 1, 0, 0, 1, 1] c9
noncomputable def r9_14 : Code := Code.sub [1, 1, 1, 0, 1, 0, 0, 1, 0, 1, 1, 1] c9
noncomputable def r9_15 : Code := Code.sub [1, 1, 1, 1, 0] c9
theorem body9 : c9 = (.seq r9_0 (.seq r9_1 (.seq (.seq r9_2 (.cond (.tmp 25) (.seq r9_3 .ret) .skip)) (.seq (.seq r9_4 (.block 0 (.loop (.seq (.seq r9_5 (.cond (.tmp 32) .skip (.exit 0))) (.block 1 (.seq r9_6 (.seq (.seq r9_7 (.seq r9_8 (.cond (.tmp 67) (.seq r9_9 .ret) .skip))) (.seq (.seq r9_10 (.block 2 (.loop (.seq (.seq r9_11 (.cond (.tmp 70) .skip (.exit 2))) (.seq (.block 3 r9_12) r9_13))))) r9_14)))))))) (.seq r9_15 .ret))))) := by kernel_rfl
noncomputable def L9_0 : Lt r9_0 := by refine ⟨?l, ?h⟩; case h => simp only [r9_0, c9, bodyOf, Tryd.f9, Code.sub, opsOf, List.map_cons, List.map_nil, strip]; rfl
theorem w9_0 : Wp r9_0 11 [25, 32, 67, 70] [2, 3] [] [] [some 2, some 3] (L9_0).1 := w_plain (by kernel_rfl) (L9_0).2
noncomputable def L9_1 : Lt r9_1 := by refine ⟨?l, ?h⟩; case h => simp only [r9_1, c9, bodyOf, Tryd.f9, Code.sub, opsOf, List.map_cons, List.map_nil, strip]; rfl
theorem w9_1 : Wp r9_1 11 [25, 32, 67, 70] [4, 5] [] [0] [some 12, some 13, some 14, some 15, some 16, some 17, some 11, some 18, some 19, some 4, some 5] (L9_1).1 := w_plain (by kernel_rfl) (L9_1).2
noncomputable def L9_2 : Lt r9_2 := by refine ⟨?l, ?h⟩; case h => simp only [r9_2, c9, bodyOf, Tryd.f9, Code.sub, opsOf, List.map_cons, List.map_nil, strip]; rfl
theorem w9_2 : Wp r9_2 11 [25, 32, 67, 70] [] [25] [5, 4] [some 20, some 21, some 22, some 23, some 24, some 25] (L9_2).1 := w_plain (by kernel_rfl) (L9_2).2
noncomputable def L9_3 : Lt r9_3 := by refine ⟨?l, ?h⟩; case h => simp only [r9_3, c9, bodyOf, Tryd.f9, Code.sub, opsOf, List.map_cons, List.map_nil, strip]; rfl
theorem w9_3 : Wp r9_3 11 [25, 32, 67, 70] [2, 3] [] [] [some 2, some 3] (L9_3).1 := w_plain (by kernel_rfl) (L9_3).2
noncomputable def L9_4 : Lt r9_4 := by refine ⟨?l, ?h⟩; case h => simp only [r9_4, c9, bodyOf, Tryd.f9, Code.sub, opsOf, List.map_cons, List.map_nil, strip]; rfl
theorem w9_4 : Wp r9_4 11 [25, 32, 67, 70] [6] [] [] [some 6] (L9_4).1 := w_plain (by kernel_rfl) (L9_4).2
noncomputable def L9_5 : Lt r9_5 := by refine ⟨?l, ?h⟩; case h => simp only [r9_5, c9, bodyOf, Tryd.f9, Code.sub, opsOf, List.map_cons, List.map_nil, strip]; rfl
theorem w9_5 : Wp r9_5 11 [25, 32, 67, 70] [] [32] [6, 0] [some 26, some 27, some 28, some 29, some 30, some 31, some 32] (L9_5).1 := w_plain (by kernel_rfl) (L9_5).2
noncomputable def L9_6 : Lt r9_6 := by refine ⟨?l, ?h⟩; case h => simp only [r9_6, c9, bodyOf, Tryd.f9, Code.sub, opsOf, List.map_cons, List.map_nil, strip]; rfl
theorem w9_6 : Wp r9_6 11 [25, 32, 67, 70] [7] [] [0, 6] [some 33, some 34, some 35, some 36, some 37, some 38, some 39, some 40, some 41, some 42, some 43, some 44, some 45, some 46, some 47, some 48, some 49, some 50, some 7] (L9_6).1 := w_plain (by kernel_rfl) (L9_6).2
noncomputable def L9_7 : Lt r9_7 := by refine ⟨?l, ?h⟩; case h => simp only [r9_7, c9, bodyOf, Tryd.f9, Code.sub, opsOf, List.map_cons, List.map_nil, strip]; rfl
theorem w9_7 : Wp r9_7 11 [25, 32, 67, 70] [8, 9] [] [4, 0, 6, 7] [some 52, some 53, some 54, some 55, some 56, some 57, some 58, some 59, some 60, some 61, some 62, some 63, some 51, some 64, some 65, some 8, some 9] (L9_7).1 := w_plain (by kernel_rfl) (L9_7).2
noncomputable def L9_8 : Lt r9_8 := by refine ⟨?l, ?h⟩; case h => simp only [r9_8, c9, bodyOf, Tryd.f9, Code.sub, opsOf, List.map_cons, List.map_nil, strip]; rfl
theorem w9_8 : Wp r9_8 11 [25, 32, 67, 70] [] [67] [9] [some 66, some 67] (L9_8).1 := w_plain (by kernel_rfl) (L9_8).2
noncomputable def L9_9 : Lt r9_9 := by refine ⟨?l, ?h⟩; case h => simp only [r9_9, c9, bodyOf, Tryd.f9, Code.sub, opsOf, List.map_cons, List.map_nil, strip]; rfl
theorem w9_9 : Wp r9_9 11 [25, 32, 67, 70] [2, 3] [] [] [some 2, some 3] (L9_9).1 := w_plain (by kernel_rfl) (L9_9).2
noncomputable def L9_10 : Lt r9_10 := by refine ⟨?l, ?h⟩; case h => simp only [r9_10, c9, bodyOf, Tryd.f9, Code.sub, opsOf, List.map_cons, List.map_nil, strip]; rfl
theorem w9_10 : Wp r9_10 11 [25, 32, 67, 70] [10] [] [] [some 10] (L9_10).1 := w_plain (by kernel_rfl) (L9_10).2
noncomputable def L9_11 : Lt r9_11 := by refine ⟨?l, ?h⟩; case h => simp only [r9_11, c9, bodyOf, Tryd.f9, Code.sub, opsOf, List.map_cons, List.map_nil, strip]; rfl
theorem w9_11 : Wp r9_11 11 [25, 32, 67, 70] [] [70] [10, 7] [some 68, some 69, some 70] (L9_11).1 := w_plain (by kernel_rfl) (L9_11).2
noncomputable def L9_12 : Lt r9_12 := by refine ⟨?l, ?h⟩; case h => simp only [r9_12, c9, bodyOf, Tryd.f9, Code.sub, opsOf, List.map_cons, List.map_nil, strip]; rfl
theorem w9_12 : Wp r9_12 11 [25, 32, 67, 70] [] [] [4, 0, 6, 10] [some 73, some 74, some 75, some 76, some 77, some 78, some 79, some 80, some 81, some 82, some 83, some 84, some 85, some 86, some 87] (L9_12).1 := w_plain (by kernel_rfl) (L9_12).2
noncomputable def L9_13 : Lt r9_13 := by refine ⟨?l, ?h⟩; case h => simp only [r9_13, c9, bodyOf, Tryd.f9, Code.sub, opsOf, List.map_cons, List.map_nil, strip]; rfl
theorem w9_13 : Wp r9_13 11 [25, 32, 67, 70] [10] [] [10] [some 71, some 72, some 10] (L9_13).1 := w_plain (by kernel_rfl) (L9_13).2
noncomputable def L9_14 : Lt r9_14 := by refine ⟨?l, ?h⟩; case h => simp only [r9_14, c9, bodyOf, Tryd.f9, Code.sub, opsOf, List.map_cons, List.map_nil, strip]; rfl
theorem w9_14 : Wp r9_14 11 [25, 32, 67, 70] [6] [] [6, 7] [some 88, some 89, some 90, some 91, some 6] (L9_14).1 := w_plain (by kernel_rfl) (L9_14).2
theorem can9_15 : canonOps (opsOf r9_15) = opsOf r9_15 := by kernel_rfl
noncomputable def L9_15 : Lc r9_15 := by refine ⟨?l, (congrArg (List.map strip) can9_15).trans ?h⟩; case h => simp only [r9_15, c9, bodyOf, Tryd.f9, Code.sub, opsOf, List.map_cons, List.map_nil, strip]; rfl
theorem w9_15 : Wd r9_15 11 [25, 32, 67, 70] [2, 3] [] [4, 0] [some 92, some 93, some 94, some 95, some 96, some 97, some 98, some 99, some 2, some 3] (L9_15).1 [(6, [2, 7])] := w_loud (by kernel_rfl) (L9_15).2
theorem k9 : FnIs TT 9 c9 [.tmp 2, .tmp 3] 1 := ⟨Tryd.f9, by kernel_rfl, by simp only [Tryd.f9, c9, bodyOf], by kernel_rfl, of_decide_eq_true (by kernel_rfl)⟩
noncomputable def c11 : Code := bodyOf Tryd.f11
noncomputable def r11_0 : Code := Code.sub [0] c11
noncomputable def r11_1 : Code := Code.sub [1, 0] c11
noncomputable def r11_2 : Code := Code.sub [1, 1, 0, 0] c11
noncomputable def r11_3 : Code := Code.sub [1, 1, 0, 1, 0] c11
noncomputable def r11_4 : Code := Code.sub [1, 1, 1, 0] c11
theorem body11 : c11 = (.seq r11_0 (.seq r11_1 (.seq (.seq r11_2 (.cond (.tmp 9) r11_3 .skip)) (.seq r11_4 .ret)))) := by kernel_rfl
noncomputable def L11_0 : Lt r11_0 := by refine ⟨?l, ?h⟩; case h => simp only [r11_0, c11, bodyOf, Tryd.f11, Code.sub, opsOf, List.map_cons, List.map_nil, strip]; rfl
theorem w11_0 : Wp r11_0 5 [9] [4] [] [] [some 4] (L11_0).1 := w_plain (by kernel_rfl) (L11_0).2
noncomputable def L11_1 : Lt r11_1 := by refine ⟨?l, ?h⟩; case h => simp only [r11_1, c11, bodyOf, Tryd.f11, Code.sub, opsOf, List.map_cons, List.map_nil, strip]; rfl
theorem w11_1 : Wp r11_1 5 [9] [0] [] [0, 1] [some 5, some 6, some 7, some 0] (L11_1).1 := w_plain (by kernel_rfl) (L11_1).2
noncomputable def L11_2 : Lt r11_2 := by refine ⟨?l, ?h⟩; case h => simp only [r11_2, c11, bodyOf, Tryd.f11, Code.sub, opsOf, List.map_cons, List.map_nil, strip]; rfl
theorem w11_2 : Wp r11_2 5 [9] [] [9] [0] [some 8, some 9] (L11_2).1 := w_plain (by kernel_rfl) (L11_2).2
noncomputable def L11_3 : Lt r11_3 := by refine ⟨?l, ?h⟩; case h => simp only [r11_3, c11, bodyOf, Tryd.f11, Code.sub, opsOf, List.map_cons, List.map_nil, strip]; rfl
theorem w11_3 : Wp r11_3 5 [9] [0] [] [0, 1] [some 10, some 11, some 12, some 0] (L11_3).1 := w_plain (by kernel_rfl) (L11_3).2
noncomputable def L11_4 : Lt r11_4 := by refine ⟨?l, ?h⟩; case h => simp only [r11_4, c11, bodyOf, Tryd.f11, Code.sub, opsOf, List.map_cons, List.map_nil, strip]; rfl
theorem w11_4 : Wp r11_4 5 [9] [4] [] [0] [some 13, some 4] (L11_4).1 := w_plain (by kernel_rfl) (L11_4).2
theorem k11 : FnIs TT 11 c11 [.tmp 4] 2 := ⟨Tryd.f11, by kernel_rfl, by simp only [Tryd.f11, c11, bodyOf], by kernel_rfl, of_decide_eq_true (by kernel_rfl)⟩
noncomputable def c12 : Code := bodyOf Tryd.f12
noncomputable def r12_0 : Code := Code.sub [0, 0] c12
noncomputable def r12_1 : Code := Code.sub [1, 0, 0] c12
noncomputable def r12_2 : Code := Code.sub [1, 0, 1, 0, 0] c12
noncomputable def r12_3 : Code := Code.sub [1, 1, 0] c12
noncomputable def r12_4 : Code := Code.sub [1, 1, 1, 0, 0] c12
noncomputable def r12_5 : Code := Code.sub [1, 1, 1, 0, 1, 0, 0] c12
noncomputable def r12_6 : Code := Code.sub [1, 1, 1, 1, 0] c12
noncomputable def r12_7 : Code := Code.sub [1, 1, 1, 1, 1, 0] c12
noncomputable def r12_8 : Code := Code.sub [1, 1, 1, 1, 1, 1] c12
theorem body12 : c12 = (.seq (.seq r12_0 (.cond (.tmp 13) .ret .skip)) (.seq (.seq r12_1 (.cond (.tmp 27) (.seq r12_2 .ret) .skip)) (.seq r12_3 (.seq (.seq r12_4 (.cond (.tmp 46) (.seq r12_5 .ret) .skip)) (.seq r12_6 (.seq r12_7 r12_8)))))) := by kernel_rfl
noncomputable def L12_0 : Lt r12_0 := by refine ⟨?l, ?h⟩; case h => simp only [r12_0, c12, bodyOf, Tryd.f12, Code.sub, opsOf, List.map_cons, List.map_nil, strip]; rfl
theorem w12_0 : Wp r12_0 9 [13, 27, 46] [] [13] [0] [some 9, some 10, some 11, some 12, some 13] (L12_0).1 := w_plain (by kernel_rfl) (L12_0).2
noncomputable def L12_1 : Lt r12_1 := by refine ⟨?l, ?h⟩; case h => simp only [r12_1, c12, bodyOf, Tryd.f12, Code.sub, opsOf, List.map_cons, List.map_nil, strip]; rfl
theorem w12_1 : Wp r12_1 9 [13, 27, 46] [] [27] [0, 1] [some 14, some 15, some 16, some 17, some 18, some 19, some 20, some 21, some 22, some 23, some 24, some 25, some 26, some 27] (L12_1).1 := w_plain (by kernel_rfl) (L12_1).2
noncomputable def L12_2 : Lt r12_2 := by refine ⟨?l, ?h⟩; case h => simp only [r12_2, c12, bodyOf, Tryd.f12, Code.sub, opsOf, List.map_cons, List.map_nil, strip]; rfl
theorem w12_2 : Wp r12_2 9 [13, 27, 46] [] [] [0] [some 28, some 29, some 30, none] (L12_2).1 := w_plain (by kernel_rfl) (L12_2).2
noncomputable def L12_3 : Lt r12_3 := by refine ⟨?l, ?h⟩; case h => simp only [r12_3, c12, bodyOf, Tryd.f12, Code.sub, opsOf, List.map_cons, List.map_nil, strip]; rfl
theorem w12_3 : Wp r12_3 9 [13, 27, 46] [8] [] [1, 0] [some 31, some 32, some 33, some 34, some 35, some 36, some 37, some 8, none] (L12_3).1 := w_plain (by kernel_rfl) (L12_3).2
noncomputable def L12_4 : Lt r12_4 := by refine ⟨?l, ?h⟩; case h => simp only [r12_4, c12, bodyOf, Tryd.f12, Code.sub, opsOf, List.map_cons, List.map_nil, strip]; rfl
theorem w12_4 : Wp r12_4 9 [13, 27, 46] [] [46] [8, 1, 2] [some 38, some 39, some 40, some 41, some 42, some 43, some 44, some 45, some 46] (L12_4).1 := w_plain (by kernel_rfl) (L12_4).2
noncomputable def L12_5 : Lt r12_5 := by refine ⟨?l, ?h⟩; case h => simp only [r12_5, c12, bodyOf, Tryd.f12, Code.sub, opsOf, List.map_cons, List.map_nil, strip]; rfl
theorem w12_5 : Wp r12_5 9 [13, 27, 46] [] [] [0] [some 47, some 48, some 49, none] (L12_5).1 := w_plain (by kernel_rfl) (L12_5).2
noncomputable def L12_6 : Lt r12_6 := by refine ⟨?l, ?h⟩; case h => simp only [r12_6, c12, bodyOf, Tryd.f12, Code.sub, opsOf, List.map_cons, List.map_nil, strip]; rfl
theorem w12_6 : Wp r12_6 9 [13, 27, 46] [] [] [0] [some 50, some 51, some 52, some 53, some 54, some 55, some 56, none] (L12_6).1 := w_plain (by kernel_rfl) (L12_6).2
noncomputable def L12_7 : Lt r12_7 := by refine ⟨?l, ?h⟩; case h => simp only [r12_7, c12, bodyOf, Tryd.f12, Code.sub, opsOf, List.map_cons, List.map_nil, strip]; rfl
theorem w12_7 : Wp r12_7 9 [13, 27, 46] [] [] [0] [some 57, some 58, some 59, some 60, some 61, some 62, some 63, none] (L12_7).1 := w_plain (by kernel_rfl) (L12_7).2
noncomputable def L12_8 : Lt r12_8 := by refine ⟨?l, ?h⟩; case h => simp only [r12_8, c12, bodyOf, Tryd.f12, Code.sub, opsOf, List.map_cons, List.map_nil, strip]; rfl
theorem w12_8 : Wp r12_8 9 [13, 27, 46] [] [] [0, 8, 2, 3] [some 64, some 65, some 66, some 67, some 68] (L12_8).1 := w_plain (by kernel_rfl) (L12_8).2
theorem k12 : FnIs TT 12 c12 [] 4 := ⟨Tryd.f12, by kernel_rfl, by simp only [Tryd.f12, c12, bodyOf], by kernel_rfl, of_decide_eq_true (by kernel_rfl)⟩
noncomputable def c13 : Code := bodyOf Tryd.f13
noncomputable def r13_0 : Code := Code.sub [0, 0] c13
noncomputable def r13_1 : Code := Code.sub [1, 0, 0] c13
noncomputable def r13_2 : Code := Code.sub [1, 0, 1, 0, 0] c13
noncomputable def r13_3 : Code := Code.sub [1, 1, 0] c13
noncomputable def r13_4 : Code := Code.sub [1, 1, 1, 0] c13
noncomputable def r13_5 : Code := Code.sub [1, 1, 1, 1, 0] c13
noncomputable def r13_6 : Code := Code.sub [1, 1, 1, 1, 1, 0] c13
noncomputable def r13_7 : Code := Code.sub [1, 1, 1, 1, 1, 1, 0] c13
noncomputable def r13_8 : Code := Code.sub [1, 1, 1, 1, 1, 1, 1, 0, 0] c13
noncomputable def r13_9 : Code := Code.sub [1, 1, 1, 1, 1, 1, 1, 0, 1, 0] c13
noncomputable def r13_10 : Code := Code.sub [1, 1, 1, 1, 1, 1, 1, 0, 1, 1, 0] c13
noncomputable def r13_11 : Code := Code.sub [1, 1, 1, 1, 1, 1, 1, 0, 1, 1, 1, 0] c13
noncomputable def r13_12 : Code := Code.sub [1, 1, 1, 1, 1, 1, 1, 0, 1, 1, 1, 1, 0] c13
noncomputable def r13_13 : Code := Code.sub [1, 1, 1, 1, 1, 1, 1, 0, 1, 1, 1, 1, 1, 0] c13
noncomputable def r13_14 : Code := Code.sub [1, 1, 1, 1, 1, 1, 1, 0, 1, 1, 1, 1, 1, 1, 0] c13
noncomputable def r13_15 : Code := Code.sub [1, 1, 1, 1, 1, 1, 1, 0, 1, 1, 1, 1, 1, 1, 1, 0] c13
noncomputable def r13_16 : Code := Code.sub [1, 1, 1, 1, 1, 1, 1, 0, 1, 1, 1, 1, 1, 1, 1, 1, 0] c13
noncomputable def r13_17 : Code := Code.sub [1, 1, 1, 1, 1, 1, 1, 0, 1, 1, 1, 1, 1, 1, 1, 1, 1, 0] c13
noncomputable def r13_18 : Code := Code.sub [1, 1, 1, 1, 1, 1, 1, 0, 1, 1, 1, 1, 1, 1, 1, 1, 1, 1, 0] c13
noncomputable def r13_19 : Code := Code.sub [1, 1, 1, 1, 1, 1, 1, 0, 1, 1, 1, 1, 1, 1, 1, 1, 1, 1, 1, 0] c13
noncomputable def r13_20 : Code := Code.sub [1, 1, 1, 1, 1, 1, 1, 0, 1, 1, 1, 1, 1, 1, 1, 1, 1, 1, 1, 1, 0] c13
noncomputable def r13_21 : Code := Code.sub [1, 1, 1, 1, 1, 1, 1, 0, 1, 1, 1, 1, 1, 1, 1, 1, 1, 1, 1, 1, 1, 0] c13
noncomputable def r13_22 : Code := Code.sub [1, 1, 1, 1, 1, 1, 1, 0, 1, 1, 1, 1, 1, 1, 1, 1, 1, 1, 1, 1, 1, 1, 0] c13
noncomputable def r13_23 : Code := Code.sub [1, 1, 1, 1, 1, 1, 1, 0, 1, 1, 1, 1, 1, 1, 1, 1, 1, 1, 1, 1, 1, 1, 1, 0] c13
noncomputable def r13_24 : Code := Code.sub [1, 1, 1, 1, 1, 1, 1, 0, 1, 1, 1, 1, 1, 1, 1, 1, 1, 1, 1, 1, 1, 1, 1, 1, 0] c13
noncomputable def r13_25 : Code := Code.sub [1, 1, 1, 1, 1, 1, 1, 0, 1, 1, 1, 1, 1, 1, 1, 1, 1, 1, 1, 1, 1, 1, 1, 1, 1, 0] c13
noncomputable def r13_26 : Code := Code.sub [1, 1, 1, 1, 1, 1, 1, 0, 1, 1, 1, 1, 1, 1, 1, 1, 1, 1, 1, 1, 1, 1, 1, 1, 1, 1, 0] c13
noncomputable def r13_27 : Code := Code.sub [1, 1, 1, 1, 1, 1, 1, 0, 1, 1, 1, 1, 1, 1, 1, 1, 1, 1, 1, 1, 1, 1, 1, 1, 1, 1, 1, 0] c13
noncomputable def r13_28 : Code := Code.sub [1, 1, 1, 1, 1, 1, 1, 0, 1, 1, 1, 1, 1, 1, 1, 1, 1, 1, 1, 1, 1, 1, 1, 1, 1, 1, 1, 1, 0] c13
noncomputable def r13_29 : Code := Code.sub [1, 1, 1, 1, 1, 1, 1, 0, 1, 1, 1, 1, 1, 1, 1, 1, 1, 1, 1, 1, 1, 1, 1, 1, 1, 1, 1, 1, 1, 0] c13
noncomputable def r13_30 : Code := Code.sub [1, 1, 1, 1, 1, 1, 1, 0, 1, 1, 1, 1, 1, 1, 1, 1, 1, 1, 1, 1, 1, 1, 1, 1, 1, 1, 1, 1, 1, 1, 0] c13
noncomputable def r13_31 : Code := Code.sub [1, 1, 1, 1, 1, 1, 1, 0, 1, 1, 1, 1, 1, 1, 1, 1, 1, 1, 1, 1, 1, 1, 1, 1, 1, 1, 1, 1, 1, 1, 1, 0, 0] c13
noncomputable def r13_32 : Code := Code.sub [1, 1, 1, 1, 1, 1, 1, 0, 1, 1, 1, 1, 1, 1, 1, 1, 1, 1, 1, 1, 1, 1, 1, 1, 1, 1, 1, 1, 1, 1, 1, 0, 1, 0] c13
noncomputable def r13_33 : Code := Code.sub [1, 1, 1, 1, 1, 1, 1, 0, 1, 1, 1, 1, 1, 1, 1, 1, 1, 1, 1, 1, 1, 1, 1, 1, 1, 1, 1, 1, 1, 1, 1, 1, 0] c13
noncomputable def r13_34 : Code := Code.sub [1, 1, 1, 1, 1, 1, 1, 0, 1, 1, 1, 1, 1, 1, 1, 1, 1, 1, 1, 1, 1, 1, 1, 1, 1, 1, 1, 1, 1, 1, 1, 1, 1, 0, 0] c13
noncomputable def r13_35 : Code := Code.sub [1, 1, 1, 1, 1, 1, 1, 0, 1, 1, 1, 1, 1, 1, 1, 1, 1, 1, 1, 1, 1, 1, 1, 1, 1, 1, 1, 1, 1, 1, 1, 1, 1, 0, 1, 0, 0] c13
noncomputable def r13_36 : Code := Code.sub [1, 1, 1, 1, 1, 1, 1, 0, 1, 1, 1, 1, 1, 1, 1, 1, 1, 1, 1, 1, 1, 1, 1, 1, 1, 1, 1, 1, 1, 1, 1, 1, 1, 0, 1, 0, 1] c13
noncomputable def r13_37 : Code := Code.sub [1, 1, 1, 1, 1, 1, 1, 0, 1, 1, 1, 1, 1, 1, 1, 1, 1, 1, 1, 1, 1, 1, 1, 1, 1, 1, 1, 1, 1, 1, 1, 1, 1, 1, 0] c13
noncomputable def r13_38 : Code := Code.sub [1, 1, 1, 1, 1, 1, 1, 0, 1, 1, 1, 1, 1, 1, 1, 1, 1, 1, 1, 1, 1, 1, 1, 1, 1, 1, 1, 1, 1, 1, 1, 1, 1, 1, 1, 0, 0] c13
noncomputable def r13_39 : Code := Code.sub [1, 1, 1, 1, 1, 1, 1, 0, 1, 1, 1, 1, 1, 1, 1, 1, 1, 1, 1, 1, 1, 1, 1, 1, 1, 1, 1, 1, 1, 1, 1, 1, 1, 1, 1, 0, 1, 0, 0] c13
noncomputable def r13_40 : Code := Code.sub [1, 1, 1, 1, 1, 1, 1, 0, 1, 1, 1, 1, 1, 1, 1, 1, 1, 1, 1, 1, 1, 1, 1, 1, 1, 1, 1, 1, 1, 1, 1, 1, 1, 1, 1, 0, 1, 0, 1] c13
noncomputable def r13_41 : Code := Code.sub [1, 1, 1, 1, 1, 1, 1, 0, 1, 1, 1, 1, 1, 1, 1, 1, 1, 1, 1, 1, 1, 1, 1, 1, 1, 1, 1, 1, 1, 1, 1, 1, 1, 1, 1, 0, 1, 1] c13
noncomputable def r13_42 : Code := Code.sub [1, 1, 1, 1, 1, 1, 1, 0, 1, 1, 1, 1, 1, 1, 1, 1, 1, 1, 1, 1, 1, 1, 1, 1, 1, 1, 1, 1, 1, 1, 1, 1, 1, 1, 1, 1, 0] c13
noncomputable def r13_43 : Code := Code.sub [1, 1, 1, 1, 1, 1, 1, 0, 1, 1, 1, 1, 1, 1, 1, 1, 1, 1, 1, 1, 1, 1, 1, 1, 1, 1, 1, 1, 1, 1, 1, 1, 1, 1, 1, 1, 1, 0, 0] c13
noncomputable def r13_44 : Code := Code.sub [1, 1, 1, 1, 1, 1, 1, 0, 1, 1, 1, 1, 1, 1, 1, 1, 1, 1, 1, 1, 1, 1, 1, 1, 1, 1, 1, 1, 1, 1, 1, 1, 1, 1, 1, 1, 1, 0, 1] c13
noncomputable def r13_45 : Code := Code.sub [1, 1, 1, 1, 1, 1, 1, 0, 1, 1, 1, 1, 1, 1, 1, 1, 1, 1, 1, 1, 1, 1, 1, 1, 1, 1, 1, 1, 1, 1, 1, 1, 1, 1, 1, 1, 1, 1, 0, 0] c13
noncomputable def r13_46 : Code := Code.sub [1, 1, 1, 1, 1, 1, 1, 0, 1, 1, 1, 1, 1, 1, 1, 1, 1, 1, 1, 1, 1, 1, 1, 1, 1, 1, 1, 1, 1, 1, 1, 1, 1, 1, 1, 1, 1, 1, 0, 1, 1] c13
noncomputable def r13_47 : Code := Code.sub [1, 1, 1, 1, 1, 1, 1, 0, 1, 1, 1, 1, 1, 1, 1, 1, 1, 1, 1, 1, 1, 1, 1, 1, 1, 1, 1, 1, 1, 1, 1, 1, 1, 1, 1, 1, 1, 1, 1, 0] c13
noncomputable def r13_48 : Code := Code.sub [1, 1, 1, 1, 1, 1, 1, 0, 1, 1, 1, 1, 1, 1, 1, 1, 1, 1, 1, 1, 1, 1, 1, 1, 1, 1, 1, 1, 1, 1, 1, 1, 1, 1, 1, 1, 1, 1, 1, 1] c13
theorem body13 : c13 = (.seq (.seq r13_0 (.cond (.tmp 14) .ret .skip)) (.seq (.seq r13_1 (.cond (.tmp 41) (.seq r13_2 .ret) .skip)) (.seq r13_3 (.seq r13_4 (.seq r13_5 (.seq r13_6 (.seq r13_7 (.block 0 (.seq r13_8 (.cond (.tmp 95) r13_9 (.seq r13_10 (.cond (.tmp 105) r13_11 (.seq r13_12 (.cond (.tmp 118) r13_13 (.seq r13_14 (.cond (.tmp 132) r13_15 (.seq r13_16 (.cond (.tmp 146) r13_17 (.seq r13_18 (.cond (.tmp 162) r13_19 (.seq r13_20 (.cond (.tmp 178) r13_21 (.seq r13_22 (.cond (.tmp 197) r13_23 (.seq r13_24 (.cond (.tmp 220) r13_25 (.seq r13_26 (.cond (.tmp 240) r13_27 (.seq r13_28 (.cond (.tmp 264) r13_29 (.seq r13_30 (.cond (.tmp 271) (.seq r13_31 (.cond (.tmp 279) r13_32 .skip)) (.seq r13_33 (.cond (.tmp 285) (.seq r13_34 (.cond (.tmp 293) (.seq r13_35 r13_36) .skip)) (.seq r13_37 (.cond (.tmp 302) (.seq r13_38 (.cond (.tmp 313) (.seq r13_39 r13_40) r13_41)) (.seq r13_42 (.cond (.tmp 329) (.seq r13_43 r13_44) (.seq (.seq r13_45 (.cond (.tmp 339) .skip r13_46)) (.cond (.tmp 339) r13_47 r13_48)))))))))))))))))))))))))))))))))))))))) := by kernel_rfl
noncomputable def L13_0 : Lt r13_0 := by refine ⟨?l, ?h⟩; case h => simp only [r13_0, c13, bodyOf, Tryd.f13, Code.sub, opsOf, List.map_cons, List.map_nil, strip]; rfl
theorem w13_0 : Wp r13_0 71 [95, 105, 118, 132, 146, 162, 178, 197, 220, 240, 264, 271, 279, 285, 293, 302, 313, 329, 339, 339] [10, 11, 12, 13, 14] [] [0] [some 10, some 11, some 12, some 13, some 14] (L13_0).1 := w_plain (by kernel_rfl) (L13_0).2
noncomputable def L13_1 : Lt r13_1 := by refine ⟨?l, ?h⟩; case h => simp only [r13_1, c13, bodyOf, Tryd.f13, Code.sub, opsOf, List.map_cons, List.map_nil, strip]; rfl
theorem w13_1 : Wp r13_1 71 [95, 105, 118, 132, 146, 162, 178, 197, 220, 240, 264, 271, 279, 285, 293, 302, 313, 329, 339, 339] [15, 16, 17, 18, 19, 20, 21, 22, 23, 24, 25, 26, 27, 28, 29, 30, 31, 32, 33, 34, 35, 36, 37, 38, 39, 40, 41] [] [0, 1] [some 15, some 16, some 17, some 18, some 19, some 20, some 21, some 22, some 23, some 24, some 25, some 26, some 27, some 28, some 29, some 30, some 31, some 32, some 33, some 34, some 35, some 36, some 37, some 38, some 39, some 40, some 41] (L13_1).1 := w_plain (by kernel_rfl) (L13_1).2
noncomputable def L13_2 : Lt r13_2 := by refine ⟨?l, ?h⟩; case h => simp only [r13_2, c13, bodyOf, Tryd.f13, Code.sub, opsOf, List.map_cons, List.map_nil, strip]; rfl
theorem w13_2 : Wp r13_2 71 [95, 105, 118, 132, 146, 162, 178, 197, 220, 240, 264, 271, 279, 285, 293, 302, 313, 329, 339, 339] [42, 43, 44] [] [0] [some 42, some 43, some 44, none] (L13_2).1 := w_plain (by kernel_rfl) (L13_2).2
noncomputable def L13_3 : Lt r13_3 := by refine ⟨?l, ?h⟩; case h => simp only [r13_3, c13, bodyOf, Tryd.f13, Code.sub, opsOf, List.map_cons, List.map_nil, strip]; rfl
theorem w13_3 : Wp r13_3 71 [95, 105, 118, 132, 146, 162, 178, 197, 220, 240, 264, 271, 279, 285, 293, 302, 313, 329, 339, 339] [45, 46, 47, 48, 49, 50, 51, 8] [] [1, 0] [some 45, some 46, some 47, some 48, some 49, some 50, some 51, some 8, none] (L13_3).1 := w_plain (by kernel_rfl) (L13_3).2
noncomputable def L13_4 : Lt r13_4 := by refine ⟨?l, ?h⟩; case h => simp only [r13_4, c13, bodyOf, Tryd.f13, Code.sub, opsOf, List.map_cons, List.map_nil, strip]; rfl
theorem w13_4 : Wp r13_4 71 [95, 105, 118, 132, 146, 162, 178, 197, 220, 240, 264, 271, 279, 285, 293, 302, 313, 329, 339, 339] [52, 53, 54, 9] [] [0] [some 52, some 53, some 54, some 9] (L13_4).1 := w_plain (by kernel_rfl) (L13_4).2
noncomputable def L13_5 : Lt r13_5 := by refine ⟨?l, ?h⟩; case h => simp only [r13_5, c13, bodyOf, Tryd.f13, Code.sub, opsOf, List.map_cons, List.map_nil, strip]; rfl
theorem w13_5 : Wp r13_5 71 [95, 105, 118, 132, 146, 162, 178, 197, 220, 240, 264, 271, 279, 285, 293, 302, 313, 329, 339, 339] [55, 56, 57, 58, 59, 60, 61] [] [0] [some 55, some 56, some 57, some 58, some 59, some 60, some 61, none] (L13_5).1 := w_plain (by kernel_rfl) (L13_5).2
noncomputable def L13_6 : Lt r13_6 := by refine ⟨?l, ?h⟩; case h => simp only [r13_6, c13, bodyOf, Tryd.f13, Code.sub, opsOf, List.map_cons, List.map_nil, strip]; rfl
theorem w13_6 : Wp r13_6 71 [95, 105, 118, 132, 146, 162, 178, 197, 220, 240, 264, 271, 279, 285, 293, 302, 313, 329, 339, 339] [62, 63, 64, 65, 66, 67, 68] [] [0] [some 62, some 63, some 64, some 65, some 66, some 67, some 68, none] (L13_6).1 := w_plain (by kernel_rfl) (L13_6).2
noncomputable def L13_7 : Lt r13_7 := by refine ⟨?l, ?h⟩; case h => simp only [r13_7, c13, bodyOf, Tryd.f13, Code.sub, opsOf, List.map_cons, List.map_nil, strip]; rfl
theorem w13_7 : Wp r13_7 71 [95, 105, 118, 132, 146, 162, 178, 197, 220, 240, 264, 271, 279, 285, 293, 302, 313, 329, 339, 339] [69, 70] [] [8] [some 69, some 70] (L13_7).1 := w_plain (by kernel_rfl) (L13_7).2
noncomputable def L13_8 : Lt r13_8 := by refine ⟨?l, ?h⟩; case h => simp only [r13_8, c13, bodyOf, Tryd.f13, Code.sub, opsOf, List.map_cons, List.map_nil, strip]; rfl
theorem w13_8 : Wp r13_8 71 [95, 105, 118, 132, 146, 162, 178, 197, 220, 240, 264, 271, 279, 285, 293, 302, 313, 329, 339, 339] [] [95] [70] [some 96, some 95] (L13_8).1 := w_plain (by kernel_rfl) (L13_8).2
theorem can13_9 : canonOps (opsOf r13_9) = opsOf r13_9 := by kernel_rfl
noncomputable def L13_9 : Lc r13_9 := by refine ⟨?l, (congrArg (List.map strip) can13_9).trans ?h⟩; case h => simp only [r13_9, c13, bodyOf, Tryd.f13, Code.sub, opsOf, List.map_cons, List.map_nil, strip]; rfl
theorem w13_9 : Wd r13_9 71 [95, 105, 118, 132, 146, 162, 178, 197, 220, 240, 264, 271, 279, 285, 293, 302, 313, 329, 339, 339] [] [] [9, 8] [some 97, some 98, some 99, some 100, some 101, some 102, some 103, some 104, none] (L13_9).1 [(2, [8]), (4, [8]), (5, [8])] := w_loud (by kernel_rfl) (L13_9).2
noncomputable def L13_10 : Lt r13_10 := by refine ⟨?l, ?h⟩; case h => simp only [r13_10, c13, bodyOf, Tryd.f13, Code.sub, opsOf, List.map_cons, List.map_nil, strip]; rfl
theorem w13_10 : Wp r13_10 71 [95, 105, 118, 132, 146, 162, 178, 197, 220, 240, 264, 271, 279, 285, 293, 302, 313, 329, 339, 339] [] [105] [70] [some 106, some 105] (L13_10).1 := w_plain (by kernel_rfl) (L13_10).2
theorem can13_11 : canonOps (opsOf r13_11) = opsOf r13_11 := by kernel_rfl
noncomputable def L13_11 : Lc r13_11 := by refine ⟨?l, (congrArg (List.map strip) can13_11).trans ?h⟩; case h => simp only [r13_11, c13, bodyOf, Tryd.f13, Code.sub, opsOf, List.map_cons, List.map_nil, strip]; rfl
theorem w13_11 : Wd r13_11 71 [95, 105, 118, 132, 146, 162, 178, 197, 220, 240, 264, 271, 279, 285, 293, 302, 313, 329, 339, 339] [] [] [9, 8] [some 107, some 108, some 109, some 110, some 111, some 112, some 113, some 114, some 115, some 116, some 117, none] (L13_11).1 [(2, [11]), (5, [11]), (8, [11])] := w_loud (by kernel_rfl) (L13_11).2
noncomputable def L13_12 : Lt r13_12 := by refine ⟨?l, ?h⟩; case h => simp only [r13_12, c13, bodyOf, Tryd.f13, Code.sub, opsOf, List.map_cons, List.map_nil, strip]; rfl
theorem w13_12 : Wp r13_12 71 [95, 105, 118, 132, 146, 162, 178, 197, 220, 240, 264, 271, 279, 285, 293, 302, 313, 329, 339, 339] [] [118] [70] [some 119, some 118] (L13_12).1 := w_plain (by kernel_rfl) (L13_12).2
theorem can13_13 : canonOps (opsOf r13_13) = opsOf r13_13 := by kernel_rfl
noncomputable def L13_13 : Lc r13_13 := by refine ⟨?l, (congrArg (List.map strip) can13_13).trans ?h⟩; case h => simp only [r13_13, c13, bodyOf, Tryd.f13, Code.sub, opsOf, List.map_cons, List.map_nil, strip]; rfl
theorem w13_13 : Wd r13_13 71 [95, 105, 118, 132, 146, 162, 178, 197, 220, 240, 264, 271, 279, 285, 293, 302, 313, 329, 339, 339] [] [] [9, 0, 8] [some 120, some 121, some 122, some 123, some 124, some 125, some 126, some 127, some 128, some 129, some 130, some 131, none] (L13_13).1 [(2, [12]), (5, [12]), (9, [12])] := w_loud (by kernel_rfl) (L13_13).2
noncomputable def L13_14 : Lt r13_14 := by refine ⟨?l, ?h⟩; case h => simp only [r13_14, c13, bodyOf, Tryd.f13, Code.sub, opsOf, List.map_cons, List.map_nil, strip]; rfl
theorem w13_14 : Wp r13_14 71 [95, 105, 118, 132, 146, 162, 178, 197, 220, 240, 264, 271, 279, 285, 293, 302, 313, 329, 339, 339] [] [132] [70] [some 133, some 132] (L13_14).1 := w_plain (by kernel_rfl) (L13_14).2
theorem can13_15 : canonOps (opsOf r13_15) = opsOf r13_15 := by kernel_rfl
noncomputable def L13_15 : Lc r13_15 := by refine ⟨?l, (congrArg (List.map strip) can13_15).trans ?h⟩; case h => simp only [r13_15, c13, bodyOf, Tryd.f13, Code.sub, opsOf, List.map_cons, List.map_nil, strip]; rfl
theorem w13_15 : Wd r13_15 71 [95, 105, 118, 132, 146, 162, 178, 197, 220, 240, 264, 271, 279, 285, 293, 302, 313, 329, 339, 339] [] [] [0, 9, 8] [some 134, some 135, some 136, some 137, some 138, some 139, some 140, some 141, some 142, some 143, some 144, some 145, none] (L13_15).1 [(2, [12]), (5, [12]), (8, [12])] := w_loud (by kernel_rfl) (L13_15).2
noncomputable def L13_16 : Lt r13_16 := by refine ⟨?l, ?h⟩; case h => simp only [r13_16, c13, bodyOf, Tryd.f13, Code.sub, opsOf, List.map_cons, List.map_nil, strip]; rfl
theorem w13_16 : Wp r13_16 71 [95, 105, 118, 132, 146, 162, 178, 197, 220, 240, 264, 271, 279, 285, 293, 302, 313, 329, 339, 339] [] [146] [70] [some 147, some 146] (L13_16).1 := w_plain (by kernel_rfl) (L13_16).2
theorem can13_17 : canonOps (opsOf r13_17) = opsOf r13_17 := by kernel_rfl
noncomputable def L13_17 : Lc r13_17 := by refine ⟨?l, (congrArg (List.map strip) can13_17).trans ?h⟩; case h => simp only [r13_17, c13, bodyOf, Tryd.f13, Code.sub, opsOf, List.map_cons, List.map_nil, strip]; rfl
theorem w13_17 : Wd r13_17 71 [95, 105, 118, 132, 146, 162, 178, 197, 220, 240, 264, 271, 279, 285, 293, 302, 313, 329, 339, 339] [] [] [2, 9, 8] [some 148, some 149, some 150, some 151, some 152, some 153, some 154, some 155, some 156, some 157, some 158, some 159, some 160, some 161, none] (L13_17).1 [(2, [10, 14]), (6, [10]), (9, [10]), (11, [14])] := w_loud (by kernel_rfl) (L13_17).2
noncomputable def L13_18 : Lt r13_18 := by refine ⟨?l, ?h⟩; case h => simp only [r13_18, c13, bodyOf, Tryd.f13, Code.sub, opsOf, List.map_cons, List.map_nil, strip]; rfl
theorem w13_18 : Wp r13_18 71 [95, 105, 118, 132, 146, 162, 178, 197, 220, 240, 264, 271, 279, 285, 293, 302, 313, 329, 339, 339] [] [162] [70] [some 163, some 162] (L13_18).1 := w_plain (by kernel_rfl) (L13_18).2
theorem can13_19 : canonOps (opsOf r13_19) = opsOf r13_19 := by kernel_rfl
noncomputable def L13_19 : Lc r13_19 := by refine ⟨?l, (congrArg (List.map strip) can13_19).trans ?h⟩; case h => simp only [r13_19, c13, bodyOf, Tryd.f13, Code.sub, opsOf, List.map_cons, List.map_nil, strip]; rfl
theorem w13_19 : Wd r13_19 71 [95, 105, 118, 132, 146, 162, 178, 197, 220, 240, 264, 271, 279, 285, 293, 302, 313, 329, 339, 339] [] [] [2, 9, 8] [some 164, some 165, some 166, some 167, some 168, some 169, some 170, some 171, some 172, some 173, some 174, some 175, some 176, some 177, none] (L13_19).1 [(2, [10, 14]), (6, [10]), (9, [10]), (11, [14])] := w_loud (by kernel_rfl) (L13_19).2
noncomputable def L13_20 : Lt r13_20 := by refine ⟨?l, ?h⟩; case h => simp only [r13_20, c13, bodyOf, Tryd.f13, Code.sub, opsOf, List.map_cons, List.map_nil, strip]; rfl
theorem w13_20 : Wp r13_20 71 [95, 105, 118, 132, 146, 162, 178, 197, 220, 240, 264, 271, 279, 285, 293, 302, 313, 329, 339, 339] [] [178] [70] [some 179, some 178] (L13_20).1 := w_plain (by kernel_rfl) (L13_20).2
theorem can13_21 : canonOps (opsOf r13_21) = opsOf r13_21 := by kernel_rfl
noncomputable def L13_21 : Lc r13_21 := by refine ⟨?l, (congrArg (List.map strip) can13_21).trans ?h⟩; case h => simp only [r13_21, c13, bodyOf, Tryd.f13, Code.sub, opsOf, List.map_cons, List.map_nil, strip]; rfl
theorem w13_21 : Wd r13_21 71 [95, 105, 118, 132, 146, 162, 178, 197, 220, 240, 264, 271, 279, 285, 293, 302, 313, 329, 339, 339] [] [] [2, 9, 8] [some 180, some 181, some 182, some 183, some 184, some 185, some 186, some 187, some 188, some 189, some 190, some 191, some 192, some 193, some 194, some 195, some 196, none] (L13_21).1 [(2, [14, 17]), (6, [14]), (9, [14]), (11, [14]), (12, [14])] := w_loud (by kernel_rfl) (L13_21).2
noncomputable def L13_22 : Lt r13_22 := by refine ⟨?l, ?h⟩; case h => simp only [r13_22, c13, bodyOf, Tryd.f13, Code.sub, opsOf, List.map_cons, List.map_nil, strip]; rfl
theorem w13_22 : Wp r13_22 71 [95, 105, 118, 132, 146, 162, 178, 197, 220, 240, 264, 271, 279, 285, 293, 302, 313, 329, 339, 339] [] [197] [70] [some 198, some 197] (L13_22).1 := w_plain (by kernel_rfl) (L13_22).2
theorem can13_23 : canonOps (opsOf r13_23) = opsOf r13_23 := by kernel_rfl
noncomputable def L13_23 : Lc r13_23 := by refine ⟨?l, (congrArg (List.map strip) can13_23).trans ?h⟩; case h => simp only [r13_23, c13, bodyOf, Tryd.f13, Code.sub, opsOf, List.map_cons, List.map_nil, strip]; rfl
theorem w13_23 : Wd r13_23 71 [95, 105, 118, 132, 146, 162, 178, 197, 220, 240, 264, 271, 279, 285, 293, 302, 313, 329, 339, 339] [] [] [2, 9, 8] [some 199, some 200, some 201, some 202, some 203, some 204, some 205, some 206, some 207, some 208, some 209, some 210, some 211, some 212, some 213, some 214, some 215, some 216, some 217, some 218, some 219, none] (L13_23).1 [(2, [18, 21]), (6, [18]), (9, [18]), (13, [18]), (16, [18])] := w_loud (by kernel_rfl) (L13_23).2
noncomputable def L13_24 : Lt r13_24 := by refine ⟨?l, ?h⟩; case h => simp only [r13_24, c13, bodyOf, Tryd.f13, Code.sub, opsOf, List.map_cons, List.map_nil, strip]; rfl
theorem w13_24 : Wp r13_24 71 [95, 105, 118, 132, 146, 162, 178, 197, 220, 240, 264, 271, 279, 285, 293, 302, 313, 329, 339, 339] [] [220] [70] [some 221, some 220] (L13_24).1 := w_plain (by kernel_rfl) (L13_24).2
theorem can13_25 : canonOps (opsOf r13_25) = opsOf r13_25 := by kernel_rfl
noncomputable def L13_25 : Lc r13_25 := by refine ⟨?l, (congrArg (List.map strip) can13_25).trans ?h⟩; case h => simp only [r13_25, c13, bodyOf, Tryd.f13, Code.sub, opsOf, List.map_cons, List.map_nil, strip]; rfl
theorem w13_25 : Wd r13_25 71 [95, 105, 118, 132, 146, 162, 178, 197, 220, 240, 264, 271, 279, 285, 293, 302, 313, 329, 339, 339] [] [] [2, 9, 8] [some 222, some 223, some 224, some 225, some 226, some 227, some 228, some 229, some 230, some 231, some 232, some 233, some 234, some 235, some 236, some 237, some 238, some 239] (L13_25).1 [(3, [17]), (6, [17]), (8, [17]), (9, [17]), (13, [17]), (16, [17])] := w_loud (by kernel_rfl) (L13_25).2
noncomputable def L13_26 : Lt r13_26 := by refine ⟨?l, ?h⟩; case h => simp only [r13_26, c13, bodyOf, Tryd.f13, Code.sub, opsOf, List.map_cons, List.map_nil, strip]; rfl
theorem w13_26 : Wp r13_26 71 [95, 105, 118, 132, 146, 162, 178, 197, 220, 240, 264, 271, 279, 285, 293, 302, 313, 329, 339, 339] [] [240] [70] [some 241, some 240] (L13_26).1 := w_plain (by kernel_rfl) (L13_26).2
theorem can13_27 : canonOps (opsOf r13_27) = opsOf r13_27 := by kernel_rfl
noncomputable def L13_27 : Lc r13_27 := by refine ⟨?l, (congrArg (List.map strip) can13_27).trans ?h⟩; case h => simp only [r13_27, c13, bodyOf, Tryd.f13, Code.sub, opsOf, List.map_cons, List.map_nil, strip]; rfl
theorem w13_27 : Wd r13_27 71 [95, 105, 118, 132, 146, 162, 178, 197, 220, 240, 264, 271, 279, 285, 293, 302, 313, 329, 339, 339] [] [] [2, 9, 8] [some 242, some 243, some 244, some 245, some 246, some 247, some 248, some 249, some 250, some 251, some 252, some 253, some 254, some 255, some 256, some 257, some 258, some 259, some 260, some 261, some 262, some 263] (L13_27).1 [(3, [21]), (6, [21]), (10, [21]), (13, [21]), (17, [21]), (20, [21])] := w_loud (by kernel_rfl) (L13_27).2
noncomputable def L13_28 : Lt r13_28 := by refine ⟨?l, ?h⟩; case h => simp only [r13_28, c13, bodyOf, Tryd.f13, Code.sub, opsOf, List.map_cons, List.map_nil, strip]; rfl
theorem w13_28 : Wp r13_28 71 [95, 105, 118, 132, 146, 162, 178, 197, 220, 240, 264, 271, 279, 285, 293, 302, 313, 329, 339, 339] [] [264] [70] [some 265, some 264] (L13_28).1 := w_plain (by kernel_rfl) (L13_28).2
noncomputable def L13_29 : Lt r13_29 := by refine ⟨?l, ?h⟩; case h => simp only [r13_29, c13, bodyOf, Tryd.f13, Code.sub, opsOf, List.map_cons, List.map_nil, strip]; rfl
theorem w13_29 : Wp r13_29 71 [95, 105, 118, 132, 146, 162, 178, 197, 220, 240, 264, 271, 279, 285, 293, 302, 313, 329, 339, 339] [] [] [0, 8] [some 266, some 267, some 268, some 269, some 270, none] (L13_29).1 := w_plain (by kernel_rfl) (L13_29).2
noncomputable def L13_30 : Lt r13_30 := by refine ⟨?l, ?h⟩; case h => simp only [r13_30, c13, bodyOf, Tryd.f13, Code.sub, opsOf, List.map_cons, List.map_nil, strip]; rfl
theorem w13_30 : Wp r13_30 71 [95, 105, 118, 132, 146, 162, 178, 197, 220, 240, 264, 271, 279, 285, 293, 302, 313, 329, 339, 339] [] [271] [70] [some 272, some 271] (L13_30).1 := w_plain (by kernel_rfl) (L13_30).2
noncomputable def L13_31 : Lt r13_31 := by refine ⟨?l, ?h⟩; case h => simp only [r13_31, c13, bodyOf, Tryd.f13, Code.sub, opsOf, List.map_cons, List.map_nil, strip]; rfl
theorem w13_31 : Wp r13_31 71 [95, 105, 118, 132, 146, 162, 178, 197, 220, 240, 264, 271, 279, 285, 293, 302, 313, 329, 339, 339] [] [279] [9, 8] [some 273, some 274, some 275, some 276, some 277, some 278, some 279] (L13_31).1 := w_plain (by kernel_rfl) (L13_31).2
noncomputable def L13_32 : Lt r13_32 := by refine ⟨?l, ?h⟩; case h => simp only [r13_32, c13, bodyOf, Tryd.f13, Code.sub, opsOf, List.map_cons, List.map_nil, strip]; rfl
theorem w13_32 : Wp r13_32 71 [95, 105, 118, 132, 146, 162, 178, 197, 220, 240, 264, 271, 279, 285, 293, 302, 313, 329, 339, 339] [] [] [0, 8] [some 280, some 281, some 282, some 283, some 284, none] (L13_32).1 := w_plain (by kernel_rfl) (L13_32).2
noncomputable def L13_33 : Lt r13_33 := by refine ⟨?l, ?h⟩; case h => simp only [r13_33, c13, bodyOf, Tryd.f13, Code.sub, opsOf, List.map_cons, List.map_nil, strip]; rfl
theorem w13_33 : Wp r13_33 71 [95, 105, 118, 132, 146, 162, 178, 197, 220, 240, 264, 271, 279, 285, 293, 302, 313, 329, 339, 339] [] [285] [70] [some 286, some 285] (L13_33).1 := w_plain (by kernel_rfl) (L13_33).2
noncomputable def L13_34 : Lt r13_34 := by refine ⟨?l, ?h⟩; case h => simp only [r13_34, c13, bodyOf, Tryd.f13, Code.sub, opsOf, List.map_cons, List.map_nil, strip]; rfl
theorem w13_34 : Wp r13_34 71 [95, 105, 118, 132, 146, 162, 178, 197, 220, 240, 264, 271, 279, 285, 293, 302, 313, 329, 339, 339] [] [293] [9, 8] [some 287, some 288, some 289, some 290, some 291, some 292, some 293] (L13_34).1 := w_plain (by kernel_rfl) (L13_34).2
noncomputable def L13_35 : Lt r13_35 := by refine ⟨?l, ?h⟩; case h => simp only [r13_35, c13, bodyOf, Tryd.f13, Code.sub, opsOf, List.map_cons, List.map_nil, strip]; rfl
theorem w13_35 : Wp r13_35 71 [95, 105, 118, 132, 146, 162, 178, 197, 220, 240, 264, 271, 279, 285, 293, 302, 313, 329, 339, 339] [] [] [0] [some 294, some 295, some 296, none] (L13_35).1 := w_plain (by kernel_rfl) (L13_35).2
noncomputable def L13_36 : Lt r13_36 := by refine ⟨?l, ?h⟩; case h => simp only [r13_36, c13, bodyOf, Tryd.f13, Code.sub, opsOf, List.map_cons, List.map_nil, strip]; rfl
theorem w13_36 : Wp r13_36 71 [95, 105, 118, 132, 146, 162, 178, 197, 220, 240, 264, 271, 279, 285, 293, 302, 313, 329, 339, 339] [] [] [0, 8] [some 297, some 298, some 299, some 300, some 301, none] (L13_36).1 := w_plain (by kernel_rfl) (L13_36).2
noncomputable def L13_37 : Lt r13_37 := by refine ⟨?l, ?h⟩; case h => simp only [r13_37, c13, bodyOf, Tryd.f13, Code.sub, opsOf, List.map_cons, List.map_nil, strip]; rfl
theorem w13_37 : Wp r13_37 71 [95, 105, 118, 132, 146, 162, 178, 197, 220, 240, 264, 271, 279, 285, 293, 302, 313, 329, 339, 339] [] [302] [70] [some 303, some 302] (L13_37).1 := w_plain (by kernel_rfl) (L13_37).2
noncomputable def L13_38 : Lt r13_38 := by refine ⟨?l, ?h⟩; case h => simp only [r13_38, c13, bodyOf, Tryd.f13, Code.sub, opsOf, List.map_cons, List.map_nil, strip]; rfl
theorem w13_38 : Wp r13_38 71 [95, 105, 118, 132, 146, 162, 178, 197, 220, 240, 264, 271, 279, 285, 293, 302, 313, 329, 339, 339] [] [313] [0, 3] [some 304, some 305, some 306, some 307, some 308, some 309, some 310, some 311, some 312, some 313] (L13_38).1 := w_plain (by kernel_rfl) (L13_38).2
noncomputable def L13_39 : Lt r13_39 := by refine ⟨?l, ?h⟩; case h => simp only [r13_39, c13, bodyOf, Tryd.f13, Code.sub, opsOf, List.map_cons, List.map_nil, strip]; rfl
theorem w13_39 : Wp r13_39 71 [95, 105, 118, 132, 146, 162, 178, 197, 220, 240, 264, 271, 279, 285, 293, 302, 313, 329, 339, 339] [] [] [0] [some 314, some 315, some 316, none] (L13_39).1 := w_plain (by kernel_rfl) (L13_39).2
noncomputable def L13_40 : Lt r13_40 := by refine ⟨?l, ?h⟩; case h => simp only [r13_40, c13, bodyOf, Tryd.f13, Code.sub, opsOf, List.map_cons, List.map_nil, strip]; rfl
theorem w13_40 : Wp r13_40 71 [95, 105, 118, 132, 146, 162, 178, 197, 220, 240, 264, 271, 279, 285, 293, 302, 313, 329, 339, 339] [] [] [0, 8] [some 317, some 318, some 319, some 320, some 321, none] (L13_40).1 := w_plain (by kernel_rfl) (L13_40).2
noncomputable def L13_41 : Lt r13_41 := by refine ⟨?l, ?h⟩; case h => simp only [r13_41, c13, bodyOf, Tryd.f13, Code.sub, opsOf, List.map_cons, List.map_nil, strip]; rfl
theorem w13_41 : Wp r13_41 71 [95, 105, 118, 132, 146, 162, 178, 197, 220, 240, 264, 271, 279, 285, 293, 302, 313, 329, 339, 339] [] [] [0] [some 322, some 323, some 324, some 325, some 326, some 327, some 328, none] (L13_41).1 := w_plain (by kernel_rfl) (L13_41).2
noncomputable def L13_42 : Lt r13_42 := by refine ⟨?l, ?h⟩; case h => simp only [r13_42, c13, bodyOf, Tryd.f13, Code.sub, opsOf, List.map_cons, List.map_nil, strip]; rfl
theorem w13_42 : Wp r13_42 71 [95, 105, 118, 132, 146, 162, 178, 197, 220, 240, 264, 271, 279, 285, 293, 302, 313, 329, 339, 339] [] [329] [70] [some 330, some 329] (L13_42).1 := w_plain (by kernel_rfl) (L13_42).2
noncomputable def L13_43 : Lt r13_43 := by refine ⟨?l, ?h⟩; case h => simp only [r13_43, c13, bodyOf, Tryd.f13, Code.sub, opsOf, List.map_cons, List.map_nil, strip]; rfl
theorem w13_43 : Wp r13_43 71 [95, 105, 118, 132, 146, 162, 178, 197, 220, 240, 264, 271, 279, 285, 293, 302, 313, 329, 339, 339] [] [] [0] [some 331, some 332, some 333, none] (L13_43).1 := w_plain (by kernel_rfl) (L13_43).2
noncomputable def L13_44 : Lt r13_44 := by refine ⟨?l, ?h⟩; case h => simp only [r13_44, c13, bodyOf, Tryd.f13, Code.sub, opsOf, List.map_cons, List.map_nil, strip]; rfl
theorem w13_44 : Wp r13_44 71 [95, 105, 118, 132, 146, 162, 178, 197, 220, 240, 264, 271, 279, 285, 293, 302, 313, 329, 339, 339] [] [] [0, 8] [some 334, some 335, some 336, some 337, some 338, none] (L13_44).1 := w_plain (by kernel_rfl) (L13_44).2
noncomputable def L13_45 : Lt r13_45 := by refine ⟨?l, ?h⟩; case h => simp only [r13_45, c13, bodyOf, Tryd.f13, Code.sub, opsOf, List.map_cons, List.map_nil, strip]; rfl
theorem w13_45 : Wp r13_45 71 [95, 105, 118, 132, 146, 162, 178, 197, 220, 240, 264, 271, 279, 285, 293, 302, 313, 329, 339, 339] [] [339] [70] [some 340, some 339] (L13_45).1 := w_plain (by kernel_rfl) (L13_45).2
noncomputable def L13_46 : Lt r13_46 := by refine ⟨?l, ?h⟩; case h => simp only [r13_46, c13, bodyOf, Tryd.f13, Code.sub, opsOf, List.map_cons, List.map_nil, strip]; rfl
theorem w13_46 : Wp r13_46 71 [95, 105, 118, 132, 146, 162, 178, 197, 220, 240, 264, 271, 279, 285, 293, 302, 313, 329, 339, 339] [] [339] [70] [some 341, some 339] (L13_46).1 := w_plain (by kernel_rfl) (L13_46).2
theorem can13_47 : canonOps (opsOf r13_47) = opsOf r13_47 := by kernel_rfl
noncomputable def L13_47 : Lc r13_47 := by refine ⟨?l, (congrArg (List.map strip) can13_47).trans ?h⟩; case h => simp only [r13_47, c13, bodyOf, Tryd.f13, Code.sub, opsOf, List.map_cons, List.map_nil, strip]; rfl
theorem w13_47 : Wd r13_47 71 [95, 105, 118, 132, 146, 162, 178, 197, 220, 240, 264, 271, 279, 285, 293, 302, 313, 329, 339, 339] [] [] [9, 8] [some 343, some 344, some 345, some 346, some 347, some 348, some 349, some 350, some 351, some 352, some 353, some 354, some 355, some 342, some 356, some 357, some 358, some 359, none] (L13_47).1 [(2, [5, 12, 18]), (4, [5]), (8, [5, 12]), (11, [5, 12])] := w_loud (by kernel_rfl) (L13_47).2
theorem can13_48 : canonOps (opsOf r13_48) = opsOf r13_48 := by kernel_rfl
noncomputable def L13_48 : Lc r13_48 := by refine ⟨?l, (congrArg (List.map strip) can13_48).trans ?h⟩; case h => simp only [r13_48, c13, bodyOf, Tryd.f13, Code.sub, opsOf, List.map_cons, List.map_nil, strip]; rfl
theorem w13_48 : Wd r13_48 71 [95, 105, 118, 132, 146, 162, 178, 197, 220, 240, 264, 271, 279, 285, 293, 302, 313, 329, 339, 339] [] [] [9, 8] [some 72, some 73, some 74, some 75, some 76, some 77, some 78, some 79, some 80, some 81, some 82, some 83, some 84, some 85, some 86, some 87, some 88, some 89, some 90, some 71, some 91, some 92, some 93, some 94, none] (L13_48).1 [(2, [5, 18, 24]), (4, [5]), (8, [5, 18]), (11, [5, 18]), (14, [5, 18]), (17, [5, 18])] := w_loud (by kernel_rfl) (L13_48).2
theorem k13 : FnIs TT 13 c13 [] 4 := ⟨Tryd.f13, by kernel_rfl, by simp only [Tryd.f13, c13, bodyOf], by kernel_rfl, of_decide_eq_true (by kernel_rfl)⟩
noncomputable def c14 : Code := bodyOf Tryd.f14
noncomputable def r14_0 : Code := Code.sub [0] c14
noncomputable def r14_1 : Code := Code.sub [1, 0, 0] c14
noncomputable def r14_2 : Code := Code.sub [1, 0, 1, 0, 0] c14
noncomputable def r14_3 : Code := Code.sub [1, 1, 0, 0] c14
noncomputable def r14_4 : Code := Code.sub [1, 1, 0, 1, 0, 0, 0, 0] c14
noncomputable def r14_5 : Code := Code.sub [1, 1, 0, 1, 0, 0, 1, 0, 0, 0] c14
noncomputable def r14_6 : Code := Code.sub [1, 1, 0, 1, 0, 0, 1, 0, 0, 1, 0, 0] c14
noncomputable def r14_7 : Code := Code.sub [1, 1, 0, 1, 0, 0, 1, 1] c14
noncomputable def r14_8 : Code := Code.sub [1, 1, 1, 0] c14
theorem body14 : c14 = (.seq r14_0 (.seq (.seq r14_1 (.cond (.tmp 10) (.seq r14_2 .ret) .skip)) (.seq (.seq r14_3 (.block 0 (.loop (.seq (.seq r14_4 (.cond (.tmp 14) .skip (.exit 0))) (.seq (.block 1 (.seq r14_5 (.cond (.tmp 25) (.seq r14_6 .ret) .skip))) r14_7))))) (.seq r14_8 .ret)))) := by kernel_rfl
noncomputable def L14_0 : Lt r14_0 := by refine ⟨?l, ?h⟩; case h => simp only [r14_0, c14, bodyOf, Tryd.f14, Code.sub, opsOf, List.map_cons, List.map_nil, strip]; rfl
theorem w14_0 : Wp r14_0 6 [10, 14, 25] [4] [] [] [some 4] (L14_0).1 := w_plain (by kernel_rfl) (L14_0).2
noncomputable def L14_1 : Lt r14_1 := by refine ⟨?l, ?h⟩; case h => simp only [r14_1, c14, bodyOf, Tryd.f14, Code.sub, opsOf, List.map_cons, List.map_nil, strip]; rfl
theorem w14_1 : Wp r14_1 6 [10, 14, 25] [] [10] [0, 1] [some 6, some 7, some 8, some 9, some 10] (L14_1).1 := w_plain (by kernel_rfl) (L14_1).2
noncomputable def L14_2 : Lt r14_2 := by refine ⟨?l, ?h⟩; case h => simp only [r14_2, c14, bodyOf, Tryd.f14, Code.sub, opsOf, List.map_cons, List.map_nil, strip]; rfl
theorem w14_2 : Wp r14_2 6 [10, 14, 25] [4] [] [] [some 4] (L14_2).1 := w_plain (by kernel_rfl) (L14_2).2
noncomputable def L14_3 : Lt r14_3 := by refine ⟨?l, ?h⟩; case h => simp only [r14_3, c14, bodyOf, Tryd.f14, Code.sub, opsOf, List.map_cons, List.map_nil, strip]; rfl
theorem w14_3 : Wp r14_3 6 [10, 14, 25] [5] [] [] [some 5] (L14_3).1 := w_plain (by kernel_rfl) (L14_3).2
noncomputable def L14_4 : Lt r14_4 := by refine ⟨?l, ?h⟩; case h => simp only [r14_4, c14, bodyOf, Tryd.f14, Code.sub, opsOf, List.map_cons, List.map_nil, strip]; rfl
theorem w14_4 : Wp r14_4 6 [10, 14, 25] [] [14] [5, 0] [some 11, some 12, some 13, some 14] (L14_4).1 := w_plain (by kernel_rfl) (L14_4).2
noncomputable def L14_5 : Lt r14_5 := by refine ⟨?l, ?h⟩; case h => simp only [r14_5, c14, bodyOf, Tryd.f14, Code.sub, opsOf, List.map_cons, List.map_nil, strip]; rfl
theorem w14_5 : Wp r14_5 6 [10, 14, 25] [] [25] [0, 1, 5] [some 17, some 18, some 19, some 20, some 21, some 22, some 23, some 24, some 25] (L14_5).1 := w_plain (by kernel_rfl) (L14_5).2
noncomputable def L14_6 : Lt r14_6 := by refine ⟨?l, ?h⟩; case h => simp only [r14_6, c14, bodyOf, Tryd.f14, Code.sub, opsOf, List.map_cons, List.map_nil, strip]; rfl
theorem w14_6 : Wp r14_6 6 [10, 14, 25] [4] [] [] [some 4] (L14_6).1 := w_plain (by kernel_rfl) (L14_6).2
noncomputable def L14_7 : Lt r14_7 := by refine ⟨?l, ?h⟩; case h => simp only [r14_7, c14, bodyOf, Tryd.f14, Code.sub, opsOf, List.map_cons, List.map_nil, strip]; rfl
theorem w14_7 : Wp r14_7 6 [10, 14, 25] [5] [] [5] [some 15, some 16, some 5] (L14_7).1 := w_plain (by kernel_rfl) (L14_7).2
noncomputable def L14_8 : Lt r14_8 := by refine ⟨?l, ?h⟩; case h => simp only [r14_8, c14, bodyOf, Tryd.f14, Code.sub, opsOf, List.map_cons, List.map_nil, strip]; rfl
theorem w14_8 : Wp r14_8 6 [10, 14, 25] [4] [] [] [some 4] (L14_8).1 := w_plain (by kernel_rfl) (L14_8).2
theorem k14 : FnIs TT 14 c14 [.tmp 4] 2 := ⟨Tryd.f14, by kernel_rfl, by simp only [Tryd.f14, c14, bodyOf], by kernel_rfl, of_decide_eq_true (by kernel_rfl)⟩
noncomputable def c15 : Code := bodyOf Tryd.f15
noncomputable def r15_0 : Code := Code.sub [0] c15
noncomputable def r15_1 : Code := Code.sub [1, 0] c15
theorem body15 : c15 = (.seq r15_0 (.seq r15_1 .ret)) := by kernel_rfl
noncomputable def L15_0 : Lt r15_0 := by refine ⟨?l, ?h⟩; case h => simp only [r15_0, c15, bodyOf, Tryd.f15, Code.sub, opsOf, List.map_cons, List.map_nil, strip]; rfl
theorem w15_0 : Wp r15_0 3 [] [2] [] [] [some 2] (L15_0).1 := w_plain (by kernel_rfl) (L15_0).2
noncomputable def L15_1 : Lt r15_1 := by refine ⟨?l, ?h⟩; case h => simp only [r15_1, c15, bodyOf, Tryd.f15, Code.sub, opsOf, List.map_cons, List.map_nil, strip]; rfl
theorem w15_1 : Wp r15_1 3 [] [2] [] [0] [some 3, some 4, some 5, some 6, some 7, some 8, some 2] (L15_1).1 := w_plain (by kernel_rfl) (L15_1).2
theorem k15 : FnIs TT 15 c15 [.tmp 2] 1 := ⟨Tryd.f15, by kernel_rfl, by simp only [Tryd.f15, c15, bodyOf], by kernel_rfl, of_decide_eq_true (by kernel_rfl)⟩
noncomputable def c16 : Code := bodyOf Tryd.f16
noncomputable def r16_0 : Code := Code.sub [0] c16
noncomputable def r16_1 : Code := Code.sub [1, 0, 0] c16
noncomputable def r16_2 : Code := Code.sub [1, 0, 1, 0, 0] c16
noncomputable def r16_3 : Code := Code.sub [1, 1, 0] c16
theorem body16 : c16 = (.seq r16_0 (.seq (.seq r16_1 (.cond (.tmp 9) (.seq r16_2 .ret) .skip)) (.seq r16_3 .ret))) := by kernel_rfl
noncomputable def L16_0 : Lt r16_0 := by refine ⟨?l, ?h⟩; case h => simp only [r16_0, c16, bodyOf, Tryd.f16, Code.sub, opsOf, List.map_cons, List.map_nil, strip]; rfl
theorem w16_0 : Wp r16_0 4 [9] [2, 3] [] [] [some 2, some 3] (L16_0).1 := w_plain (by kernel_rfl) (L16_0).2
noncomputable def L16_1 : Lt r16_1 := by refine ⟨?l, ?h⟩; case h => simp only [r16_1, c16, bodyOf, Tryd.f16, Code.sub, opsOf, List.map_cons, List.map_nil, strip]; rfl
theorem w16_1 : Wp r16_1 4 [9] [] [9] [0] [some 4, some 5, some 6, some 7, some 8, some 9] (L16_1).1 := w_plain (by kernel_rfl) (L16_1).2
noncomputable def L16_2 : Lt r16_2 := by refine ⟨?l, ?h⟩; case h => simp only [r16_2, c16, bodyOf, Tryd.f16, Code.sub, opsOf, List.map_cons, List.map_nil, strip]; rfl
theorem w16_2 : Wp r16_2 4 [9] [2, 3] [] [] [some 2, some 3] (L16_2).1 := w_plain (by kernel_rfl) (L16_2).2
noncomputable def L16_3 : Lt r16_3 := by refine ⟨?l, ?h⟩; case h => simp only [r16_3, c16, bodyOf, Tryd.f16, Code.sub, opsOf, List.map_cons, List.map_nil, strip]; rfl
theorem w16_3 : Wp r16_3 4 [9] [2, 3] [] [0] [some 10, some 11, some 12, some 13, some 2, some 3] (L16_3).1 := w_plain (by kernel_rfl) (L16_3).2
theorem k16 : FnIs TT 16 c16 [.tmp 2, .tmp 3] 1 := ⟨Tryd.f16, by kernel_rfl, by simp only [Tryd.f16, c16, bodyOf], by kernel_rfl, of_decide_eq_true (by kernel_rfl)⟩
noncomputable def c19 : Code := bodyOf Tryd.f19
noncomputable def r19_0 : Code := Code.sub [0] c19
noncomputable def r19_1 : Code := Code.sub [1, 0, 0] c19
noncomputable def r19_2 : Code := Code.sub [1, 0, 1, 0, 0] c19
noncomputable def r19_3 : Code := Code.sub [1, 1, 0] c19
theorem body19 : c19 = (.seq r19_0 (.seq (.seq r19_1 (.cond (.tmp 8) (.seq r19_2 .ret) .skip)) (.seq r19_3 .ret))) := by kernel_rfl
noncomputable def L19_0 : Lt r19_0 := by refine ⟨?l, ?h⟩; case h => simp only [r19_0, c19, bodyOf, Tryd.f19, Code.sub, opsOf, List.map_cons, List.map_nil, strip]; rfl
theorem w19_0 : Wp r19_0 3 [8] [2] [] [] [some 2] (L19_0).1 := w_plain (by kernel_rfl) (L19_0).2
noncomputable def L19_1 : Lt r19_1 := by refine ⟨?l, ?h⟩; case h => simp only [r19_1, c19, bodyOf, Tryd.f19, Code.sub, opsOf, List.map_cons, List.map_nil, strip]; rfl
theorem w19_1 : Wp r19_1 3 [8] [] [8] [0] [some 3, some 4, some 5, some 6, some 7, some 8] (L19_1).1 := w_plain (by kernel_rfl) (L19_1).2
noncomputable def L19_2 : Lt r19_2 := by refine ⟨?l, ?h⟩; case h => simp only [r19_2, c19, bodyOf, Tryd.f19, Code.sub, opsOf, List.map_cons, List.map_nil, strip]; rfl
theorem w19_2 : Wp r19_2 3 [8] [2] [] [] [some 2] (L19_2).1 := w_plain (by kernel_rfl) (L19_2).2
noncomputable def L19_3 : Lt r19_3 := by refine ⟨?l, ?h⟩; case h => simp only [r19_3, c19, bodyOf, Tryd.f19, Code.sub, opsOf, List.map_cons, List.map_nil, strip]; rfl
theorem w19_3 : Wp r19_3 3 [8] [2] [] [0] [some 9, some 10, some 11, some 12, some 13, some 2] (L19_3).1 := w_plain (by kernel_rfl) (L19_3).2
theorem k19 : FnIs TT 19 c19 [.tmp 2] 1 := ⟨Tryd.f19, by kernel_rfl, by simp only [Tryd.f19, c19, bodyOf], by kernel_rfl, of_decide_eq_true (by kernel_rfl)⟩
noncomputable def c25 : Code := bodyOf Tryd.f25
noncomputable def r25_0 : Code := Code.sub [0] c25
noncomputable def r25_1 : Code := Code.sub [1, 0, 0] c25
noncomputable def r25_2 : Code := Code.sub [1, 0, 1, 0, 0] c25
noncomputable def r25_3 : Code := Code.sub [1, 1, 0] c25
noncomputable def r25_4 : Code := Code.sub [1, 1, 1, 0] c25
noncomputable def r25_5 : Code := Code.sub [1, 1, 1, 1, 0, 0] c25
noncomputable def r25_6 : Code := Code.sub [1, 1, 1, 1, 0, 1, 0, 0, 0, 0] c25
noncomputable def r25_7 : Code := Code.sub [1, 1, 1, 1, 0, 1, 0, 0, 1, 0, 0, 0] c25
noncomputable def r25_8 : Code := Code.sub [1, 1, 1, 1, 0, 1, 0, 0, 1, 0, 0, 1, 0, 0] c25
noncomputable def r25_9 : Code := Code.sub [1, 1, 1, 1, 0, 1, 0, 0, 1, 1] c25
noncomputable def r25_10 : Code := Code.sub [1, 1, 1, 1, 1, 0, 0] c25
noncomputable def r25_11 : Code := Code.sub [1, 1, 1, 1, 1, 0, 1, 0, 0] c25
noncomputable def r25_12 : Code := Code.sub [1, 1, 1, 1, 1, 1, 0, 0] c25
noncomputable def r25_13 : Code := Code.sub [1, 1, 1, 1, 1, 1, 0, 1, 0, 0, 0] c25
noncomputable def r25_14 : Code := Code.sub [1, 1, 1, 1, 1, 1, 0, 1, 0, 0, 1, 1] c25
noncomputable def r25_15 : Code := Code.sub [1, 1, 1, 1, 1, 1, 0, 1, 0, 1, 0, 0] c25
noncomputable def r25_16 : Code := Code.sub [1, 1, 1, 1, 1, 1, 0, 1, 0, 1, 1, 0, 0] c25
noncomputable def r25_17 : Code := Code.sub [1, 1, 1, 1, 1, 1, 0, 1, 0, 1, 1, 0, 1, 1] c25
noncomputable def r25_18 : Code := Code.sub [1, 1, 1, 1, 1, 1, 0, 1, 0, 1, 1, 1, 0, 0] c25
noncomputable def r25_19 : Code := Code.sub [1, 1, 1, 1, 1, 1, 0, 1, 0, 1, 1, 1, 1, 0, 0] c25
noncomputable def r25_20 : Code := Code.sub [1, 1, 1, 1, 1, 1, 0, 1, 0, 1, 1, 1, 1, 0, 1, 1, 0] c25
noncomputable def r25_21 : Code := Code.sub [1, 1, 1, 1, 1, 1, 0, 1, 0, 1, 1, 1, 1, 0, 1, 1, 1, 1] c25
noncomputable def r25_22 : Code := Code.sub [1, 1, 1, 1, 1, 1, 0, 1, 0, 1, 1, 1, 1, 1, 0, 0] c25
noncomputable def r25_23 : Code := Code.sub [1, 1, 1, 1, 1, 1, 1, 0] c25
theorem body25 : c25 = (.seq r25_0 (.seq (.seq r25_1 (.cond (.tmp 16) (.seq r25_2 .ret) .skip)) (.seq r25_3 (.seq r25_4 (.seq (.seq r25_5 (.block 0 (.loop (.seq (.seq r25_6 (.cond (.tmp 31) .skip (.exit 0))) (.seq (.block 1 (.seq r25_7 (.cond (.tmp 59) (.seq r25_8 .ret) .skip))) r25_9))))) (.seq (.seq r25_10 (.cond (.tmp 61) (.seq r25_11 .ret) .skip)) (.seq (.seq r25_12 (.block 2 (.seq (.seq r25_13 (.cond (.tmp 67) .skip r25_14)) (.cond (.tmp 67) (.seq r25_15 .ret) (.seq (.seq r25_16 (.cond (.tmp 78) .skip r25_17)) (.cond (.tmp 78) (.seq r25_18 .ret) (.seq (.seq r25_19 (.cond (.tmp 90) .skip (.seq r25_20 (.cond (.tmp 90) .skip r25_21)))) (.cond (.tmp 90) (.seq r25_22 .ret) .skip)))))))) (.seq r25_23 .ret)))))))) := by kernel_rfl
noncomputable def L25_0 : Lt r25_0 := by refine ⟨?l, ?h⟩; case h => simp only [r25_0, c25, bodyOf, Tryd.f25, Code.sub, opsOf, List.map_cons, List.map_nil, strip]; rfl
theorem w25_0 : Wp r25_0 67 [67, 67, 78, 78, 90, 90, 90] [2, 4] [] [0] [some 2, some 4] (L25_0).1 := w_plain (by kernel_rfl) (L25_0).2
noncomputable def L25_1 : Lt r25_1 := by refine ⟨?l, ?h⟩; case h => simp only [r25_1, c25, bodyOf, Tryd.f25, Code.sub, opsOf, List.map_cons, List.map_nil, strip]; rfl
theorem w25_1 : Wp r25_1 67 [67, 67, 78, 78, 90, 90, 90] [9, 10, 11, 12, 13, 14, 15, 16] [] [2] [some 9, some 10, some 11, some 12, some 13, some 14, some 15, some 16] (L25_1).1 := w_plain (by kernel_rfl) (L25_1).2
noncomputable def L25_2 : Lt r25_2 := by refine ⟨?l, ?h⟩; case h => simp only [r25_2, c25, bodyOf, Tryd.f25, Code.sub, opsOf, List.map_cons, List.map_nil, strip]; rfl
theorem w25_2 : Wp r25_2 67 [67, 67, 78, 78, 90, 90, 90] [4] [] [] [some 4] (L25_2).1 := w_plain (by kernel_rfl) (L25_2).2
noncomputable def L25_3 : Lt r25_3 := by refine ⟨?l, ?h⟩; case h => simp only [r25_3, c25, bodyOf, Tryd.f25, Code.sub, opsOf, List.map_cons, List.map_nil, strip]; rfl
theorem w25_3 : Wp r25_3 67 [67, 67, 78, 78, 90, 90, 90] [18, 19, 20, 17, 21, 22, 5, 6] [] [2] [some 18, some 19, some 20, some 17, some 21, some 22, some 5, some 6] (L25_3).1 := w_plain (by kernel_rfl) (L25_3).2
noncomputable def L25_4 : Lt r25_4 := by refine ⟨?l, ?h⟩; case h => simp only [r25_4, c25, bodyOf, Tryd.f25, Code.sub, opsOf, List.map_cons, List.map_nil, strip]; rfl
theorem w25_4 : Wp r25_4 67 [67, 67, 78, 78, 90, 90, 90] [23, 24, 25, 26, 27, 28, 29, 7] [] [2] [some 23, some 24, some 25, some 26, some 27, some 28, some 29, some 7, none] (L25_4).1 := w_plain (by kernel_rfl) (L25_4).2
noncomputable def L25_5 : Lt r25_5 := by refine ⟨?l, ?h⟩; case h => simp only [r25_5, c25, bodyOf, Tryd.f25, Code.sub, opsOf, List.map_cons, List.map_nil, strip]; rfl
theorem w25_5 : Wp r25_5 67 [67, 67, 78, 78, 90, 90, 90] [8] [] [] [some 8] (L25_5).1 := w_plain (by kernel_rfl) (L25_5).2
noncomputable def L25_6 : Lt r25_6 := by refine ⟨?l, ?h⟩; case h => simp only [r25_6, c25, bodyOf, Tryd.f25, Code.sub, opsOf, List.map_cons, List.map_nil, strip]; rfl
theorem w25_6 : Wp r25_6 67 [67, 67, 78, 78, 90, 90, 90] [30, 31] [] [8] [some 30, some 31] (L25_6).1 := w_plain (by kernel_rfl) (L25_6).2
noncomputable def L25_7 : Lt r25_7 := by refine ⟨?l, ?h⟩; case h => simp only [r25_7, c25, bodyOf, Tryd.f25, Code.sub, opsOf, List.map_cons, List.map_nil, strip]; rfl
theorem w25_7 : Wp r25_7 67 [67, 67, 78, 78, 90, 90, 90] [34, 35, 36, 37, 38, 39, 40, 41, 42, 43, 44, 45, 46, 47, 48, 49, 50, 51, 52, 53, 54, 55, 56, 57, 58, 59] [] [5, 8, 7] [some 34, some 35, some 36, some 37, some 38, some 39, some 40, some 41, some 42, some 43, some 44, some 45, some 46, some 47, some 48, some 49, some 50, some 51, some 52, some 53, some 54, some 55, some 56, some 57, some 58, some 59] (L25_7).1 := w_plain (by kernel_rfl) (L25_7).2
noncomputable def L25_8 : Lt r25_8 := by refine ⟨?l, ?h⟩; case h => simp only [r25_8, c25, bodyOf, Tryd.f25, Code.sub, opsOf, List.map_cons, List.map_nil, strip]; rfl
theorem w25_8 : Wp r25_8 67 [67, 67, 78, 78, 90, 90, 90] [4] [] [] [some 4] (L25_8).1 := w_plain (by kernel_rfl) (L25_8).2
noncomputable def L25_9 : Lt r25_9 := by refine ⟨?l, ?h⟩; case h => simp only [r25_9, c25, bodyOf, Tryd.f25, Code.sub, opsOf, List.map_cons, List.map_nil, strip]; rfl
theorem w25_9 : Wp r25_9 67 [67, 67, 78, 78, 90, 90, 90] [32, 33, 8] [] [8] [some 32, some 33, some 8] (L25_9).1 := w_plain (by kernel_rfl) (L25_9).2
noncomputable def L25_10 : Lt r25_10 := by refine ⟨?l, ?h⟩; case h => simp only [r25_10, c25, bodyOf, Tryd.f25, Code.sub, opsOf, List.map_cons, List.map_nil, strip]; rfl
theorem w25_10 : Wp r25_10 67 [67, 67, 78, 78, 90, 90, 90] [60, 61] [] [6] [some 60, some 61] (L25_10).1 := w_plain (by kernel_rfl) (L25_10).2
noncomputable def L25_11 : Lt r25_11 := by refine ⟨?l, ?h⟩; case h => simp only [r25_11, c25, bodyOf, Tryd.f25, Code.sub, opsOf, List.map_cons, List.map_nil, strip]; rfl
theorem w25_11 : Wp r25_11 67 [67, 67, 78, 78, 90, 90, 90] [62, 63, 64, 4] [] [2] [some 62, some 63, some 64, some 4] (L25_11).1 := w_plain (by kernel_rfl) (L25_11).2
noncomputable def L25_12 : Lt r25_12 := by refine ⟨?l, ?h⟩; case h => simp only [r25_12, c25, bodyOf, Tryd.f25, Code.sub, opsOf, List.map_cons, List.map_nil, strip]; rfl
theorem w25_12 : Wp r25_12 67 [67, 67, 78, 78, 90, 90, 90] [65, 66] [] [2] [some 65, some 66] (L25_12).1 := w_plain (by kernel_rfl) (L25_12).2
noncomputable def L25_13 : Lt r25_13 := by refine ⟨?l, ?h⟩; case h => simp only [r25_13, c25, bodyOf, Tryd.f25, Code.sub, opsOf, List.map_cons, List.map_nil, strip]; rfl
theorem w25_13 : Wp r25_13 67 [67, 67, 78, 78, 90, 90, 90] [] [67] [66] [some 68, some 67] (L25_13).1 := w_plain (by kernel_rfl) (L25_13).2
noncomputable def L25_14 : Lt r25_14 := by refine ⟨?l, ?h⟩; case h => simp only [r25_14, c25, bodyOf, Tryd.f25, Code.sub, opsOf, List.map_cons, List.map_nil, strip]; rfl
theorem w25_14 : Wp r25_14 67 [67, 67, 78, 78, 90, 90, 90] [] [67] [66] [some 69, some 67] (L25_14).1 := w_plain (by kernel_rfl) (L25_14).2
noncomputable def L25_15 : Lt r25_15 := by refine ⟨?l, ?h⟩; case h => simp only [r25_15, c25, bodyOf, Tryd.f25, Code.sub, opsOf, List.map_cons, List.map_nil, strip]; rfl
theorem w25_15 : Wp r25_15 67 [67, 67, 78, 78, 90, 90, 90] [4] [] [2] [some 70, some 71, some 72, some 73, some 74, some 75, some 76, some 77, some 4] (L25_15).1 := w_plain (by kernel_rfl) (L25_15).2
noncomputable def L25_16 : Lt r25_16 := by refine ⟨?l, ?h⟩; case h => simp only [r25_16, c25, bodyOf, Tryd.f25, Code.sub, opsOf, List.map_cons, List.map_nil, strip]; rfl
theorem w25_16 : Wp r25_16 67 [67, 67, 78, 78, 90, 90, 90] [] [78] [66] [some 79, some 78] (L25_16).1 := w_plain (by kernel_rfl) (L25_16).2
noncomputable def L25_17 : Lt r25_17 := by refine ⟨?l, ?h⟩; case h => simp only [r25_17, c25, bodyOf, Tryd.f25, Code.sub, opsOf, List.map_cons, List.map_nil, strip]; rfl
theorem w25_17 : Wp r25_17 67 [67, 67, 78, 78, 90, 90, 90] [] [78] [66] [some 80, some 78] (L25_17).1 := w_plain (by kernel_rfl) (L25_17).2
noncomputable def L25_18 : Lt r25_18 := by refine ⟨?l, ?h⟩; case h => simp only [r25_18, c25, bodyOf, Tryd.f25, Code.sub, opsOf, List.map_cons, List.map_nil, strip]; rfl
theorem w25_18 : Wp r25_18 67 [67, 67, 78, 78, 90, 90, 90] [4] [] [2, 1] [some 81, some 82, some 83, some 84, some 85, some 86, some 87, some 88, some 89, some 4] (L25_18).1 := w_plain (by kernel_rfl) (L25_18).2
noncomputable def L25_19 : Lt r25_19 := by refine ⟨?l, ?h⟩; case h => simp only [r25_19, c25, bodyOf, Tryd.f25, Code.sub, opsOf, List.map_cons, List.map_nil, strip]; rfl
theorem w25_19 : Wp r25_19 67 [67, 67, 78, 78, 90, 90, 90] [] [90] [66] [some 91, some 90] (L25_19).1 := w_plain (by kernel_rfl) (L25_19).2
noncomputable def L25_20 : Lt r25_20 := by refine ⟨?l, ?h⟩; case h => simp only [r25_20, c25, bodyOf, Tryd.f25, Code.sub, opsOf, List.map_cons, List.map_nil, strip]; rfl
theorem w25_20 : Wp r25_20 67 [67, 67, 78, 78, 90, 90, 90] [] [90] [66] [some 92, some 90] (L25_20).1 := w_plain (by kernel_rfl) (L25_20).2
noncomputable def L25_21 : Lt r25_21 := by refine ⟨?l, ?h⟩; case h => simp only [r25_21, c25, bodyOf, Tryd.f25, Code.sub, opsOf, List.map_cons, List.map_nil, strip]; rfl
theorem w25_21 : Wp r25_21 67 [67, 67, 78, 78, 90, 90, 90] [] [90] [66] [some 93, some 90] (L25_21).1 := w_plain (by kernel_rfl) (L25_21).2
noncomputable def L25_22 : Lt r25_22 := by refine ⟨?l, ?h⟩; case h => simp only [r25_22, c25, bodyOf, Tryd.f25, Code.sub, opsOf, List.map_cons, List.map_nil, strip]; rfl
theorem w25_22 : Wp r25_22 67 [67, 67, 78, 78, 90, 90, 90] [4] [] [2] [some 94, some 95, some 96, some 97, some 98, some 99, some 100, some 101, some 4] (L25_22).1 := w_plain (by kernel_rfl) (L25_22).2
noncomputable def L25_23 : Lt r25_23 := by refine ⟨?l, ?h⟩; case h => simp only [r25_23, c25, bodyOf, Tryd.f25, Code.sub, opsOf, List.map_cons, List.map_nil, strip]; rfl
theorem w25_23 : Wp r25_23 67 [67, 67, 78, 78, 90, 90, 90] [4] [] [] [some 4] (L25_23).1 := w_plain (by kernel_rfl) (L25_23).2
theorem k25 : FnIs TT 25 c25 [.tmp 4] 2 := ⟨Tryd.f25, by kernel_rfl, by simp only [Tryd.f25, c25, bodyOf], by kernel_rfl, of_decide_eq_true (by kernel_rfl)⟩
noncomputable def c26 : Code := bodyOf Tryd.f26
noncomputable def r26_0 : Code := Code.sub [0] c26
noncomputable def r26_1 : Code := Code.sub [1, 0] c26
theorem body26 : c26 = (.seq r26_0 (.seq r26_1 .ret)) := by kernel_rfl
noncomputable def L26_0 : Lt r26_0 := by refine ⟨?l, ?h⟩; case h => simp only [r26_0, c26, bodyOf, Tryd.f26, Code.sub, opsOf, List.map_cons, List.map_nil, strip]; rfl
theorem w26_0 : Wp r26_0 3 [] [2] [] [] [some 2] (L26_0).1 := w_plain (by kernel_rfl) (L26_0).2
noncomputable def L26_1 : Lt r26_1 := by refine ⟨?l, ?h⟩; case h => simp only [r26_1, c26, bodyOf, Tryd.f26, Code.sub, opsOf, List.map_cons, List.map_nil, strip]; rfl
theorem w26_1 : Wp r26_1 3 [] [2] [] [0] [some 3, some 4, some 5, some 6, some 2] (L26_1).1 := w_plain (by kernel_rfl) (L26_1).2
theorem k26 : FnIs TT 26 c26 [.tmp 2] 1 := ⟨Tryd.f26, by kernel_rfl, by simp only [Tryd.f26, c26, bodyOf], by kernel_rfl, of_decide_eq_true (by kernel_rfl)⟩
noncomputable def c27 : Code := bodyOf Tryd.f27
noncomputable def r27_0 : Code := Code.sub [0] c27
noncomputable def r27_1 : Code := Code.sub [1, 0, 0] c27
noncomputable def r27_2 : Code := Code.sub [1, 0, 1, 0, 0] c27
noncomputable def r27_3 : Code := Code.sub [1, 1, 0] c27
noncomputable def r27_4 : Code := Code.sub [1, 1, 1, 0] c27
noncomputable def r27_5 : Code := Code.sub [1, 1, 1, 1, 0, 0] c27
noncomputable def r27_6 : Code := Code.sub [1, 1, 1, 1, 0, 1, 0, 0, 0, 0] c27
noncomputable def r27_7 : Code := Code.sub [1, 1, 1, 1, 0, 1, 0, 0, 1, 0, 0] c27
noncomputable def r27_8 : Code := Code.sub [1, 1, 1, 1, 0, 1, 0, 0, 1, 1] c27
noncomputable def r27_9 : Code := Code.sub [1, 1, 1, 1, 1, 0] c27
theorem body27 : c27 = (.seq r27_0 (.seq (.seq r27_1 (.cond (.tmp 38) (.seq r27_2 .ret) .skip)) (.seq r27_3 (.seq r27_4 (.seq (.seq r27_5 (.block 0 (.loop (.seq (.seq r27_6 (.cond (.tmp 62) .skip (.exit 0))) (.seq (.block 1 r27_7) r27_8))))) (.seq r27_9 .ret)))))) := by kernel_rfl
noncomputable def L27_0 : Lt r27_0 := by refine ⟨?l, ?h⟩; case h => simp only [r27_0, c27, bodyOf, Tryd.f27, Code.sub, opsOf, List.map_cons, List.map_nil, strip]; rfl
theorem w27_0 : Wp r27_0 10 [38, 62] [6, 7] [] [] [some 6, some 7] (L27_0).1 := w_plain (by kernel_rfl) (L27_0).2
noncomputable def L27_1 : Lt r27_1 := by refine ⟨?l, ?h⟩; case h => simp only [r27_1, c27, bodyOf, Tryd.f27, Code.sub, opsOf, List.map_cons, List.map_nil, strip]; rfl
theorem w27_1 : Wp r27_1 10 [38, 62] [] [38] [1, 2, 0] [some 10, some 11, some 12, some 13, some 14, some 15, some 16, some 17, some 18, some 19, some 20, some 21, some 22, some 23, some 24, some 25, some 26, some 27, some 28, some 29, some 30, some 31, some 32, some 33, some 34, some 35, some 36, some 37, some 38] (L27_1).1 := w_plain (by kernel_rfl) (L27_1).2
noncomputable def L27_2 : Lt r27_2 := by refine ⟨?l, ?h⟩; case h => simp only [r27_2, c27, bodyOf, Tryd.f27, Code.sub, opsOf, List.map_cons, List.map_nil, strip]; rfl
theorem w27_2 : Wp r27_2 10 [38, 62] [6, 7] [] [] [some 6, some 7] (L27_2).1 := w_plain (by kernel_rfl) (L27_2).2
noncomputable def L27_3 : Lt r27_3 := by refine ⟨?l, ?h⟩; case h => simp only [r27_3, c27, bodyOf, Tryd.f27, Code.sub, opsOf, List.map_cons, List.map_nil, strip]; rfl
theorem w27_3 : Wp r27_3 10 [38, 62] [8] [] [0] [some 39, some 40, some 41, some 42, some 43, some 44, some 8] (L27_3).1 := w_plain (by kernel_rfl) (L27_3).2
noncomputable def L27_4 : Lt r27_4 := by refine ⟨?l, ?h⟩; case h => simp only [r27_4, c27, bodyOf, Tryd.f27, Code.sub, opsOf, List.map_cons, List.map_nil, strip]; rfl
theorem w27_4 : Wp r27_4 10 [38, 62] [] [] [0, 1, 2] [some 45, some 46, some 47, some 48, some 49, some 50, some 51, some 52, some 53, some 54, some 55, some 56, some 57, some 58, some 59, none] (L27_4).1 := w_plain (by kernel_rfl) (L27_4).2
noncomputable def L27_5 : Lt r27_5 := by refine ⟨?l, ?h⟩; case h => simp only [r27_5, c27, bodyOf, Tryd.f27, Code.sub, opsOf, List.map_cons, List.map_nil, strip]; rfl
theorem w27_5 : Wp r27_5 10 [38, 62] [9] [] [] [some 9] (L27_5).1 := w_plain (by kernel_rfl) (L27_5).2
noncomputable def L27_6 : Lt r27_6 := by refine ⟨?l, ?h⟩; case h => simp only [r27_6, c27, bodyOf, Tryd.f27, Code.sub, opsOf, List.map_cons, List.map_nil, strip]; rfl
theorem w27_6 : Wp r27_6 10 [38, 62] [] [62] [9, 2] [some 60, some 61, some 62] (L27_6).1 := w_plain (by kernel_rfl) (L27_6).2
noncomputable def L27_7 : Lt r27_7 := by refine ⟨?l, ?h⟩; case h => simp only [r27_7, c27, bodyOf, Tryd.f27, Code.sub, opsOf, List.map_cons, List.map_nil, strip]; rfl
theorem w27_7 : Wp r27_7 10 [38, 62] [] [] [0] [some 65, some 66, some 67, some 68, some 69, some 70, some 71, some 72, some 73, none] (L27_7).1 := w_plain (by kernel_rfl) (L27_7).2
noncomputable def L27_8 : Lt r27_8 := by refine ⟨?l, ?h⟩; case h => simp only [r27_8, c27, bodyOf, Tryd.f27, Code.sub, opsOf, List.map_cons, List.map_nil, strip]; rfl
theorem w27_8 : Wp r27_8 10 [38, 62] [9] [] [9] [some 63, some 64, some 9] (L27_8).1 := w_plain (by kernel_rfl) (L27_8).2
noncomputable def L27_9 : Lt r27_9 := by refine ⟨?l, ?h⟩; case h => simp only [r27_9, c27, bodyOf, Tryd.f27, Code.sub, opsOf, List.map_cons, List.map_nil, strip]; rfl
theorem w27_9 : Wp r27_9 10 [38, 62] [6, 7] [] [8] [some 74, some 6, some 7] (L27_9).1 := w_plain (by kernel_rfl) (L27_9).2
theorem k27 : FnIs TT 27 c27 [.tmp 6, .tmp 7] 3 := ⟨Tryd.f27, by kernel_rfl, by simp only [Tryd.f27, c27, bodyOf], by kernel_rfl, of_decide_eq_true (by kernel_rfl)⟩
noncomputable def c28 : Code := bodyOf Tryd.f28
noncomputable def r28_0 : Code := Code.sub [0] c28
noncomputable def r28_1 : Code := Code.sub [1, 0, 0] c28
noncomputable def r28_2 : Code := Code.sub [1, 0, 1, 0, 0] c28
noncomputable def r28_3 : Code := Code.sub [1, 1, 0] c28
theorem body28 : c28 = (.seq r28_0 (.seq (.seq r28_1 (.cond (.tmp 21) (.seq r28_2 .ret) .skip)) (.seq r28_3 .ret))) := by kernel_rfl
noncomputable def L28_0 : Lt r28_0 := by refine ⟨?l, ?h⟩; case h => simp only [r28_0, c28, bodyOf, Tryd.f28, Code.sub, opsOf, List.map_cons, List.map_nil, strip]; rfl
theorem w28_0 : Wp r28_0 9 [21] [8] [] [] [some 8] (L28_0).1 := w_plain (by kernel_rfl) (L28_0).2
noncomputable def L28_1 : Lt r28_1 := by refine ⟨?l, ?h⟩; case h => simp only [r28_1, c28, bodyOf, Tryd.f28, Code.sub, opsOf, List.map_cons, List.map_nil, strip]; rfl
theorem w28_1 : Wp r28_1 9 [21] [] [21] [2, 0, 1] [some 9, some 10, some 11, some 12, some 13, some 14, some 15, some 16, some 17, some 18, some 19, some 20, some 21] (L28_1).1 := w_plain (by kernel_rfl) (L28_1).2
noncomputable def L28_2 : Lt r28_2 := by refine ⟨?l, ?h⟩; case h => simp only [r28_2, c28, bodyOf, Tryd.f28, Code.sub, opsOf, List.map_cons, List.map_nil, strip]; rfl
theorem w28_2 : Wp r28_2 9 [21] [8] [] [] [some 8] (L28_2).1 := w_plain (by kernel_rfl) (L28_2).2
noncomputable def L28_3 : Lt r28_3 := by refine ⟨?l, ?h⟩; case h => simp only [r28_3, c28, bodyOf, Tryd.f28, Code.sub, opsOf, List.map_cons, List.map_nil, strip]; rfl
theorem w28_3 : Wp r28_3 9 [21] [8] [] [0, 1, 2, 3] [some 22, some 23, some 24, some 25, some 26, some 27, some 28, some 29, some 8] (L28_3).1 := w_plain (by kernel_rfl) (L28_3).2
theorem k28 : FnIs TT 28 c28 [.tmp 8] 4 := ⟨Tryd.f28, by kernel_rfl, by simp only [Tryd.f28, c28, bodyOf], by kernel_rfl, of_decide_eq_true (by kernel_rfl)⟩
noncomputable def c29 : Code := bodyOf Tryd.f29
noncomputable def r29_0 : Code := Code.sub [0] c29
noncomputable def r29_1 : Code := Code.sub [1, 0, 0] c29
noncomputable def r29_2 : Code := Code.sub [1, 0, 1, 0, 0] c29
noncomputable def r29_3 : Code := Code.sub [1, 1, 0] c29
noncomputable def r29_4 : Code := Code.sub [1, 1, 1, 0] c29
noncomputable def r29_5 : Code := Code.sub [1, 1, 1, 1, 0] c29
noncomputable def r29_6 : Code := Code.sub [1, 1, 1, 1, 1, 0] c29
theorem body29 : c29 = (.seq r29_0 (.seq (.seq r29_1 (.cond (.tmp 36) (.seq r29_2 .ret) .skip)) (.seq r29_3 (.seq r29_4 (.seq r29_5 (.seq r29_6 .ret)))))) := by kernel_rfl
noncomputable def L29_0 : Lt r29_0 := by refine ⟨?l, ?h⟩; case h => simp only [r29_0, c29, bodyOf, Tryd.f29, Code.sub, opsOf, List.map_cons, List.map_nil, strip]; rfl
theorem w29_0 : Wp r29_0 9 [36] [6, 7] [] [] [some 6, some 7] (L29_0).1 := w_plain (by kernel_rfl) (L29_0).2
noncomputable def L29_1 : Lt r29_1 := by refine ⟨?l, ?h⟩; case h => simp only [r29_1, c29, bodyOf, Tryd.f29, Code.sub, opsOf, List.map_cons, List.map_nil, strip]; rfl
theorem w29_1 : Wp r29_1 9 [36] [] [36] [1, 2, 0] [some 9, some 10, some 11, some 12, some 13, some 14, some 15, some 16, some 17, some 18, some 19, some 20, some 21, some 22, some 23, some 24, some 25, some 26, some 27, some 28, some 29, some 30, some 31, some 32, some 33, some 34, some 35, some 36] (L29_1).1 := w_plain (by kernel_rfl) (L29_1).2
noncomputable def L29_2 : Lt r29_2 := by refine ⟨?l, ?h⟩; case h => simp only [r29_2, c29, bodyOf, Tryd.f29, Code.sub, opsOf, List.map_cons, List.map_nil, strip]; rfl
theorem w29_2 : Wp r29_2 9 [36] [6, 7] [] [] [some 6, some 7] (L29_2).1 := w_plain (by kernel_rfl) (L29_2).2
noncomputable def L29_3 : Lt r29_3 := by refine ⟨?l, ?h⟩; case h => simp only [r29_3, c29, bodyOf, Tryd.f29, Code.sub, opsOf, List.map_cons, List.map_nil, strip]; rfl
theorem w29_3 : Wp r29_3 9 [36] [8] [] [0] [some 37, some 38, some 39, some 40, some 41, some 42, some 8] (L29_3).1 := w_plain (by kernel_rfl) (L29_3).2
noncomputable def L29_4 : Lt r29_4 := by refine ⟨?l, ?h⟩; case h => simp only [r29_4, c29, bodyOf, Tryd.f29, Code.sub, opsOf, List.map_cons, List.map_nil, strip]; rfl
theorem w29_4 : Wp r29_4 9 [36] [] [] [0, 1, 2] [some 43, some 44, some 45, some 46, some 47, some 48, some 49, some 50, some 51, some 52, some 53, some 54, some 55, some 56, some 57, none] (L29_4).1 := w_plain (by kernel_rfl) (L29_4).2
noncomputable def L29_5 : Lt r29_5 := by refine ⟨?l, ?h⟩; case h => simp only [r29_5, c29, bodyOf, Tryd.f29, Code.sub, opsOf, List.map_cons, List.map_nil, strip]; rfl
theorem w29_5 : Wp r29_5 9 [36] [] [] [0, 2] [some 58, some 59, some 60, some 61, some 62, some 63, some 64, some 65, some 66, none] (L29_5).1 := w_plain (by kernel_rfl) (L29_5).2
noncomputable def L29_6 : Lt r29_6 := by refine ⟨?l, ?h⟩; case h => simp only [r29_6, c29, bodyOf, Tryd.f29, Code.sub, opsOf, List.map_cons, List.map_nil, strip]; rfl
theorem w29_6 : Wp r29_6 9 [36] [6, 7] [] [8] [some 67, some 6, some 7] (L29_6).1 := w_plain (by kernel_rfl) (L29_6).2
theorem k29 : FnIs TT 29 c29 [.tmp 6, .tmp 7] 3 := ⟨Tryd.f29, by kernel_rfl, by simp only [Tryd.f29, c29, bodyOf], by kernel_rfl, of_decide_eq_true (by kernel_rfl)⟩
noncomputable def c30 : Code := bodyOf Tryd.f30
noncomputable def r30_0 : Code := Code.sub [0] c30
noncomputable def r30_1 : Code := Code.sub [1, 0, 0] c30
noncomputable def r30_2 : Code := Code.sub [1, 0, 1, 0, 0] c30
noncomputable def r30_3 : Code := Code.sub [1, 1, 0] c30
noncomputable def r30_4 : Code := Code.sub [1, 1, 1, 0] c30
theorem body30 : c30 = (.seq r30_0 (.seq (.seq r30_1 (.cond (.tmp 18) (.seq r30_2 .ret) .skip)) (.seq r30_3 (.seq r30_4 .ret)))) := by kernel_rfl
noncomputable def L30_0 : Lt r30_0 := by refine ⟨?l, ?h⟩; case h => simp only [r30_0, c30, bodyOf, Tryd.f30, Code.sub, opsOf, List.map_cons, List.map_nil, strip]; rfl
theorem w30_0 : Wp r30_0 7 [18] [6] [] [] [some 6] (L30_0).1 := w_plain (by kernel_rfl) (L30_0).2
noncomputable def L30_1 : Lt r30_1 := by refine ⟨?l, ?h⟩; case h => simp only [r30_1, c30, bodyOf, Tryd.f30, Code.sub, opsOf, List.map_cons, List.map_nil, strip]; rfl
theorem w30_1 : Wp r30_1 7 [18] [] [18] [1, 0] [some 7, some 8, some 9, some 10, some 11, some 12, some 13, some 14, some 15, some 16, some 17, some 18] (L30_1).1 := w_plain (by kernel_rfl) (L30_1).2
noncomputable def L30_2 : Lt r30_2 := by refine ⟨?l, ?h⟩; case h => simp only [r30_2, c30, bodyOf, Tryd.f30, Code.sub, opsOf, List.map_cons, List.map_nil, strip]; rfl
theorem w30_2 : Wp r30_2 7 [18] [6] [] [] [some 6] (L30_2).1 := w_plain (by kernel_rfl) (L30_2).2
noncomputable def L30_3 : Lt r30_3 := by refine ⟨?l, ?h⟩; case h => simp only [r30_3, c30, bodyOf, Tryd.f30, Code.sub, opsOf, List.map_cons, List.map_nil, strip]; rfl
theorem w30_3 : Wp r30_3 7 [18] [] [] [0, 1, 2] [some 19, some 20, some 21, some 22, some 23, some 24, some 25, none] (L30_3).1 := w_plain (by kernel_rfl) (L30_3).2
noncomputable def L30_4 : Lt r30_4 := by refine ⟨?l, ?h⟩; case h => simp only [r30_4, c30, bodyOf, Tryd.f30, Code.sub, opsOf, List.map_cons, List.map_nil, strip]; rfl
theorem w30_4 : Wp r30_4 7 [18] [6] [] [] [some 6] (L30_4).1 := w_plain (by kernel_rfl) (L30_4).2
theorem k30 : FnIs TT 30 c30 [.tmp 6] 3 := ⟨Tryd.f30, by kernel_rfl, by simp only [Tryd.f30, c30, bodyOf], by kernel_rfl, of_decide_eq_true (by kernel_rfl)⟩
noncomputable def c32 : Code := bodyOf Tryd.f32
noncomputable def r32_0 : Code := Code.sub [0] c32
noncomputable def r32_1 : Code := Code.sub [1, 0, 0] c32
noncomputable def r32_2 : Code := Code.sub [1, 0, 1, 0, 0] c32
noncomputable def r32_3 : Code := Code.sub [1, 1, 0, 0] c32
noncomputable def r32_4 : Code := Code.sub [1, 1, 0, 1, 0, 0, 0] c32
noncomputable def r32_5 : Code := Code.sub [1, 1, 0, 1, 0, 0, 1, 1, 0, 0, 0] c32
noncomputable def r32_6 : Code := Code.sub [1, 1, 0, 1, 0, 0, 1, 1, 0, 0, 1, 0] c32
noncomputable def r32_7 : Code := Code.sub [1, 1, 0, 1, 0, 0, 1, 1, 0, 0, 1, 1, 0, 0] c32
noncomputable def r32_8 : Code := Code.sub [1, 1, 0, 1, 0, 0, 1, 1, 1] c32
noncomputable def r32_9 : Code := Code.sub [1, 1, 1, 0] c32
theorem body32 : c32 = (.seq r32_0 (.seq (.seq r32_1 (.cond (.tmp 19) (.seq r32_2 .ret) .skip)) (.seq (.seq r32_3 (.block 0 (.loop (.seq r32_4 (.seq (.cond (.tmp 29) .skip (.exit 0)) (.seq (.block 1 (.seq r32_5 (.seq r32_6 (.cond (.tmp 49) (.seq r32_7 .ret) .skip)))) r32_8)))))) (.seq r32_9 .ret)))) := by kernel_rfl
noncomputable def L32_0 : Lt r32_0 := by refine ⟨?l, ?h⟩; case h => simp only [r32_0, c32, bodyOf, Tryd.f32, Code.sub, opsOf, List.map_cons, List.map_nil, strip]; rfl
theorem w32_0 : Wp r32_0 29 [29, 49] [2, 4] [] [0] [some 2, some 4] (L32_0).1 := w_plain (by kernel_rfl) (L32_0).2
noncomputable def L32_1 : Lt r32_1 := by refine ⟨?l, ?h⟩; case h => simp only [r32_1, c32, bodyOf, Tryd.f32, Code.sub, opsOf, List.map_cons, List.map_nil, strip]; rfl
theorem w32_1 : Wp r32_1 29 [29, 49] [7, 8, 9, 10, 11, 12, 13, 14, 15, 16, 17, 18, 19] [] [2, 1] [some 7, some 8, some 9, some 10, some 11, some 12, some 13, some 14, some 15, some 16, some 17, some 18, some 19] (L32_1).1 := w_plain (by kernel_rfl) (L32_1).2
noncomputable def L32_2 : Lt r32_2 := by refine ⟨?l, ?h⟩; case h => simp only [r32_2, c32, bodyOf, Tryd.f32, Code.sub, opsOf, List.map_cons, List.map_nil, strip]; rfl
theorem w32_2 : Wp r32_2 29 [29, 49] [4] [] [] [some 4] (L32_2).1 := w_plain (by kernel_rfl) (L32_2).2
noncomputable def L32_3 : Lt r32_3 := by refine ⟨?l, ?h⟩; case h => simp only [r32_3, c32, bodyOf, Tryd.f32, Code.sub, opsOf, List.map_cons, List.map_nil, strip]; rfl
theorem w32_3 : Wp r32_3 29 [29, 49] [20, 21, 22, 23, 24, 25, 26, 27, 28] [] [2] [some 20, some 21, some 22, some 23, some 24, some 25, some 26, some 27, some 28] (L32_3).1 := w_plain (by kernel_rfl) (L32_3).2
noncomputable def L32_4 : Lt r32_4 := by refine ⟨?l, ?h⟩; case h => simp only [r32_4, c32, bodyOf, Tryd.f32, Code.sub, opsOf, List.map_cons, List.map_nil, strip]; rfl
theorem w32_4 : Wp r32_4 29 [29, 49] [] [29] [28, 27] [some 29] (L32_4).1 := w_plain (by kernel_rfl) (L32_4).2
noncomputable def L32_5 : Lt r32_5 := by refine ⟨?l, ?h⟩; case h => simp only [r32_5, c32, bodyOf, Tryd.f32, Code.sub, opsOf, List.map_cons, List.map_nil, strip]; rfl
theorem w32_5 : Wp r32_5 29 [29, 49] [5, 6] [] [26, 28] [some 30, some 31, some 32, some 5, some 6] (L32_5).1 := w_plain (by kernel_rfl) (L32_5).2
noncomputable def L32_6 : Lt r32_6 := by refine ⟨?l, ?h⟩; case h => simp only [r32_6, c32, bodyOf, Tryd.f32, Code.sub, opsOf, List.map_cons, List.map_nil, strip]; rfl
theorem w32_6 : Wp r32_6 29 [29, 49] [] [49] [5, 2, 6] [some 33, some 34, some 35, some 36, some 37, some 38, some 39, some 40, some 41, some 42, some 43, some 44, some 45, some 46, some 47, some 48, some 49] (L32_6).1 := w_plain (by kernel_rfl) (L32_6).2
noncomputable def L32_7 : Lt r32_7 := by refine ⟨?l, ?h⟩; case h => simp only [r32_7, c32, bodyOf, Tryd.f32, Code.sub, opsOf, List.map_cons, List.map_nil, strip]; rfl
theorem w32_7 : Wp r32_7 29 [29, 49] [4] [] [] [some 4] (L32_7).1 := w_plain (by kernel_rfl) (L32_7).2
noncomputable def L32_8 : Lt r32_8 := by refine ⟨?l, ?h⟩; case h => simp only [r32_8, c32, bodyOf, Tryd.f32, Code.sub, opsOf, List.map_cons, List.map_nil, strip]; rfl
theorem w32_8 : Wp r32_8 29 [29, 49] [28] [] [28] [some 50, some 28] (L32_8).1 := w_plain (by kernel_rfl) (L32_8).2
noncomputable def L32_9 : Lt r32_9 := by refine ⟨?l, ?h⟩; case h => simp only [r32_9, c32, bodyOf, Tryd.f32, Code.sub, opsOf, List.map_cons, List.map_nil, strip]; rfl
theorem w32_9 : Wp r32_9 29 [29, 49] [4] [] [] [some 4] (L32_9).1 := w_plain (by kernel_rfl) (L32_9).2
theorem k32 : FnIs TT 32 c32 [.tmp 4] 2 := ⟨Tryd.f32, by kernel_rfl, by simp only [Tryd.f32, c32, bodyOf], by kernel_rfl, of_decide_eq_true (by kernel_rfl)⟩
noncomputable def c33 : Code := bodyOf Tryd.f33
noncomputable def r33_0 : Code := Code.sub [0] c33
noncomputable def r33_1 : Code := Code.sub [1, 0] c33
noncomputable def r33_2 : Code := Code.sub [1, 1, 0] c33
noncomputable def r33_3 : Code := Code.sub [1, 1, 1, 0] c33
noncomputable def r33_4 : Code := Code.sub [1, 1, 1, 1, 0, 0] c33
noncomputable def r33_5 : Code := Code.sub [1, 1, 1, 1, 0, 1, 0] c33
noncomputable def r33_6 : Code := Code.sub [1, 1, 1, 1, 0, 1, 1, 0] c33
noncomputable def r33_7 : Code := Code.sub [1, 1, 1, 1, 0, 1, 1, 1, 0] c33
noncomputable def r33_8 : Code := Code.sub [1, 1, 1, 1, 0, 1, 1, 1, 1, 0] c33
noncomputable def r33_9 : Code := Code.sub [1, 1, 1, 1, 0, 1, 1, 1, 1, 1, 0] c33
noncomputable def r33_10 : Code := Code.sub [1, 1, 1, 1, 0, 1, 1, 1, 1, 1, 1, 0] c33
noncomputable def r33_11 : Code := Code.sub [1, 1, 1, 1, 0, 1, 1, 1, 1, 1, 1, 1, 0] c33
noncomputable def r33_12 : Code := Code.sub [1, 1, 1, 1, 0, 1, 1, 1, 1, 1, 1, 1, 1, 0, 0] c33
noncomputable def r33_13 : Code := Code.sub [1, 1, 1, 1, 0, 1, 1, 1, 1, 1, 1, 1, 1, 0, 1, 1] c33
noncomputable def r33_14 : Code := Code.sub [1, 1, 1, 1, 0, 1, 1, 1, 1, 1, 1, 1, 1, 1, 0] c33
noncomputable def r33_15 : Code := Code.sub [1, 1, 1, 1, 0, 1, 1, 1, 1, 1, 1, 1, 1, 1, 1, 0] c33
noncomputable def r33_16 : Code := Code.sub [1, 1, 1, 1, 0, 1, 1, 1, 1, 1, 1, 1, 1, 1, 1, 1, 0] c33
noncomputable def r33_17 : Code := Code.sub [1, 1, 1, 1, 0, 1, 1, 1, 1, 1, 1, 1, 1, 1, 1, 1, 1, 0] c33
noncomputable def r33_18 : Code := Code.sub [1, 1, 1, 1, 0, 1, 1, 1, 1, 1, 1, 1, 1, 1, 1, 1, 1, 1, 0] c33
noncomputable def r33_19 : Code := Code.sub [1, 1, 1, 1, 0, 1, 1, 1, 1, 1, 1, 1, 1, 1, 1, 1, 1, 1, 1, 0] c33
noncomputable def r33_20 : Code := Code.sub [1, 1, 1, 1, 0, 1, 1, 1, 1, 1, 1, 1, 1, 1, 1, 1, 1, 1, 1, 1, 0] c33
noncomputable def r33_21 : Code := Code.sub [1, 1, 1, 1, 0, 1, 1, 1, 1, 1, 1, 1, 1, 1, 1, 1, 1, 1, 1, 1, 1, 0] c33
noncomputable def r33_22 : Code := Code.sub [1, 1, 1, 1, 0, 1, 1, 1, 1, 1, 1, 1, 1, 1, 1, 1, 1, 1, 1, 1, 1, 1, 0] c33
noncomputable def r33_23 : Code := Code.sub [1, 1, 1, 1, 0, 1, 1, 1, 1, 1, 1, 1, 1, 1, 1, 1, 1, 1, 1, 1, 1, 1, 1, 0] c33
noncomputable def r33_24 : Code := Code.sub [1, 1, 1, 1, 0, 1, 1, 1, 1, 1, 1, 1, 1, 1, 1, 1, 1, 1, 1, 1, 1, 1, 1, 1, 0] c33
noncomputable def r33_25 : Code := Code.sub [1, 1, 1, 1, 0, 1, 1, 1, 1, 1, 1, 1, 1, 1, 1, 1, 1, 1, 1, 1, 1, 1, 1, 1, 1, 0] c33
noncomputable def r33_26 : Code := Code.sub [1, 1, 1, 1, 0, 1, 1, 1, 1, 1, 1, 1, 1, 1, 1, 1, 1, 1, 1, 1, 1, 1, 1, 1, 1, 1, 0] c33
noncomputable def r33_27 : Code := Code.sub [1, 1, 1, 1, 0, 1, 1, 1, 1, 1, 1, 1, 1, 1, 1, 1, 1, 1, 1, 1, 1, 1, 1, 1, 1, 1, 1, 0] c33
noncomputable def r33_28 : Code := Code.sub [1, 1, 1, 1, 0, 1, 1, 1, 1, 1, 1, 1, 1, 1, 1, 1, 1, 1, 1, 1, 1, 1, 1, 1, 1, 1, 1, 1, 0] c33
noncomputable def r33_29 : Code := Code.sub [1, 1, 1, 1, 0, 1, 1, 1, 1, 1, 1, 1, 1, 1, 1, 1, 1, 1, 1, 1, 1, 1, 1, 1, 1, 1, 1, 1, 1, 0] c33
noncomputable def r33_30 : Code := Code.sub [1, 1, 1, 1, 0, 1, 1, 1, 1, 1, 1, 1, 1, 1, 1, 1, 1, 1, 1, 1, 1, 1, 1, 1, 1, 1, 1, 1, 1, 1, 0, 0] c33
noncomputable def r33_31 : Code := Code.sub [1, 1, 1, 1, 0, 1, 1, 1, 1, 1, 1, 1, 1, 1, 1, 1, 1, 1, 1, 1, 1, 1, 1, 1, 1, 1, 1, 1, 1, 1, 0, 1, 0] c33
noncomputable def r33_32 : Code := Code.sub [1, 1, 1, 1, 0, 1, 1, 1, 1, 1, 1, 1, 1, 1, 1, 1, 1, 1, 1, 1, 1, 1, 1, 1, 1, 1, 1, 1, 1, 1, 1, 0] c33
noncomputable def r33_33 : Code := Code.sub [1, 1, 1, 1, 0, 1, 1, 1, 1, 1, 1, 1, 1, 1, 1, 1, 1, 1, 1, 1, 1, 1, 1, 1, 1, 1, 1, 1, 1, 1, 1, 1, 0, 0] c33
noncomputable def r33_34 : Code := Code.sub [1, 1, 1, 1, 0, 1, 1, 1, 1, 1, 1, 1, 1, 1, 1, 1, 1, 1, 1, 1, 1, 1, 1, 1, 1, 1, 1, 1, 1, 1, 1, 1, 0, 1, 0] c33
noncomputable def r33_35 : Code := Code.sub [1, 1, 1, 1, 0, 1, 1, 1, 1, 1, 1, 1, 1, 1, 1, 1, 1, 1, 1, 1, 1, 1, 1, 1, 1, 1, 1, 1, 1, 1, 1, 1, 1, 0] c33
noncomputable def r33_36 : Code := Code.sub [1, 1, 1, 1, 0, 1, 1, 1, 1, 1, 1, 1, 1, 1, 1, 1, 1, 1, 1, 1, 1, 1, 1, 1, 1, 1, 1, 1, 1, 1, 1, 1, 1, 1, 0, 0] c33
noncomputable def r33_37 : Code := Code.sub [1, 1, 1, 1, 0, 1, 1, 1, 1, 1, 1, 1, 1, 1, 1, 1, 1, 1, 1, 1, 1, 1, 1, 1, 1, 1, 1, 1, 1, 1, 1, 1, 1, 1, 0, 1, 0] c33
noncomputable def r33_38 : Code := Code.sub [1, 1, 1, 1, 0, 1, 1, 1, 1, 1, 1, 1, 1, 1, 1, 1, 1, 1, 1, 1, 1, 1, 1, 1, 1, 1, 1, 1, 1, 1, 1, 1, 1, 1, 0, 1, 1] c33
noncomputable def r33_39 : Code := Code.sub [1, 1, 1, 1, 0, 1, 1, 1, 1, 1, 1, 1, 1, 1, 1, 1, 1, 1, 1, 1, 1, 1, 1, 1, 1, 1, 1, 1, 1, 1, 1, 1, 1, 1, 1, 0] c33
noncomputable def r33_40 : Code := Code.sub [1, 1, 1, 1, 0, 1, 1, 1, 1, 1, 1, 1, 1, 1, 1, 1, 1, 1, 1, 1, 1, 1, 1, 1, 1, 1, 1, 1, 1, 1, 1, 1, 1, 1, 1, 1, 0] c33
noncomputable def r33_41 : Code := Code.sub [1, 1, 1, 1, 0, 1, 1, 1, 1, 1, 1, 1, 1, 1, 1, 1, 1, 1, 1, 1, 1, 1, 1, 1, 1, 1, 1, 1, 1, 1, 1, 1, 1, 1, 1, 1, 1] c33
theorem body33 : c33 = (.seq r33_0 (.seq r33_1 (.seq r33_2 (.seq r33_3 (.block 0 (.seq r33_4 (.cond (.tmp 50) r33_5 (.seq r33_6 (.cond (.tmp 59) r33_7 (.seq r33_8 (.cond (.tmp 68) r33_9 (.seq r33_10 (.cond (.tmp 83) r33_11 (.seq (.seq r33_12 (.cond (.tmp 92) .skip r33_13)) (.cond (.tmp 92) r33_14 (.seq r33_15 (.cond (.tmp 106) r33_16 (.seq r33_17 (.cond (.tmp 118) r33_18 (.seq r33_19 (.cond (.tmp 130) r33_20 (.seq r33_21 (.cond (.tmp 143) r33_22 (.seq r33_23 (.cond (.tmp 157) r33_24 (.seq r33_25 (.cond (.tmp 165) r33_26 (.seq r33_27 (.cond (.tmp 174) r33_28 (.seq r33_29 (.cond (.tmp 181) (.seq r33_30 (.cond (.tmp 184) r33_31 .skip)) (.seq r33_32 (.cond (.tmp 190) (.seq r33_33 (.cond (.tmp 193) r33_34 .skip)) (.seq r33_35 (.cond (.tmp 198) (.seq r33_36 (.cond (.tmp 209) r33_37 r33_38)) (.seq r33_39 (.cond (.tmp 221) r33_40 r33_41))))))))))))))))))))))))))))))))))))) := by kernel_rfl
noncomputable def L33_0 : Lt r33_0 := by refine ⟨?l, ?h⟩; case h => simp only [r33_0, c33, bodyOf, Tryd.f33, Code.sub, opsOf, List.map_cons, List.map_nil, strip]; rfl
theorem w33_0 : Wp r33_0 38 [50, 59, 68, 83, 92, 92, 106, 118, 130, 143, 157, 165, 174, 181, 184, 190, 193, 198, 209, 221] [5] [] [1] [some 5] (L33_0).1 := w_plain (by kernel_rfl) (L33_0).2
noncomputable def L33_1 : Lt r33_1 := by refine ⟨?l, ?h⟩; case h => simp only [r33_1, c33, bodyOf, Tryd.f33, Code.sub, opsOf, List.map_cons, List.map_nil, strip]; rfl
theorem w33_1 : Wp r33_1 38 [50, 59, 68, 83, 92, 92, 106, 118, 130, 143, 157, 165, 174, 181, 184, 190, 193, 198, 209, 221] [12, 13, 14, 15, 16, 17, 18, 19, 20, 21, 22, 23, 24, 25, 26, 27, 28, 29, 30, 31, 32, 8, 9, 10] [] [0, 5] [some 12, some 13, some 14, some 15, some 16, some 17, some 18, some 19, some 20, some 21, some 22, some 23, some 24, some 25, some 26, some 27, some 28, some 29, some 30, some 31, some 32, some 8, some 9, some 10] (L33_1).1 := w_plain (by kernel_rfl) (L33_1).2
noncomputable def L33_2 : Lt r33_2 := by refine ⟨?l, ?h⟩; case h => simp only [r33_2, c33, bodyOf, Tryd.f33, Code.sub, opsOf, List.map_cons, List.map_nil, strip]; rfl
theorem w33_2 : Wp r33_2 38 [50, 59, 68, 83, 92, 92, 106, 118, 130, 143, 157, 165, 174, 181, 184, 190, 193, 198, 209, 221] [33, 34, 35, 11] [] [5] [some 33, some 34, some 35, some 11] (L33_2).1 := w_plain (by kernel_rfl) (L33_2).2
noncomputable def L33_3 : Lt r33_3 := by refine ⟨?l, ?h⟩; case h => simp only [r33_3, c33, bodyOf, Tryd.f33, Code.sub, opsOf, List.map_cons, List.map_nil, strip]; rfl
theorem w33_3 : Wp r33_3 38 [50, 59, 68, 83, 92, 92, 106, 118, 130, 143, 157, 165, 174, 181, 184, 190, 193, 198, 209, 221] [36, 37] [] [5] [some 36, some 37] (L33_3).1 := w_plain (by kernel_rfl) (L33_3).2
noncomputable def L33_4 : Lt r33_4 := by refine ⟨?l, ?h⟩; case h => simp only [r33_4, c33, bodyOf, Tryd.f33, Code.sub, opsOf, List.map_cons, List.map_nil, strip]; rfl
theorem w33_4 : Wp r33_4 38 [50, 59, 68, 83, 92, 92, 106, 118, 130, 143, 157, 165, 174, 181, 184, 190, 193, 198, 209, 221] [] [50] [37] [some 51, some 50] (L33_4).1 := w_plain (by kernel_rfl) (L33_4).2
theorem can33_5 : canonOps (opsOf r33_5) = opsOf r33_5 := by kernel_rfl
noncomputable def L33_5 : Lc r33_5 := by refine ⟨?l, (congrArg (List.map strip) can33_5).trans ?h⟩; case h => simp only [r33_5, c33, bodyOf, Tryd.f33, Code.sub, opsOf, List.map_cons, List.map_nil, strip]; rfl
theorem w33_5 : Wd r33_5 38 [50, 59, 68, 83, 92, 92, 106, 118, 130, 143, 157, 165, 174, 181, 184, 190, 193, 198, 209, 221] [] [] [0, 5, 11] [some 52, some 53, some 54, some 55, some 56, some 57, some 58, none] (L33_5).1 [(2, [7])] := w_loud (by kernel_rfl) (L33_5).2
noncomputable def L33_6 : Lt r33_6 := by refine ⟨?l, ?h⟩; case h => simp only [r33_6, c33, bodyOf, Tryd.f33, Code.sub, opsOf, List.map_cons, List.map_nil, strip]; rfl
theorem w33_6 : Wp r33_6 38 [50, 59, 68, 83, 92, 92, 106, 118, 130, 143, 157, 165, 174, 181, 184, 190, 193, 198, 209, 221] [] [59] [37] [some 60, some 59] (L33_6).1 := w_plain (by kernel_rfl) (L33_6).2
theorem can33_7 : canonOps (opsOf r33_7) = opsOf r33_7 := by kernel_rfl
noncomputable def L33_7 : Lc r33_7 := by refine ⟨?l, (congrArg (List.map strip) can33_7).trans ?h⟩; case h => simp only [r33_7, c33, bodyOf, Tryd.f33, Code.sub, opsOf, List.map_cons, List.map_nil, strip]; rfl
theorem w33_7 : Wd r33_7 38 [50, 59, 68, 83, 92, 92, 106, 118, 130, 143, 157, 165, 174, 181, 184, 190, 193, 198, 209, 221] [] [] [0, 5, 9] [some 61, some 62, some 63, some 64, some 65, some 66, some 67, none] (L33_7).1 [(2, [7])] := w_loud (by kernel_rfl) (L33_7).2
noncomputable def L33_8 : Lt r33_8 := by refine ⟨?l, ?h⟩; case h => simp only [r33_8, c33, bodyOf, Tryd.f33, Code.sub, opsOf, List.map_cons, List.map_nil, strip]; rfl
theorem w33_8 : Wp r33_8 38 [50, 59, 68, 83, 92, 92, 106, 118, 130, 143, 157, 165, 174, 181, 184, 190, 193, 198, 209, 221] [] [68] [37] [some 69, some 68] (L33_8).1 := w_plain (by kernel_rfl) (L33_8).2
theorem can33_9 : canonOps (opsOf r33_9) = opsOf r33_9 := by kernel_rfl
noncomputable def L33_9 : Lc r33_9 := by refine ⟨?l, (congrArg (List.map strip) can33_9).trans ?h⟩; case h => simp only [r33_9, c33, bodyOf, Tryd.f33, Code.sub, opsOf, List.map_cons, List.map_nil, strip]; rfl
theorem w33_9 : Wd r33_9 38 [50, 59, 68, 83, 92, 92, 106, 118, 130, 143, 157, 165, 174, 181, 184, 190, 193, 198, 209, 221] [] [] [0, 5] [some 70, some 71, some 72, some 73, some 74, some 75, some 76, some 77, some 78, some 79, some 80, some 81, some 82, none] (L33_9).1 [(2, [13]), (5, [13]), (9, [13])] := w_loud (by kernel_rfl) (L33_9).2
noncomputable def L33_10 : Lt r33_10 := by refine ⟨?l, ?h⟩; case h => simp only [r33_10, c33, bodyOf, Tryd.f33, Code.sub, opsOf, List.map_cons, List.map_nil, strip]; rfl
theorem w33_10 : Wp r33_10 38 [50, 59, 68, 83, 92, 92, 106, 118, 130, 143, 157, 165, 174, 181, 184, 190, 193, 198, 209, 221] [] [83] [37] [some 84, some 83] (L33_10).1 := w_plain (by kernel_rfl) (L33_10).2
theorem can33_11 : canonOps (opsOf r33_11) = opsOf r33_11 := by kernel_rfl
noncomputable def L33_11 : Lc r33_11 := by refine ⟨?l, (congrArg (List.map strip) can33_11).trans ?h⟩; case h => simp only [r33_11, c33, bodyOf, Tryd.f33, Code.sub, opsOf, List.map_cons, List.map_nil, strip]; rfl
theorem w33_11 : Wd r33_11 38 [50, 59, 68, 83, 92, 92, 106, 118, 130, 143, 157, 165, 174, 181, 184, 190, 193, 198, 209, 221] [] [] [0, 5, 8] [some 85, some 86, some 87, some 88, some 89, some 90, some 91, none] (L33_11).1 [(2, [7])] := w_loud (by kernel_rfl) (L33_11).2
noncomputable def L33_12 : Lt r33_12 := by refine ⟨?l, ?h⟩; case h => simp only [r33_12, c33, bodyOf, Tryd.f33, Code.sub, opsOf, List.map_cons, List.map_nil, strip]; rfl
theorem w33_12 : Wp r33_12 38 [50, 59, 68, 83, 92, 92, 106, 118, 130, 143, 157, 165, 174, 181, 184, 190, 193, 198, 209, 221] [] [92] [37] [some 93, some 92] (L33_12).1 := w_plain (by kernel_rfl) (L33_12).2
noncomputable def L33_13 : Lt r33_13 := by refine ⟨?l, ?h⟩; case h => simp only [r33_13, c33, bodyOf, Tryd.f33, Code.sub, opsOf, List.map_cons, List.map_nil, strip]; rfl
theorem w33_13 : Wp r33_13 38 [50, 59, 68, 83, 92, 92, 106, 118, 130, 143, 157, 165, 174, 181, 184, 190, 193, 198, 209, 221] [] [92] [37] [some 94, some 92] (L33_13).1 := w_plain (by kernel_rfl) (L33_13).2
theorem can33_14 : canonOps (opsOf r33_14) = opsOf r33_14 := by kernel_rfl
noncomputable def L33_14 : Lc r33_14 := by refine ⟨?l, (congrArg (List.map strip) can33_14).trans ?h⟩; case h => simp only [r33_14, c33, bodyOf, Tryd.f33, Code.sub, opsOf, List.map_cons, List.map_nil, strip]; rfl
theorem w33_14 : Wd r33_14 38 [50, 59, 68, 83, 92, 92, 106, 118, 130, 143, 157, 165, 174, 181, 184, 190, 193, 198, 209, 221] [] [] [0, 5, 9] [some 95, some 96, some 97, some 98, some 99, some 100, some 101, some 102, some 103, some 104, some 105, none] (L33_14).1 [(2, [5, 7, 11]), (4, [5])] := w_loud (by kernel_rfl) (L33_14).2
noncomputable def L33_15 : Lt r33_15 := by refine ⟨?l, ?h⟩; case h => simp only [r33_15, c33, bodyOf, Tryd.f33, Code.sub, opsOf, List.map_cons, List.map_nil, strip]; rfl
theorem w33_15 : Wp r33_15 38 [50, 59, 68, 83, 92, 92, 106, 118, 130, 143, 157, 165, 174, 181, 184, 190, 193, 198, 209, 221] [] [106] [37] [some 107, some 106] (L33_15).1 := w_plain (by kernel_rfl) (L33_15).2
theorem can33_16 : canonOps (opsOf r33_16) = opsOf r33_16 := by kernel_rfl
noncomputable def L33_16 : Lc r33_16 := by refine ⟨?l, (congrArg (List.map strip) can33_16).trans ?h⟩; case h => simp only [r33_16, c33, bodyOf, Tryd.f33, Code.sub, opsOf, List.map_cons, List.map_nil, strip]; rfl
theorem w33_16 : Wd r33_16 38 [50, 59, 68, 83, 92, 92, 106, 118, 130, 143, 157, 165, 174, 181, 184, 190, 193, 198, 209, 221] [] [] [0, 5, 2, 9] [some 108, some 109, some 110, some 111, some 112, some 113, some 114, some 115, some 116, some 117, none] (L33_16).1 [(2, [5, 10]), (6, [10])] := w_loud (by kernel_rfl) (L33_16).2
noncomputable def L33_17 : Lt r33_17 := by refine ⟨?l, ?h⟩; case h => simp only [r33_17, c33, bodyOf, Tryd.f33, Code.sub, opsOf, List.map_cons, List.map_nil, strip]; rfl
theorem w33_17 : Wp r33_17 38 [50, 59, 68, 83, 92, 92, 106, 118, 130, 143, 157, 165, 174, 181, 184, 190, 193, 198, 209, 221] [] [118] [37] [some 119, some 118] (L33_17).1 := w_plain (by kernel_rfl) (L33_17).2
theorem can33_18 : canonOps (opsOf r33_18) = opsOf r33_18 := by kernel_rfl
noncomputable def L33_18 : Lc r33_18 := by refine ⟨?l, (congrArg (List.map strip) can33_18).trans ?h⟩; case h => simp only [r33_18, c33, bodyOf, Tryd.f33, Code.sub, opsOf, List.map_cons, List.map_nil, strip]; rfl
theorem w33_18 : Wd r33_18 38 [50, 59, 68, 83, 92, 92, 106, 118, 130, 143, 157, 165, 174, 181, 184, 190, 193, 198, 209, 221] [] [] [0, 5, 2, 9] [some 120, some 121, some 122, some 123, some 124, some 125, some 126, some 127, some 128, some 129, none] (L33_18).1 [(2, [5, 10]), (6, [10])] := w_loud (by kernel_rfl) (L33_18).2
noncomputable def L33_19 : Lt r33_19 := by refine ⟨?l, ?h⟩; case h => simp only [r33_19, c33, bodyOf, Tryd.f33, Code.sub, opsOf, List.map_cons, List.map_nil, strip]; rfl
theorem w33_19 : Wp r33_19 38 [50, 59, 68, 83, 92, 92, 106, 118, 130, 143, 157, 165, 174, 181, 184, 190, 193, 198, 209, 221] [] [130] [37] [some 131, some 130] (L33_19).1 := w_plain (by kernel_rfl) (L33_19).2
theorem can33_20 : canonOps (opsOf r33_20) = opsOf r33_20 := by kernel_rfl
noncomputable def L33_20 : Lc r33_20 := by refine ⟨?l, (congrArg (List.map strip) can33_20).trans ?h⟩; case h => simp only [r33_20, c33, bodyOf, Tryd.f33, Code.sub, opsOf, List.map_cons, List.map_nil, strip]; rfl
theorem w33_20 : Wd r33_20 38 [50, 59, 68, 83, 92, 92, 106, 118, 130, 143, 157, 165, 174, 181, 184, 190, 193, 198, 209, 221] [] [] [0, 5, 2, 9, 11] [some 132, some 133, some 134, some 135, some 136, some 137, some 138, some 139, some 140, some 141, some 142, none] (L33_20).1 [(2, [7, 11])] := w_loud (by kernel_rfl) (L33_20).2
noncomputable def L33_21 : Lt r33_21 := by refine ⟨?l, ?h⟩; case h => simp only [r33_21, c33, bodyOf, Tryd.f33, Code.sub, opsOf, List.map_cons, List.map_nil, strip]; rfl
theorem w33_21 : Wp r33_21 38 [50, 59, 68, 83, 92, 92, 106, 118, 130, 143, 157, 165, 174, 181, 184, 190, 193, 198, 209, 221] [] [143] [37] [some 144, some 143] (L33_21).1 := w_plain (by kernel_rfl) (L33_21).2
theorem can33_22 : canonOps (opsOf r33_22) = opsOf r33_22 := by kernel_rfl
noncomputable def L33_22 : Lc r33_22 := by refine ⟨?l, (congrArg (List.map strip) can33_22).trans ?h⟩; case h => simp only [r33_22, c33, bodyOf, Tryd.f33, Code.sub, opsOf, List.map_cons, List.map_nil, strip]; rfl
theorem w33_22 : Wd r33_22 38 [50, 59, 68, 83, 92, 92, 106, 118, 130, 143, 157, 165, 174, 181, 184, 190, 193, 198, 209, 221] [] [] [0, 5, 2, 9, 10] [some 145, some 146, some 147, some 148, some 149, some 150, some 151, some 152, some 153, some 154, some 155, some 156, none] (L33_22).1 [(2, [8, 12])] := w_loud (by kernel_rfl) (L33_22).2
noncomputable def L33_23 : Lt r33_23 := by refine ⟨?l, ?h⟩; case h => simp only [r33_23, c33, bodyOf, Tryd.f33, Code.sub, opsOf, List.map_cons, List.map_nil, strip]; rfl
theorem w33_23 : Wp r33_23 38 [50, 59, 68, 83, 92, 92, 106, 118, 130, 143, 157, 165, 174, 181, 184, 190, 193, 198, 209, 221] [] [157] [37] [some 158, some 157] (L33_23).1 := w_plain (by kernel_rfl) (L33_23).2
noncomputable def L33_24 : Lt r33_24 := by refine ⟨?l, ?h⟩; case h => simp only [r33_24, c33, bodyOf, Tryd.f33, Code.sub, opsOf, List.map_cons, List.map_nil, strip]; rfl
theorem w33_24 : Wp r33_24 38 [50, 59, 68, 83, 92, 92, 106, 118, 130, 143, 157, 165, 174, 181, 184, 190, 193, 198, 209, 221] [] [] [2, 8, 11, 9] [some 159, some 160, some 161, some 162, some 163, some 164] (L33_24).1 := w_plain (by kernel_rfl) (L33_24).2
noncomputable def L33_25 : Lt r33_25 := by refine ⟨?l, ?h⟩; case h => simp only [r33_25, c33, bodyOf, Tryd.f33, Code.sub, opsOf, List.map_cons, List.map_nil, strip]; rfl
theorem w33_25 : Wp r33_25 38 [50, 59, 68, 83, 92, 92, 106, 118, 130, 143, 157, 165, 174, 181, 184, 190, 193, 198, 209, 221] [] [165] [37] [some 166, some 165] (L33_25).1 := w_plain (by kernel_rfl) (L33_25).2
noncomputable def L33_26 : Lt r33_26 := by refine ⟨?l, ?h⟩; case h => simp only [r33_26, c33, bodyOf, Tryd.f33, Code.sub, opsOf, List.map_cons, List.map_nil, strip]; rfl
theorem w33_26 : Wp r33_26 38 [50, 59, 68, 83, 92, 92, 106, 118, 130, 143, 157, 165, 174, 181, 184, 190, 193, 198, 209, 221] [] [] [2, 8, 9, 10] [some 167, some 168, some 169, some 170, some 171, some 172, some 173] (L33_26).1 := w_plain (by kernel_rfl) (L33_26).2
noncomputable def L33_27 : Lt r33_27 := by refine ⟨?l, ?h⟩; case h => simp only [r33_27, c33, bodyOf, Tryd.f33, Code.sub, opsOf, List.map_cons, List.map_nil, strip]; rfl
theorem w33_27 : Wp r33_27 38 [50, 59, 68, 83, 92, 92, 106, 118, 130, 143, 157, 165, 174, 181, 184, 190, 193, 198, 209, 221] [] [174] [37] [some 175, some 174] (L33_27).1 := w_plain (by kernel_rfl) (L33_27).2
noncomputable def L33_28 : Lt r33_28 := by refine ⟨?l, ?h⟩; case h => simp only [r33_28, c33, bodyOf, Tryd.f33, Code.sub, opsOf, List.map_cons, List.map_nil, strip]; rfl
theorem w33_28 : Wp r33_28 38 [50, 59, 68, 83, 92, 92, 106, 118, 130, 143, 157, 165, 174, 181, 184, 190, 193, 198, 209, 221] [] [] [0, 5] [some 176, some 177, some 178, some 179, some 180, none] (L33_28).1 := w_plain (by kernel_rfl) (L33_28).2
noncomputable def L33_29 : Lt r33_29 := by refine ⟨?l, ?h⟩; case h => simp only [r33_29, c33, bodyOf, Tryd.f33, Code.sub, opsOf, List.map_cons, List.map_nil, strip]; rfl
theorem w33_29 : Wp r33_29 38 [50, 59, 68, 83, 92, 92, 106, 118, 130, 143, 157, 165, 174, 181, 184, 190, 193, 198, 209, 221] [] [181] [37] [some 182, some 181] (L33_29).1 := w_plain (by kernel_rfl) (L33_29).2
noncomputable def L33_30 : Lt r33_30 := by refine ⟨?l, ?h⟩; case h => simp only [r33_30, c33, bodyOf, Tryd.f33, Code.sub, opsOf, List.map_cons, List.map_nil, strip]; rfl
theorem w33_30 : Wp r33_30 38 [50, 59, 68, 83, 92, 92, 106, 118, 130, 143, 157, 165, 174, 181, 184, 190, 193, 198, 209, 221] [] [184] [8] [some 183, some 184] (L33_30).1 := w_plain (by kernel_rfl) (L33_30).2
noncomputable def L33_31 : Lt r33_31 := by refine ⟨?l, ?h⟩; case h => simp only [r33_31, c33, bodyOf, Tryd.f33, Code.sub, opsOf, List.map_cons, List.map_nil, strip]; rfl
theorem w33_31 : Wp r33_31 38 [50, 59, 68, 83, 92, 92, 106, 118, 130, 143, 157, 165, 174, 181, 184, 190, 193, 198, 209, 221] [] [] [0, 5] [some 185, some 186, some 187, some 188, some 189, none] (L33_31).1 := w_plain (by kernel_rfl) (L33_31).2
noncomputable def L33_32 : Lt r33_32 := by refine ⟨?l, ?h⟩; case h => simp only [r33_32, c33, bodyOf, Tryd.f33, Code.sub, opsOf, List.map_cons, List.map_nil, strip]; rfl
theorem w33_32 : Wp r33_32 38 [50, 59, 68, 83, 92, 92, 106, 118, 130, 143, 157, 165, 174, 181, 184, 190, 193, 198, 209, 221] [] [190] [37] [some 191, some 190] (L33_32).1 := w_plain (by kernel_rfl) (L33_32).2
noncomputable def L33_33 : Lt r33_33 := by refine ⟨?l, ?h⟩; case h => simp only [r33_33, c33, bodyOf, Tryd.f33, Code.sub, opsOf, List.map_cons, List.map_nil, strip]; rfl
theorem w33_33 : Wp r33_33 38 [50, 59, 68, 83, 92, 92, 106, 118, 130, 143, 157, 165, 174, 181, 184, 190, 193, 198, 209, 221] [] [193] [8] [some 192, some 193] (L33_33).1 := w_plain (by kernel_rfl) (L33_33).2
noncomputable def L33_34 : Lt r33_34 := by refine ⟨?l, ?h⟩; case h => simp only [r33_34, c33, bodyOf, Tryd.f33, Code.sub, opsOf, List.map_cons, List.map_nil, strip]; rfl
theorem w33_34 : Wp r33_34 38 [50, 59, 68, 83, 92, 92, 106, 118, 130, 143, 157, 165, 174, 181, 184, 190, 193, 198, 209, 221] [] [] [0, 5] [some 194, some 195, some 196, some 197] (L33_34).1 := w_plain (by kernel_rfl) (L33_34).2
noncomputable def L33_35 : Lt r33_35 := by refine ⟨?l, ?h⟩; case h => simp only [r33_35, c33, bodyOf, Tryd.f33, Code.sub, opsOf, List.map_cons, List.map_nil, strip]; rfl
theorem w33_35 : Wp r33_35 38 [50, 59, 68, 83, 92, 92, 106, 118, 130, 143, 157, 165, 174, 181, 184, 190, 193, 198, 209, 221] [] [198] [37] [some 199, some 198] (L33_35).1 := w_plain (by kernel_rfl) (L33_35).2
noncomputable def L33_36 : Lt r33_36 := by refine ⟨?l, ?h⟩; case h => simp only [r33_36, c33, bodyOf, Tryd.f33, Code.sub, opsOf, List.map_cons, List.map_nil, strip]; rfl
theorem w33_36 : Wp r33_36 38 [50, 59, 68, 83, 92, 92, 106, 118, 130, 143, 157, 165, 174, 181, 184, 190, 193, 198, 209, 221] [] [209] [0, 3] [some 200, some 201, some 202, some 203, some 204, some 205, some 206, some 207, some 208, some 209] (L33_36).1 := w_plain (by kernel_rfl) (L33_36).2
noncomputable def L33_37 : Lt r33_37 := by refine ⟨?l, ?h⟩; case h => simp only [r33_37, c33, bodyOf, Tryd.f33, Code.sub, opsOf, List.map_cons, List.map_nil, strip]; rfl
theorem w33_37 : Wp r33_37 38 [50, 59, 68, 83, 92, 92, 106, 118, 130, 143, 157, 165, 174, 181, 184, 190, 193, 198, 209, 221] [] [] [0, 5] [some 210, some 211, some 212, some 213] (L33_37).1 := w_plain (by kernel_rfl) (L33_37).2
noncomputable def L33_38 : Lt r33_38 := by refine ⟨?l, ?h⟩; case h => simp only [r33_38, c33, bodyOf, Tryd.f33, Code.sub, opsOf, List.map_cons, List.map_nil, strip]; rfl
theorem w33_38 : Wp r33_38 38 [50, 59, 68, 83, 92, 92, 106, 118, 130, 143, 157, 165, 174, 181, 184, 190, 193, 198, 209, 221] [] [] [0] [some 214, some 215, some 216, some 217, some 218, some 219, some 220, none] (L33_38).1 := w_plain (by kernel_rfl) (L33_38).2
noncomputable def L33_39 : Lt r33_39 := by refine ⟨?l, ?h⟩; case h => simp only [r33_39, c33, bodyOf, Tryd.f33, Code.sub, opsOf, List.map_cons, List.map_nil, strip]; rfl
theorem w33_39 : Wp r33_39 38 [50, 59, 68, 83, 92, 92, 106, 118, 130, 143, 157, 165, 174, 181, 184, 190, 193, 198, 209, 221] [] [221] [37] [some 222, some 221] (L33_39).1 := w_plain (by kernel_rfl) (L33_39).2
noncomputable def L33_40 : Lt r33_40 := by refine ⟨?l, ?h⟩; case h => simp only [r33_40, c33, bodyOf, Tryd.f33, Code.sub, opsOf, List.map_cons, List.map_nil, strip]; rfl
theorem w33_40 : Wp r33_40 38 [50, 59, 68, 83, 92, 92, 106, 118, 130, 143, 157, 165, 174, 181, 184, 190, 193, 198, 209, 221] [] [] [0, 5] [some 223, some 224, some 225, some 226] (L33_40).1 := w_plain (by kernel_rfl) (L33_40).2
theorem can33_41 : canonOps (opsOf r33_41) = opsOf r33_41 := by kernel_rfl
noncomputable def L33_41 : Lc r33_41 := by refine ⟨?l, (congrArg (List.map strip) can33_41).trans ?h⟩; case h => simp only [r33_41, c33, bodyOf, Tryd.f33, Code.sub, opsOf, List.map_cons, List.map_nil, strip]; rfl
theorem w33_41 : Wd r33_41 38 [50, 59, 68, 83, 92, 92, 106, 118, 130, 143, 157, 165, 174, 181, 184, 190, 193, 198, 209, 221] [] [] [0, 5, 9, 10] [some 38, some 39, some 40, some 41, some 42, some 43, some 44, some 45, some 46, some 47, some 48, some 49, none] (L33_41).1 [(2, [5, 8, 12]), (4, [5])] := w_loud (by kernel_rfl) (L33_41).2
theorem k33 : FnIs TT 33 c33 [] 4 := ⟨Tryd.f33, by kernel_rfl, by simp only [Tryd.f33, c33, bodyOf], by kernel_rfl, of_decide_eq_true (by kernel_rfl)⟩
noncomputable def c34 : Code := bodyOf Tryd.f34
noncomputable def r34_0 : Code := Code.sub [0] c34
noncomputable def r34_1 : Code := Code.sub [1, 0] c34
theorem body34 : c34 = (.seq r34_0 (.seq r34_1 .ret)) := by kernel_rfl
noncomputable def L34_0 : Lt r34_0 := by refine ⟨?l, ?h⟩; case h => simp only [r34_0, c34, bodyOf, Tryd.f34, Code.sub, opsOf, List.map_cons, List.map_nil, strip]; rfl
theorem w34_0 : Wp r34_0 5 [] [4] [] [] [some 4] (L34_0).1 := w_plain (by kernel_rfl) (L34_0).2
noncomputable def L34_1 : Lt r34_1 := by refine ⟨?l, ?h⟩; case h => simp only [r34_1, c34, bodyOf, Tryd.f34, Code.sub, opsOf, List.map_cons, List.map_nil, strip]; rfl
theorem w34_1 : Wp r34_1 5 [] [4] [] [0, 1] [some 5, some 6, some 7, some 8, some 9, some 4] (L34_1).1 := w_plain (by kernel_rfl) (L34_1).2
theorem k34 : FnIs TT 34 c34 [.tmp 4] 2 := ⟨Tryd.f34, by kernel_rfl, by simp only [Tryd.f34, c34, bodyOf], by kernel_rfl, of_decide_eq_true (by kernel_rfl)⟩
noncomputable def c35 : Code := bodyOf Tryd.f35
noncomputable def r35_0 : Code := Code.sub [0] c35
noncomputable def r35_1 : Code := Code.sub [1, 0] c35
theorem body35 : c35 = (.seq r35_0 (.seq r35_1 .ret)) := by kernel_rfl
noncomputable def L35_0 : Lt r35_0 := by refine ⟨?l, ?h⟩; case h => simp only [r35_0, c35, bodyOf, Tryd.f35, Code.sub, opsOf, List.map_cons, List.map_nil, strip]; rfl
theorem w35_0 : Wp r35_0 5 [] [4] [] [] [some 4] (L35_0).1 := w_plain (by kernel_rfl) (L35_0).2
noncomputable def L35_1 : Lt r35_1 := by refine ⟨?l, ?h⟩; case h => simp only [r35_1, c35, bodyOf, Tryd.f35, Code.sub, opsOf, List.map_cons, List.map_nil, strip]; rfl
theorem w35_1 : Wp r35_1 5 [] [4] [] [0, 1] [some 5, some 6, some 7, some 8, some 9, some 4] (L35_1).1 := w_plain (by kernel_rfl) (L35_1).2
theorem k35 : FnIs TT 35 c35 [.tmp 4] 2 := ⟨Tryd.f35, by kernel_rfl, by simp only [Tryd.f35, c35, bodyOf], by kernel_rfl, of_decide_eq_true (by kernel_rfl)⟩
noncomputable def c36 : Code := bodyOf Tryd.f36
noncomputable def r36_0 : Code := Code.sub [0] c36
noncomputable def r36_1 : Code := Code.sub [1, 0, 0] c36
noncomputable def r36_2 : Code := Code.sub [1, 0, 1, 0, 0] c36
noncomputable def r36_3 : Code := Code.sub [1, 1, 0] c36
theorem body36 : c36 = (.seq r36_0 (.seq (.seq r36_1 (.cond (.tmp 12) (.seq r36_2 .ret) .skip)) (.seq r36_3 .ret))) := by kernel_rfl
noncomputable def L36_0 : Lt r36_0 := by refine ⟨?l, ?h⟩; case h => simp only [r36_0, c36, bodyOf, Tryd.f36, Code.sub, opsOf, List.map_cons, List.map_nil, strip]; rfl
theorem w36_0 : Wp r36_0 5 [12] [4] [] [] [some 4] (L36_0).1 := w_plain (by kernel_rfl) (L36_0).2
noncomputable def L36_1 : Lt r36_1 := by refine ⟨?l, ?h⟩; case h => simp only [r36_1, c36, bodyOf, Tryd.f36, Code.sub, opsOf, List.map_cons, List.map_nil, strip]; rfl
theorem w36_1 : Wp r36_1 5 [12] [] [12] [1, 0] [some 5, some 6, some 7, some 8, some 9, some 10, some 11, some 12] (L36_1).1 := w_plain (by kernel_rfl) (L36_1).2
noncomputable def L36_2 : Lt r36_2 := by refine ⟨?l, ?h⟩; case h => simp only [r36_2, c36, bodyOf, Tryd.f36, Code.sub, opsOf, List.map_cons, List.map_nil, strip]; rfl
theorem w36_2 : Wp r36_2 5 [12] [4] [] [] [some 4] (L36_2).1 := w_plain (by kernel_rfl) (L36_2).2
noncomputable def L36_3 : Lt r36_3 := by refine ⟨?l, ?h⟩; case h => simp only [r36_3, c36, bodyOf, Tryd.f36, Code.sub, opsOf, List.map_cons, List.map_nil, strip]; rfl
theorem w36_3 : Wp r36_3 5 [12] [4] [] [0, 1] [some 13, some 14, some 15, some 16, some 17, some 18, some 19, some 4] (L36_3).1 := w_plain (by kernel_rfl) (L36_3).2
theorem k36 : FnIs TT 36 c36 [.tmp 4] 2 := ⟨Tryd.f36, by kernel_rfl, by simp only [Tryd.f36, c36, bodyOf], by kernel_rfl, of_decide_eq_true (by kernel_rfl)⟩
noncomputable def c37 : Code := bodyOf Tryd.f37
noncomputable def r37_0 : Code := Code.sub [0] c37
noncomputable def r37_1 : Code := Code.sub [1, 0, 0] c37
noncomputable def r37_2 : Code := Code.sub [1, 0, 1, 0, 0] c37
noncomputable def r37_3 : Code := Code.sub [1, 1, 0] c37
noncomputable def r37_4 : Code := Code.sub [1, 1, 1, 0] c37
theorem body37 : c37 = (.seq r37_0 (.seq (.seq r37_1 (.cond (.tmp 18) (.seq r37_2 .ret) .skip)) (.seq r37_3 (.seq r37_4 .ret)))) := by kernel_rfl
noncomputable def L37_0 : Lt r37_0 := by refine ⟨?l, ?h⟩; case h => simp only [r37_0, c37, bodyOf, Tryd.f37, Code.sub, opsOf, List.map_cons, List.map_nil, strip]; rfl
theorem w37_0 : Wp r37_0 7 [18] [6] [] [] [some 6] (L37_0).1 := w_plain (by kernel_rfl) (L37_0).2
noncomputable def L37_1 : Lt r37_1 := by refine ⟨?l, ?h⟩; case h => simp only [r37_1, c37, bodyOf, Tryd.f37, Code.sub, opsOf, List.map_cons, List.map_nil, strip]; rfl
theorem w37_1 : Wp r37_1 7 [18] [] [18] [1, 0] [some 7, some 8, some 9, some 10, some 11, some 12, some 13, some 14, some 15, some 16, some 17, some 18] (L37_1).1 := w_plain (by kernel_rfl) (L37_1).2
noncomputable def L37_2 : Lt r37_2 := by refine ⟨?l, ?h⟩; case h => simp only [r37_2, c37, bodyOf, Tryd.f37, Code.sub, opsOf, List.map_cons, List.map_nil, strip]; rfl
theorem w37_2 : Wp r37_2 7 [18] [6] [] [] [some 6] (L37_2).1 := w_plain (by kernel_rfl) (L37_2).2
noncomputable def L37_3 : Lt r37_3 := by refine ⟨?l, ?h⟩; case h => simp only [r37_3, c37, bodyOf, Tryd.f37, Code.sub, opsOf, List.map_cons, List.map_nil, strip]; rfl
theorem w37_3 : Wp r37_3 7 [18] [] [] [0, 1, 2] [some 19, some 20, some 21, some 22, some 23, some 24, some 25, none] (L37_3).1 := w_plain (by kernel_rfl) (L37_3).2
noncomputable def L37_4 : Lt r37_4 := by refine ⟨?l, ?h⟩; case h => simp only [r37_4, c37, bodyOf, Tryd.f37, Code.sub, opsOf, List.map_cons, List.map_nil, strip]; rfl
theorem w37_4 : Wp r37_4 7 [18] [6] [] [] [some 6] (L37_4).1 := w_plain (by kernel_rfl) (L37_4).2
theorem k37 : FnIs TT 37 c37 [.tmp 6] 3 := ⟨Tryd.f37, by kernel_rfl, by simp only [Tryd.f37, c37, bodyOf], by kernel_rfl, of_decide_eq_true (by kernel_rfl)⟩
noncomputable def c38 : Code := bodyOf Tryd.f38
noncomputable def r38_0 : Code := Code.sub [0] c38
noncomputable def r38_1 : Code := Code.sub [1, 0] c38
noncomputable def r38_2 : Code := Code.sub [1, 1, 0] c38
noncomputable def r38_3 : Code := Code.sub [1, 1, 1, 0, 0] c38
noncomputable def r38_4 : Code := Code.sub [1, 1, 1, 0, 1, 0, 0] c38
noncomputable def r38_5 : Code := Code.sub [1, 1, 1, 0, 1, 0, 1, 0, 0] c38
noncomputable def r38_6 : Code := Code.sub [1, 1, 1, 0, 1, 0, 1, 1, 0] c38
noncomputable def r38_7 : Code := Code.sub [1, 1, 1, 0, 1, 0, 1, 1, 1, 0, 0] c38
noncomputable def r38_8 : Code := Code.sub [1, 1, 1, 0, 1, 0, 1, 1, 1, 1, 0] c38
noncomputable def r38_9 : Code := Code.sub [1, 1, 1, 0, 1, 0, 1, 1, 1, 1, 1, 0, 0] c38
noncomputable def r38_10 : Code := Code.sub [1, 1, 1, 0, 1, 0, 1, 1, 1, 1, 1, 1, 0] c38
noncomputable def r38_11 : Code := Code.sub [1, 1, 1, 0, 1, 0, 1, 1, 1, 1, 1, 1, 1, 0, 0, 0] c38
noncomputable def r38_12 : Code := Code.sub [1, 1, 1, 0, 1, 0, 1, 1, 1, 1, 1, 1, 1, 0, 0, 1, 0, 0] c38
noncomputable def r38_13 : Code := Code.sub [1, 1, 1, 0, 1, 0, 1, 1, 1, 1, 1, 1, 1, 0, 1, 0, 0] c38
noncomputable def r38_14 : Code := Code.sub [1, 1, 1, 0, 1, 0, 1, 1, 1, 1, 1, 1, 1, 0, 1, 0, 1, 0, 0] c38
noncomputable def r38_15 : Code := Code.sub [1, 1, 1, 0, 1, 0, 1, 1, 1, 1, 1, 1, 1, 0, 1, 1, 0] c38
noncomputable def r38_16 : Code := Code.sub [1, 1, 1, 0, 1, 0, 1, 1, 1, 1, 1, 1, 1, 1, 0] c38
noncomputable def r38_17 : Code := Code.sub [1, 1, 1, 0, 1, 0, 1, 1, 1, 1, 1, 1, 1, 1, 1, 0, 0, 0] c38
noncomputable def r38_18 : Code := Code.sub [1, 1, 1, 0, 1, 0, 1, 1, 1, 1, 1, 1, 1, 1, 1, 0, 0, 1, 0, 0] c38
noncomputable def r38_19 : Code := Code.sub [1, 1, 1, 0, 1, 0, 1, 1, 1, 1, 1, 1, 1, 1, 1, 0, 1, 0] c38
noncomputable def r38_20 : Code := Code.sub [1, 1, 1, 0, 1, 0, 1, 1, 1, 1, 1, 1, 1, 1, 1, 1, 0] c38
noncomputable def r38_21 : Code := Code.sub [1, 1, 1, 0, 1, 0, 1, 1, 1, 1, 1, 1, 1, 1, 1, 1, 1, 0, 0] c38
noncomputable def r38_22 : Code := Code.sub [1, 1, 1, 0, 1, 0, 1, 1, 1, 1, 1, 1, 1, 1, 1, 1, 1, 1, 0] c38
noncomputable def r38_23 : Code := Code.sub [1, 1, 1, 0, 1, 0, 1, 1, 1, 1, 1, 1, 1, 1, 1, 1, 1, 1, 1, 0, 0] c38
noncomputable def r38_24 : Code := Code.sub [1, 1, 1, 0, 1, 0, 1, 1, 1, 1, 1, 1, 1, 1, 1, 1, 1, 1, 1, 1, 0] c38
noncomputable def r38_25 : Code := Code.sub [1, 1, 1, 0, 1, 0, 1, 1, 1, 1, 1, 1, 1, 1, 1, 1, 1, 1, 1, 1, 1, 0, 0] c38
noncomputable def r38_26 : Code := Code.sub [1, 1, 1, 0, 1, 0, 1, 1, 1, 1, 1, 1, 1, 1, 1, 1, 1, 1, 1, 1, 1, 1, 0] c38
noncomputable def r38_27 : Code := Code.sub [1, 1, 1, 0, 1, 0, 1, 1, 1, 1, 1, 1, 1, 1, 1, 1, 1, 1, 1, 1, 1, 1, 1, 0, 0] c38
noncomputable def r38_28 : Code := Code.sub [1, 1, 1, 0, 1, 0, 1, 1, 1, 1, 1, 1, 1, 1, 1, 1, 1, 1, 1, 1, 1, 1, 1, 1, 0] c38
noncomputable def r38_29 : Code := Code.sub [1, 1, 1, 0, 1, 0, 1, 1, 1, 1, 1, 1, 1, 1, 1, 1, 1, 1, 1, 1, 1, 1, 1, 1, 1, 0, 0] c38
noncomputable def r38_30 : Code := Code.sub [1, 1, 1, 0, 1, 0, 1, 1, 1, 1, 1, 1, 1, 1, 1, 1, 1, 1, 1, 1, 1, 1, 1, 1, 1, 1, 0] c38
noncomputable def r38_31 : Code := Code.sub [1, 1, 1, 0, 1, 0, 1, 1, 1, 1, 1, 1, 1, 1, 1, 1, 1, 1, 1, 1, 1, 1, 1, 1, 1, 1, 1, 0, 0] c38
noncomputable def r38_32 : Code := Code.sub [1, 1, 1, 0, 1, 0, 1, 1, 1, 1, 1, 1, 1, 1, 1, 1, 1, 1, 1, 1, 1, 1, 1, 1, 1, 1, 1, 1, 0] c38
noncomputable def r38_33 : Code := Code.sub [1, 1, 1, 0, 1, 0, 1, 1, 1, 1, 1, 1, 1, 1, 1, 1, 1, 1, 1, 1, 1, 1, 1, 1, 1, 1, 1, 1, 1, 0, 0] c38
noncomputable def r38_34 : Code := Code.sub [1, 1, 1, 1, 0] c38
theorem body38 : c38 = (.seq r38_0 (.seq r38_1 (.seq r38_2 (.seq (.seq r38_3 (.block 0 (.seq r38_4 (.cond (.tmp 15) (.seq r38_5 .ret) (.seq r38_6 (.cond (.tmp 20) (.seq r38_7 .ret) (.seq r38_8 (.cond (.tmp 25) (.seq r38_9 .ret) (.seq r38_10 (.cond (.tmp 30) (.seq (.seq r38_11 (.cond (.tmp 33) (.seq r38_12 .ret) .skip)) (.seq (.seq r38_13 (.cond (.tmp 35) (.seq r38_14 .ret) .skip)) (.seq r38_15 .ret))) (.seq r38_16 (.cond (.tmp 42) (.seq (.seq r38_17 (.cond (.tmp 49) (.seq r38_18 .ret) .skip)) (.seq r38_19 .ret)) (.seq r38_20 (.cond (.tmp 54) (.seq r38_21 .ret) (.seq r38_22 (.cond (.tmp 58) (.seq r38_23 .ret) (.seq r38_24 (.cond (.tmp 63) (.seq r38_25 .ret) (.seq r38_26 (.cond (.tmp 69) (.seq r38_27 .ret) (.seq r38_28 (.cond (.tmp 75) (.seq r38_29 .ret) (.seq r38_30 (.cond (.tmp 81) (.seq r38_31 .ret) (.seq r38_32 (.cond (.tmp 87) (.seq r38_33 .ret) .skip)))))))))))))))))))))))))) (.seq r38_34 .ret))))) := by kernel_rfl
noncomputable def L38_0 : Lt r38_0 := by refine ⟨?l, ?h⟩; case h => simp only [r38_0, c38, bodyOf, Tryd.f38, Code.sub, opsOf, List.map_cons, List.map_nil, strip]; rfl
theorem w38_0 : Wp r38_0 15 [15, 20, 25, 30, 33, 35, 42, 49, 54, 58, 63, 69, 75, 81, 87] [6, 7] [] [] [some 6, some 7] (L38_0).1 := w_plain (by kernel_rfl) (L38_0).2
noncomputable def L38_1 : Lt r38_1 := by refine ⟨?l, ?h⟩; case h => simp only [r38_1, c38, bodyOf, Tryd.f38, Code.sub, opsOf, List.map_cons, List.map_nil, strip]; rfl
theorem w38_1 : Wp r38_1 15 [15, 20, 25, 30, 33, 35, 42, 49, 54, 58, 63, 69, 75, 81, 87] [10, 11, 8] [] [1] [some 10, some 11, some 8] (L38_1).1 := w_plain (by kernel_rfl) (L38_1).2
noncomputable def L38_2 : Lt r38_2 := by refine ⟨?l, ?h⟩; case h => simp only [r38_2, c38, bodyOf, Tryd.f38, Code.sub, opsOf, List.map_cons, List.map_nil, strip]; rfl
theorem w38_2 : Wp r38_2 15 [15, 20, 25, 30, 33, 35, 42, 49, 54, 58, 63, 69, 75, 81, 87] [12, 13, 9] [] [2] [some 12, some 13, some 9] (L38_2).1 := w_plain (by kernel_rfl) (L38_2).2
noncomputable def L38_3 : Lt r38_3 := by refine ⟨?l, ?h⟩; case h => simp only [r38_3, c38, bodyOf, Tryd.f38, Code.sub, opsOf, List.map_cons, List.map_nil, strip]; rfl
theorem w38_3 : Wp r38_3 15 [15, 20, 25, 30, 33, 35, 42, 49, 54, 58, 63, 69, 75, 81, 87] [14] [] [0] [some 14] (L38_3).1 := w_plain (by kernel_rfl) (L38_3).2
noncomputable def L38_4 : Lt r38_4 := by refine ⟨?l, ?h⟩; case h => simp only [r38_4, c38, bodyOf, Tryd.f38, Code.sub, opsOf, List.map_cons, List.map_nil, strip]; rfl
theorem w38_4 : Wp r38_4 15 [15, 20, 25, 30, 33, 35, 42, 49, 54, 58, 63, 69, 75, 81, 87] [] [15] [14] [some 16, some 15] (L38_4).1 := w_plain (by kernel_rfl) (L38_4).2
noncomputable def L38_5 : Lt r38_5 := by refine ⟨?l, ?h⟩; case h => simp only [r38_5, c38, bodyOf, Tryd.f38, Code.sub, opsOf, List.map_cons, List.map_nil, strip]; rfl
theorem w38_5 : Wp r38_5 15 [15, 20, 25, 30, 33, 35, 42, 49, 54, 58, 63, 69, 75, 81, 87] [6, 7] [] [1, 2] [some 17, some 18, some 19, some 6, some 7] (L38_5).1 := w_plain (by kernel_rfl) (L38_5).2
noncomputable def L38_6 : Lt r38_6 := by refine ⟨?l, ?h⟩; case h => simp only [r38_6, c38, bodyOf, Tryd.f38, Code.sub, opsOf, List.map_cons, List.map_nil, strip]; rfl
theorem w38_6 : Wp r38_6 15 [15, 20, 25, 30, 33, 35, 42, 49, 54, 58, 63, 69, 75, 81, 87] [] [20] [14] [some 21, some 20] (L38_6).1 := w_plain (by kernel_rfl) (L38_6).2
noncomputable def L38_7 : Lt r38_7 := by refine ⟨?l, ?h⟩; case h => simp only [r38_7, c38, bodyOf, Tryd.f38, Code.sub, opsOf, List.map_cons, List.map_nil, strip]; rfl
theorem w38_7 : Wp r38_7 15 [15, 20, 25, 30, 33, 35, 42, 49, 54, 58, 63, 69, 75, 81, 87] [6, 7] [] [1, 2] [some 22, some 23, some 24, some 6, some 7] (L38_7).1 := w_plain (by kernel_rfl) (L38_7).2
noncomputable def L38_8 : Lt r38_8 := by refine ⟨?l, ?h⟩; case h => simp only [r38_8, c38, bodyOf, Tryd.f38, Code.sub, opsOf, List.map_cons, List.map_nil, strip]; rfl
theorem w38_8 : Wp r38_8 15 [15, 20, 25, 30, 33, 35, 42, 49, 54, 58, 63, 69, 75, 81, 87] [] [25] [14] [some 26, some 25] (L38_8).1 := w_plain (by kernel_rfl) (L38_8).2
noncomputable def L38_9 : Lt r38_9 := by refine ⟨?l, ?h⟩; case h => simp only [r38_9, c38, bodyOf, Tryd.f38, Code.sub, opsOf, List.map_cons, List.map_nil, strip]; rfl
theorem w38_9 : Wp r38_9 15 [15, 20, 25, 30, 33, 35, 42, 49, 54, 58, 63, 69, 75, 81, 87] [6, 7] [] [1, 2] [some 27, some 28, some 29, some 6, some 7] (L38_9).1 := w_plain (by kernel_rfl) (L38_9).2
noncomputable def L38_10 : Lt r38_10 := by refine ⟨?l, ?h⟩; case h => simp only [r38_10, c38, bodyOf, Tryd.f38, Code.sub, opsOf, List.map_cons, List.map_nil, strip]; rfl
theorem w38_10 : Wp r38_10 15 [15, 20, 25, 30, 33, 35, 42, 49, 54, 58, 63, 69, 75, 81, 87] [] [30] [14] [some 31, some 30] (L38_10).1 := w_plain (by kernel_rfl) (L38_10).2
noncomputable def L38_11 : Lt r38_11 := by refine ⟨?l, ?h⟩; case h => simp only [r38_11, c38, bodyOf, Tryd.f38, Code.sub, opsOf, List.map_cons, List.map_nil, strip]; rfl
theorem w38_11 : Wp r38_11 15 [15, 20, 25, 30, 33, 35, 42, 49, 54, 58, 63, 69, 75, 81, 87] [] [33] [9] [some 32, some 33] (L38_11).1 := w_plain (by kernel_rfl) (L38_11).2
noncomputable def L38_12 : Lt r38_12 := by refine ⟨?l, ?h⟩; case h => simp only [r38_12, c38, bodyOf, Tryd.f38, Code.sub, opsOf, List.map_cons, List.map_nil, strip]; rfl
theorem w38_12 : Wp r38_12 15 [15, 20, 25, 30, 33, 35, 42, 49, 54, 58, 63, 69, 75, 81, 87] [6, 7] [] [] [some 6, some 7] (L38_12).1 := w_plain (by kernel_rfl) (L38_12).2
noncomputable def L38_13 : Lt r38_13 := by refine ⟨?l, ?h⟩; case h => simp only [r38_13, c38, bodyOf, Tryd.f38, Code.sub, opsOf, List.map_cons, List.map_nil, strip]; rfl
theorem w38_13 : Wp r38_13 15 [15, 20, 25, 30, 33, 35, 42, 49, 54, 58, 63, 69, 75, 81, 87] [] [35] [9] [some 34, some 35] (L38_13).1 := w_plain (by kernel_rfl) (L38_13).2
noncomputable def L38_14 : Lt r38_14 := by refine ⟨?l, ?h⟩; case h => simp only [r38_14, c38, bodyOf, Tryd.f38, Code.sub, opsOf, List.map_cons, List.map_nil, strip]; rfl
theorem w38_14 : Wp r38_14 15 [15, 20, 25, 30, 33, 35, 42, 49, 54, 58, 63, 69, 75, 81, 87] [6, 7] [] [1] [some 36, some 37, some 6, some 7] (L38_14).1 := w_plain (by kernel_rfl) (L38_14).2
noncomputable def L38_15 : Lt r38_15 := by refine ⟨?l, ?h⟩; case h => simp only [r38_15, c38, bodyOf, Tryd.f38, Code.sub, opsOf, List.map_cons, List.map_nil, strip]; rfl
theorem w38_15 : Wp r38_15 15 [15, 20, 25, 30, 33, 35, 42, 49, 54, 58, 63, 69, 75, 81, 87] [6, 7] [] [8, 9] [some 38, some 39, some 40, some 41, some 6, some 7] (L38_15).1 := w_plain (by kernel_rfl) (L38_15).2
noncomputable def L38_16 : Lt r38_16 := by refine ⟨?l, ?h⟩; case h => simp only [r38_16, c38, bodyOf, Tryd.f38, Code.sub, opsOf, List.map_cons, List.map_nil, strip]; rfl
theorem w38_16 : Wp r38_16 15 [15, 20, 25, 30, 33, 35, 42, 49, 54, 58, 63, 69, 75, 81, 87] [] [42] [14] [some 43, some 42] (L38_16).1 := w_plain (by kernel_rfl) (L38_16).2
noncomputable def L38_17 : Lt r38_17 := by refine ⟨?l, ?h⟩; case h => simp only [r38_17, c38, bodyOf, Tryd.f38, Code.sub, opsOf, List.map_cons, List.map_nil, strip]; rfl
theorem w38_17 : Wp r38_17 15 [15, 20, 25, 30, 33, 35, 42, 49, 54, 58, 63, 69, 75, 81, 87] [] [49] [9] [some 44, some 45, some 46, some 47, some 48, some 49] (L38_17).1 := w_plain (by kernel_rfl) (L38_17).2
noncomputable def L38_18 : Lt r38_18 := by refine ⟨?l, ?h⟩; case h => simp only [r38_18, c38, bodyOf, Tryd.f38, Code.sub, opsOf, List.map_cons, List.map_nil, strip]; rfl
theorem w38_18 : Wp r38_18 15 [15, 20, 25, 30, 33, 35, 42, 49, 54, 58, 63, 69, 75, 81, 87] [6, 7] [] [] [some 6, some 7] (L38_18).1 := w_plain (by kernel_rfl) (L38_18).2
noncomputable def L38_19 : Lt r38_19 := by refine ⟨?l, ?h⟩; case h => simp only [r38_19, c38, bodyOf, Tryd.f38, Code.sub, opsOf, List.map_cons, List.map_nil, strip]; rfl
theorem w38_19 : Wp r38_19 15 [15, 20, 25, 30, 33, 35, 42, 49, 54, 58, 63, 69, 75, 81, 87] [6, 7] [] [8, 9] [some 50, some 51, some 52, some 53, some 6, some 7] (L38_19).1 := w_plain (by kernel_rfl) (L38_19).2
noncomputable def L38_20 : Lt r38_20 := by refine ⟨?l, ?h⟩; case h => simp only [r38_20, c38, bodyOf, Tryd.f38, Code.sub, opsOf, List.map_cons, List.map_nil, strip]; rfl
theorem w38_20 : Wp r38_20 15 [15, 20, 25, 30, 33, 35, 42, 49, 54, 58, 63, 69, 75, 81, 87] [] [54] [14] [some 55, some 54] (L38_20).1 := w_plain (by kernel_rfl) (L38_20).2
noncomputable def L38_21 : Lt r38_21 := by refine ⟨?l, ?h⟩; case h => simp only [r38_21, c38, bodyOf, Tryd.f38, Code.sub, opsOf, List.map_cons, List.map_nil, strip]; rfl
theorem w38_21 : Wp r38_21 15 [15, 20, 25, 30, 33, 35, 42, 49, 54, 58, 63, 69, 75, 81, 87] [6, 7] [] [1] [some 56, some 57, some 6, some 7] (L38_21).1 := w_plain (by kernel_rfl) (L38_21).2
noncomputable def L38_22 : Lt r38_22 := by refine ⟨?l, ?h⟩; case h => simp only [r38_22, c38, bodyOf, Tryd.f38, Code.sub, opsOf, List.map_cons, List.map_nil, strip]; rfl
theorem w38_22 : Wp r38_22 15 [15, 20, 25, 30, 33, 35, 42, 49, 54, 58, 63, 69, 75, 81, 87] [] [58] [14] [some 59, some 58] (L38_22).1 := w_plain (by kernel_rfl) (L38_22).2
noncomputable def L38_23 : Lt r38_23 := by refine ⟨?l, ?h⟩; case h => simp only [r38_23, c38, bodyOf, Tryd.f38, Code.sub, opsOf, List.map_cons, List.map_nil, strip]; rfl
theorem w38_23 : Wp r38_23 15 [15, 20, 25, 30, 33, 35, 42, 49, 54, 58, 63, 69, 75, 81, 87] [6, 7] [] [1] [some 60, some 61, some 62, some 6, some 7] (L38_23).1 := w_plain (by kernel_rfl) (L38_23).2
noncomputable def L38_24 : Lt r38_24 := by refine ⟨?l, ?h⟩; case h => simp only [r38_24, c38, bodyOf, Tryd.f38, Code.sub, opsOf, List.map_cons, List.map_nil, strip]; rfl
theorem w38_24 : Wp r38_24 15 [15, 20, 25, 30, 33, 35, 42, 49, 54, 58, 63, 69, 75, 81, 87] [] [63] [14] [some 64, some 63] (L38_24).1 := w_plain (by kernel_rfl) (L38_24).2
noncomputable def L38_25 : Lt r38_25 := by refine ⟨?l, ?h⟩; case h => simp only [r38_25, c38, bodyOf, Tryd.f38, Code.sub, opsOf, List.map_cons, List.map_nil, strip]; rfl
theorem w38_25 : Wp r38_25 15 [15, 20, 25, 30, 33, 35, 42, 49, 54, 58, 63, 69, 75, 81, 87] [6, 7] [] [1, 2] [some 65, some 66, some 67, some 68, some 6, some 7] (L38_25).1 := w_plain (by kernel_rfl) (L38_25).2
noncomputable def L38_26 : Lt r38_26 := by refine ⟨?l, ?h⟩; case h => simp only [r38_26, c38, bodyOf, Tryd.f38, Code.sub, opsOf, List.map_cons, List.map_nil, strip]; rfl
theorem w38_26 : Wp r38_26 15 [15, 20, 25, 30, 33, 35, 42, 49, 54, 58, 63, 69, 75, 81, 87] [] [69] [14] [some 70, some 69] (L38_26).1 := w_plain (by kernel_rfl) (L38_26).2
noncomputable def L38_27 : Lt r38_27 := by refine ⟨?l, ?h⟩; case h => simp only [r38_27, c38, bodyOf, Tryd.f38, Code.sub, opsOf, List.map_cons, List.map_nil, strip]; rfl
theorem w38_27 : Wp r38_27 15 [15, 20, 25, 30, 33, 35, 42, 49, 54, 58, 63, 69, 75, 81, 87] [6, 7] [] [1, 2] [some 71, some 72, some 73, some 74, some 6, some 7] (L38_27).1 := w_plain (by kernel_rfl) (L38_27).2
noncomputable def L38_28 : Lt r38_28 := by refine ⟨?l, ?h⟩; case h => simp only [r38_28, c38, bodyOf, Tryd.f38, Code.sub, opsOf, List.map_cons, List.map_nil, strip]; rfl
theorem w38_28 : Wp r38_28 15 [15, 20, 25, 30, 33, 35, 42, 49, 54, 58, 63, 69, 75, 81, 87] [] [75] [14] [some 76, some 75] (L38_28).1 := w_plain (by kernel_rfl) (L38_28).2
noncomputable def L38_29 : Lt r38_29 := by refine ⟨?l, ?h⟩; case h => simp only [r38_29, c38, bodyOf, Tryd.f38, Code.sub, opsOf, List.map_cons, List.map_nil, strip]; rfl
theorem w38_29 : Wp r38_29 15 [15, 20, 25, 30, 33, 35, 42, 49, 54, 58, 63, 69, 75, 81, 87] [6, 7] [] [8, 9] [some 77, some 78, some 79, some 80, some 6, some 7] (L38_29).1 := w_plain (by kernel_rfl) (L38_29).2
noncomputable def L38_30 : Lt r38_30 := by refine ⟨?l, ?h⟩; case h => simp only [r38_30, c38, bodyOf, Tryd.f38, Code.sub, opsOf, List.map_cons, List.map_nil, strip]; rfl
theorem w38_30 : Wp r38_30 15 [15, 20, 25, 30, 33, 35, 42, 49, 54, 58, 63, 69, 75, 81, 87] [] [81] [14] [some 82, some 81] (L38_30).1 := w_plain (by kernel_rfl) (L38_30).2
noncomputable def L38_31 : Lt r38_31 := by refine ⟨?l, ?h⟩; case h => simp only [r38_31, c38, bodyOf, Tryd.f38, Code.sub, opsOf, List.map_cons, List.map_nil, strip]; rfl
theorem w38_31 : Wp r38_31 15 [15, 20, 25, 30, 33, 35, 42, 49, 54, 58, 63, 69, 75, 81, 87] [6, 7] [] [8, 9] [some 83, some 84, some 85, some 86, some 6, some 7] (L38_31).1 := w_plain (by kernel_rfl) (L38_31).2
noncomputable def L38_32 : Lt r38_32 := by refine ⟨?l, ?h⟩; case h => simp only [r38_32, c38, bodyOf, Tryd.f38, Code.sub, opsOf, List.map_cons, List.map_nil, strip]; rfl
theorem w38_32 : Wp r38_32 15 [15, 20, 25, 30, 33, 35, 42, 49, 54, 58, 63, 69, 75, 81, 87] [] [87] [14] [some 88, some 87] (L38_32).1 := w_plain (by kernel_rfl) (L38_32).2
noncomputable def L38_33 : Lt r38_33 := by refine ⟨?l, ?h⟩; case h => simp only [r38_33, c38, bodyOf, Tryd.f38, Code.sub, opsOf, List.map_cons, List.map_nil, strip]; rfl
theorem w38_33 : Wp r38_33 15 [15, 20, 25, 30, 33, 35, 42, 49, 54, 58, 63, 69, 75, 81, 87] [6, 7] [] [1, 2] [some 89, some 90, some 91, some 92, some 6, some 7] (L38_33).1 := w_plain (by kernel_rfl) (L38_33).2
noncomputable def L38_34 : Lt r38_34 := by refine ⟨?l, ?h⟩; case h => simp only [r38_34, c38, bodyOf, Tryd.f38, Code.sub, opsOf, List.map_cons, List.map_nil, strip]; rfl
theorem w38_34 : Wp r38_34 15 [15, 20, 25, 30, 33, 35, 42, 49, 54, 58, 63, 69, 75, 81, 87] [6, 7] [] [] [some 6, some 7] (L38_34).1 := w_plain (by kernel_rfl) (L38_34).2
theorem k38 : FnIs TT 38 c38 [.tmp 6, .tmp 7] 3 := ⟨Tryd.f38, by kernel_rfl, by simp only [Tryd.f38, c38, bodyOf], by kernel_rfl, of_decide_eq_true (by kernel_rfl)⟩
noncomputable def c39 : Code := bodyOf Tryd.f39
noncomputable def r39_0 : Code := Code.sub [0] c39
noncomputable def r39_1 : Code := Code.sub [1, 0, 0] c39
noncomputable def r39_2 : Code := Code.sub [1, 0, 1, 0, 0] c39
noncomputable def r39_3 : Code := Code.sub [1, 0, 1, 0, 1, 0, 0] c39
noncomputable def r39_4 : Code := Code.sub [1, 0, 1, 0, 1, 1, 0] c39
noncomputable def r39_5 : Code := Code.sub [1, 0, 1, 0, 1, 1, 1, 0, 0] c39
noncomputable def r39_6 : Code := Code.sub [1, 0, 1, 0, 1, 1, 1, 1, 0] c39
noncomputable def r39_7 : Code := Code.sub [1, 0, 1, 0, 1, 1, 1, 1, 1, 0, 0] c39
noncomputable def r39_8 : Code := Code.sub [1, 0, 1, 0, 1, 1, 1, 1, 1, 1, 0] c39
noncomputable def r39_9 : Code := Code.sub [1, 0, 1, 0, 1, 1, 1, 1, 1, 1, 1, 0, 0] c39
noncomputable def r39_10 : Code := Code.sub [1, 0, 1, 0, 1, 1, 1, 1, 1, 1, 1, 1, 0] c39
noncomputable def r39_11 : Code := Code.sub [1, 0, 1, 0, 1, 1, 1, 1, 1, 1, 1, 1, 1, 0, 0] c39
noncomputable def r39_12 : Code := Code.sub [1, 0, 1, 0, 1, 1, 1, 1, 1, 1, 1, 1, 1, 1, 0] c39
noncomputable def r39_13 : Code := Code.sub [1, 0, 1, 0, 1, 1, 1, 1, 1, 1, 1, 1, 1, 1, 1, 0, 0] c39
noncomputable def r39_14 : Code := Code.sub [1, 0, 1, 0, 1, 1, 1, 1, 1, 1, 1, 1, 1, 1, 1, 1, 0] c39
noncomputable def r39_15 : Code := Code.sub [1, 0, 1, 0, 1, 1, 1, 1, 1, 1, 1, 1, 1, 1, 1, 1, 1, 0, 0] c39
noncomputable def r39_16 : Code := Code.sub [1, 0, 1, 0, 1, 1, 1, 1, 1, 1, 1, 1, 1, 1, 1, 1, 1, 1, 0] c39
noncomputable def r39_17 : Code := Code.sub [1, 0, 1, 0, 1, 1, 1, 1, 1, 1, 1, 1, 1, 1, 1, 1, 1, 1, 1, 0, 0] c39
noncomputable def r39_18 : Code := Code.sub [1, 0, 1, 0, 1, 1, 1, 1, 1, 1, 1, 1, 1, 1, 1, 1, 1, 1, 1, 1, 0] c39
noncomputable def r39_19 : Code := Code.sub [1, 0, 1, 0, 1, 1, 1, 1, 1, 1, 1, 1, 1, 1, 1, 1, 1, 1, 1, 1, 1, 0, 0] c39
noncomputable def r39_20 : Code := Code.sub [1, 0, 1, 0, 1, 1, 1, 1, 1, 1, 1, 1, 1, 1, 1, 1, 1, 1, 1, 1, 1, 1, 0] c39
noncomputable def r39_21 : Code := Code.sub [1, 0, 1, 0, 1, 1, 1, 1, 1, 1, 1, 1, 1, 1, 1, 1, 1, 1, 1, 1, 1, 1, 1, 0, 0] c39
noncomputable def r39_22 : Code := Code.sub [1, 0, 1, 0, 1, 1, 1, 1, 1, 1, 1, 1, 1, 1, 1, 1, 1, 1, 1, 1, 1, 1, 1, 1, 0] c39
noncomputable def r39_23 : Code := Code.sub [1, 0, 1, 0, 1, 1, 1, 1, 1, 1, 1, 1, 1, 1, 1, 1, 1, 1, 1, 1, 1, 1, 1, 1, 1, 0, 0] c39
noncomputable def r39_24 : Code := Code.sub [1, 1, 0] c39
theorem body39 : c39 = (.seq r39_0 (.seq (.seq r39_1 (.block 0 (.seq r39_2 (.cond (.tmp 4) (.seq r39_3 .ret) (.seq r39_4 (.cond (.tmp 6) (.seq r39_5 .ret) (.seq r39_6 (.cond (.tmp 8) (.seq r39_7 .ret) (.seq r39_8 (.cond (.tmp 10) (.seq r39_9 .ret) (.seq r39_10 (.cond (.tmp 12) (.seq r39_11 .ret) (.seq r39_12 (.cond (.tmp 14) (.seq r39_13 .ret) (.seq r39_14 (.cond (.tmp 16) (.seq r39_15 .ret) (.seq r39_16 (.cond (.tmp 18) (.seq r39_17 .ret) (.seq r39_18 (.cond (.tmp 20) (.seq r39_19 .ret) (.seq r39_20 (.cond (.tmp 22) (.seq r39_21 .ret) (.seq r39_22 (.cond (.tmp 24) (.seq r39_23 .ret) .skip)))))))))))))))))))))))) (.seq r39_24 .ret))) := by kernel_rfl
noncomputable def L39_0 : Lt r39_0 := by refine ⟨?l, ?h⟩; case h => simp only [r39_0, c39, bodyOf, Tryd.f39, Code.sub, opsOf, List.map_cons, List.map_nil, strip]; rfl
theorem w39_0 : Wp r39_0 4 [4, 6, 8, 10, 12, 14, 16, 18, 20, 22, 24] [2] [] [] [some 2] (L39_0).1 := w_plain (by kernel_rfl) (L39_0).2
noncomputable def L39_1 : Lt r39_1 := by refine ⟨?l, ?h⟩; case h => simp only [r39_1, c39, bodyOf, Tryd.f39, Code.sub, opsOf, List.map_cons, List.map_nil, strip]; rfl
theorem w39_1 : Wp r39_1 4 [4, 6, 8, 10, 12, 14, 16, 18, 20, 22, 24] [3] [] [0] [some 3] (L39_1).1 := w_plain (by kernel_rfl) (L39_1).2
noncomputable def L39_2 : Lt r39_2 := by refine ⟨?l, ?h⟩; case h => simp only [r39_2, c39, bodyOf, Tryd.f39, Code.sub, opsOf, List.map_cons, List.map_nil, strip]; rfl
theorem w39_2 : Wp r39_2 4 [4, 6, 8, 10, 12, 14, 16, 18, 20, 22, 24] [] [4] [3] [some 5, some 4] (L39_2).1 := w_plain (by kernel_rfl) (L39_2).2
noncomputable def L39_3 : Lt r39_3 := by refine ⟨?l, ?h⟩; case h => simp only [r39_3, c39, bodyOf, Tryd.f39, Code.sub, opsOf, List.map_cons, List.map_nil, strip]; rfl
theorem w39_3 : Wp r39_3 4 [4, 6, 8, 10, 12, 14, 16, 18, 20, 22, 24] [2] [] [] [some 2] (L39_3).1 := w_plain (by kernel_rfl) (L39_3).2
noncomputable def L39_4 : Lt r39_4 := by refine ⟨?l, ?h⟩; case h => simp only [r39_4, c39, bodyOf, Tryd.f39, Code.sub, opsOf, List.map_cons, List.map_nil, strip]; rfl
theorem w39_4 : Wp r39_4 4 [4, 6, 8, 10, 12, 14, 16, 18, 20, 22, 24] [] [6] [3] [some 7, some 6] (L39_4).1 := w_plain (by kernel_rfl) (L39_4).2
noncomputable def L39_5 : Lt r39_5 := by refine ⟨?l, ?h⟩; case h => simp only [r39_5, c39, bodyOf, Tryd.f39, Code.sub, opsOf, List.map_cons, List.map_nil, strip]; rfl
theorem w39_5 : Wp r39_5 4 [4, 6, 8, 10, 12, 14, 16, 18, 20, 22, 24] [2] [] [] [some 2] (L39_5).1 := w_plain (by kernel_rfl) (L39_5).2
noncomputable def L39_6 : Lt r39_6 := by refine ⟨?l, ?h⟩; case h => simp only [r39_6, c39, bodyOf, Tryd.f39, Code.sub, opsOf, List.map_cons, List.map_nil, strip]; rfl
theorem w39_6 : Wp r39_6 4 [4, 6, 8, 10, 12, 14, 16, 18, 20, 22, 24] [] [8] [3] [some 9, some 8] (L39_6).1 := w_plain (by kernel_rfl) (L39_6).2
noncomputable def L39_7 : Lt r39_7 := by refine ⟨?l, ?h⟩; case h => simp only [r39_7, c39, bodyOf, Tryd.f39, Code.sub, opsOf, List.map_cons, List.map_nil, strip]; rfl
theorem w39_7 : Wp r39_7 4 [4, 6, 8, 10, 12, 14, 16, 18, 20, 22, 24] [2] [] [] [some 2] (L39_7).1 := w_plain (by kernel_rfl) (L39_7).2
noncomputable def L39_8 : Lt r39_8 := by refine ⟨?l, ?h⟩; case h => simp only [r39_8, c39, bodyOf, Tryd.f39, Code.sub, opsOf, List.map_cons, List.map_nil, strip]; rfl
theorem w39_8 : Wp r39_8 4 [4, 6, 8, 10, 12, 14, 16, 18, 20, 22, 24] [] [10] [3] [some 11, some 10] (L39_8).1 := w_plain (by kernel_rfl) (L39_8).2
noncomputable def L39_9 : Lt r39_9 := by refine ⟨?l, ?h⟩; case h => simp only [r39_9, c39, bodyOf, Tryd.f39, Code.sub, opsOf, List.map_cons, List.map_nil, strip]; rfl
theorem w39_9 : Wp r39_9 4 [4, 6, 8, 10, 12, 14, 16, 18, 20, 22, 24] [2] [] [] [some 2] (L39_9).1 := w_plain (by kernel_rfl) (L39_9).2
noncomputable def L39_10 : Lt r39_10 := by refine ⟨?l, ?h⟩; case h => simp only [r39_10, c39, bodyOf, Tryd.f39, Code.sub, opsOf, List.map_cons, List.map_nil, strip]; rfl
theorem w39_10 : Wp r39_10 4 [4, 6, 8, 10, 12, 14, 16, 18, 20, 22, 24] [] [12] [3] [some 13, some 12] (L39_10).1 := w_plain (by kernel_rfl) (L39_10).2
noncomputable def L39_11 : Lt r39_11 := by refine ⟨?l, ?h⟩; case h => simp only [r39_11, c39, bodyOf, Tryd.f39, Code.sub, opsOf, List.map_cons, List.map_nil, strip]; rfl
theorem w39_11 : Wp r39_11 4 [4, 6, 8, 10, 12, 14, 16, 18, 20, 22, 24] [2] [] [] [some 2] (L39_11).1 := w_plain (by kernel_rfl) (L39_11).2
noncomputable def L39_12 : Lt r39_12 := by refine ⟨?l, ?h⟩; case h => simp only [r39_12, c39, bodyOf, Tryd.f39, Code.sub, opsOf, List.map_cons, List.map_nil, strip]; rfl
theorem w39_12 : Wp r39_12 4 [4, 6, 8, 10, 12, 14, 16, 18, 20, 22, 24] [] [14] [3] [some 15, some 14] (L39_12).1 := w_plain (by kernel_rfl) (L39_12).2
noncomputable def L39_13 : Lt r39_13 := by refine ⟨?l, ?h⟩; case h => simp only [r39_13, c39, bodyOf, Tryd.f39, Code.sub, opsOf, List.map_cons, List.map_nil, strip]; rfl
theorem w39_13 : Wp r39_13 4 [4, 6, 8, 10, 12, 14, 16, 18, 20, 22, 24] [2] [] [] [some 2] (L39_13).1 := w_plain (by kernel_rfl) (L39_13).2
noncomputable def L39_14 : Lt r39_14 := by refine ⟨?l, ?h⟩; case h => simp only [r39_14, c39, bodyOf, Tryd.f39, Code.sub, opsOf, List.map_cons, List.map_nil, strip]; rfl
theorem w39_14 : Wp r39_14 4 [4, 6, 8, 10, 12, 14, 16, 18, 20, 22, 24] [] [16] [3] [some 17, some 16] (L39_14).1 := w_plain (by kernel_rfl) (L39_14).2
noncomputable def L39_15 : Lt r39_15 := by refine ⟨?l, ?h⟩; case h => simp only [r39_15, c39, bodyOf, Tryd.f39, Code.sub, opsOf, List.map_cons, List.map_nil, strip]; rfl
theorem w39_15 : Wp r39_15 4 [4, 6, 8, 10, 12, 14, 16, 18, 20, 22, 24] [2] [] [] [some 2] (L39_15).1 := w_plain (by kernel_rfl) (L39_15).2
noncomputable def L39_16 : Lt r39_16 := by refine ⟨?l, ?h⟩; case h => simp only [r39_16, c39, bodyOf, Tryd.f39, Code.sub, opsOf, List.map_cons, List.map_nil, strip]; rfl
theorem w39_16 : Wp r39_16 4 [4, 6, 8, 10, 12, 14, 16, 18, 20, 22, 24] [] [18] [3] [some 19, some 18] (L39_16).1 := w_plain (by kernel_rfl) (L39_16).2
noncomputable def L39_17 : Lt r39_17 := by refine ⟨?l, ?h⟩; case h => simp only [r39_17, c39, bodyOf, Tryd.f39, Code.sub, opsOf, List.map_cons, List.map_nil, strip]; rfl
theorem w39_17 : Wp r39_17 4 [4, 6, 8, 10, 12, 14, 16, 18, 20, 22, 24] [2] [] [] [some 2] (L39_17).1 := w_plain (by kernel_rfl) (L39_17).2
noncomputable def L39_18 : Lt r39_18 := by refine ⟨?l, ?h⟩; case h => simp only [r39_18, c39, bodyOf, Tryd.f39, Code.sub, opsOf, List.map_cons, List.map_nil, strip]; rfl
theorem w39_18 : Wp r39_18 4 [4, 6, 8, 10, 12, 14, 16, 18, 20, 22, 24] [] [20] [3] [some 21, some 20] (L39_18).1 := w_plain (by kernel_rfl) (L39_18).2
noncomputable def L39_19 : Lt r39_19 := by refine ⟨?l, ?h⟩; case h => simp only [r39_19, c39, bodyOf, Tryd.f39, Code.sub, opsOf, List.map_cons, List.map_nil, strip]; rfl
theorem w39_19 : Wp r39_19 4 [4, 6, 8, 10, 12, 14, 16, 18, 20, 22, 24] [2] [] [] [some 2] (L39_19).1 := w_plain (by kernel_rfl) (L39_19).2
noncomputable def L39_20 : Lt r39_20 := by refine ⟨?l, ?h⟩; case h => simp only [r39_20, c39, bodyOf, Tryd.f39, Code.sub, opsOf, List.map_cons, List.map_nil, strip]; rfl
theorem w39_20 : Wp r39_20 4 [4, 6, 8, 10, 12, 14, 16, 18, 20, 22, 24] [] [22] [3] [some 23, some 22] (L39_20).1 := w_plain (by kernel_rfl) (L39_20).2
noncomputable def L39_21 : Lt r39_21 := by refine ⟨?l, ?h⟩; case h => simp only [r39_21, c39, bodyOf, Tryd.f39, Code.sub, opsOf, List.map_cons, List.map_nil, strip]; rfl
theorem w39_21 : Wp r39_21 4 [4, 6, 8, 10, 12, 14, 16, 18, 20, 22, 24] [2] [] [] [some 2] (L39_21).1 := w_plain (by kernel_rfl) (L39_21).2
noncomputable def L39_22 : Lt r39_22 := by refine ⟨?l, ?h⟩; case h => simp only [r39_22, c39, bodyOf, Tryd.f39, Code.sub, opsOf, List.map_cons, List.map_nil, strip]; rfl
theorem w39_22 : Wp r39_22 4 [4, 6, 8, 10, 12, 14, 16, 18, 20, 22, 24] [] [24] [3] [some 25, some 24] (L39_22).1 := w_plain (by kernel_rfl) (L39_22).2
noncomputable def L39_23 : Lt r39_23 := by refine ⟨?l, ?h⟩; case h => simp only [r39_23, c39, bodyOf, Tryd.f39, Code.sub, opsOf, List.map_cons, List.map_nil, strip]; rfl
theorem w39_23 : Wp r39_23 4 [4, 6, 8, 10, 12, 14, 16, 18, 20, 22, 24] [2] [] [] [some 2] (L39_23).1 := w_plain (by kernel_rfl) (L39_23).2
noncomputable def L39_24 : Lt r39_24 := by refine ⟨?l, ?h⟩; case h => simp only [r39_24, c39, bodyOf, Tryd.f39, Code.sub, opsOf, List.map_cons, List.map_nil, strip]; rfl
theorem w39_24 : Wp r39_24 4 [4, 6, 8, 10, 12, 14, 16, 18, 20, 22, 24] [2] [] [] [some 2] (L39_24).1 := w_plain (by kernel_rfl) (L39_24).2
theorem k39 : FnIs TT 39 c39 [.tmp 2] 1 := ⟨Tryd.f39, by kernel_rfl, by simp only [Tryd.f39, c39, bodyOf], by kernel_rfl, of_decide_eq_true (by kernel_rfl)⟩
noncomputable def c41 : Code := bodyOf Tryd.f41
noncomputable def r41_0 : Code := Code.sub [0] c41
noncomputable def r41_1 : Code := Code.sub [1, 0, 0] c41
noncomputable def r41_2 : Code := Code.sub [1, 0, 1, 0, 0, 0] c41
noncomputable def r41_3 : Code := Code.sub [1, 0, 1, 0, 0, 1, 1, 0] c41
noncomputable def r41_4 : Code := Code.sub [1, 0, 1, 0, 0, 1, 1, 1, 1, 0] c41
noncomputable def r41_5 : Code := Code.sub [1, 0, 1, 0, 0, 1, 1, 1, 1, 1, 1, 0] c41
noncomputable def r41_6 : Code := Code.sub [1, 0, 1, 0, 0, 1, 1, 1, 1, 1, 1, 1, 1] c41
noncomputable def r41_7 : Code := Code.sub [1, 0, 1, 0, 1, 0, 0] c41
noncomputable def r41_8 : Code := Code.sub [1, 0, 1, 0, 1, 1, 0, 0] c41
noncomputable def r41_9 : Code := Code.sub [1, 0, 1, 0, 1, 1, 0, 1, 1, 0] c41
noncomputable def r41_10 : Code := Code.sub [1, 0, 1, 0, 1, 1, 0, 1, 1, 1, 1, 0] c41
noncomputable def r41_11 : Code := Code.sub [1, 0, 1, 0, 1, 1, 0, 1, 1, 1, 1, 1, 1, 0] c41
noncomputable def r41_12 : Code := Code.sub [1, 0, 1, 0, 1, 1, 0, 1, 1, 1, 1, 1, 1, 1, 1] c41
noncomputable def r41_13 : Code := Code.sub [1, 0, 1, 0, 1, 1, 1, 0, 0] c41
noncomputable def r41_14 : Code := Code.sub [1, 0, 1, 0, 1, 1, 1, 1, 0, 0] c41
noncomputable def r41_15 : Code := Code.sub [1, 0, 1, 0, 1, 1, 1, 1, 0, 1, 1] c41
noncomputable def r41_16 : Code := Code.sub [1, 0, 1, 0, 1, 1, 1, 1, 1, 0, 0] c41
noncomputable def r41_17 : Code := Code.sub [1, 0, 1, 0, 1, 1, 1, 1, 1, 1, 0, 0] c41
noncomputable def r41_18 : Code := Code.sub [1, 0, 1, 0, 1, 1, 1, 1, 1, 1, 0, 1, 1, 0] c41
noncomputable def r41_19 : Code := Code.sub [1, 0, 1, 0, 1, 1, 1, 1, 1, 1, 0, 1, 1, 1, 1] c41
noncomputable def r41_20 : Code := Code.sub [1, 0, 1, 0, 1, 1, 1, 1, 1, 1, 1, 0, 0] c41
noncomputable def r41_21 : Code := Code.sub [1, 1, 0] c41
theorem body41 : c41 = (.seq r41_0 (.seq (.seq r41_1 (.block 0 (.seq (.seq r41_2 (.cond (.tmp 5) .skip (.seq r41_3 (.cond (.tmp 5) .skip (.seq r41_4 (.cond (.tmp 5) .skip (.seq r41_5 (.cond (.tmp 5) .skip r41_6)))))))) (.cond (.tmp 5) (.seq r41_7 .ret) (.seq (.seq r41_8 (.cond (.tmp 11) .skip (.seq r41_9 (.cond (.tmp 11) .skip (.seq r41_10 (.cond (.tmp 11) .skip (.seq r41_11 (.cond (.tmp 11) .skip r41_12)))))))) (.cond (.tmp 11) (.seq r41_13 .ret) (.seq (.seq r41_14 (.cond (.tmp 17) .skip r41_15)) (.cond (.tmp 17) (.seq r41_16 .ret) (.seq (.seq r41_17 (.cond (.tmp 20) .skip (.seq r41_18 (.cond (.tmp 20) .skip r41_19)))) (.cond (.tmp 20) (.seq r41_20 .ret) .skip)))))))))) (.seq r41_21 .ret))) := by kernel_rfl
noncomputable def L41_0 : Lt r41_0 := by refine ⟨?l, ?h⟩; case h => simp only [r41_0, c41, bodyOf, Tryd.f41, Code.sub, opsOf, List.map_cons, List.map_nil, strip]; rfl
theorem w41_0 : Wp r41_0 5 [5, 5, 5, 5, 5, 11, 11, 11, 11, 11, 17, 17, 20, 20, 20] [2, 3] [] [] [some 2, some 3] (L41_0).1 := w_plain (by kernel_rfl) (L41_0).2
noncomputable def L41_1 : Lt r41_1 := by refine ⟨?l, ?h⟩; case h => simp only [r41_1, c41, bodyOf, Tryd.f41, Code.sub, opsOf, List.map_cons, List.map_nil, strip]; rfl
theorem w41_1 : Wp r41_1 5 [5, 5, 5, 5, 5, 11, 11, 11, 11, 11, 17, 17, 20, 20, 20] [4] [] [0] [some 4] (L41_1).1 := w_plain (by kernel_rfl) (L41_1).2
noncomputable def L41_2 : Lt r41_2 := by refine ⟨?l, ?h⟩; case h => simp only [r41_2, c41, bodyOf, Tryd.f41, Code.sub, opsOf, List.map_cons, List.map_nil, strip]; rfl
theorem w41_2 : Wp r41_2 5 [5, 5, 5, 5, 5, 11, 11, 11, 11, 11, 17, 17, 20, 20, 20] [] [5] [4] [some 6, some 5] (L41_2).1 := w_plain (by kernel_rfl) (L41_2).2
noncomputable def L41_3 : Lt r41_3 := by refine ⟨?l, ?h⟩; case h => simp only [r41_3, c41, bodyOf, Tryd.f41, Code.sub, opsOf, List.map_cons, List.map_nil, strip]; rfl
theorem w41_3 : Wp r41_3 5 [5, 5, 5, 5, 5, 11, 11, 11, 11, 11, 17, 17, 20, 20, 20] [] [5] [4] [some 7, some 5] (L41_3).1 := w_plain (by kernel_rfl) (L41_3).2
noncomputable def L41_4 : Lt r41_4 := by refine ⟨?l, ?h⟩; case h => simp only [r41_4, c41, bodyOf, Tryd.f41, Code.sub, opsOf, List.map_cons, List.map_nil, strip]; rfl
theorem w41_4 : Wp r41_4 5 [5, 5, 5, 5, 5, 11, 11, 11, 11, 11, 17, 17, 20, 20, 20] [] [5] [4] [some 8, some 5] (L41_4).1 := w_plain (by kernel_rfl) (L41_4).2
noncomputable def L41_5 : Lt r41_5 := by refine ⟨?l, ?h⟩; case h => simp only [r41_5, c41, bodyOf, Tryd.f41, Code.sub, opsOf, List.map_cons, List.map_nil, strip]; rfl
theorem w41_5 : Wp r41_5 5 [5, 5, 5, 5, 5, 11, 11, 11, 11, 11, 17, 17, 20, 20, 20] [] [5] [4] [some 9, some 5] (L41_5).1 := w_plain (by kernel_rfl) (L41_5).2
noncomputable def L41_6 : Lt r41_6 := by refine ⟨?l, ?h⟩; case h => simp only [r41_6, c41, bodyOf, Tryd.f41, Code.sub, opsOf, List.map_cons, List.map_nil, strip]; rfl
theorem w41_6 : Wp r41_6 5 [5, 5, 5, 5, 5, 11, 11, 11, 11, 11, 17, 17, 20, 20, 20] [] [5] [4] [some 10, some 5] (L41_6).1 := w_plain (by kernel_rfl) (L41_6).2
noncomputable def L41_7 : Lt r41_7 := by refine ⟨?l, ?h⟩; case h => simp only [r41_7, c41, bodyOf, Tryd.f41, Code.sub, opsOf, List.map_cons, List.map_nil, strip]; rfl
theorem w41_7 : Wp r41_7 5 [5, 5, 5, 5, 5, 11, 11, 11, 11, 11, 17, 17, 20, 20, 20] [2, 3] [] [] [some 2, some 3] (L41_7).1 := w_plain (by kernel_rfl) (L41_7).2
noncomputable def L41_8 : Lt r41_8 := by refine ⟨?l, ?h⟩; case h => simp only [r41_8, c41, bodyOf, Tryd.f41, Code.sub, opsOf, List.map_cons, List.map_nil, strip]; rfl
theorem w41_8 : Wp r41_8 5 [5, 5, 5, 5, 5, 11, 11, 11, 11, 11, 17, 17, 20, 20, 20] [] [11] [4] [some 12, some 11] (L41_8).1 := w_plain (by kernel_rfl) (L41_8).2
noncomputable def L41_9 : Lt r41_9 := by refine ⟨?l, ?h⟩; case h => simp only [r41_9, c41, bodyOf, Tryd.f41, Code.sub, opsOf, List.map_cons, List.map_nil, strip]; rfl
theorem w41_9 : Wp r41_9 5 [5, 5, 5, 5, 5, 11, 11, 11, 11, 11, 17, 17, 20, 20, 20] [] [11] [4] [some 13, some 11] (L41_9).1 := w_plain (by kernel_rfl) (L41_9).2
noncomputable def L41_10 : Lt r41_10 := by refine ⟨?l, ?h⟩; case h => simp only [r41_10, c41, bodyOf, Tryd.f41, Code.sub, opsOf, List.map_cons, List.map_nil, strip]; rfl
theorem w41_10 : Wp r41_10 5 [5, 5, 5, 5, 5, 11, 11, 11, 11, 11, 17, 17, 20, 20, 20] [] [11] [4] [some 14, some 11] (L41_10).1 := w_plain (by kernel_rfl) (L41_10).2
noncomputable def L41_11 : Lt r41_11 := by refine ⟨?l, ?h⟩; case h => simp only [r41_11, c41, bodyOf, Tryd.f41, Code.sub, opsOf, List.map_cons, List.map_nil, strip]; rfl
theorem w41_11 : Wp r41_11 5 [5, 5, 5, 5, 5, 11, 11, 11, 11, 11, 17, 17, 20, 20, 20] [] [11] [4] [some 15, some 11] (L41_11).1 := w_plain (by kernel_rfl) (L41_11).2
noncomputable def L41_12 : Lt r41_12 := by refine ⟨?l, ?h⟩; case h => simp only [r41_12, c41, bodyOf, Tryd.f41, Code.sub, opsOf, List.map_cons, List.map_nil, strip]; rfl
theorem w41_12 : Wp r41_12 5 [5, 5, 5, 5, 5, 11, 11, 11, 11, 11, 17, 17, 20, 20, 20] [] [11] [4] [some 16, some 11] (L41_12).1 := w_plain (by kernel_rfl) (L41_12).2
noncomputable def L41_13 : Lt r41_13 := by refine ⟨?l, ?h⟩; case h => simp only [r41_13, c41, bodyOf, Tryd.f41, Code.sub, opsOf, List.map_cons, List.map_nil, strip]; rfl
theorem w41_13 : Wp r41_13 5 [5, 5, 5, 5, 5, 11, 11, 11, 11, 11, 17, 17, 20, 20, 20] [2, 3] [] [] [some 2, some 3] (L41_13).1 := w_plain (by kernel_rfl) (L41_13).2
noncomputable def L41_14 : Lt r41_14 := by refine ⟨?l, ?h⟩; case h => simp only [r41_14, c41, bodyOf, Tryd.f41, Code.sub, opsOf, List.map_cons, List.map_nil, strip]; rfl
theorem w41_14 : Wp r41_14 5 [5, 5, 5, 5, 5, 11, 11, 11, 11, 11, 17, 17, 20, 20, 20] [] [17] [4] [some 18, some 17] (L41_14).1 := w_plain (by kernel_rfl) (L41_14).2
noncomputable def L41_15 : Lt r41_15 := by refine ⟨?l, ?h⟩; case h => simp only [r41_15, c41, bodyOf, Tryd.f41, Code.sub, opsOf, List.map_cons, List.map_nil, strip]; rfl
theorem w41_15 : Wp r41_15 5 [5, 5, 5, 5, 5, 11, 11, 11, 11, 11, 17, 17, 20, 20, 20] [] [17] [4] [some 19, some 17] (L41_15).1 := w_plain (by kernel_rfl) (L41_15).2
noncomputable def L41_16 : Lt r41_16 := by refine ⟨?l, ?h⟩; case h => simp only [r41_16, c41, bodyOf, Tryd.f41, Code.sub, opsOf, List.map_cons, List.map_nil, strip]; rfl
theorem w41_16 : Wp r41_16 5 [5, 5, 5, 5, 5, 11, 11, 11, 11, 11, 17, 17, 20, 20, 20] [2, 3] [] [] [some 2, some 3] (L41_16).1 := w_plain (by kernel_rfl) (L41_16).2
noncomputable def L41_17 : Lt r41_17 := by refine ⟨?l, ?h⟩; case h => simp only [r41_17, c41, bodyOf, Tryd.f41, Code.sub, opsOf, List.map_cons, List.map_nil, strip]; rfl
theorem w41_17 : Wp r41_17 5 [5, 5, 5, 5, 5, 11, 11, 11, 11, 11, 17, 17, 20, 20, 20] [] [20] [4] [some 21, some 20] (L41_17).1 := w_plain (by kernel_rfl) (L41_17).2
noncomputable def L41_18 : Lt r41_18 := by refine ⟨?l, ?h⟩; case h => simp only [r41_18, c41, bodyOf, Tryd.f41, Code.sub, opsOf, List.map_cons, List.map_nil, strip]; rfl
theorem w41_18 : Wp r41_18 5 [5, 5, 5, 5, 5, 11, 11, 11, 11, 11, 17, 17, 20, 20, 20] [] [20] [4] [some 22, some 20] (L41_18).1 := w_plain (by kernel_rfl) (L41_18).2
noncomputable def L41_19 : Lt r41_19 := by refine ⟨?l, ?h⟩; case h => simp only [r41_19, c41, bodyOf, Tryd.f41, Code.sub, opsOf, List.map_cons, List.map_nil, strip]; rfl
theorem w41_19 : Wp r41_19 5 [5, 5, 5, 5, 5, 11, 11, 11, 11, 11, 17, 17, 20, 20, 20] [] [20] [4] [some 23, some 20] (L41_19).1 := w_plain (by kernel_rfl) (L41_19).2
noncomputable def L41_20 : Lt r41_20 := by refine ⟨?l, ?h⟩; case h => simp only [r41_20, c41, bodyOf, Tryd.f41, Code.sub, opsOf, List.map_cons, List.map_nil, strip]; rfl
theorem w41_20 : Wp r41_20 5 [5, 5, 5, 5, 5, 11, 11, 11, 11, 11, 17, 17, 20, 20, 20] [2, 3] [] [] [some 2, some 3] (L41_20).1 := w_plain (by kernel_rfl) (L41_20).2
noncomputable def L41_21 : Lt r41_21 := by refine ⟨?l, ?h⟩; case h => simp only [r41_21, c41, bodyOf, Tryd.f41, Code.sub, opsOf, List.map_cons, List.map_nil, strip]; rfl
theorem w41_21 : Wp r41_21 5 [5, 5, 5, 5, 5, 11, 11, 11, 11, 11, 17, 17, 20, 20, 20] [2, 3] [] [] [some 2, some 3] (L41_21).1 := w_plain (by kernel_rfl) (L41_21).2
theorem k41 : FnIs TT 41 c41 [.tmp 2, .tmp 3] 1 := ⟨Tryd.f41, by kernel_rfl, by simp only [Tryd.f41, c41, bodyOf], by kernel_rfl, of_decide_eq_true (by kernel_rfl)⟩
noncomputable def c42 : Code := bodyOf Tryd.f42
noncomputable def r42_0 : Code := Code.sub [0] c42
noncomputable def r42_1 : Code := Code.sub [1, 0, 0] c42
noncomputable def r42_2 : Code := Code.sub [1, 0, 1, 0, 0, 0] c42
noncomputable def r42_3 : Code := Code.sub [1, 0, 1, 0, 0, 1, 1, 0] c42
noncomputable def r42_4 : Code := Code.sub [1, 0, 1, 0, 0, 1, 1, 1, 1] c42
noncomputable def r42_5 : Code := Code.sub [1, 0, 1, 0, 1, 0, 0] c42
noncomputable def r42_6 : Code := Code.sub [1, 0, 1, 0, 1, 1, 0, 0] c42
noncomputable def r42_7 : Code := Code.sub [1, 0, 1, 0, 1, 1, 0, 1, 1] c42
noncomputable def r42_8 : Code := Code.sub [1, 0, 1, 0, 1, 1, 1, 0, 0] c42
noncomputable def r42_9 : Code := Code.sub [1, 0, 1, 0, 1, 1, 1, 1, 0, 0] c42
noncomputable def r42_10 : Code := Code.sub [1, 0, 1, 0, 1, 1, 1, 1, 0, 1, 1] c42
noncomputable def r42_11 : Code := Code.sub [1, 0, 1, 0, 1, 1, 1, 1, 1, 0, 0] c42
noncomputable def r42_12 : Code := Code.sub [1, 0, 1, 0, 1, 1, 1, 1, 1, 1, 0, 0] c42
noncomputable def r42_13 : Code := Code.sub [1, 0, 1, 0, 1, 1, 1, 1, 1, 1, 0, 1, 1, 0] c42
noncomputable def r42_14 : Code := Code.sub [1, 0, 1, 0, 1, 1, 1, 1, 1, 1, 0, 1, 1, 1, 1] c42
noncomputable def r42_15 : Code := Code.sub [1, 0, 1, 0, 1, 1, 1, 1, 1, 1, 1, 0, 0] c42
noncomputable def r42_16 : Code := Code.sub [1, 1, 0] c42
theorem body42 : c42 = (.seq r42_0 (.seq (.seq r42_1 (.block 0 (.seq (.seq r42_2 (.cond (.tmp 8) .skip (.seq r42_3 (.cond (.tmp 8) .skip r42_4)))) (.cond (.tmp 8) (.seq r42_5 .ret) (.seq (.seq r42_6 (.cond (.tmp 12) .skip r42_7)) (.cond (.tmp 12) (.seq r42_8 .ret) (.seq (.seq r42_9 (.cond (.tmp 21) .skip r42_10)) (.cond (.tmp 21) (.seq r42_11 .ret) (.seq (.seq r42_12 (.cond (.tmp 31) .skip (.seq r42_13 (.cond (.tmp 31) .skip r42_14)))) (.cond (.tmp 31) (.seq r42_15 .ret) .skip)))))))))) (.seq r42_16 .ret))) := by kernel_rfl
noncomputable def L42_0 : Lt r42_0 := by refine ⟨?l, ?h⟩; case h => simp only [r42_0, c42, bodyOf, Tryd.f42, Code.sub, opsOf, List.map_cons, List.map_nil, strip]; rfl
theorem w42_0 : Wp r42_0 8 [8, 8, 8, 12, 12, 21, 21, 31, 31, 31] [6] [] [] [some 6] (L42_0).1 := w_plain (by kernel_rfl) (L42_0).2
noncomputable def L42_1 : Lt r42_1 := by refine ⟨?l, ?h⟩; case h => simp only [r42_1, c42, bodyOf, Tryd.f42, Code.sub, opsOf, List.map_cons, List.map_nil, strip]; rfl
theorem w42_1 : Wp r42_1 8 [8, 8, 8, 12, 12, 21, 21, 31, 31, 31] [7] [] [0] [some 7] (L42_1).1 := w_plain (by kernel_rfl) (L42_1).2
noncomputable def L42_2 : Lt r42_2 := by refine ⟨?l, ?h⟩; case h => simp only [r42_2, c42, bodyOf, Tryd.f42, Code.sub, opsOf, List.map_cons, List.map_nil, strip]; rfl
theorem w42_2 : Wp r42_2 8 [8, 8, 8, 12, 12, 21, 21, 31, 31, 31] [] [8] [7] [some 9, some 8] (L42_2).1 := w_plain (by kernel_rfl) (L42_2).2
noncomputable def L42_3 : Lt r42_3 := by refine ⟨?l, ?h⟩; case h => simp only [r42_3, c42, bodyOf, Tryd.f42, Code.sub, opsOf, List.map_cons, List.map_nil, strip]; rfl
theorem w42_3 : Wp r42_3 8 [8, 8, 8, 12, 12, 21, 21, 31, 31, 31] [] [8] [7] [some 10, some 8] (L42_3).1 := w_plain (by kernel_rfl) (L42_3).2
noncomputable def L42_4 : Lt r42_4 := by refine ⟨?l, ?h⟩; case h => simp only [r42_4, c42, bodyOf, Tryd.f42, Code.sub, opsOf, List.map_cons, List.map_nil, strip]; rfl
theorem w42_4 : Wp r42_4 8 [8, 8, 8, 12, 12, 21, 21, 31, 31, 31] [] [8] [7] [some 11, some 8] (L42_4).1 := w_plain (by kernel_rfl) (L42_4).2
noncomputable def L42_5 : Lt r42_5 := by refine ⟨?l, ?h⟩; case h => simp only [r42_5, c42, bodyOf, Tryd.f42, Code.sub, opsOf, List.map_cons, List.map_nil, strip]; rfl
theorem w42_5 : Wp r42_5 8 [8, 8, 8, 12, 12, 21, 21, 31, 31, 31] [6] [] [] [some 6] (L42_5).1 := w_plain (by kernel_rfl) (L42_5).2
noncomputable def L42_6 : Lt r42_6 := by refine ⟨?l, ?h⟩; case h => simp only [r42_6, c42, bodyOf, Tryd.f42, Code.sub, opsOf, List.map_cons, List.map_nil, strip]; rfl
theorem w42_6 : Wp r42_6 8 [8, 8, 8, 12, 12, 21, 21, 31, 31, 31] [] [12] [7] [some 13, some 12] (L42_6).1 := w_plain (by kernel_rfl) (L42_6).2
noncomputable def L42_7 : Lt r42_7 := by refine ⟨?l, ?h⟩; case h => simp only [r42_7, c42, bodyOf, Tryd.f42, Code.sub, opsOf, List.map_cons, List.map_nil, strip]; rfl
theorem w42_7 : Wp r42_7 8 [8, 8, 8, 12, 12, 21, 21, 31, 31, 31] [] [12] [7] [some 14, some 12] (L42_7).1 := w_plain (by kernel_rfl) (L42_7).2
noncomputable def L42_8 : Lt r42_8 := by refine ⟨?l, ?h⟩; case h => simp only [r42_8, c42, bodyOf, Tryd.f42, Code.sub, opsOf, List.map_cons, List.map_nil, strip]; rfl
theorem w42_8 : Wp r42_8 8 [8, 8, 8, 12, 12, 21, 21, 31, 31, 31] [6] [] [1] [some 15, some 16, some 17, some 18, some 19, some 20, some 6] (L42_8).1 := w_plain (by kernel_rfl) (L42_8).2
noncomputable def L42_9 : Lt r42_9 := by refine ⟨?l, ?h⟩; case h => simp only [r42_9, c42, bodyOf, Tryd.f42, Code.sub, opsOf, List.map_cons, List.map_nil, strip]; rfl
theorem w42_9 : Wp r42_9 8 [8, 8, 8, 12, 12, 21, 21, 31, 31, 31] [] [21] [7] [some 22, some 21] (L42_9).1 := w_plain (by kernel_rfl) (L42_9).2
noncomputable def L42_10 : Lt r42_10 := by refine ⟨?l, ?h⟩; case h => simp only [r42_10, c42, bodyOf, Tryd.f42, Code.sub, opsOf, List.map_cons, List.map_nil, strip]; rfl
theorem w42_10 : Wp r42_10 8 [8, 8, 8, 12, 12, 21, 21, 31, 31, 31] [] [21] [7] [some 23, some 21] (L42_10).1 := w_plain (by kernel_rfl) (L42_10).2
noncomputable def L42_11 : Lt r42_11 := by refine ⟨?l, ?h⟩; case h => simp only [r42_11, c42, bodyOf, Tryd.f42, Code.sub, opsOf, List.map_cons, List.map_nil, strip]; rfl
theorem w42_11 : Wp r42_11 8 [8, 8, 8, 12, 12, 21, 21, 31, 31, 31] [6] [] [1, 2] [some 24, some 25, some 26, some 27, some 28, some 29, some 30, some 6] (L42_11).1 := w_plain (by kernel_rfl) (L42_11).2
noncomputable def L42_12 : Lt r42_12 := by refine ⟨?l, ?h⟩; case h => simp only [r42_12, c42, bodyOf, Tryd.f42, Code.sub, opsOf, List.map_cons, List.map_nil, strip]; rfl
theorem w42_12 : Wp r42_12 8 [8, 8, 8, 12, 12, 21, 21, 31, 31, 31] [] [31] [7] [some 32, some 31] (L42_12).1 := w_plain (by kernel_rfl) (L42_12).2
noncomputable def L42_13 : Lt r42_13 := by refine ⟨?l, ?h⟩; case h => simp only [r42_13, c42, bodyOf, Tryd.f42, Code.sub, opsOf, List.map_cons, List.map_nil, strip]; rfl
theorem w42_13 : Wp r42_13 8 [8, 8, 8, 12, 12, 21, 21, 31, 31, 31] [] [31] [7] [some 33, some 31] (L42_13).1 := w_plain (by kernel_rfl) (L42_13).2
noncomputable def L42_14 : Lt r42_14 := by refine ⟨?l, ?h⟩; case h => simp only [r42_14, c42, bodyOf, Tryd.f42, Code.sub, opsOf, List.map_cons, List.map_nil, strip]; rfl
theorem w42_14 : Wp r42_14 8 [8, 8, 8, 12, 12, 21, 21, 31, 31, 31] [] [31] [7] [some 34, some 31] (L42_14).1 := w_plain (by kernel_rfl) (L42_14).2
noncomputable def L42_15 : Lt r42_15 := by refine ⟨?l, ?h⟩; case h => simp only [r42_15, c42, bodyOf, Tryd.f42, Code.sub, opsOf, List.map_cons, List.map_nil, strip]; rfl
theorem w42_15 : Wp r42_15 8 [8, 8, 8, 12, 12, 21, 21, 31, 31, 31] [6] [] [1] [some 35, some 36, some 37, some 38, some 39, some 40, some 6] (L42_15).1 := w_plain (by kernel_rfl) (L42_15).2
noncomputable def L42_16 : Lt r42_16 := by refine ⟨?l, ?h⟩; case h => simp only [r42_16, c42, bodyOf, Tryd.f42, Code.sub, opsOf, List.map_cons, List.map_nil, strip]; rfl
theorem w42_16 : Wp r42_16 8 [8, 8, 8, 12, 12, 21, 21, 31, 31, 31] [6] [] [1] [some 41, some 42, some 6] (L42_16).1 := w_plain (by kernel_rfl) (L42_16).2
theorem k42 : FnIs TT 42 c42 [.tmp 6] 3 := ⟨Tryd.f42, by kernel_rfl, by simp only [Tryd.f42, c42, bodyOf], by kernel_rfl, of_decide_eq_true (by kernel_rfl)⟩
noncomputable def c43 : Code := bodyOf Tryd.f43
noncomputable def r43_0 : Code := Code.sub [0] c43
noncomputable def r43_1 : Code := Code.sub [1, 0, 0] c43
noncomputable def r43_2 : Code := Code.sub [1, 0, 1, 0, 0, 0] c43
noncomputable def r43_3 : Code := Code.sub [1, 0, 1, 0, 0, 1, 1, 0] c43
noncomputable def r43_4 : Code := Code.sub [1, 0, 1, 0, 0, 1, 1, 1, 1, 0] c43
noncomputable def r43_5 : Code := Code.sub [1, 0, 1, 0, 0, 1, 1, 1, 1, 1, 1, 0] c43
noncomputable def r43_6 : Code := Code.sub [1, 0, 1, 0, 0, 1, 1, 1, 1, 1, 1, 1, 1] c43
noncomputable def r43_7 : Code := Code.sub [1, 0, 1, 0, 1, 0, 0] c43
noncomputable def r43_8 : Code := Code.sub [1, 0, 1, 0, 1, 1, 0, 0] c43
noncomputable def r43_9 : Code := Code.sub [1, 0, 1, 0, 1, 1, 0, 1, 1, 0] c43
noncomputable def r43_10 : Code := Code.sub [1, 0, 1, 0, 1, 1, 0, 1, 1, 1, 1, 0] c43
noncomputable def r43_11 : Code := Code.sub [1, 0, 1, 0, 1, 1, 0, 1, 1, 1, 1, 1, 1, 0] c43
noncomputable def r43_12 : Code := Code.sub [1, 0, 1, 0, 1, 1, 0, 1, 1, 1, 1, 1, 1, 1, 1, 0] c43
noncomputable def r43_13 : Code := Code.sub [1, 0, 1, 0, 1, 1, 0, 1, 1, 1, 1, 1, 1, 1, 1, 1, 1, 0] c43
noncomputable def r43_14 : Code := Code.sub [1, 0, 1, 0, 1, 1, 0, 1, 1, 1, 1, 1, 1, 1, 1, 1, 1, 1, 1] c43
noncomputable def r43_15 : Code := Code.sub [1, 0, 1, 0, 1, 1, 1, 0, 0] c43
noncomputable def r43_16 : Code := Code.sub [1, 0, 1, 0, 1, 1, 1, 1, 0, 0] c43
noncomputable def r43_17 : Code := Code.sub [1, 0, 1, 0, 1, 1, 1, 1, 0, 1, 1, 0] c43
noncomputable def r43_18 : Code := Code.sub [1, 0, 1, 0, 1, 1, 1, 1, 0, 1, 1, 1, 1, 0] c43
noncomputable def r43_19 : Code := Code.sub [1, 0, 1, 0, 1, 1, 1, 1, 0, 1, 1, 1, 1, 1, 1, 0] c43
noncomputable def r43_20 : Code := Code.sub [1, 0, 1, 0, 1, 1, 1, 1, 0, 1, 1, 1, 1, 1, 1, 1, 1, 0] c43
noncomputable def r43_21 : Code := Code.sub [1, 0, 1, 0, 1, 1, 1, 1, 0, 1, 1, 1, 1, 1, 1, 1, 1, 1, 1, 0] c43
noncomputable def r43_22 : Code := Code.sub [1, 0, 1, 0, 1, 1, 1, 1, 0, 1, 1, 1, 1, 1, 1, 1, 1, 1, 1, 1, 1, 0] c43
noncomputable def r43_23 : Code := Code.sub [1, 0, 1, 0, 1, 1, 1, 1, 0, 1, 1, 1, 1, 1, 1, 1, 1, 1, 1, 1, 1, 1, 1, 0] c43
noncomputable def r43_24 : Code := Code.sub [1, 0, 1, 0, 1, 1, 1, 1, 0, 1, 1, 1, 1, 1, 1, 1, 1, 1, 1, 1, 1, 1, 1, 1, 1, 0] c43
noncomputable def r43_25 : Code := Code.sub [1, 0, 1, 0, 1, 1, 1, 1, 0, 1, 1, 1, 1, 1, 1, 1, 1, 1, 1, 1, 1, 1, 1, 1, 1, 1, 1, 0] c43
noncomputable def r43_26 : Code := Code.sub [1, 0, 1, 0, 1, 1, 1, 1, 0, 1, 1, 1, 1, 1, 1, 1, 1, 1, 1, 1, 1, 1, 1, 1, 1, 1, 1, 1, 1, 0] c43
noncomputable def r43_27 : Code := Code.sub [1, 0, 1, 0, 1, 1, 1, 1, 0, 1, 1, 1, 1, 1, 1, 1, 1, 1, 1, 1, 1, 1, 1, 1, 1, 1, 1, 1, 1, 1, 1] c43
noncomputable def r43_28 : Code := Code.sub [1, 0, 1, 0, 1, 1, 1, 1, 1, 0, 0] c43
noncomputable def r43_29 : Code := Code.sub [1, 1, 0] c43
theorem body43 : c43 = (.seq r43_0 (.seq (.seq r43_1 (.block 0 (.seq (.seq r43_2 (.cond (.tmp 4) .skip (.seq r43_3 (.cond (.tmp 4) .skip (.seq r43_4 (.cond (.tmp 4) .skip (.seq r43_5 (.cond (.tmp 4) .skip r43_6)))))))) (.cond (.tmp 4) (.seq r43_7 .ret) (.seq (.seq r43_8 (.cond (.tmp 10) .skip (.seq r43_9 (.cond (.tmp 10) .skip (.seq r43_10 (.cond (.tmp 10) .skip (.seq r43_11 (.cond (.tmp 10) .skip (.seq r43_12 (.cond (.tmp 10) .skip (.seq r43_13 (.cond (.tmp 10) .skip r43_14)))))))))))) (.cond (.tmp 10) (.seq r43_15 .ret) (.seq (.seq r43_16 (.cond (.tmp 18) .skip (.seq r43_17 (.cond (.tmp 18) .skip (.seq r43_18 (.cond (.tmp 18) .skip (.seq r43_19 (.cond (.tmp 18) .skip (.seq r43_20 (.cond (.tmp 18) .skip (.seq r43_21 (.cond (.tmp 18) .skip (.seq r43_22 (.cond (.tmp 18) .skip (.seq r43_23 (.cond (.tmp 18) .skip (.seq r43_24 (.cond (.tmp 18) .skip (.seq r43_25 (.cond (.tmp 18) .skip (.seq r43_26 (.cond (.tmp 18) .skip r43_27)))))))))))))))))))))) (.cond (.tmp 18) (.seq r43_28 .ret) .skip)))))))) (.seq r43_29 .ret))) := by kernel_rfl
noncomputable def L43_0 : Lt r43_0 := by refine ⟨?l, ?h⟩; case h => simp only [r43_0, c43, bodyOf, Tryd.f43, Code.sub, opsOf, List.map_cons, List.map_nil, strip]; rfl
theorem w43_0 : Wp r43_0 4 [4, 4, 4, 4, 4, 10, 10, 10, 10, 10, 10, 10, 18, 18, 18, 18, 18, 18, 18, 18, 18, 18, 18, 18] [2] [] [] [some 2] (L43_0).1 := w_plain (by kernel_rfl) (L43_0).2
noncomputable def L43_1 : Lt r43_1 := by refine ⟨?l, ?h⟩; case h => simp only [r43_1, c43, bodyOf, Tryd.f43, Code.sub, opsOf, List.map_cons, List.map_nil, strip]; rfl
theorem w43_1 : Wp r43_1 4 [4, 4, 4, 4, 4, 10, 10, 10, 10, 10, 10, 10, 18, 18, 18, 18, 18, 18, 18, 18, 18, 18, 18, 18] [3] [] [0] [some 3] (L43_1).1 := w_plain (by kernel_rfl) (L43_1).2
noncomputable def L43_2 : Lt r43_2 := by refine ⟨?l, ?h⟩; case h => simp only [r43_2, c43, bodyOf, Tryd.f43, Code.sub, opsOf, List.map_cons, List.map_nil, strip]; rfl
theorem w43_2 : Wp r43_2 4 [4, 4, 4, 4, 4, 10, 10, 10, 10, 10, 10, 10, 18, 18, 18, 18, 18, 18, 18, 18, 18, 18, 18, 18] [] [4] [3] [some 5, some 4] (L43_2).1 := w_plain (by kernel_rfl) (L43_2).2
noncomputable def L43_3 : Lt r43_3 := by refine ⟨?l, ?h⟩; case h => simp only [r43_3, c43, bodyOf, Tryd.f43, Code.sub, opsOf, List.map_cons, List.map_nil, strip]; rfl
theorem w43_3 : Wp r43_3 4 [4, 4, 4, 4, 4, 10, 10, 10, 10, 10, 10, 10, 18, 18, 18, 18, 18, 18, 18, 18, 18, 18, 18, 18] [] [4] [3] [some 6, some 4] (L43_3).1 := w_plain (by kernel_rfl) (L43_3).2
noncomputable def L43_4 : Lt r43_4 := by refine ⟨?l, ?h⟩; case h => simp only [r43_4, c43, bodyOf, Tryd.f43, Code.sub, opsOf, List.map_cons, List.map_nil, strip]; rfl
theorem w43_4 : Wp r43_4 4 [4, 4, 4, 4, 4, 10, 10, 10, 10, 10, 10, 10, 18, 18, 18, 18, 18, 18, 18, 18, 18, 18, 18, 18] [] [4] [3] [some 7, some 4] (L43_4).1 := w_plain (by kernel_rfl) (L43_4).2
noncomputable def L43_5 : Lt r43_5 := by refine ⟨?l, ?h⟩; case h => simp only [r43_5, c43, bodyOf, Tryd.f43, Code.sub, opsOf, List.map_cons, List.map_nil, strip]; rfl
theorem w43_5 : Wp r43_5 4 [4, 4, 4, 4, 4, 10, 10, 10, 10, 10, 10, 10, 18, 18, 18, 18, 18, 18, 18, 18, 18, 18, 18, 18] [] [4] [3] [some 8, some 4] (L43_5).1 := w_plain (by kernel_rfl) (L43_5).2
noncomputable def L43_6 : Lt r43_6 := by refine ⟨?l, ?h⟩; case h => simp only [r43_6, c43, bodyOf, Tryd.f43, Code.sub, opsOf, List.map_cons, List.map_nil, strip]; rfl
theorem w43_6 : Wp r43_6 4 [4, 4, 4, 4, 4, 10, 10, 10, 10, 10, 10, 10, 18, 18, 18, 18, 18, 18, 18, 18, 18, 18, 18, 18] [] [4] [3] [some 9, some 4] (L43_6).1 := w_plain (by kernel_rfl) (L43_6).2
noncomputable def L43_7 : Lt r43_7 := by refine ⟨?l, ?h⟩; case h => simp only [r43_7, c43, bodyOf, Tryd.f43, Code.sub, opsOf, List.map_cons, List.map_nil, strip]; rfl
theorem w43_7 : Wp r43_7 4 [4, 4, 4, 4, 4, 10, 10, 10, 10, 10, 10, 10, 18, 18, 18, 18, 18, 18, 18, 18, 18, 18, 18, 18] [2] [] [] [some 2] (L43_7).1 := w_plain (by kernel_rfl) (L43_7).2
noncomputable def L43_8 : Lt r43_8 := by refine ⟨?l, ?h⟩; case h => simp only [r43_8, c43, bodyOf, Tryd.f43, Code.sub, opsOf, List.map_cons, List.map_nil, strip]; rfl
theorem w43_8 : Wp r43_8 4 [4, 4, 4, 4, 4, 10, 10, 10, 10, 10, 10, 10, 18, 18, 18, 18, 18, 18, 18, 18, 18, 18, 18, 18] [] [10] [3] [some 11, some 10] (L43_8).1 := w_plain (by kernel_rfl) (L43_8).2
noncomputable def L43_9 : Lt r43_9 := by refine ⟨?l, ?h⟩; case h => simp only [r43_9, c43, bodyOf, Tryd.f43, Code.sub, opsOf, List.map_cons, List.map_nil, strip]; rfl
theorem w43_9 : Wp r43_9 4 [4, 4, 4, 4, 4, 10, 10, 10, 10, 10, 10, 10, 18, 18, 18, 18, 18, 18, 18, 18, 18, 18, 18, 18] [] [10] [3] [some 12, some 10] (L43_9).1 := w_plain (by kernel_rfl) (L43_9).2
noncomputable def L43_10 : Lt r43_10 := by refine ⟨?l, ?h⟩; case h => simp only [r43_10, c43, bodyOf, Tryd.f43, Code.sub, opsOf, List.map_cons, List.map_nil, strip]; rfl
theorem w43_10 : Wp r43_10 4 [4, 4, 4, 4, 4, 10, 10, 10, 10, 10, 10, 10, 18, 18, 18, 18, 18, 18, 18, 18, 18, 18, 18, 18] [] [10] [3] [some 13, some 10] (L43_10).1 := w_plain (by kernel_rfl) (L43_10).2
noncomputable def L43_11 : Lt r43_11 := by refine ⟨?l, ?h⟩; case h => simp only [r43_11, c43, bodyOf, Tryd.f43, Code.sub, opsOf, List.map_cons, List.map_nil, strip]; rfl
theorem w43_11 : Wp r43_11 4 [4, 4, 4, 4, 4, 10, 10, 10, 10, 10, 10, 10, 18, 18, 18, 18, 18, 18, 18, 18, 18, 18, 18, 18] [] [10] [3] [some 14, some 10] (L43_11).1 := w_plain (by kernel_rfl) (L43_11).2
noncomputable def L43_12 : Lt r43_12 := by refine ⟨?l, ?h⟩; case h => simp only [r43_12, c43, bodyOf, Tryd.f43, Code.sub, opsOf, List.map_cons, List.map_nil, strip]; rfl
theorem w43_12 : Wp r43_12 4 [4, 4, 4, 4, 4, 10, 10, 10, 10, 10, 10, 10, 18, 18, 18, 18, 18, 18, 18, 18, 18, 18, 18, 18] [] [10] [3] [some 15, some 10] (L43_12).1 := w_plain (by kernel_rfl) (L43_12).2
noncomputable def L43_13 : Lt r43_13 := by refine ⟨?l, ?h⟩; case h => simp only [r43_13, c43, bodyOf, Tryd.f43, Code.sub, opsOf, List.map_cons, List.map_nil, strip]; rfl
theorem w43_13 : Wp r43_13 4 [4, 4, 4, 4, 4, 10, 10, 10, 10, 10, 10, 10, 18, 18, 18, 18, 18, 18, 18, 18, 18, 18, 18, 18] [] [10] [3] [some 16, some 10] (L43_13).1 := w_plain (by kernel_rfl) (L43_13).2
noncomputable def L43_14 : Lt r43_14 := by refine ⟨?l, ?h⟩; case h => simp only [r43_14, c43, bodyOf, Tryd.f43, Code.sub, opsOf, List.map_cons, List.map_nil, strip]; rfl
theorem w43_14 : Wp r43_14 4 [4, 4, 4, 4, 4, 10, 10, 10, 10, 10, 10, 10, 18, 18, 18, 18, 18, 18, 18, 18, 18, 18, 18, 18] [] [10] [3] [some 17, some 10] (L43_14).1 := w_plain (by kernel_rfl) (L43_14).2
noncomputable def L43_15 : Lt r43_15 := by refine ⟨?l, ?h⟩; case h => simp only [r43_15, c43, bodyOf, Tryd.f43, Code.sub, opsOf, List.map_cons, List.map_nil, strip]; rfl
theorem w43_15 : Wp r43_15 4 [4, 4, 4, 4, 4, 10, 10, 10, 10, 10, 10, 10, 18, 18, 18, 18, 18, 18, 18, 18, 18, 18, 18, 18] [2] [] [] [some 2] (L43_15).1 := w_plain (by kernel_rfl) (L43_15).2
noncomputable def L43_16 : Lt r43_16 := by refine ⟨?l, ?h⟩; case h => simp only [r43_16, c43, bodyOf, Tryd.f43, Code.sub, opsOf, List.map_cons, List.map_nil, strip]; rfl
theorem w43_16 : Wp r43_16 4 [4, 4, 4, 4, 4, 10, 10, 10, 10, 10, 10, 10, 18, 18, 18, 18, 18, 18, 18, 18, 18, 18, 18, 18] [] [18] [3] [some 19, some 18] (L43_16).1 := w_plain (by kernel_rfl) (L43_16).2
noncomputable def L43_17 : Lt r43_17 := by refine ⟨?l, ?h⟩; case h => simp only [r43_17, c43, bodyOf, Tryd.f43, Code.sub, opsOf, List.map_cons, List.map_nil, strip]; rfl
theorem w43_17 : Wp r43_17 4 [4, 4, 4, 4, 4, 10, 10, 10, 10, 10, 10, 10, 18, 18, 18, 18, 18, 18, 18, 18, 18, 18, 18, 18] [] [18] [3] [some 20, some 18] (L43_17).1 := w_plain (by kernel_rfl) (L43_17).2
noncomputable def L43_18 : Lt r43_18 := by refine ⟨?l, ?h⟩; case h => simp only [r43_18, c43, bodyOf, Tryd.f43, Code.sub, opsOf, List.map_cons, List.map_nil, strip]; rfl
theorem w43_18 : Wp r43_18 4 [4, 4, 4, 4, 4, 10, 10, 10, 10, 10, 10, 10, 18, 18, 18, 18, 18, 18, 18, 18, 18, 18, 18, 18] [] [18] [3] [some 21, some 18] (L43_18).1 := w_plain (by kernel_rfl) (L43_18).2
noncomputable def L43_19 : Lt r43_19 := by refine ⟨?l, ?h⟩; case h => simp only [r43_19, c43, bodyOf, Tryd.f43, Code.sub, opsOf, List.map_cons, List.map_nil, strip]; rfl
theorem w43_19 : Wp r43_19 4 [4, 4, 4, 4, 4, 10, 10, 10, 10, 10, 10, 10, 18, 18, 18, 18, 18, 18, 18, 18, 18, 18, 18, 18] [] [18] [3] [some 22, some 18] (L43_19).1 := w_plain (by kernel_rfl) (L43_19).2
noncomputable def L43_20 : Lt r43_20 := by refine ⟨?l, ?h⟩; case h => simp only [r43_20, c43, bodyOf, Tryd.f43, Code.sub, opsOf, List.map_cons, List.map_nil, strip]; rfl
theorem w43_20 : Wp r43_20 4 [4, 4, 4, 4, 4, 10, 10, 10, 10, 10, 10, 10, 18, 18, 18, 18, 18, 18, 18, 18, 18, 18, 18, 18] [] [18] [3] [some 23, some 18] (L43_20).1 := w_plain (by kernel_rfl) (L43_20).2
noncomputable def L43_21 : Lt r43_21 := by refine ⟨?l, ?h⟩; case h => simp only [r43_21, c43, bodyOf, Tryd.f43, Code.sub, opsOf, List.map_cons, List.map_nil, strip]; rfl
theorem w43_21 : Wp r43_21 4 [4, 4, 4, 4, 4, 10, 10, 10, 10, 10, 10, 10, 18, 18, 18, 18, 18, 18, 18, 18, 18, 18, 18, 18] [] [18] [3] [some 24, some 18] (L43_21).1 := w_plain (by kernel_rfl) (L43_21).2
noncomputable def L43_22 : Lt r43_22 := by refine ⟨?l, ?h⟩; case h => simp only [r43_22, c43, bodyOf, Tryd.f43, Code.sub, opsOf, List.map_cons, List.map_nil, strip]; rfl
theorem w43_22 : Wp r43_22 4 [4, 4, 4, 4, 4, 10, 10, 10, 10, 10, 10, 10, 18, 18, 18, 18, 18, 18, 18, 18, 18, 18, 18, 18] [] [18] [3] [some 25, some 18] (L43_22).1 := w_plain (by kernel_rfl) (L43_22).2
noncomputable def L43_23 : Lt r43_23 := by refine ⟨?l, ?h⟩; case h => simp only [r43_23, c43, bodyOf, Tryd.f43, Code.sub, opsOf, List.map_cons, List.map_nil, strip]; rfl
theorem w43_23 : Wp r43_23 4 [4, 4, 4, 4, 4, 10, 10, 10, 10, 10, 10, 10, 18, 18, 18, 18, 18, 18, 18, 18, 18, 18, 18, 18] [] [18] [3] [some 26, some 18] (L43_23).1 := w_plain (by kernel_rfl) (L43_23).2
noncomputable def L43_24 : Lt r43_24 := by refine ⟨?l, ?h⟩; case h => simp only [r43_24, c43, bodyOf, Tryd.f43, Code.sub, opsOf, List.map_cons, List.map_nil, strip]; rfl
theorem w43_24 : Wp r43_24 4 [4, 4, 4, 4, 4, 10, 10, 10, 10, 10, 10, 10, 18, 18, 18, 18, 18, 18, 18, 18, 18, 18, 18, 18] [] [18] [3] [some 27, some 18] (L43_24).1 := w_plain (by kernel_rfl) (L43_24).2
noncomputable def L43_25 : Lt r43_25 := by refine ⟨?l, ?h⟩; case h => simp only [r43_25, c43, bodyOf, Tryd.f43, Code.sub, opsOf, List.map_cons, List.map_nil, strip]; rfl
theorem w43_25 : Wp r43_25 4 [4, 4, 4, 4, 4, 10, 10, 10, 10, 10, 10, 10, 18, 18, 18, 18, 18, 18, 18, 18, 18, 18, 18, 18] [] [18] [3] [some 28, some 18] (L43_25).1 := w_plain (by kernel_rfl) (L43_25).2
noncomputable def L43_26 : Lt r43_26 := by refine ⟨?l, ?h⟩; case h => simp only [r43_26, c43, bodyOf, Tryd.f43, Code.sub, opsOf, List.map_cons, List.map_nil, strip]; rfl
theorem w43_26 : Wp r43_26 4 [4, 4, 4, 4, 4, 10, 10, 10, 10, 10, 10, 10, 18, 18, 18, 18, 18, 18, 18, 18, 18, 18, 18, 18] [] [18] [3] [some 29, some 18] (L43_26).1 := w_plain (by kernel_rfl) (L43_26).2
noncomputable def L43_27 : Lt r43_27 := by refine ⟨?l, ?h⟩; case h => simp only [r43_27, c43, bodyOf, Tryd.f43, Code.sub, opsOf, List.map_cons, List.map_nil, strip]; rfl
theorem w43_27 : Wp r43_27 4 [4, 4, 4, 4, 4, 10, 10, 10, 10, 10, 10, 10, 18, 18, 18, 18, 18, 18, 18, 18, 18, 18, 18, 18] [] [18] [3] [some 30, some 18] (L43_27).1 := w_plain (by kernel_rfl) (L43_27).2
noncomputable def L43_28 : Lt r43_28 := by refine ⟨?l, ?h⟩; case h => simp only [r43_28, c43, bodyOf, Tryd.f43, Code.sub, opsOf, List.map_cons, List.map_nil, strip]; rfl
theorem w43_28 : Wp r43_28 4 [4, 4, 4, 4, 4, 10, 10, 10, 10, 10, 10, 10, 18, 18, 18, 18, 18, 18, 18, 18, 18, 18, 18, 18] [2] [] [] [some 2] (L43_28).1 := w_plain (by kernel_rfl) (L43_28).2
noncomputable def L43_29 : Lt r43_29 := by refine ⟨?l, ?h⟩; case h => simp only [r43_29, c43, bodyOf, Tryd.f43, Code.sub, opsOf, List.map_cons, List.map_nil, strip]; rfl
theorem w43_29 : Wp r43_29 4 [4, 4, 4, 4, 4, 10, 10, 10, 10, 10, 10, 10, 18, 18, 18, 18, 18, 18, 18, 18, 18, 18, 18, 18] [2] [] [] [some 2] (L43_29).1 := w_plain (by kernel_rfl) (L43_29).2
theorem k43 : FnIs TT 43 c43 [.tmp 2] 1 := ⟨Tryd.f43, by kernel_rfl, by simp only [Tryd.f43, c43, bodyOf], by kernel_rfl, of_decide_eq_true (by kernel_rfl)⟩
noncomputable def c44 : Code := bodyOf Tryd.f44
noncomputable def r44_0 : Code := Code.sub [0] c44
noncomputable def r44_1 : Code := Code.sub [1, 0] c44
noncomputable def r44_2 : Code := Code.sub [1, 1, 0, 0] c44
noncomputable def r44_3 : Code := Code.sub [1, 1, 0, 1, 0, 0] c44
noncomputable def r44_4 : Code := Code.sub [1, 1, 0, 1, 0, 1, 0, 0] c44
noncomputable def r44_5 : Code := Code.sub [1, 1, 0, 1, 0, 1, 1, 0] c44
noncomputable def r44_6 : Code := Code.sub [1, 1, 0, 1, 0, 1, 1, 1, 0, 0] c44
noncomputable def r44_7 : Code := Code.sub [1, 1, 0, 1, 0, 1, 1, 1, 1, 0] c44
noncomputable def r44_8 : Code := Code.sub [1, 1, 0, 1, 0, 1, 1, 1, 1, 1, 0, 0] c44
noncomputable def r44_9 : Code := Code.sub [1, 1, 0, 1, 0, 1, 1, 1, 1, 1, 1, 0, 0] c44
noncomputable def r44_10 : Code := Code.sub [1, 1, 0, 1, 0, 1, 1, 1, 1, 1, 1, 0, 1, 1] c44
noncomputable def r44_11 : Code := Code.sub [1, 1, 0, 1, 0, 1, 1, 1, 1, 1, 1, 1, 0, 0] c44
noncomputable def r44_12 : Code := Code.sub [1, 1, 0, 1, 0, 1, 1, 1, 1, 1, 1, 1, 1, 0] c44
noncomputable def r44_13 : Code := Code.sub [1, 1, 0, 1, 0, 1, 1, 1, 1, 1, 1, 1, 1, 1, 0, 0] c44
noncomputable def r44_14 : Code := Code.sub [1, 1, 0, 1, 0, 1, 1, 1, 1, 1, 1, 1, 1, 1, 1, 0] c44
noncomputable def r44_15 : Code := Code.sub [1, 1, 0, 1, 0, 1, 1, 1, 1, 1, 1, 1, 1, 1, 1, 1, 0, 0] c44
noncomputable def r44_16 : Code := Code.sub [1, 1, 0, 1, 0, 1, 1, 1, 1, 1, 1, 1, 1, 1, 1, 1, 1, 0] c44
noncomputable def r44_17 : Code := Code.sub [1, 1, 0, 1, 0, 1, 1, 1, 1, 1, 1, 1, 1, 1, 1, 1, 1, 1, 0, 0] c44
noncomputable def r44_18 : Code := Code.sub [1, 1, 0, 1, 0, 1, 1, 1, 1, 1, 1, 1, 1, 1, 1, 1, 1, 1, 1, 0] c44
noncomputable def r44_19 : Code := Code.sub [1, 1, 0, 1, 0, 1, 1, 1, 1, 1, 1, 1, 1, 1, 1, 1, 1, 1, 1, 1, 0, 0] c44
noncomputable def r44_20 : Code := Code.sub [1, 1, 0, 1, 0, 1, 1, 1, 1, 1, 1, 1, 1, 1, 1, 1, 1, 1, 1, 1, 1, 0] c44
noncomputable def r44_21 : Code := Code.sub [1, 1, 0, 1, 0, 1, 1, 1, 1, 1, 1, 1, 1, 1, 1, 1, 1, 1, 1, 1, 1, 1, 0, 0] c44
noncomputable def r44_22 : Code := Code.sub [1, 1, 0, 1, 0, 1, 1, 1, 1, 1, 1, 1, 1, 1, 1, 1, 1, 1, 1, 1, 1, 1, 1, 0] c44
noncomputable def r44_23 : Code := Code.sub [1, 1, 0, 1, 0, 1, 1, 1, 1, 1, 1, 1, 1, 1, 1, 1, 1, 1, 1, 1, 1, 1, 1, 1, 0, 0] c44
noncomputable def r44_24 : Code := Code.sub [1, 1, 0, 1, 0, 1, 1, 1, 1, 1, 1, 1, 1, 1, 1, 1, 1, 1, 1, 1, 1, 1, 1, 1, 1, 0] c44
noncomputable def r44_25 : Code := Code.sub [1, 1, 0, 1, 0, 1, 1, 1, 1, 1, 1, 1, 1, 1, 1, 1, 1, 1, 1, 1, 1, 1, 1, 1, 1, 1, 0, 0] c44
noncomputable def r44_26 : Code := Code.sub [1, 1, 1, 0] c44
theorem body44 : c44 = (.seq r44_0 (.seq r44_1 (.seq (.seq r44_2 (.block 0 (.seq r44_3 (.cond (.tmp 14) (.seq r44_4 .ret) (.seq r44_5 (.cond (.tmp 19) (.seq r44_6 .ret) (.seq r44_7 (.cond (.tmp 24) (.seq r44_8 .ret) (.seq (.seq r44_9 (.cond (.tmp 29) .skip r44_10)) (.cond (.tmp 29) (.seq r44_11 .ret) (.seq r44_12 (.cond (.tmp 36) (.seq r44_13 .ret) (.seq r44_14 (.cond (.tmp 40) (.seq r44_15 .ret) (.seq r44_16 (.cond (.tmp 45) (.seq r44_17 .ret) (.seq r44_18 (.cond (.tmp 51) (.seq r44_19 .ret) (.seq r44_20 (.cond (.tmp 57) (.seq r44_21 .ret) (.seq r44_22 (.cond (.tmp 63) (.seq r44_23 .ret) (.seq r44_24 (.cond (.tmp 69) (.seq r44_25 .ret) .skip)))))))))))))))))))))))) (.seq r44_26 .ret)))) := by kernel_rfl
noncomputable def L44_0 : Lt r44_0 := by refine ⟨?l, ?h⟩; case h => simp only [r44_0, c44, bodyOf, Tryd.f44, Code.sub, opsOf, List.map_cons, List.map_nil, strip]; rfl
theorem w44_0 : Wp r44_0 14 [14, 19, 24, 29, 29, 36, 40, 45, 51, 57, 63, 69] [6] [] [] [some 6] (L44_0).1 := w_plain (by kernel_rfl) (L44_0).2
noncomputable def L44_1 : Lt r44_1 := by refine ⟨?l, ?h⟩; case h => simp only [r44_1, c44, bodyOf, Tryd.f44, Code.sub, opsOf, List.map_cons, List.map_nil, strip]; rfl
theorem w44_1 : Wp r44_1 14 [14, 19, 24, 29, 29, 36, 40, 45, 51, 57, 63, 69] [9, 10, 11, 12, 7, 8] [] [1, 2] [some 9, some 10, some 11, some 12, some 7, some 8] (L44_1).1 := w_plain (by kernel_rfl) (L44_1).2
noncomputable def L44_2 : Lt r44_2 := by refine ⟨?l, ?h⟩; case h => simp only [r44_2, c44, bodyOf, Tryd.f44, Code.sub, opsOf, List.map_cons, List.map_nil, strip]; rfl
theorem w44_2 : Wp r44_2 14 [14, 19, 24, 29, 29, 36, 40, 45, 51, 57, 63, 69] [13] [] [0] [some 13] (L44_2).1 := w_plain (by kernel_rfl) (L44_2).2
noncomputable def L44_3 : Lt r44_3 := by refine ⟨?l, ?h⟩; case h => simp only [r44_3, c44, bodyOf, Tryd.f44, Code.sub, opsOf, List.map_cons, List.map_nil, strip]; rfl
theorem w44_3 : Wp r44_3 14 [14, 19, 24, 29, 29, 36, 40, 45, 51, 57, 63, 69] [] [14] [13] [some 15, some 14] (L44_3).1 := w_plain (by kernel_rfl) (L44_3).2
noncomputable def L44_4 : Lt r44_4 := by refine ⟨?l, ?h⟩; case h => simp only [r44_4, c44, bodyOf, Tryd.f44, Code.sub, opsOf, List.map_cons, List.map_nil, strip]; rfl
theorem w44_4 : Wp r44_4 14 [14, 19, 24, 29, 29, 36, 40, 45, 51, 57, 63, 69] [6] [] [1, 2] [some 16, some 17, some 18, some 6] (L44_4).1 := w_plain (by kernel_rfl) (L44_4).2
noncomputable def L44_5 : Lt r44_5 := by refine ⟨?l, ?h⟩; case h => simp only [r44_5, c44, bodyOf, Tryd.f44, Code.sub, opsOf, List.map_cons, List.map_nil, strip]; rfl
theorem w44_5 : Wp r44_5 14 [14, 19, 24, 29, 29, 36, 40, 45, 51, 57, 63, 69] [] [19] [13] [some 20, some 19] (L44_5).1 := w_plain (by kernel_rfl) (L44_5).2
noncomputable def L44_6 : Lt r44_6 := by refine ⟨?l, ?h⟩; case h => simp only [r44_6, c44, bodyOf, Tryd.f44, Code.sub, opsOf, List.map_cons, List.map_nil, strip]; rfl
theorem w44_6 : Wp r44_6 14 [14, 19, 24, 29, 29, 36, 40, 45, 51, 57, 63, 69] [6] [] [1, 2] [some 21, some 22, some 23, some 6] (L44_6).1 := w_plain (by kernel_rfl) (L44_6).2
noncomputable def L44_7 : Lt r44_7 := by refine ⟨?l, ?h⟩; case h => simp only [r44_7, c44, bodyOf, Tryd.f44, Code.sub, opsOf, List.map_cons, List.map_nil, strip]; rfl
theorem w44_7 : Wp r44_7 14 [14, 19, 24, 29, 29, 36, 40, 45, 51, 57, 63, 69] [] [24] [13] [some 25, some 24] (L44_7).1 := w_plain (by kernel_rfl) (L44_7).2
noncomputable def L44_8 : Lt r44_8 := by refine ⟨?l, ?h⟩; case h => simp only [r44_8, c44, bodyOf, Tryd.f44, Code.sub, opsOf, List.map_cons, List.map_nil, strip]; rfl
theorem w44_8 : Wp r44_8 14 [14, 19, 24, 29, 29, 36, 40, 45, 51, 57, 63, 69] [6] [] [1, 2] [some 26, some 27, some 28, some 6] (L44_8).1 := w_plain (by kernel_rfl) (L44_8).2
noncomputable def L44_9 : Lt r44_9 := by refine ⟨?l, ?h⟩; case h => simp only [r44_9, c44, bodyOf, Tryd.f44, Code.sub, opsOf, List.map_cons, List.map_nil, strip]; rfl
theorem w44_9 : Wp r44_9 14 [14, 19, 24, 29, 29, 36, 40, 45, 51, 57, 63, 69] [] [29] [13] [some 30, some 29] (L44_9).1 := w_plain (by kernel_rfl) (L44_9).2
noncomputable def L44_10 : Lt r44_10 := by refine ⟨?l, ?h⟩; case h => simp only [r44_10, c44, bodyOf, Tryd.f44, Code.sub, opsOf, List.map_cons, List.map_nil, strip]; rfl
theorem w44_10 : Wp r44_10 14 [14, 19, 24, 29, 29, 36, 40, 45, 51, 57, 63, 69] [] [29] [13] [some 31, some 29] (L44_10).1 := w_plain (by kernel_rfl) (L44_10).2
noncomputable def L44_11 : Lt r44_11 := by refine ⟨?l, ?h⟩; case h => simp only [r44_11, c44, bodyOf, Tryd.f44, Code.sub, opsOf, List.map_cons, List.map_nil, strip]; rfl
theorem w44_11 : Wp r44_11 14 [14, 19, 24, 29, 29, 36, 40, 45, 51, 57, 63, 69] [6] [] [0, 7, 8] [some 32, some 33, some 34, some 35, some 6] (L44_11).1 := w_plain (by kernel_rfl) (L44_11).2
noncomputable def L44_12 : Lt r44_12 := by refine ⟨?l, ?h⟩; case h => simp only [r44_12, c44, bodyOf, Tryd.f44, Code.sub, opsOf, List.map_cons, List.map_nil, strip]; rfl
theorem w44_12 : Wp r44_12 14 [14, 19, 24, 29, 29, 36, 40, 45, 51, 57, 63, 69] [] [36] [13] [some 37, some 36] (L44_12).1 := w_plain (by kernel_rfl) (L44_12).2
noncomputable def L44_13 : Lt r44_13 := by refine ⟨?l, ?h⟩; case h => simp only [r44_13, c44, bodyOf, Tryd.f44, Code.sub, opsOf, List.map_cons, List.map_nil, strip]; rfl
theorem w44_13 : Wp r44_13 14 [14, 19, 24, 29, 29, 36, 40, 45, 51, 57, 63, 69] [6] [] [1] [some 38, some 39, some 6] (L44_13).1 := w_plain (by kernel_rfl) (L44_13).2
noncomputable def L44_14 : Lt r44_14 := by refine ⟨?l, ?h⟩; case h => simp only [r44_14, c44, bodyOf, Tryd.f44, Code.sub, opsOf, List.map_cons, List.map_nil, strip]; rfl
theorem w44_14 : Wp r44_14 14 [14, 19, 24, 29, 29, 36, 40, 45, 51, 57, 63, 69] [] [40] [13] [some 41, some 40] (L44_14).1 := w_plain (by kernel_rfl) (L44_14).2
noncomputable def L44_15 : Lt r44_15 := by refine ⟨?l, ?h⟩; case h => simp only [r44_15, c44, bodyOf, Tryd.f44, Code.sub, opsOf, List.map_cons, List.map_nil, strip]; rfl
theorem w44_15 : Wp r44_15 14 [14, 19, 24, 29, 29, 36, 40, 45, 51, 57, 63, 69] [6] [] [1] [some 42, some 43, some 44, some 6] (L44_15).1 := w_plain (by kernel_rfl) (L44_15).2
noncomputable def L44_16 : Lt r44_16 := by refine ⟨?l, ?h⟩; case h => simp only [r44_16, c44, bodyOf, Tryd.f44, Code.sub, opsOf, List.map_cons, List.map_nil, strip]; rfl
theorem w44_16 : Wp r44_16 14 [14, 19, 24, 29, 29, 36, 40, 45, 51, 57, 63, 69] [] [45] [13] [some 46, some 45] (L44_16).1 := w_plain (by kernel_rfl) (L44_16).2
noncomputable def L44_17 : Lt r44_17 := by refine ⟨?l, ?h⟩; case h => simp only [r44_17, c44, bodyOf, Tryd.f44, Code.sub, opsOf, List.map_cons, List.map_nil, strip]; rfl
theorem w44_17 : Wp r44_17 14 [14, 19, 24, 29, 29, 36, 40, 45, 51, 57, 63, 69] [6] [] [1, 2] [some 47, some 48, some 49, some 50, some 6] (L44_17).1 := w_plain (by kernel_rfl) (L44_17).2
noncomputable def L44_18 : Lt r44_18 := by refine ⟨?l, ?h⟩; case h => simp only [r44_18, c44, bodyOf, Tryd.f44, Code.sub, opsOf, List.map_cons, List.map_nil, strip]; rfl
theorem w44_18 : Wp r44_18 14 [14, 19, 24, 29, 29, 36, 40, 45, 51, 57, 63, 69] [] [51] [13] [some 52, some 51] (L44_18).1 := w_plain (by kernel_rfl) (L44_18).2
noncomputable def L44_19 : Lt r44_19 := by refine ⟨?l, ?h⟩; case h => simp only [r44_19, c44, bodyOf, Tryd.f44, Code.sub, opsOf, List.map_cons, List.map_nil, strip]; rfl
theorem w44_19 : Wp r44_19 14 [14, 19, 24, 29, 29, 36, 40, 45, 51, 57, 63, 69] [6] [] [1, 2] [some 53, some 54, some 55, some 56, some 6] (L44_19).1 := w_plain (by kernel_rfl) (L44_19).2
noncomputable def L44_20 : Lt r44_20 := by refine ⟨?l, ?h⟩; case h => simp only [r44_20, c44, bodyOf, Tryd.f44, Code.sub, opsOf, List.map_cons, List.map_nil, strip]; rfl
theorem w44_20 : Wp r44_20 14 [14, 19, 24, 29, 29, 36, 40, 45, 51, 57, 63, 69] [] [57] [13] [some 58, some 57] (L44_20).1 := w_plain (by kernel_rfl) (L44_20).2
noncomputable def L44_21 : Lt r44_21 := by refine ⟨?l, ?h⟩; case h => simp only [r44_21, c44, bodyOf, Tryd.f44, Code.sub, opsOf, List.map_cons, List.map_nil, strip]; rfl
theorem w44_21 : Wp r44_21 14 [14, 19, 24, 29, 29, 36, 40, 45, 51, 57, 63, 69] [6] [] [7, 8] [some 59, some 60, some 61, some 62, some 6] (L44_21).1 := w_plain (by kernel_rfl) (L44_21).2
noncomputable def L44_22 : Lt r44_22 := by refine ⟨?l, ?h⟩; case h => simp only [r44_22, c44, bodyOf, Tryd.f44, Code.sub, opsOf, List.map_cons, List.map_nil, strip]; rfl
theorem w44_22 : Wp r44_22 14 [14, 19, 24, 29, 29, 36, 40, 45, 51, 57, 63, 69] [] [63] [13] [some 64, some 63] (L44_22).1 := w_plain (by kernel_rfl) (L44_22).2
noncomputable def L44_23 : Lt r44_23 := by refine ⟨?l, ?h⟩; case h => simp only [r44_23, c44, bodyOf, Tryd.f44, Code.sub, opsOf, List.map_cons, List.map_nil, strip]; rfl
theorem w44_23 : Wp r44_23 14 [14, 19, 24, 29, 29, 36, 40, 45, 51, 57, 63, 69] [6] [] [7, 8] [some 65, some 66, some 67, some 68, some 6] (L44_23).1 := w_plain (by kernel_rfl) (L44_23).2
noncomputable def L44_24 : Lt r44_24 := by refine ⟨?l, ?h⟩; case h => simp only [r44_24, c44, bodyOf, Tryd.f44, Code.sub, opsOf, List.map_cons, List.map_nil, strip]; rfl
theorem w44_24 : Wp r44_24 14 [14, 19, 24, 29, 29, 36, 40, 45, 51, 57, 63, 69] [] [69] [13] [some 70, some 69] (L44_24).1 := w_plain (by kernel_rfl) (L44_24).2
noncomputable def L44_25 : Lt r44_25 := by refine ⟨?l, ?h⟩; case h => simp only [r44_25, c44, bodyOf, Tryd.f44, Code.sub, opsOf, List.map_cons, List.map_nil, strip]; rfl
theorem w44_25 : Wp r44_25 14 [14, 19, 24, 29, 29, 36, 40, 45, 51, 57, 63, 69] [6] [] [1, 2] [some 71, some 72, some 73, some 74, some 6] (L44_25).1 := w_plain (by kernel_rfl) (L44_25).2
noncomputable def L44_26 : Lt r44_26 := by refine ⟨?l, ?h⟩; case h => simp only [r44_26, c44, bodyOf, Tryd.f44, Code.sub, opsOf, List.map_cons, List.map_nil, strip]; rfl
theorem w44_26 : Wp r44_26 14 [14, 19, 24, 29, 29, 36, 40, 45, 51, 57, 63, 69] [6] [] [] [some 6] (L44_26).1 := w_plain (by kernel_rfl) (L44_26).2
theorem k44 : FnIs TT 44 c44 [.tmp 6] 3 := ⟨Tryd.f44, by kernel_rfl, by simp only [Tryd.f44, c44, bodyOf], by kernel_rfl, of_decide_eq_true (by kernel_rfl)⟩
noncomputable def c45 : Code := bodyOf Tryd.f45
noncomputable def r45_0 : Code := Code.sub [0] c45
noncomputable def r45_1 : Code := Code.sub [1, 0] c45
theorem body45 : c45 = (.seq r45_0 (.seq r45_1 .ret)) := by kernel_rfl
noncomputable def L45_0 : Lt r45_0 := by refine ⟨?l, ?h⟩; case h => simp only [r45_0, c45, bodyOf, Tryd.f45, Code.sub, opsOf, List.map_cons, List.map_nil, strip]; rfl
theorem w45_0 : Wp r45_0 3 [] [2] [] [] [some 2] (L45_0).1 := w_plain (by kernel_rfl) (L45_0).2
noncomputable def L45_1 : Lt r45_1 := by refine ⟨?l, ?h⟩; case h => simp only [r45_1, c45, bodyOf, Tryd.f45, Code.sub, opsOf, List.map_cons, List.map_nil, strip]; rfl
theorem w45_1 : Wp r45_1 3 [] [2] [] [0] [some 3, some 4, some 5, some 2] (L45_1).1 := w_plain (by kernel_rfl) (L45_1).2
theorem k45 : FnIs TT 45 c45 [.tmp 2] 1 := ⟨Tryd.f45, by kernel_rfl, by simp only [Tryd.f45, c45, bodyOf], by kernel_rfl, of_decide_eq_true (by kernel_rfl)⟩
noncomputable def c46 : Code := bodyOf Tryd.f46
noncomputable def r46_0 : Code := Code.sub [0] c46
noncomputable def r46_1 : Code := Code.sub [1, 0] c46
theorem body46 : c46 = (.seq r46_0 (.seq r46_1 .ret)) := by kernel_rfl
noncomputable def L46_0 : Lt r46_0 := by refine ⟨?l, ?h⟩; case h => simp only [r46_0, c46, bodyOf, Tryd.f46, Code.sub, opsOf, List.map_cons, List.map_nil, strip]; rfl
theorem w46_0 : Wp r46_0 5 [] [4] [] [] [some 4] (L46_0).1 := w_plain (by kernel_rfl) (L46_0).2
noncomputable def L46_1 : Lt r46_1 := by refine ⟨?l, ?h⟩; case h => simp only [r46_1, c46, bodyOf, Tryd.f46, Code.sub, opsOf, List.map_cons, List.map_nil, strip]; rfl
theorem w46_1 : Wp r46_1 5 [] [4] [] [0, 1] [some 5, some 6, some 7, some 8, some 9, some 4] (L46_1).1 := w_plain (by kernel_rfl) (L46_1).2
theorem k46 : FnIs TT 46 c46 [.tmp 4] 2 := ⟨Tryd.f46, by kernel_rfl, by simp only [Tryd.f46, c46, bodyOf], by kernel_rfl, of_decide_eq_true (by kernel_rfl)⟩
noncomputable def c47 : Code := bodyOf Tryd.f47
noncomputable def r47_0 : Code := Code.sub [0] c47
noncomputable def r47_1 : Code := Code.sub [1, 0] c47
theorem body47 : c47 = (.seq r47_0 (.seq r47_1 .ret)) := by kernel_rfl
noncomputable def L47_0 : Lt r47_0 := by refine ⟨?l, ?h⟩; case h => simp only [r47_0, c47, bodyOf, Tryd.f47, Code.sub, opsOf, List.map_cons, List.map_nil, strip]; rfl
theorem w47_0 : Wp r47_0 5 [] [4] [] [] [some 4] (L47_0).1 := w_plain (by kernel_rfl) (L47_0).2
noncomputable def L47_1 : Lt r47_1 := by refine ⟨?l, ?h⟩; case h => simp only [r47_1, c47, bodyOf, Tryd.f47, Code.sub, opsOf, List.map_cons, List.map_nil, strip]; rfl
theorem w47_1 : Wp r47_1 5 [] [4] [] [0, 1] [some 5, some 6, some 7, some 8, some 9, some 4] (L47_1).1 := w_plain (by kernel_rfl) (L47_1).2
theorem k47 : FnIs TT 47 c47 [.tmp 4] 2 := ⟨Tryd.f47, by kernel_rfl, by simp only [Tryd.f47, c47, bodyOf], by kernel_rfl, of_decide_eq_true (by kernel_rfl)⟩
noncomputable def c48 : Code := bodyOf Tryd.f48
noncomputable def r48_0 : Code := Code.sub [0] c48
noncomputable def r48_1 : Code := Code.sub [1, 0, 0] c48
noncomputable def r48_2 : Code := Code.sub [1, 0, 1, 0, 0] c48
noncomputable def r48_3 : Code := Code.sub [1, 1, 0] c48
theorem body48 : c48 = (.seq r48_0 (.seq (.seq r48_1 (.cond (.tmp 12) (.seq r48_2 .ret) .skip)) (.seq r48_3 .ret))) := by kernel_rfl
noncomputable def L48_0 : Lt r48_0 := by refine ⟨?l, ?h⟩; case h => simp only [r48_0, c48, bodyOf, Tryd.f48, Code.sub, opsOf, List.map_cons, List.map_nil, strip]; rfl
theorem w48_0 : Wp r48_0 5 [12] [4] [] [] [some 4] (L48_0).1 := w_plain (by kernel_rfl) (L48_0).2
noncomputable def L48_1 : Lt r48_1 := by refine ⟨?l, ?h⟩; case h => simp only [r48_1, c48, bodyOf, Tryd.f48, Code.sub, opsOf, List.map_cons, List.map_nil, strip]; rfl
theorem w48_1 : Wp r48_1 5 [12] [] [12] [1, 0] [some 5, some 6, some 7, some 8, some 9, some 10, some 11, some 12] (L48_1).1 := w_plain (by kernel_rfl) (L48_1).2
noncomputable def L48_2 : Lt r48_2 := by refine ⟨?l, ?h⟩; case h => simp only [r48_2, c48, bodyOf, Tryd.f48, Code.sub, opsOf, List.map_cons, List.map_nil, strip]; rfl
theorem w48_2 : Wp r48_2 5 [12] [4] [] [] [some 4] (L48_2).1 := w_plain (by kernel_rfl) (L48_2).2
noncomputable def L48_3 : Lt r48_3 := by refine ⟨?l, ?h⟩; case h => simp only [r48_3, c48, bodyOf, Tryd.f48, Code.sub, opsOf, List.map_cons, List.map_nil, strip]; rfl
theorem w48_3 : Wp r48_3 5 [12] [4] [] [0, 1] [some 13, some 14, some 15, some 16, some 17, some 18, some 19, some 4] (L48_3).1 := w_plain (by kernel_rfl) (L48_3).2
theorem k48 : FnIs TT 48 c48 [.tmp 4] 2 := ⟨Tryd.f48, by kernel_rfl, by simp only [Tryd.f48, c48, bodyOf], by kernel_rfl, of_decide_eq_true (by kernel_rfl)⟩
noncomputable def c49 : Code := bodyOf Tryd.f49
noncomputable def r49_0 : Code := Code.sub [] c49
theorem body49 : c49 = r49_0 := by kernel_rfl
noncomputable def L49_0 : Lt r49_0 := by refine ⟨?l, ?h⟩; case h => simp only [r49_0, c49, bodyOf, Tryd.f49, Code.sub, opsOf, List.map_cons, List.map_nil, strip]; rfl
theorem w49_0 : Wp r49_0 2 [] [] [] [0, 1] [some 4, some 5, some 6, some 7, some 8, none, some 9, some 10, none] (L49_0).1 := w_plain (by kernel_rfl) (L49_0).2
theorem k49 : FnIs TT 49 c49 [] 2 := ⟨Tryd.f49, by kernel_rfl, by simp only [Tryd.f49, c49, bodyOf], by kernel_rfl, of_decide_eq_true (by kernel_rfl)⟩
noncomputable def c50 : Code := bodyOf Tryd.f50
noncomputable def r50_0 : Code := Code.sub [0] c50
noncomputable def r50_1 : Code := Code.sub [1, 0, 0] c50
noncomputable def r50_2 : Code := Code.sub [1, 0, 1, 0, 0] c50
noncomputable def r50_3 : Code := Code.sub [1, 1, 0] c50
theorem body50 : c50 = (.seq r50_0 (.seq (.seq r50_1 (.cond (.tmp 3) (.seq r50_2 .ret) .skip)) (.seq r50_3 .ret))) := by kernel_rfl
noncomputable def L50_0 : Lt r50_0 := by refine ⟨?l, ?h⟩; case h => simp only [r50_0, c50, bodyOf, Tryd.f50, Code.sub, opsOf, List.map_cons, List.map_nil, strip]; rfl
theorem w50_0 : Wp r50_0 3 [3] [2] [] [] [some 2] (L50_0).1 := w_plain (by kernel_rfl) (L50_0).2
noncomputable def L50_1 : Lt r50_1 := by refine ⟨?l, ?h⟩; case h => simp only [r50_1, c50, bodyOf, Tryd.f50, Code.sub, opsOf, List.map_cons, List.map_nil, strip]; rfl
theorem w50_1 : Wp r50_1 3 [3] [] [3] [0] [some 3] (L50_1).1 := w_plain (by kernel_rfl) (L50_1).2
noncomputable def L50_2 : Lt r50_2 := by refine ⟨?l, ?h⟩; case h => simp only [r50_2, c50, bodyOf, Tryd.f50, Code.sub, opsOf, List.map_cons, List.map_nil, strip]; rfl
theorem w50_2 : Wp r50_2 3 [3] [2] [] [] [some 2] (L50_2).1 := w_plain (by kernel_rfl) (L50_2).2
noncomputable def L50_3 : Lt r50_3 := by refine ⟨?l, ?h⟩; case h => simp only [r50_3, c50, bodyOf, Tryd.f50, Code.sub, opsOf, List.map_cons, List.map_nil, strip]; rfl
theorem w50_3 : Wp r50_3 3 [3] [2] [] [] [some 2] (L50_3).1 := w_plain (by kernel_rfl) (L50_3).2
theorem k50 : FnIs TT 50 c50 [.tmp 2] 1 := ⟨Tryd.f50, by kernel_rfl, by simp only [Tryd.f50, c50, bodyOf], by kernel_rfl, of_decide_eq_true (by kernel_rfl)⟩
noncomputable def c52 : Code := bodyOf Tryd.f52
noncomputable def r52_0 : Code := Code.sub [0] c52
noncomputable def r52_1 : Code := Code.sub [1, 0, 0] c52
noncomputable def r52_2 : Code := Code.sub [1, 0, 1, 0] c52
noncomputable def r52_3 : Code := Code.sub [1, 1, 0, 0, 0] c52
noncomputable def r52_4 : Code := Code.sub [1, 1, 0, 0, 1, 0, 0] c52
noncomputable def r52_5 : Code := Code.sub [1, 1, 0, 0, 1, 1, 0] c52
noncomputable def r52_6 : Code := Code.sub [1, 1, 0, 0, 1, 1, 1, 0, 0] c52
noncomputable def r52_7 : Code := Code.sub [1, 1, 1, 0] c52
theorem body52 : c52 = (.seq r52_0 (.seq (.seq r52_1 (.cond (.tmp 12) r52_2 .skip)) (.seq (.block 0 (.seq r52_3 (.cond (.tmp 13) (.seq r52_4 .ret) (.seq r52_5 (.cond (.tmp 16) (.seq r52_6 .ret) .skip))))) (.seq r52_7 .ret)))) := by kernel_rfl
noncomputable def L52_0 : Lt r52_0 := by refine ⟨?l, ?h⟩; case h => simp only [r52_0, c52, bodyOf, Tryd.f52, Code.sub, opsOf, List.map_cons, List.map_nil, strip]; rfl
theorem w52_0 : Wp r52_0 7 [12, 13, 16] [6] [] [] [some 6] (L52_0).1 := w_plain (by kernel_rfl) (L52_0).2
noncomputable def L52_1 : Lt r52_1 := by refine ⟨?l, ?h⟩; case h => simp only [r52_1, c52, bodyOf, Tryd.f52, Code.sub, opsOf, List.map_cons, List.map_nil, strip]; rfl
theorem w52_1 : Wp r52_1 7 [12, 13, 16] [] [12] [1, 2] [some 7, some 8, some 9, some 10, some 11, some 12] (L52_1).1 := w_plain (by kernel_rfl) (L52_1).2
noncomputable def L52_2 : Lt r52_2 := by refine ⟨?l, ?h⟩; case h => simp only [r52_2, c52, bodyOf, Tryd.f52, Code.sub, opsOf, List.map_cons, List.map_nil, strip]; rfl
theorem w52_2 : Wp r52_2 7 [12, 13, 16] [2] [] [] [some 2] (L52_2).1 := w_plain (by kernel_rfl) (L52_2).2
noncomputable def L52_3 : Lt r52_3 := by refine ⟨?l, ?h⟩; case h => simp only [r52_3, c52, bodyOf, Tryd.f52, Code.sub, opsOf, List.map_cons, List.map_nil, strip]; rfl
theorem w52_3 : Wp r52_3 7 [12, 13, 16] [] [13] [2] [some 14, some 15, some 13] (L52_3).1 := w_plain (by kernel_rfl) (L52_3).2
noncomputable def L52_4 : Lt r52_4 := by refine ⟨?l, ?h⟩; case h => simp only [r52_4, c52, bodyOf, Tryd.f52, Code.sub, opsOf, List.map_cons, List.map_nil, strip]; rfl
theorem w52_4 : Wp r52_4 7 [12, 13, 16] [6] [] [] [some 6] (L52_4).1 := w_plain (by kernel_rfl) (L52_4).2
noncomputable def L52_5 : Lt r52_5 := by refine ⟨?l, ?h⟩; case h => simp only [r52_5, c52, bodyOf, Tryd.f52, Code.sub, opsOf, List.map_cons, List.map_nil, strip]; rfl
theorem w52_5 : Wp r52_5 7 [12, 13, 16] [] [16] [0] [some 17, some 18, some 16] (L52_5).1 := w_plain (by kernel_rfl) (L52_5).2
noncomputable def L52_6 : Lt r52_6 := by refine ⟨?l, ?h⟩; case h => simp only [r52_6, c52, bodyOf, Tryd.f52, Code.sub, opsOf, List.map_cons, List.map_nil, strip]; rfl
theorem w52_6 : Wp r52_6 7 [12, 13, 16] [6] [] [1, 2] [some 19, some 20, some 21, some 22, some 6] (L52_6).1 := w_plain (by kernel_rfl) (L52_6).2
noncomputable def L52_7 : Lt r52_7 := by refine ⟨?l, ?h⟩; case h => simp only [r52_7, c52, bodyOf, Tryd.f52, Code.sub, opsOf, List.map_cons, List.map_nil, strip]; rfl
theorem w52_7 : Wp r52_7 7 [12, 13, 16] [6] [] [1, 2] [some 23, some 24, some 25, some 26, some 6] (L52_7).1 := w_plain (by kernel_rfl) (L52_7).2
theorem k52 : FnIs TT 52 c52 [.tmp 6] 3 := ⟨Tryd.f52, by kernel_rfl, by simp only [Tryd.f52, c52, bodyOf], by kernel_rfl, of_decide_eq_true (by kernel_rfl)⟩
noncomputable def c53 : Code := bodyOf Tryd.f53
noncomputable def r53_0 : Code := Code.sub [0] c53
noncomputable def r53_1 : Code := Code.sub [1, 0, 0] c53
noncomputable def r53_2 : Code := Code.sub [1, 0, 1, 0, 0] c53
noncomputable def r53_3 : Code := Code.sub [1, 1, 0] c53
theorem body53 : c53 = (.seq r53_0 (.seq (.seq r53_1 (.cond (.tmp 3) (.seq r53_2 .ret) .skip)) (.seq r53_3 .ret))) := by kernel_rfl
noncomputable def L53_0 : Lt r53_0 := by refine ⟨?l, ?h⟩; case h => simp only [r53_0, c53, bodyOf, Tryd.f53, Code.sub, opsOf, List.map_cons, List.map_nil, strip]; rfl
theorem w53_0 : Wp r53_0 3 [3] [2] [] [] [some 2] (L53_0).1 := w_plain (by kernel_rfl) (L53_0).2
noncomputable def L53_1 : Lt r53_1 := by refine ⟨?l, ?h⟩; case h => simp only [r53_1, c53, bodyOf, Tryd.f53, Code.sub, opsOf, List.map_cons, List.map_nil, strip]; rfl
theorem w53_1 : Wp r53_1 3 [3] [] [3] [0] [some 3] (L53_1).1 := w_plain (by kernel_rfl) (L53_1).2
noncomputable def L53_2 : Lt r53_2 := by refine ⟨?l, ?h⟩; case h => simp only [r53_2, c53, bodyOf, Tryd.f53, Code.sub, opsOf, List.map_cons, List.map_nil, strip]; rfl
theorem w53_2 : Wp r53_2 3 [3] [2] [] [] [some 2] (L53_2).1 := w_plain (by kernel_rfl) (L53_2).2
noncomputable def L53_3 : Lt r53_3 := by refine ⟨?l, ?h⟩; case h => simp only [r53_3, c53, bodyOf, Tryd.f53, Code.sub, opsOf, List.map_cons, List.map_nil, strip]; rfl
theorem w53_3 : Wp r53_3 3 [3] [2] [] [] [some 2] (L53_3).1 := w_plain (by kernel_rfl) (L53_3).2
theorem k53 : FnIs TT 53 c53 [.tmp 2] 1 := ⟨Tryd.f53, by kernel_rfl, by simp only [Tryd.f53, c53, bodyOf], by kernel_rfl, of_decide_eq_true (by kernel_rfl)⟩
noncomputable def c54 : Code := bodyOf Tryd.f54
noncomputable def r54_0 : Code := Code.sub [0] c54
noncomputable def r54_1 : Code := Code.sub [1, 0] c54
theorem body54 : c54 = (.seq r54_0 (.seq r54_1 .ret)) := by kernel_rfl
noncomputable def L54_0 : Lt r54_0 := by refine ⟨?l, ?h⟩; case h => simp only [r54_0, c54, bodyOf, Tryd.f54, Code.sub, opsOf, List.map_cons, List.map_nil, strip]; rfl
theorem w54_0 : Wp r54_0 5 [] [4] [] [] [some 4] (L54_0).1 := w_plain (by kernel_rfl) (L54_0).2
noncomputable def L54_1 : Lt r54_1 := by refine ⟨?l, ?h⟩; case h => simp only [r54_1, c54, bodyOf, Tryd.f54, Code.sub, opsOf, List.map_cons, List.map_nil, strip]; rfl
theorem w54_1 : Wp r54_1 5 [] [4] [] [0, 1] [some 5, some 6, some 7, some 4] (L54_1).1 := w_plain (by kernel_rfl) (L54_1).2
theorem k54 : FnIs TT 54 c54 [.tmp 4] 2 := ⟨Tryd.f54, by kernel_rfl, by simp only [Tryd.f54, c54, bodyOf], by kernel_rfl, of_decide_eq_true (by kernel_rfl)⟩
/- what rewriting uses in the walks -/
attribute [simp] w_seq w_cond_tmp w_ret w_skip w_exit w_block w_loop r_nil r_seq r_seq_ret r_seq_exit r_block
attribute [simp] r_block_ret r_block_exit r_loop r_loop_ret r_loop_exit cnd_t cnd_f rg_some lgo_n lgo_c lops_nil lops_cons
attribute [simp] lk_some lop1_plain lop1_guard gdv_b gdv_u gd_tt gd_ff gd_tf gd_ft lput_s lput_n lev_t
attribute [simp] lev_c lev_g lev_f lget_n lget_c lset_n lset_c lkeep_n lkeep_c lsets_n lsets_c lconds_n
attribute [simp] lconds_c lfill qf_d okx lresults lresultsL lres_tmp o_move o_assign o_bin o_pick o_nilCheck
attribute [simp] o_fieldAddr o_load o_len o_store o_conv o_un o_extract o_append o_call2 o_callv o_buildSlice o_box
attribute [simp] o_alloc o_build o_indexAddr o_slice o_index o_field o_makeFunc o_makeSlice o_min o_max loOf_none loOf_some
attribute [simp] hiOf_none hiOf_some natOf_int sliceS_some sliceA_some strOp sz_str cat_str list_str s_binOp fastBin s_unOp
attribute [simp] fastUn boolEq int_beq int_bne txt_beq one_int one_slice one_ptr one_bool one_str cells_int cells_slice
attribute [simp] cells_ptr cells_bool cells_str cells_agg flatEq_n flatEq_c ba_beq closedA_l closedL_n closedL_c closedV_int closedV_str
attribute [simp] closedV_bool loadRow_new window over Instr.fill repl lst_nil lst_cons lks_some lkc_some lloud_some lreads_n
attribute [simp] lreads_c lsame_d eqV_int eqV_slice eqV_ptr eqV_agg eqL_n eqL_c eqV_str eqV_bool eqV_undef o_lookup
attribute [simp] o_mapUpdate o_insert o_mapEntry o_entryStore o_makeMap o_makeInterface o_typeAssert o_delete o_invoke inv_of est_int one_map
attribute [simp] one_iface cells_map cells_iface eqV_map eqV_ifc
attribute [simp] body3 w3_0 L3_0 w3_1 L3_1 w3_2 L3_2 w3_3 L3_3 w3_4 L3_4 w3_5 L3_5 w3_6 L3_6 w3_7 L3_7 w3_8 L3_8 w3_9 L3_9 w3_10 L3_10 w3_11 L3_11 w3_12 L3_12 w3_13 L3_13 w3_14 L3_14 w3_15 L3_15 w3_16 L3_16 w3_17 L3_17 w3_18 L3_18 w3_19 L3_19 w3_20 L3_20 w3_21 L3_21 w3_22 L3_22 w3_23 L3_23
attribute [simp] body7 w7_0 L7_0 w7_1 L7_1 w7_2 L7_2 w7_3 L7_3 w7_4 L7_4 w7_5 L7_5 w7_6 L7_6 w7_7 L7_7 w7_8 L7_8 w7_9 L7_9 w7_10 L7_10 w7_11 L7_11 w7_12 L7_12 w7_13 L7_13 w7_14 L7_14 w7_15 L7_15 w7_16 L7_16 w7_17 L7_17 w7_18 L7_18 w7_19 L7_19 w7_20 L7_20 w7_21 L7_21 w7_22 L7_22 w7_23 L7_23 w7_24 L7_24 w7_25 L7_25 w7_26 L7_26 w7_27 L7_27 w7_28 L7_28 w7_29 L7_29 w7_30 L7_30 w7_31 L7_31 w7_32 L7_32 w7_33 L7_33 w7_34 L7_34
attribute [simp] body8 w8_0 L8_0 w8_1 L8_1 w8_2 L8_2 w8_3 L8_3 w8_4 L8_4 w8_5 L8_5 w8_6 L8_6 w8_7 L8_7 w8_8 L8_8 w8_9 L8_9 w8_10 L8_10 w8_11 L8_11
attribute [simp] body9 w9_0 L9_0 w9_1 L9_1 w9_2 L9_2 w9_3 L9_3 w9_4 L9_4 w9_5 L9_5 w9_6 L9_6 w9_7 L9_7 w9_8 L9_8 w9_9 L9_9 w9_10 L9_10 w9_11 L9_11 w9_12 L9_12 w9_13 L9_13 w9_14 L9_14 w9_15 L9_15
attribute [simp] body11 w11_0 L11_0 w11_1 L11_1 w11_2 L11_2 w11_3 L11_3 w11_4 L11_4
attribute [simp] body12 w12_0 L12_0 w12_1 L12_1 w12_2 L12_2 w12_3 L12_3 w12_4 L12_4 w12_5 L12_5 w12_6 L12_6 w12_7 L12_7 w12_8 L12_8
attribute [simp] body13 w13_0 L13_0 w13_1 L13_1 w13_2 L13_2 w13_3 L13_3 w13_4 L13_4 w13_5 L13_5 w13_6 L13_6 w13_7 L13_7 w13_8 L13_8 w13_9 L13_9 w13_10 L13_10 w13_11 L13_11 w13_12 L13_12 w13_13 L13_13 w13_14 L13_14 w13_15 L13_15 w13_16 L13_16 w13_17 L13_17 w13_18 L13_18 w13_19 L13_19 w13_20 L13_20 w13_21 L13_21 w13_22 L13_22 w13_23 L13_23 w13_24 L13_24 w13_25 L13_25 w13_26 L13_26 w13_27 L13_27 w13_28 L13_28 w13_29 L13_29 w13_30 L13_30 w13_31 L13_31 w13_32 L13_32 w13_33 L13_33 w13_34 L13_34 w13_35 L13_35 w13_36 L13_36 w13_37 L13_37 w13_38 L13_38 w13_39 L13_39 w13_40 L13_40 w13_41 L13_41 w13_42 L13_42 w13_43 L13_43 w13_44 L13_44 w13_45 L13_45 w13_46 L13_46 w13_47 L13_47 w13_48 L13_48
attribute [simp] body14 w14_0 L14_0 w14_1 L14_1 w14_2 L14_2 w14_3 L14_3 w14_4 L14_4 w14_5 L14_5 w14_6 L14_6 w14_7 L14_7 w14_8 L14_8
attribute [simp] body15 w15_0 L15_0 w15_1 L15_1
attribute [simp] body16 w16_0 L16_0 w16_1 L16_1 w16_2 L16_2 w16_3 L16_3
attribute [simp] body19 w19_0 L19_0 w19_1 L19_1 w19_2 L19_2 w19_3 L19_3
attribute [simp] body25 w25_0 L25_0 w25_1 L25_1 w25_2 L25_2 w25_3 L25_3 w25_4 L25_4 w25_5 L25_5 w25_6 L25_6 w25_7 L25_7 w25_8 L25_8 w25_9 L25_9 w25_10 L25_10 w25_11 L25_11 w25_12 L25_12 w25_13 L25_13 w25_14 L25_14 w25_15 L25_15 w25_16 L25_16 w25_17 L25_17 w25_18 L25_18 w25_19 L25_19 w25_20 L25_20 w25_21 L25_21 w25_22 L25_22 w25_23 L25_23
attribute [simp] body26 w26_0 L26_0 w26_1 L26_1
attribute [simp] body27 w27_0 L27_0 w27_1 L27_1 w27_2 L27_2 w27_3 L27_3 w27_4 L27_4 w27_5 L27_5 w27_6 L27_6 w27_7 L27_7 w27_8 L27_8 w27_9 L27_9
attribute [simp] body28 w28_0 L28_0 w28_1 L28_1 w28_2 L28_2 w28_3 L28_3
attribute [simp] body29 w29_0 L29_0 w29_1 L29_1 w29_2 L29_2 w29_3 L29_3 w29_4 L29_4 w29_5 L29_5 w29_6 L29_6
attribute [simp] body30 w30_0 L30_0 w30_1 L30_1 w30_2 L30_2 w30_3 L30_3 w30_4 L30_4
attribute [simp] body32 w32_0 L32_0 w32_1 L32_1 w32_2 L32_2 w32_3 L32_3 w32_4 L32_4 w32_5 L32_5 w32_6 L32_6 w32_7 L32_7 w32_8 L32_8 w32_9 L32_9
attribute [simp] body33 w33_0 L33_0 w33_1 L33_1 w33_2 L33_2 w33_3 L33_3 w33_4 L33_4 w33_5 L33_5 w33_6 L33_6 w33_7 L33_7 w33_8 L33_8 w33_9 L33_9 w33_10 L33_10 w33_11 L33_11 w33_12 L33_12 w33_13 L33_13 w33_14 L33_14 w33_15 L33_15 w33_16 L33_16 w33_17 L33_17 w33_18 L33_18 w33_19 L33_19 w33_20 L33_20 w33_21 L33_21 w33_22 L33_22 w33_23 L33_23 w33_24 L33_24 w33_25 L33_25 w33_26 L33_26 w33_27 L33_27 w33_28 L33_28 w33_29 L33_29 w33_30 L33_30 w33_31 L33_31 w33_32 L33_32 w33_33 L33_33 w33_34 L33_34 w33_35 L33_35 w33_36 L33_36 w33_37 L33_37 w33_38 L33_38 w33_39 L33_39 w33_40 L33_40 w33_41 L33_41
attribute [simp] body34 w34_0 L34_0 w34_1 L34_1
attribute [simp] body35 w35_0 L35_0 w35_1 L35_1
attribute [simp] body36 w36_0 L36_0 w36_1 L36_1 w36_2 L36_2 w36_3 L36_3
attribute [simp] body37 w37_0 L37_0 w37_1 L37_1 w37_2 L37_2 w37_3 L37_3 w37_4 L37_4
attribute [simp] body38 w38_0 L38_0 w38_1 L38_1 w38_2 L38_2 w38_3 L38_3 w38_4 L38_4 w38_5 L38_5 w38_6 L38_6 w38_7 L38_7 w38_8 L38_8 w38_9 L38_9 w38_10 L38_10 w38_11 L38_11 w38_12 L38_12 w38_13 L38_13 w38_14 L38_14 w38_15 L38_15 w38_16 L38_16 w38_17 L38_17 w38_18 L38_18 w38_19 L38_19 w38_20 L38_20 w38_21 L38_21 w38_22 L38_22 w38_23 L38_23 w38_24 L38_24 w38_25 L38_25 w38_26 L38_26 w38_27 L38_27 w38_28 L38_28 w38_29 L38_29 w38_30 L38_30 w38_31 L38_31 w38_32 L38_32 w38_33 L38_33 w38_34 L38_34
attribute [simp] body39 w39_0 L39_0 w39_1 L39_1 w39_2 L39_2 w39_3 L39_3 w39_4 L39_4 w39_5 L39_5 w39_6 L39_6 w39_7 L39_7 w39_8 L39_8 w39_9 L39_9 w39_10 L39_10 w39_11 L39_11 w39_12 L39_12 w39_13 L39_13 w39_14 L39_14 w39_15 L39_15 w39_16 L39_16 w39_17 L39_17 w39_18 L39_18 w39_19 L39_19 w39_20 L39_20 w39_21 L39_21 w39_22 L39_22 w39_23 L39_23 w39_24 L39_24
attribute [simp] body41 w41_0 L41_0 w41_1 L41_1 w41_2 L41_2 w41_3 L41_3 w41_4 L41_4 w41_5 L41_5 w41_6 L41_6 w41_7 L41_7 w41_8 L41_8 w41_9 L41_9 w41_10 L41_10 w41_11 L41_11 w41_12 L41_12 w41_13 L41_13 w41_14 L41_14 w41_15 L41_15 w41_16 L41_16 w41_17 L41_17 w41_18 L41_18 w41_19 L41_19 w41_20 L41_20 w41_21 L41_21
attribute [simp] body42 w42_0 L42_0 w42_1 L42_1 w42_2 L42_2 w42_3 L42_3 w42_4 L42_4 w42_5 L42_5 w42_6 L42_6 w42_7 L42_7 w42_8 L42_8 w42_9 L42_9 w42_10 L42_10 w42_11 L42_11 w42_12 L42_12 w42_13 L42_13 w42_14 L42_14 w42_15 L42_15 w42_16 L42_16
attribute [simp] body43 w43_0 L43_0 w43_1 L43_1 w43_2 L43_2 w43_3 L43_3 w43_4 L43_4 w43_5 L43_5 w43_6 L43_6 w43_7 L43_7 w43_8 L43_8 w43_9 L43_9 w43_10 L43_10 w43_11 L43_11 w43_12 L43_12 w43_13 L43_13 w43_14 L43_14 w43_15 L43_15 w43_16 L43_16 w43_17 L43_17 w43_18 L43_18 w43_19 L43_19 w43_20 L43_20 w43_21 L43_21 w43_22 L43_22 w43_23 L43_23 w43_24 L43_24 w43_25 L43_25 w43_26 L43_26 w43_27 L43_27 w43_28 L43_28 w43_29 L43_29
attribute [simp] body44 w44_0 L44_0 w44_1 L44_1 w44_2 L44_2 w44_3 L44_3 w44_4 L44_4 w44_5 L44_5 w44_6 L44_6 w44_7 L44_7 w44_8 L44_8 w44_9 L44_9 w44_10 L44_10 w44_11 L44_11 w44_12 L44_12 w44_13 L44_13 w44_14 L44_14 w44_15 L44_15 w44_16 L44_16 w44_17 L44_17 w44_18 L44_18 w44_19 L44_19 w44_20 L44_20 w44_21 L44_21 w44_22 L44_22 w44_23 L44_23 w44_24 L44_24 w44_25 L44_25 w44_26 L44_26
attribute [simp] body45 w45_0 L45_0 w45_1 L45_1
attribute [simp] body46 w46_0 L46_0 w46_1 L46_1
attribute [simp] body47 w47_0 L47_0 w47_1 L47_1
attribute [simp] body48 w48_0 L48_0 w48_1 L48_1 w48_2 L48_2 w48_3 L48_3
attribute [simp] body49 w49_0 L49_0
attribute [simp] body50 w50_0 L50_0 w50_1 L50_1 w50_2 L50_2 w50_3 L50_3
attribute [simp] body52 w52_0 L52_0 w52_1 L52_1 w52_2 L52_2 w52_3 L52_3 w52_4 L52_4 w52_5 L52_5 w52_6 L52_6 w52_7 L52_7
attribute [simp] body53 w53_0 L53_0 w53_1 L53_1 w53_2 L53_2 w53_3 L53_3
attribute [simp] body54 w54_0 L54_0 w54_1 L54_1
end Go.Proofs.YtkcehgajpalgnaaDoor.gen

