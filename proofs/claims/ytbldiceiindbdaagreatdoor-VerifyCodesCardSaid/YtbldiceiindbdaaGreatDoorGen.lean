/- This text names the regions of the functions that are walked, with the slots that they read and set, and the facts of the types. No condition. -/
import Derived.Test.YtbldiceiindbdaaGreatDoorProg
import Derived.Test.YtbldiceiindbdaaGreatDoorShD
set_option linter.unusedVariables false
set_option linter.unusedSimpArgs false
set_option maxRecDepth 100000
set_option linter.defProp false
namespace Go.Proofs.YtbldiceiindbdaaGreatDoor.gen
open Go.Sh
def fns:List FuncId:=[3,7,8,9,10,12,16,17,18,19,22,23,24,25,27,28,29,30,36,37,38,39,40,41,42,43,44,45,46,47,48,49,50,51,52,68,69,70,71,72,73,74,75,76,77,78,79,80,81,82,83,84,85,86,87,88,109,110,111,113,114,115,116,117,118,119,120,121,122,123,139,140,142,143,144,145,158,162,163,164,177,217,218,219,220,221]
noncomputable def TT:FuncId→Option Func:=Sh.tabOf Tryz.prog fns
attribute [local simp] Zlc rgs Z4w Zks Zj9 Zql Ziu skl nR nO
variable {S:Zed}{m:Mem}{k:List Fr}{E:Zcu}{Q:Zrm}
theorem Zli:Zrq Tryz.prog 27 [(9,0),(3,1)]=true:=by kernel_rfl
theorem Z6q:Zrq Tryz.prog 52 [(3,0),(3,1)]=true:=by kernel_rfl
theorem Zo9:Zna Tryz.prog 23 1 24=true:=by kernel_rfl
theorem ap3:Zna Tryz.prog 3 1 8=true:=by kernel_rfl
theorem Z7n:Zna Tryz.prog 33 5 80=true:=by kernel_rfl
theorem ap4:Zna Tryz.prog 4 1 1=true:=by kernel_rfl
theorem Z6w:Zna Tryz.prog 40 3 24=true:=by kernel_rfl
theorem ap9:Zna Tryz.prog 9 1 16=true:=by kernel_rfl
theorem Zt0:(Tryz.prog.info? 104).isSome=true:=by kernel_rfl
theorem Z61:(Tryz.prog.info? 156).isSome=true:=by kernel_rfl
theorem b30:(Tryz.prog.info? 30).isSome=true:=by kernel_rfl
theorem b33:(Tryz.prog.info? 33).isSome=true:=by kernel_rfl
theorem b37:(Tryz.prog.info? 37).isSome=true:=by kernel_rfl
theorem b40:(Tryz.prog.info? 40).isSome=true:=by kernel_rfl
theorem b45:(Tryz.prog.info? 45).isSome=true:=by kernel_rfl
theorem b9:(Tryz.prog.info? 9).isSome=true:=by kernel_rfl
theorem Zkq:Zgj Tryz.prog 104 [.slice none 0 0,.slice none 0 0,.int .i64 0,.slice none 0 0,.slice none 0 0,.string ⟨#[]⟩,.slice none 0 0,.int .i64 0,.slice none 0 0,.slice none 0 0,.map none,.slice none 0 0] [(0,5),(5,5),(10,1),(11,1)]=true:=by kernel_rfl
theorem Zck:Zgj Tryz.prog 156 [.slice none 0 0,.slice none 0 0,.int .i64 0,.slice none 0 0,.slice none 0 0,.slice none 0 0] [(0,5),(5,1)]=true:=by kernel_rfl
theorem Zjd:Zgj Tryz.prog 27 [.string ⟨#[]⟩,.int .i64 0] [(0,1),(1,1)]=true:=by kernel_rfl
theorem Zhz:Zgj Tryz.prog 30 [.string ⟨#[]⟩,.slice none 0 0,.int .i64 0,.int .i64 0] [(0,1),(1,1),(2,1),(3,1)]=true:=by kernel_rfl
theorem Zhv:Zgj Tryz.prog 33 [.int .i64 0,.string ⟨#[]⟩,.int .i64 0,.slice none 0 0,.slice none 0 0] [(0,1),(1,1),(2,1),(3,1),(4,1)]=true:=by kernel_rfl
theorem Zis:Zgj Tryz.prog 37 [.string ⟨#[]⟩,.slice none 0 0,.int .i64 0,.slice none 0 0,.slice none 0 0] [(0,1),(1,1),(2,1),(3,1),(4,1)]=true:=by kernel_rfl
theorem Zh3:Zgj Tryz.prog 40 [.int .i64 0,.int .i64 0,.int .i64 0] [(0,1),(1,1),(2,1)]=true:=by kernel_rfl
theorem Zix:Zgj Tryz.prog 45 [.slice none 0 0,.slice none 0 0,.int .i64 0,.slice none 0 0,.slice none 0 0] [(0,1),(1,1),(2,1),(3,1),(4,1)]=true:=by kernel_rfl
theorem Zhp:Zgj Tryz.prog 52 [.int .i64 0,.int .i64 0] [(0,1),(1,1)]=true:=by kernel_rfl
theorem bs2:Zxw Tryz.prog 2 [.int .i64 0]=true:=by kernel_rfl
theorem Zjm:Zxw Tryz.prog 27 [.string ⟨#[]⟩,.int .i64 0]=true:=by kernel_rfl
theorem bs3:Zxw Tryz.prog 3 [.int .i64 0]=true:=by kernel_rfl
theorem Zj:Zxw Tryz.prog 30 [.string ⟨#[]⟩,.slice none 0 0,.int .i64 0,.int .i64 0]=true:=by kernel_rfl
theorem Ziw:Zxw Tryz.prog 33 [.int .i64 0,.string ⟨#[]⟩,.int .i64 0,.slice none 0 0,.slice none 0 0]=true:=by kernel_rfl
theorem Ziv:Zxw Tryz.prog 37 [.string ⟨#[]⟩,.slice none 0 0,.int .i64 0,.slice none 0 0,.slice none 0 0]=true:=by kernel_rfl
theorem Zh4:Zxw Tryz.prog 40 [.int .i64 0,.int .i64 0,.int .i64 0]=true:=by kernel_rfl
theorem bs9:Zxw Tryz.prog 9 [.string ⟨#[]⟩]=true:=by kernel_rfl
theorem Zbt:Zi2 Tryz.prog 104 0 0=true:=by kernel_rfl
theorem Zbm:Zi2 Tryz.prog 104 1 5=true:=by kernel_rfl
theorem Zef:Zi2 Tryz.prog 104 2 10=true:=by kernel_rfl
theorem Zeg:Zi2 Tryz.prog 104 3 11=true:=by kernel_rfl
theorem Zu3:Zi2 Tryz.prog 156 0 0=true:=by kernel_rfl
theorem Zwm:Zi2 Tryz.prog 156 1 5=true:=by kernel_rfl
theorem Zdo:Zi2 Tryz.prog 27 0 0=true:=by kernel_rfl
theorem Za9:Zi2 Tryz.prog 27 1 1=true:=by kernel_rfl
theorem Zbr:Zi2 Tryz.prog 30 0 0=true:=by kernel_rfl
theorem Zar:Zi2 Tryz.prog 30 1 1=true:=by kernel_rfl
theorem Zap:Zi2 Tryz.prog 30 2 2=true:=by kernel_rfl
theorem Zbq:Zi2 Tryz.prog 30 3 3=true:=by kernel_rfl
theorem Za3:Zi2 Tryz.prog 33 0 0=true:=by kernel_rfl
theorem Zbu:Zi2 Tryz.prog 33 1 1=true:=by kernel_rfl
theorem Zau:Zi2 Tryz.prog 33 2 2=true:=by kernel_rfl
theorem Zay:Zi2 Tryz.prog 33 3 3=true:=by kernel_rfl
theorem Zaq:Zi2 Tryz.prog 33 4 4=true:=by kernel_rfl
theorem Zav:Zi2 Tryz.prog 37 1 1=true:=by kernel_rfl
theorem Zaz:Zi2 Tryz.prog 37 2 2=true:=by kernel_rfl
theorem Zat:Zi2 Tryz.prog 37 3 3=true:=by kernel_rfl
theorem Zbl:Zi2 Tryz.prog 37 4 4=true:=by kernel_rfl
theorem Zak:Zi2 Tryz.prog 40 0 0=true:=by kernel_rfl
theorem Zal:Zi2 Tryz.prog 40 1 1=true:=by kernel_rfl
theorem Za0:Zi2 Tryz.prog 40 2 2=true:=by kernel_rfl
theorem Zas:Zi2 Tryz.prog 45 0 0=true:=by kernel_rfl
theorem Zan:Zi2 Tryz.prog 45 1 1=true:=by kernel_rfl
theorem Zfk:Zi2 Tryz.prog 45 2 2=true:=by kernel_rfl
theorem Za2:Zi2 Tryz.prog 45 3 3=true:=by kernel_rfl
theorem Zb7:Zi2 Tryz.prog 45 4 4=true:=by kernel_rfl
theorem Zpe:Zi2 Tryz.prog 52 1 1=true:=by kernel_rfl
theorem Zhy:Zl7 Tryz.prog 102=true:=by kernel_rfl
theorem Zcj:Zu1 Tryz.prog 156 6=true:=by kernel_rfl
theorem Zde:Zl7 Tryz.prog 22=true:=by kernel_rfl
theorem Zbe:Zl7 Tryz.prog 23=true:=by kernel_rfl
theorem Zb2:Zl7 Tryz.prog 24=true:=by kernel_rfl
theorem Zhx:Zu1 Tryz.prog 27 2=true:=by kernel_rfl
theorem Zce:Zl7 Tryz.prog 28=true:=by kernel_rfl
theorem ld3:Zl7 Tryz.prog 3=true:=by kernel_rfl
theorem Zc6:Zu1 Tryz.prog 30 4=true:=by kernel_rfl
theorem Zb1:Zl7 Tryz.prog 31=true:=by kernel_rfl
theorem Zf5:Zu1 Tryz.prog 33 5=true:=by kernel_rfl
theorem Zby:Zu1 Tryz.prog 37 5=true:=by kernel_rfl
theorem ld4:Zl7 Tryz.prog 4=true:=by kernel_rfl
theorem Zcb:Zu1 Tryz.prog 40 3=true:=by kernel_rfl
theorem Zbw:Zl7 Tryz.prog 41=true:=by kernel_rfl
theorem Zcr:Zl7 Tryz.prog 42=true:=by kernel_rfl
theorem Zez:Zl7 Tryz.prog 43=true:=by kernel_rfl
theorem Zbx:Zu1 Tryz.prog 45 5=true:=by kernel_rfl
theorem Zhb:Zu1 Tryz.prog 52 2=true:=by kernel_rfl
theorem Zo8:Zl7 Tryz.prog 74=true:=by kernel_rfl
theorem ld9:Zl7 Tryz.prog 9=true:=by kernel_rfl
theorem Zh0:Z2t Tryz.prog 107=true:=by kernel_rfl
theorem ni3:Z2t Tryz.prog 3=true:=by kernel_rfl
theorem Zxe:Zbo Tryz.prog 102=some 1:=by kernel_rfl
theorem Zch:Zbo Tryz.prog 156=some 6:=by kernel_rfl
theorem Zi8:Zbo Tryz.prog 22=some 1:=by kernel_rfl
theorem Ze2:Zbo Tryz.prog 23=some 1:=by kernel_rfl
theorem Zcc:Zbo Tryz.prog 27=some 2:=by kernel_rfl
theorem sz3:Zbo Tryz.prog 3=some 1:=by kernel_rfl
theorem Zbd:Zbo Tryz.prog 30=some 4:=by kernel_rfl
theorem Zbn:Zbo Tryz.prog 33=some 5:=by kernel_rfl
theorem Za5:Zbo Tryz.prog 37=some 5:=by kernel_rfl
theorem sz4:Zbo Tryz.prog 4=some 1:=by kernel_rfl
theorem Zb8:Zbo Tryz.prog 40=some 3:=by kernel_rfl
theorem Ziy:Zbo Tryz.prog 45=some 5:=by kernel_rfl
theorem Zgo:Zbo Tryz.prog 52=some 2:=by kernel_rfl
theorem sz9:Zbo Tryz.prog 9=some 1:=by kernel_rfl
theorem Zg5:Tryz.prog.underlying 102=some (.slice 3):=by kernel_rfl
theorem Zig:Tryz.prog.underlying 112=some (.slice 4):=by kernel_rfl
theorem u2:Tryz.prog.underlying 2=some (.int .i64):=by kernel_rfl
theorem u22:Tryz.prog.underlying 22=some (.slice 40):=by kernel_rfl
theorem u23:Tryz.prog.underlying 23=some (.slice 3):=by kernel_rfl
theorem u24:Tryz.prog.underlying 24=some (.slice 33):=by kernel_rfl
theorem u28:Tryz.prog.underlying 28=some (.slice 27):=by kernel_rfl
theorem u3:Tryz.prog.underlying 3=some (.int .i64):=by kernel_rfl
theorem u31:Tryz.prog.underlying 31=some (.slice 30):=by kernel_rfl
theorem u34:Tryz.prog.underlying 34=some (.array 4 3):=by kernel_rfl
theorem u38:Tryz.prog.underlying 38=some (.array 6 3):=by kernel_rfl
theorem u4:Tryz.prog.underlying 4=some .bool:=by kernel_rfl
theorem u41:Tryz.prog.underlying 41=some (.slice 37):=by kernel_rfl
theorem u42:Tryz.prog.underlying 42=some (.slice 9):=by kernel_rfl
theorem u43:Tryz.prog.underlying 43=some (.slice 2):=by kernel_rfl
theorem u59:Tryz.prog.underlying 59=some (.slice 23):=by kernel_rfl
theorem u74:Tryz.prog.underlying 74=some (.map 3 23):=by kernel_rfl
theorem u9:Tryz.prog.underlying 9=some .string:=by kernel_rfl
theorem Zci:Zg6 Tryz.prog 156 [.slice none 0 0,.slice none 0 0,.int .i64 0,.slice none 0 0,.slice none 0 0,.slice none 0 0]=true:=by kernel_rfl
theorem Zup:Zg6 Tryz.prog 27 [.string ⟨#[]⟩,.int .i64 0]=true:=by kernel_rfl
theorem Zcw:Zg6 Tryz.prog 30 [.string ⟨#[]⟩,.slice none 0 0,.int .i64 0,.int .i64 0]=true:=by kernel_rfl
theorem Zgb:Zg6 Tryz.prog 33 [.int .i64 0,.string ⟨#[]⟩,.int .i64 0,.slice none 0 0,.slice none 0 0]=true:=by kernel_rfl
theorem Zjf:Zg6 Tryz.prog 34 (Zu2 [.int .i64 0] 4)=true:=by kernel_rfl
theorem Zb4:Zg6 Tryz.prog 37 [.string ⟨#[]⟩,.slice none 0 0,.int .i64 0,.slice none 0 0,.slice none 0 0]=true:=by kernel_rfl
theorem Zjc:Zg6 Tryz.prog 38 (Zu2 [.int .i64 0] 6)=true:=by kernel_rfl
theorem Zem:Zg6 Tryz.prog 40 [.int .i64 0,.int .i64 0,.int .i64 0]=true:=by kernel_rfl
theorem Zir:Zg6 Tryz.prog 45 [.slice none 0 0,.slice none 0 0,.int .i64 0,.slice none 0 0,.slice none 0 0]=true:=by kernel_rfl
theorem Zgl:Zg6 Tryz.prog 52 [.int .i64 0,.int .i64 0]=true:=by kernel_rfl
theorem Zpc:Z4u Tryz.prog 23 (.slice none 0 0)=true:=by kernel_rfl
theorem T3:TT 3=some Tryz.f3:=by kernel_rfl
@[simp] def bd3:=Zcn Tryz.f3 T3 (by simp [Tryz.f3];rfl)
@[simp] def w3:=Zb6 Tryz.prog Tryz.f3 T3 79 [79,92,96,96,123] [.p 0 [6] [] [],.p 1 [14,15,16,17,18,19,20,21,22,23,24,25,26,7] [] [],.p 2 [27,28,29,30,31,8] [] [1],.p 3 [9] [] [],.p 4 [32,33,34,35,36,37,38,39] [] [2,9],.d 5 [42,43,44,45,46,47,48,49,50,51,52,53] [] [2,9,8] [(1,[7,9,10]),(6,[7])] [0,1,2,3,4,5,6,7,8,9,10,11,12],.p 6 [40,41,9] [] [9],.p 7 [10] [] [],.p 8 [54,55,56,57,58,59,60,61] [] [0,10],.d 9 [64,65,66,67,68,69,70,71,72,73,74,75,76,11] [] [0,10] [(4,[5]),(10,[5,11])] [0,1,2,3,4,5,6,7,8,9,10,11,12,13,14],.p 10 [77,78] [] [11],.p 11 [] [79] [78],.p 12 [] [] [0,10,11],.p 13 [] [] [11],.p 14 [] [92] [78],.p 15 [] [] [11],.p 16 [] [] [11],.p 17 [] [96] [78],.p 18 [] [96] [78],.p 19 [] [] [10,0,11],.p 21 [62,63,10] [] [10],.p 23 [] [] [8],.p 25 [13] [] [7,12,8],.p 26 [6] [] [13]] (by kernel_rfl) (by simp [Tryz.f3];rfl) (by simp only [Ws,Wx];rfl)
@[simp] def w3_20:=Zb6 Tryz.prog Tryz.f3 T3 79 [79,92,96,96,123] [.p 20 [] [] [11,8]] (by kernel_rfl) (by simp [Tryz.f3];rfl) (by simp only [Ws,Wx];rfl)
@[simp] def w3_22:=Zb6 Tryz.prog Tryz.f3 T3 79 [79,92,96,96,123] [.p 22 [] [123] [8,0]] (by kernel_rfl) (by simp [Tryz.f3];rfl) (by simp only [Ws,Wx];rfl)
@[simp] def w3_24:=Zb6 Tryz.prog Tryz.f3 T3 79 [79,92,96,96,123] [.p 24 [12] [] []] (by kernel_rfl) (by simp [Tryz.f3];rfl) (by simp only [Ws,Wx];rfl)
theorem k3:Zdt TT 3 (Zb5 TT 3) [.tmp 6] 3:=Zdx Tryz.f3 T3 (by kernel_rfl) (by kernel_rfl) (by kernel_rfl)
theorem T7:TT 7=some Tryz.f7:=by kernel_rfl
@[simp] def bd7:=Zcn Tryz.f7 T7 (by simp [Tryz.f7];rfl)
@[simp] def w7:=Zb6 Tryz.prog Tryz.f7 T7 1 [] [.p 0 [0] [] [],.p 1 [0] [] []] (by kernel_rfl) (by simp [Tryz.f7];rfl) (by simp only [Ws,Wx];rfl)
theorem k7:Zdt TT 7 (Zb5 TT 7) [.tmp 0] 0:=Zdx Tryz.f7 T7 (by kernel_rfl) (by kernel_rfl) (by kernel_rfl)
theorem T8:TT 8=some Tryz.f8:=by kernel_rfl
@[simp] def bd8:=Zcn Tryz.f8 T8 (by simp [Tryz.f8];rfl)
@[simp] def w8:=Zb6 Tryz.prog Tryz.f8 T8 5 [9] [.p 0 [4] [] [],.p 1 [0] [] [0,1],.p 2 [] [9] [0],.p 3 [0] [] [0,1],.p 4 [4] [] [0]] (by kernel_rfl) (by simp [Tryz.f8];rfl) (by simp only [Ws,Wx];rfl)
theorem k8:Zdt TT 8 (Zb5 TT 8) [.tmp 4] 2:=Zdx Tryz.f8 T8 (by kernel_rfl) (by kernel_rfl) (by kernel_rfl)
theorem T9:TT 9=some Tryz.f9:=by kernel_rfl
@[simp] def bd9:=Zcn Tryz.f9 T9 (by simp [Tryz.f9];rfl)
@[simp] def w9:=Zb6 Tryz.prog Tryz.f9 T9 9 [] [.p 0 [0] [] [],.p 1 [1,2] [] [],.p 2 [3,4] [] [],.p 3 [5,6] [] [],.p 4 [7,8] [] [],.p 5 [0] [] [2,1,4,3,6,5,8]] (by kernel_rfl) (by simp [Tryz.f9];rfl) (by simp only [Ws,Wx];rfl)
theorem k9:Zdt TT 9 (Zb5 TT 9) [.tmp 0] 0:=Zdx Tryz.f9 T9 (by kernel_rfl) (by kernel_rfl) (by kernel_rfl)
theorem T10:TT 10=some Tryz.f10:=by kernel_rfl
@[simp] def bd10:=Zcn Tryz.f10 T10 (by simp [Tryz.f10];rfl)
@[simp] def w10:=Zb6 Tryz.prog Tryz.f10 T10 7 [] [.p 0 [1,2] [] [0],.p 1 [3,4] [] [1],.p 2 [5,6] [] [1],.p 3 [2] [] [3,5,4,6]] (by kernel_rfl) (by simp [Tryz.f10];rfl) (by simp only [Ws,Wx];rfl)
theorem k10:Zdt TT 10 (Zb5 TT 10) [.tmp 2] 1:=Zdx Tryz.f10 T10 (by kernel_rfl) (by kernel_rfl) (by kernel_rfl)
theorem T12:TT 12=some Tryz.f12:=by kernel_rfl
@[simp] def bd12:=Zcn Tryz.f12 T12 (by simp [Tryz.f12];rfl)
@[simp] def w12:=Zb6 Tryz.prog Tryz.f12 T12 37 [37,47] [.p 0 [1,2,3] [] [0],.p 1 [10,11,12] [] [1],.p 2 [13,3] [] [2],.p 3 [14,15,16,17] [] [1],.p 4 [18] [] [17,16],.p 5 [19,20,21,5,4] [] [15,17],.p 6 [22,23,24,25] [] [1,5],.p 7 [26,27,3] [] [4,2],.p 8 [28,17] [] [17],.p 9 [29,30,31] [] [1],.p 10 [32,3] [] [2],.p 11 [33,34,35,36] [] [1],.p 12 [] [37] [36,35],.p 13 [6] [] [36],.p 14 [7,8,9] [] [1,6],.p 15 [] [47] [9],.p 16 [3] [] [6,8,9,2],.p 17 [36] [] [36],.p 18 [3] [] [2]] (by kernel_rfl) (by simp [Tryz.f12];rfl) (by simp only [Ws,Wx];rfl)
theorem k12:Zdt TT 12 (Zb5 TT 12) [.cell 2 52,.tmp 3] 1:=Zdx Tryz.f12 T12 (by kernel_rfl) (by kernel_rfl) (by kernel_rfl)
theorem T16:TT 16=some Tryz.f16:=by kernel_rfl
@[simp] def bd16:=Zcn Tryz.f16 T16 (by simp [Tryz.f16];rfl)
@[simp] def w16:=Zb6 Tryz.prog Tryz.f16 T16 6 [6,6,6,6,6,6,6,14,14,14,14,19,19,19,19,19,19,19,19,19,19,19,19,19,19,19,19,19,19,38,38,38,38,38,38,45,47,49] [.p 0 [2,3,4] [] [],.p 1 [5] [] [0],.p 2 [] [6] [5],.p 3 [] [6] [5],.p 4 [] [6] [5],.p 5 [] [6] [5],.p 6 [] [6] [5],.p 7 [] [6] [5],.p 8 [] [6] [5],.p 9 [2,3,4] [] [],.p 10 [] [14] [5],.p 11 [] [14] [5],.p 12 [] [14] [5],.p 13 [] [14] [5],.p 14 [2,3,4] [] [],.p 15 [] [19] [5],.p 16 [] [19] [5],.p 17 [] [19] [5],.p 18 [] [19] [5],.p 19 [] [19] [5],.p 20 [] [19] [5],.p 21 [] [19] [5],.p 22 [] [19] [5],.p 23 [] [19] [5],.p 24 [] [19] [5],.p 25 [] [19] [5],.p 26 [] [19] [5],.p 27 [] [19] [5],.p 28 [] [19] [5],.p 29 [] [19] [5],.p 30 [] [19] [5],.p 31 [] [19] [5],.p 32 [] [19] [5],.p 33 [2,3,4] [] [],.p 34 [] [38] [5],.p 35 [] [38] [5],.p 36 [] [38] [5],.p 37 [] [38] [5],.p 38 [] [38] [5],.p 39 [] [38] [5],.p 40 [2,3,4] [] [],.p 41 [] [45] [5],.p 42 [2,3,4] [] [],.p 43 [] [47] [5],.p 44 [2,3,4] [] [],.p 45 [] [49] [5],.p 46 [2,3,4] [] [],.p 47 [2,3,4] [] []] (by kernel_rfl) (by simp [Tryz.f16];rfl) (by simp only [Ws,Wx];rfl)
theorem k16:Zdt TT 16 (Zb5 TT 16) [.tmp 2,.tmp 3,.tmp 4] 1:=Zdx Tryz.f16 T16 (by kernel_rfl) (by kernel_rfl) (by kernel_rfl)
theorem T17:TT 17=some Tryz.f17:=by kernel_rfl
@[simp] def bd17:=Zcn Tryz.f17 T17 (by simp [Tryz.f17];rfl)
@[simp] def w17:=Zb6 Tryz.prog Tryz.f17 T17 7 [7,12,19] [.p 0 [2,4] [] [0],.p 1 [5,6] [] [2],.p 2 [] [7] [6],.p 3 [4] [] [2],.p 4 [] [12] [6],.p 5 [4] [] [1,2],.p 6 [] [19] [6],.p 7 [4] [] [],.p 8 [4] [] [1]] (by kernel_rfl) (by simp [Tryz.f17];rfl) (by simp only [Ws,Wx];rfl)
theorem k17:Zdt TT 17 (Zb5 TT 17) [.tmp 4] 2:=Zdx Tryz.f17 T17 (by kernel_rfl) (by kernel_rfl) (by kernel_rfl)
theorem T18:TT 18=some Tryz.f18:=by kernel_rfl
@[simp] def bd18:=Zcn Tryz.f18 T18 (by simp [Tryz.f18];rfl)
@[simp] def w18:=Zb6 Tryz.prog Tryz.f18 T18 3 [] [.p 0 [2] [] [],.p 1 [] [] [0,2]] (by kernel_rfl) (by simp [Tryz.f18];rfl) (by simp only [Ws,Wx];rfl)
theorem k18:Zdt TT 18 (Zb5 TT 18) [.cell 2 45] 1:=Zdx Tryz.f18 T18 (by kernel_rfl) (by kernel_rfl) (by kernel_rfl)
theorem T19:TT 19=some Tryz.f19:=by kernel_rfl
@[simp] def bd19:=Zcn Tryz.f19 T19 (by simp [Tryz.f19];rfl)
@[simp] def w19:=Zb6 Tryz.prog Tryz.f19 T19 14 [20,30,47,56,68,100,121,135] [.p 0 [1,2,3] [] [0],.p 1 [4,5] [] [1],.p 2 [] [20] [5],.p 3 [3] [] [4,2],.p 4 [6] [] [],.p 5 [] [30] [6,1],.p 6 [7] [] [1,6],.p 7 [] [47] [7],.p 8 [3] [] [6,2],.p 9 [8] [] [],.p 10 [] [56] [8,7],.d 11 [9] [] [1,7,8] [(0,[7]),(1,[7]),(3,[7]),(6,[7])] [],.p 12 [] [68] [9],.p 13 [3] [] [6,8,9,2],.p 14 [10] [] [7,8],.p 15 [] [100] [10,7],.p 16 [3] [] [6,8,2],.p 17 [] [121] [8,7,10],.p 18 [3] [] [6,8,2],.p 19 [8] [] [8],.p 20 [11,12,13] [] [1,7],.p 21 [] [135] [13],.p 22 [3] [] [6,12,13,2],.p 23 [6] [] [6],.p 24 [3] [] [2]] (by kernel_rfl) (by simp [Tryz.f19];rfl) (by simp only [Ws,Wx];rfl)
theorem k19:Zdt TT 19 (Zb5 TT 19) [.cell 2 52,.tmp 3] 1:=Zdx Tryz.f19 T19 (by kernel_rfl) (by kernel_rfl) (by kernel_rfl)
theorem T22:TT 22=some Tryz.f22:=by kernel_rfl
@[simp] def bd22:=Zcn Tryz.f22 T22 (by simp [Tryz.f22];rfl)
@[simp] def w22:=Zb6 Tryz.prog Tryz.f22 T22 4 [26,53] [.p 0 [1,2] [] [0],.p 1 [] [26] [1],.p 2 [2] [] [],.p 3 [3] [] [1],.p 4 [] [53] [3,1],.p 5 [2] [] [],.p 6 [2] [] [1]] (by kernel_rfl) (by simp [Tryz.f22];rfl) (by simp only [Ws,Wx];rfl)
theorem k22:Zdt TT 22 (Zb5 TT 22) [.tmp 2] 1:=Zdx Tryz.f22 T22 (by kernel_rfl) (by kernel_rfl) (by kernel_rfl)
theorem T23:TT 23=some Tryz.f23:=by kernel_rfl
@[simp] def bd23:=Zcn Tryz.f23 T23 (by simp [Tryz.f23];rfl)
@[simp] def w23:=Zb6 Tryz.prog Tryz.f23 T23 42 [42,48] [.p 0 [2,3,4] [] [0,1],.d 1 [7,8,9,10,11,12,13,14,15,16,17,18,19,20,21,22,23,24,25,26,27,28,29,30,31,32,33,34,35,36,37] [] [3] [(1,[28]),(2,[28]),(6,[28]),(7,[28]),(12,[28]),(13,[28]),(15,[28]),(16,[28]),(21,[28]),(23,[28]),(25,[28]),(26,[28]),(27,[28])] [],.p 2 [4] [] [],.p 3 [38,39,40,41] [] [3],.p 4 [] [42] [41,40],.p 5 [6] [] [39,41],.p 6 [] [48] [2,6],.p 7 [4] [] [],.p 8 [41] [] [41],.p 9 [4] [] [2,3]] (by kernel_rfl) (by simp [Tryz.f23];rfl) (by simp only [Ws,Wx];rfl)
theorem k23:Zdt TT 23 (Zb5 TT 23) [.tmp 4] 2:=Zdx Tryz.f23 T23 (by kernel_rfl) (by kernel_rfl) (by kernel_rfl)
theorem T24:TT 24=some Tryz.f24:=by kernel_rfl
@[simp] def bd24:=Zcn Tryz.f24 T24 (by simp [Tryz.f24];rfl)
@[simp] def w24:=Zb6 Tryz.prog Tryz.f24 T24 20 [20,25,31,53] [.p 0 [1,2] [] [0],.p 1 [8,9,10,11] [] [1],.p 2 [12] [] [11,10],.p 3 [13,14,15,4,3] [] [9,11],.p 4 [16,17,18,19] [] [4],.p 5 [] [20] [19,18],.p 6 [6] [] [17,19],.p 7 [] [25] [4],.p 8 [] [31] [6,1],.p 9 [2] [] [],.p 10 [7] [] [1,6],.d 11 [] [53] [7,3,6] [(1,[9]),(3,[9]),(7,[9,12,13]),(11,[9,12])] [],.p 12 [2] [] [],.p 13 [19] [] [19],.p 14 [11] [] [11],.p 15 [2] [] []] (by kernel_rfl) (by simp [Tryz.f24];rfl) (by simp only [Ws,Wx];rfl)
theorem k24:Zdt TT 24 (Zb5 TT 24) [.tmp 2] 1:=Zdx Tryz.f24 T24 (by kernel_rfl) (by kernel_rfl) (by kernel_rfl)
theorem T25:TT 25=some Tryz.f25:=by kernel_rfl
@[simp] def bd25:=Zcn Tryz.f25 T25 (by simp [Tryz.f25];rfl)
@[simp] def w25:=Zb6 Tryz.prog Tryz.f25 T25 45 [45,54,63,90,96] [.p 0 [2,4,5,6] [] [0],.d 1 [15,16,17,18,19,20,21,22,23,24,25,7] [] [2,1] [(0,[6,7,9,11]),(2,[6,7,9,11]),(5,[6,7,9,11])] [0,1,2,3,4,5,6,7,8,9,10,11,12],.p 2 [26,27,28,29,30,31,8] [] [7],.p 3 [32,33,34,35,36,37] [] [8],.p 4 [4,5,6] [] [],.p 5 [38,39,40,41,42,43,44] [] [7],.p 6 [] [45] [44,43],.p 7 [10,9] [] [42,44],.p 8 [11] [] [7,10,9],.p 9 [] [54] [11],.p 10 [4,5,6] [] [9,11],.p 11 [44] [] [44],.p 12 [] [63] [7],.p 13 [12] [] [7],.d 14 [13,14] [] [7,12] [(5,[15]),(8,[15]),(12,[15]),(14,[15])] [],.p 15 [] [90] [14],.p 16 [14] [] [7,12,13],.p 17 [] [96] [14],.p 18 [4,5,6] [] [12,14],.p 19 [4,5,6] [] [7]] (by kernel_rfl) (by simp [Tryz.f25];rfl) (by simp only [Ws,Wx];rfl)
theorem k25:Zdt TT 25 (Zb5 TT 25) [.tmp 4,.tmp 5,.tmp 6] 2:=Zdx Tryz.f25 T25 (by kernel_rfl) (by kernel_rfl) (by kernel_rfl)
theorem T27:TT 27=some Tryz.f27:=by kernel_rfl
@[simp] def bd27:=Zcn Tryz.f27 T27 (by simp [Tryz.f27];rfl)
@[simp] def w27:=Zb6 Tryz.prog Tryz.f27 T27 14 [42,49,70,83,93,112] [.p 0 [2,3,4,5,6] [] [0,1],.p 1 [7] [] [3],.p 2 [] [] [7],.p 3 [8] [] [3],.p 4 [9] [] [],.p 5 [] [42] [3,7,8,9],.p 6 [9] [] [9],.p 7 [] [49] [9,3],.p 8 [4,5,6] [] [7],.p 9 [] [] [8,9],.d 10 [10,11] [] [2,3,7,9] [(0,[11]),(1,[11]),(3,[11]),(6,[11]),(10,[11])] [],.p 11 [] [70] [11],.p 12 [4,5,6] [] [9,11],.p 13 [12] [] [3,9],.p 14 [13] [] [],.p 15 [] [83] [13,12],.p 16 [] [93] [7,12,13],.d 17 [] [] [7,12,13,10] [(4,[6,7,9])] [0,1,2,3,4,6,5,7,8,9],.p 18 [] [112] [7,12,13,10],.p 19 [4,5,6] [] [9],.p 20 [13] [] [13]] (by kernel_rfl) (by simp [Tryz.f27];rfl) (by simp only [Ws,Wx];rfl)
theorem k27:Zdt TT 27 (Zb5 TT 27) [.tmp 4,.tmp 5,.tmp 6] 2:=Zdx Tryz.f27 T27 (by kernel_rfl) (by kernel_rfl) (by kernel_rfl)
theorem T28:TT 28=some Tryz.f28:=by kernel_rfl
@[simp] def bd28:=Zcn Tryz.f28 T28 (by simp [Tryz.f28];rfl)
@[simp] def w28:=Zb6 Tryz.prog Tryz.f28 T28 11 [66,71,80,85,135,141,151,157,177,222] [.p 0 [1,2,3] [] [0],.p 1 [] [66] [1],.p 2 [2,3] [] [],.p 3 [4] [] [],.p 4 [] [71] [4,1],.p 5 [] [80] [1,4],.p 6 [2,3] [] [],.p 7 [4] [] [4],.p 8 [5] [] [],.p 9 [] [85] [5,1],.p 10 [6] [] [1,5],.d 11 [] [135] [1,6] [(1,[28]),(2,[28]),(6,[28]),(7,[28]),(12,[28]),(13,[28]),(15,[28]),(16,[28]),(21,[28]),(23,[28]),(25,[28]),(26,[28]),(27,[28]),(33,[39]),(36,[39]),(38,[39])] [],.p 12 [2,3] [] [5],.p 13 [7] [] [],.p 14 [] [141] [7,6],.d 15 [] [151] [1,6,7] [(0,[6]),(2,[6]),(5,[6])] [],.p 16 [2,3] [] [5],.p 17 [7] [] [7],.p 18 [5] [] [5],.p 19 [8] [] [],.p 20 [] [157] [8,1],.p 21 [9] [] [],.p 22 [] [177] [9,1,8],.p 23 [10] [] [1,8,9],.d 24 [] [222] [1,8,10] [(1,[27]),(3,[27]),(4,[27]),(8,[27]),(10,[27]),(13,[27]),(15,[27]),(20,[27,30,31]),(22,[27,30,31]),(25,[27,30,31]),(29,[27,30])] [],.p 25 [2,3] [] [],.p 26 [9] [] [9],.p 27 [8] [] [8],.p 28 [2,3] [] []] (by kernel_rfl) (by simp [Tryz.f28];rfl) (by simp only [Ws,Wx];rfl)
theorem k28:Zdt TT 28 (Zb5 TT 28) [.tmp 2,.tmp 3] 1:=Zdx Tryz.f28 T28 (by kernel_rfl) (by kernel_rfl) (by kernel_rfl)
theorem T29:TT 29=some Tryz.f29:=by kernel_rfl
@[simp] def bd29:=Zcn Tryz.f29 T29 (by simp [Tryz.f29];rfl)
@[simp] def w29:=Zb6 Tryz.prog Tryz.f29 T29 8 [] [.p 0 [6,7] [] [],.p 1 [7] [] [0,1,2,6]] (by kernel_rfl) (by simp [Tryz.f29];rfl) (by simp only [Ws,Wx];rfl)
theorem k29:Zdt TT 29 (Zb5 TT 29) [.cell 6 52,.tmp 7] 3:=Zdx Tryz.f29 T29 (by kernel_rfl) (by kernel_rfl) (by kernel_rfl)
theorem T30:TT 30=some Tryz.f30:=by kernel_rfl
@[simp] def bd30:=Zcn Tryz.f30 T30 (by simp [Tryz.f30];rfl)
@[simp] def w30:=Zb6 Tryz.prog Tryz.f30 T30 10 [18,26,26,37,45,52,52,59,65,86,104,114,114,121,138] [.p 0 [3,4,5,6] [] [0,1,2],.p 1 [7] [] [],.p 2 [8,9] [] [5],.p 3 [] [18] [9],.p 4 [7] [] [5,3],.p 5 [] [26] [9],.p 6 [] [26] [9],.p 7 [7] [] [5],.p 8 [] [37] [9],.p 9 [7] [] [5,3],.p 10 [] [45] [9],.p 11 [7] [] [3,5],.p 12 [] [52] [9],.p 13 [] [52] [9],.p 14 [7] [] [3,5],.p 15 [] [59] [9],.p 16 [7] [] [3,5],.p 17 [] [65] [9],.d 18 [7] [] [3,5] [(1,[5]),(3,[5]),(4,[5]),(8,[20]),(10,[20]),(12,[20]),(15,[20]),(16,[20])] [],.p 19 [] [86] [9],.p 20 [7] [] [3,5],.p 21 [] [104] [9],.p 22 [7] [] [5],.p 23 [] [114] [9],.p 24 [] [114] [9],.p 25 [7] [] [5],.p 26 [7] [] [5],.p 27 [] [121] [7],.p 28 [6] [] [],.p 29 [] [138] [5,4],.p 30 [6] [] [],.p 31 [6] [] []] (by kernel_rfl) (by simp [Tryz.f30];rfl) (by simp only [Ws,Wx];rfl)
theorem k30:Zdt TT 30 (Zb5 TT 30) [.tmp 6] 3:=Zdx Tryz.f30 T30 (by kernel_rfl) (by kernel_rfl) (by kernel_rfl)
theorem T36:TT 36=some Tryz.f36:=by kernel_rfl
@[simp] def bd36:=Zcn Tryz.f36 T36 (by simp [Tryz.f36];rfl)
@[simp] def w36:=Zb6 Tryz.prog Tryz.f36 T36 57 [57,96] [.p 0 [2] [] [],.p 1 [9,3] [] [],.p 2 [10,11,12,13,14,15,16,17,18,19] [] [3,0],.p 3 [2] [] [],.p 4 [20,21,22] [] [0],.p 5 [23] [] [22,21],.p 6 [24,25,26,5,4] [] [20,22],.p 8 [2] [] [],.p 10 [] [57] [56,55],.p 11 [7] [] [54,56],.p 12 [8] [] [5,7],.p 13 [] [96] [8,5,7],.p 14 [2] [] [],.p 15 [56] [] [56],.p 16 [22] [] [22],.p 17 [2] [] []] (by kernel_rfl) (by simp [Tryz.f36];rfl) (by simp only [Ws,Wx];rfl)
@[simp] def w36_7:=Zb6 Tryz.prog Tryz.f36 T36 57 [57,96] [.d 7 [27,28,29,30,31,32,33,34,35,36,37,38,39,40,41,42,43,44,45,46,47,48,49,50,51] [] [4,3,0,5] [(2,[10]),(5,[10]),(9,[10]),(16,[21]),(20,[21])] []] (by kernel_rfl) (by simp [Tryz.f36];rfl) (by simp only [Ws,Wx];rfl)
@[simp] def w36_9:=Zb6 Tryz.prog Tryz.f36 T36 57 [57,96] [.p 9 [52,53,54,55,56] [] [0,4]] (by kernel_rfl) (by simp [Tryz.f36];rfl) (by simp only [Ws,Wx];rfl)
theorem k36:Zdt TT 36 (Zb5 TT 36) [.tmp 2] 1:=Zdx Tryz.f36 T36 (by kernel_rfl) (by kernel_rfl) (by kernel_rfl)
theorem T37:TT 37=some Tryz.f37:=by kernel_rfl
@[simp] def bd37:=Zcn Tryz.f37 T37 (by simp [Tryz.f37];rfl)
@[simp] def w37:=Zb6 Tryz.prog Tryz.f37 T37 5 [] [.p 0 [4] [] [],.p 1 [4] [] [0,1]] (by kernel_rfl) (by simp [Tryz.f37];rfl) (by simp only [Ws,Wx];rfl)
theorem k37:Zdt TT 37 (Zb5 TT 37) [.tmp 4] 2:=Zdx Tryz.f37 T37 (by kernel_rfl) (by kernel_rfl) (by kernel_rfl)
theorem T38:TT 38=some Tryz.f38:=by kernel_rfl
@[simp] def bd38:=Zcn Tryz.f38 T38 (by simp [Tryz.f38];rfl)
@[simp] def w38:=Zb6 Tryz.prog Tryz.f38 T38 3 [] [.p 0 [2] [] [],.p 1 [2] [] [0]] (by kernel_rfl) (by simp [Tryz.f38];rfl) (by simp only [Ws,Wx];rfl)
theorem k38:Zdt TT 38 (Zb5 TT 38) [.tmp 2] 1:=Zdx Tryz.f38 T38 (by kernel_rfl) (by kernel_rfl) (by kernel_rfl)
theorem T39:TT 39=some Tryz.f39:=by kernel_rfl
@[simp] def bd39:=Zcn Tryz.f39 T39 (by simp [Tryz.f39];rfl)
@[simp] def w39:=Zb6 Tryz.prog Tryz.f39 T39 14 [14,24] [.p 0 [4] [] [],.p 1 [6,7,8,9,10] [] [0,1],.p 2 [4] [] [],.p 3 [11,12,13] [] [0],.p 4 [] [14] [13,12],.p 5 [5] [] [13],.p 6 [] [24] [0,1,5],.p 7 [4] [] [],.p 8 [13] [] [13],.p 9 [4] [] []] (by kernel_rfl) (by simp [Tryz.f39];rfl) (by simp only [Ws,Wx];rfl)
theorem k39:Zdt TT 39 (Zb5 TT 39) [.tmp 4] 2:=Zdx Tryz.f39 T39 (by kernel_rfl) (by kernel_rfl) (by kernel_rfl)
theorem T40:TT 40=some Tryz.f40:=by kernel_rfl
@[simp] def bd40:=Zcn Tryz.f40 T40 (by simp [Tryz.f40];rfl)
@[simp] def w40:=Zb6 Tryz.prog Tryz.f40 T40 5 [] [.p 0 [2,4] [] [0],.p 1 [4] [] [2,1]] (by kernel_rfl) (by simp [Tryz.f40];rfl) (by simp only [Ws,Wx];rfl)
theorem k40:Zdt TT 40 (Zb5 TT 40) [.tmp 4] 2:=Zdx Tryz.f40 T40 (by kernel_rfl) (by kernel_rfl) (by kernel_rfl)
theorem T41:TT 41=some Tryz.f41:=by kernel_rfl
@[simp] def bd41:=Zcn Tryz.f41 T41 (by simp [Tryz.f41];rfl)
@[simp] def w41:=Zb6 Tryz.prog Tryz.f41 T41 7 [16,36,56,75] [.p 0 [4,6] [] [1],.p 1 [] [16] [0,4],.p 2 [6] [] [],.d 3 [] [36] [4,0] [(1,[17]),(5,[17]),(10,[17]),(15,[17]),(16,[17])] [],.p 4 [6] [] [],.d 5 [] [56] [4,0] [(1,[17]),(5,[17]),(10,[17]),(15,[17]),(16,[17])] [],.p 6 [6] [] [],.p 7 [] [75] [2,0,4],.p 8 [6] [] [],.p 9 [6] [] []] (by kernel_rfl) (by simp [Tryz.f41];rfl) (by simp only [Ws,Wx];rfl)
theorem k41:Zdt TT 41 (Zb5 TT 41) [.tmp 6] 3:=Zdx Tryz.f41 T41 (by kernel_rfl) (by kernel_rfl) (by kernel_rfl)
theorem T42:TT 42=some Tryz.f42:=by kernel_rfl
@[simp] def bd42:=Zcn Tryz.f42 T42 (by simp [Tryz.f42];rfl)
@[simp] def w42:=Zb6 Tryz.prog Tryz.f42 T42 4 [] [.p 0 [2] [] [],.p 1 [3] [] [0],.p 2 [] [] [0,3],.p 3 [] [] [0,3],.p 4 [2] [] [0]] (by kernel_rfl) (by simp [Tryz.f42];rfl) (by simp only [Ws,Wx];rfl)
theorem k42:Zdt TT 42 (Zb5 TT 42) [.tmp 2] 1:=Zdx Tryz.f42 T42 (by kernel_rfl) (by kernel_rfl) (by kernel_rfl)
theorem T43:TT 43=some Tryz.f43:=by kernel_rfl
@[simp] def bd43:=Zcn Tryz.f43 T43 (by simp [Tryz.f43];rfl)
@[simp] def w43:=Zb6 Tryz.prog Tryz.f43 T43 15 [20,53,55,63,64] [.p 0 [4,6,7] [] [1],.p 1 [8] [] [4],.p 2 [] [20] [8,2],.p 3 [6,7] [] [],.p 4 [9,10] [] [2,8],.p 5 [11] [] [9],.p 6 [12,13] [] [0,4,10],.p 7 [14] [] [12],.p 8 [] [53] [11,0,4,10],.p 9 [6,7] [] [],.p 10 [] [55] [13],.p 11 [6,7] [] [],.p 12 [] [63] [4,9],.p 13 [6,7] [] [],.p 14 [] [64] [14],.p 15 [11] [] [11,12],.p 16 [6,7] [] [11]] (by kernel_rfl) (by simp [Tryz.f43];rfl) (by simp only [Ws,Wx];rfl)
theorem k43:Zdt TT 43 (Zb5 TT 43) [.tmp 6,.tmp 7] 3:=Zdx Tryz.f43 T43 (by kernel_rfl) (by kernel_rfl) (by kernel_rfl)
theorem T44:TT 44=some Tryz.f44:=by kernel_rfl
@[simp] def bd44:=Zcn Tryz.f44 T44 (by simp [Tryz.f44];rfl)
@[simp] def w44:=Zb6 Tryz.prog Tryz.f44 T44 23 [23,41,43] [.p 0 [6] [] [],.p 1 [11,12,13,14,15,16,17,18,19,20,21,22] [] [0,1],.p 2 [] [23] [22,21],.p 3 [8] [] [20,22],.p 4 [9,10] [] [0,8],.p 5 [] [41] [10,9,2],.p 6 [6] [] [],.p 7 [] [43] [10],.p 8 [] [] [0,8,2],.p 9 [] [] [0,8],.p 10 [22] [] [22],.p 11 [6] [] []] (by kernel_rfl) (by simp [Tryz.f44];rfl) (by simp only [Ws,Wx];rfl)
theorem k44:Zdt TT 44 (Zb5 TT 44) [.tmp 6] 3:=Zdx Tryz.f44 T44 (by kernel_rfl) (by kernel_rfl) (by kernel_rfl)
theorem T45:TT 45=some Tryz.f45:=by kernel_rfl
@[simp] def bd45:=Zcn Tryz.f45 T45 (by simp [Tryz.f45];rfl)
@[simp] def w45:=Zb6 Tryz.prog Tryz.f45 T45 5 [] [.p 0 [4] [] [],.p 1 [4] [] [0,1]] (by kernel_rfl) (by simp [Tryz.f45];rfl) (by simp only [Ws,Wx];rfl)
theorem k45:Zdt TT 45 (Zb5 TT 45) [.tmp 4] 2:=Zdx Tryz.f45 T45 (by kernel_rfl) (by kernel_rfl) (by kernel_rfl)
theorem T46:TT 46=some Tryz.f46:=by kernel_rfl
@[simp] def bd46:=Zcn Tryz.f46 T46 (by simp [Tryz.f46];rfl)
@[simp] def w46:=Zb6 Tryz.prog Tryz.f46 T46 64 [64,64,67,69,71,75,83,93,95,95,95,95,95,111,117,123,123,134,134,134,134,149,161,161,161,161,176,178,184,184,210,227,241,241,258,272,283,295,306,310,318,330,346,349,396,429,440,452,460,485,487,489,496] [.p 0 [4,5,6,8,9] [] [0,1,2],.p 1 [26,27,28,25,29,30,31,10,11,12] [] [6],.p 2 [32,33] [] [12],.p 3 [34,35,10] [] [6],.p 4 [36,37,38] [] [6],.p 5 [39,40,10] [] [6],.p 7 [8,9] [] [],.p 8 [45,46,47,48,49,50,51,52,13] [] [3,10],.p 9 [53,54,55,56,57,58,14] [] [3,10],.p 10 [59,60,61,15] [] [4,14],.p 11 [16] [] [],.p 12 [17] [] [],.p 14 [] [64] [63],.p 15 [] [64] [63],.p 16 [16] [] [],.p 17 [] [67] [63],.p 18 [16] [] [],.p 19 [] [69] [63],.p 20 [16] [] [],.p 21 [] [71] [63],.p 22 [16] [] [6],.p 23 [] [75] [63],.p 24 [16] [] [5,6],.p 25 [] [83] [63],.d 26 [17] [] [15,5,6] [(0,[7]),(2,[7]),(4,[7]),(6,[7])] [],.p 27 [] [93] [63],.p 28 [] [95] [63],.p 29 [] [95] [63],.p 30 [] [95] [63],.p 31 [] [95] [63],.p 32 [] [95] [63],.p 33 [17] [] [14],.p 34 [16] [] [],.p 35 [] [111] [63],.p 36 [17] [] [14],.p 37 [16] [] [],.p 38 [] [117] [63],.p 39 [17] [] [14],.p 40 [16] [] [],.p 41 [] [123] [63],.p 42 [] [123] [63],.d 43 [17] [] [4,14] [(0,[7]),(3,[7]),(6,[7])] [],.p 44 [16] [] [],.p 45 [] [134] [63],.p 46 [] [134] [63],.p 47 [] [134] [63],.p 48 [] [134] [63],.p 49 [17] [] [14],.p 50 [16] [] [],.p 51 [] [149] [63],.p 52 [17] [] [14],.p 53 [16] [] [],.p 54 [] [161] [63],.p 55 [] [161] [63],.p 56 [] [161] [63],.p 57 [] [161] [63],.p 58 [17] [] [14],.p 59 [16] [] [],.p 60 [] [176] [63],.p 61 [] [178] [63],.p 62 [17] [] [14],.p 63 [] [184] [63],.p 64 [] [184] [63],.p 65 [18] [] [14],.d 66 [17] [] [15,6,4,18] [(0,[1]),(5,[16]),(7,[16]),(11,[16]),(12,[16])] [],.p 67 [] [210] [17,6],.p 68 [16] [] [4,18,6],.p 69 [] [227] [17,6],.d 70 [17] [] [15,4,18,6] [(0,[12]),(2,[12]),(6,[12]),(8,[12]),(11,[12])] [],.p 71 [] [241] [63],.p 72 [] [241] [63],.p 73 [17] [] [15,14],.p 74 [] [258] [17,6],.p 75 [16] [] [4,14],.p 76 [] [272] [17,6],.d 77 [17] [] [15,4,14] [(0,[9]),(2,[9]),(5,[9]),(8,[9])] [],.p 78 [] [283] [63],.p 79 [17] [] [14],.p 80 [16] [] [],.p 81 [] [295] [63],.p 82 [17] [] [15,14],.p 83 [16] [] [],.p 84 [] [306] [63],.p 85 [16] [] [6],.p 86 [] [310] [63],.p 87 [17] [] [14],.p 88 [16] [] [6],.p 89 [] [318] [63],.p 90 [19] [] [4,6],.p 91 [20] [] [],.p 92 [] [330] [20,19],.d 93 [17] [] [17,15,19,20] [(2,[9]),(5,[9]),(8,[9])] [],.p 94 [20] [] [20],.p 95 [] [346] [19],.p 96 [16] [] [19],.p 97 [] [349] [63],.p 98 [21] [] [14],.d 99 [22,23] [] [21,4,6] [(1,[9]),(4,[9]),(6,[9]),(8,[9])] [],.d 100 [17] [] [23,15,4,21,22,6] [(2,[3]),(8,[24]),(12,[24]),(16,[24]),(17,[24]),(19,[24])] [],.p 101 [24] [] [],.p 102 [] [396] [24,6,17],.d 103 [17] [] [15,4,21,22,24] [(0,[16]),(3,[16]),(7,[16]),(11,[16]),(15,[16])] [],.p 104 [24] [] [24],.p 105 [] [429] [17,4,21,22],.p 106 [16] [] [4,21,22],.p 107 [] [440] [63],.d 108 [17] [] [4,6,14] [(1,[7]),(3,[7]),(6,[7])] [],.p 109 [16] [] [6],.p 110 [] [452] [63],.p 111 [17] [] [14,6],.p 112 [] [460] [63],.p 113 [17] [] [6,15,5],.p 114 [] [485] [17,13],.p 115 [8,9] [] [],.p 117 [8,9] [] [],.p 118 [] [489] [16],.p 119 [13] [] [13,16],.p 120 [] [496] [13],.p 121 [8,9] [] [],.p 122 [8,9] [] [13]] (by kernel_rfl) (by simp [Tryz.f46];rfl) (by simp only [Ws,Wx];rfl)
@[simp] def w46_6:=Zb6 Tryz.prog Tryz.f46 T46 64 [64,64,67,69,71,75,83,93,95,95,95,95,95,111,117,123,123,134,134,134,134,149,161,161,161,161,176,178,184,184,210,227,241,241,258,272,283,295,306,310,318,330,346,349,396,429,440,452,460,485,487,489,496] [.p 6 [41,42,43,44] [] [3,10]] (by kernel_rfl) (by simp [Tryz.f46];rfl) (by simp only [Ws,Wx];rfl)
@[simp] def w46_13:=Zb6 Tryz.prog Tryz.f46 T46 64 [64,64,67,69,71,75,83,93,95,95,95,95,95,111,117,123,123,134,134,134,134,149,161,161,161,161,176,178,184,184,210,227,241,241,258,272,283,295,306,310,318,330,346,349,396,429,440,452,460,485,487,489,496] [.p 13 [62,63] [] [6]] (by kernel_rfl) (by simp [Tryz.f46];rfl) (by simp only [Ws,Wx];rfl)
@[simp] def w46_116:=Zb6 Tryz.prog Tryz.f46 T46 64 [64,64,67,69,71,75,83,93,95,95,95,95,95,111,117,123,123,134,134,134,134,149,161,161,161,161,176,178,184,184,210,227,241,241,258,272,283,295,306,310,318,330,346,349,396,429,440,452,460,485,487,489,496] [.p 116 [] [487] [17]] (by kernel_rfl) (by simp [Tryz.f46];rfl) (by simp only [Ws,Wx];rfl)
theorem k46:Zdt TT 46 (Zb5 TT 46) [.tmp 8,.tmp 9] 4:=Zdx Tryz.f46 T46 (by kernel_rfl) (by kernel_rfl) (by kernel_rfl)
theorem T47:TT 47=some Tryz.f47:=by kernel_rfl
@[simp] def bd47:=Zcn Tryz.f47 T47 (by simp [Tryz.f47];rfl)
@[simp] def w47:=Zb6 Tryz.prog Tryz.f47 T47 6 [10,14,25] [.p 0 [4] [] [],.p 1 [] [10] [0,1],.p 2 [4] [] [],.p 3 [5] [] [],.p 4 [] [14] [5,0],.p 5 [] [25] [0,1,5],.p 6 [4] [] [],.p 7 [5] [] [5],.p 8 [4] [] []] (by kernel_rfl) (by simp [Tryz.f47];rfl) (by simp only [Ws,Wx];rfl)
theorem k47:Zdt TT 47 (Zb5 TT 47) [.tmp 4] 2:=Zdx Tryz.f47 T47 (by kernel_rfl) (by kernel_rfl) (by kernel_rfl)
theorem T48:TT 48=some Tryz.f48:=by kernel_rfl
@[simp] def bd48:=Zcn Tryz.f48 T48 (by simp [Tryz.f48];rfl)
@[simp] def w48:=Zb6 Tryz.prog Tryz.f48 T48 9 [17,19,31,35,44,47,88] [.p 0 [2] [] [],.p 1 [3] [] [],.p 2 [] [17] [0],.p 3 [2] [] [],.p 4 [4] [] [],.p 5 [] [19] [4],.d 6 [] [31] [0,3,4] [(3,[8]),(7,[8])] [],.p 7 [2] [] [],.p 8 [4] [] [4],.p 9 [5] [] [],.p 10 [] [35] [5,0],.p 11 [] [44] [0,5],.p 12 [2] [] [],.p 13 [6] [] [],.p 14 [] [47] [6,5],.p 15 [7] [] [0,5],.p 16 [8] [] [0,6],.p 17 [] [88] [7,8],.p 18 [2] [] [],.p 19 [6] [] [6],.p 20 [5] [] [5],.p 21 [2] [] []] (by kernel_rfl) (by simp [Tryz.f48];rfl) (by simp only [Ws,Wx];rfl)
theorem k48:Zdt TT 48 (Zb5 TT 48) [.tmp 2] 1:=Zdx Tryz.f48 T48 (by kernel_rfl) (by kernel_rfl) (by kernel_rfl)
theorem T49:TT 49=some Tryz.f49:=by kernel_rfl
@[simp] def bd49:=Zcn Tryz.f49 T49 (by simp [Tryz.f49];rfl)
@[simp] def w49:=Zb6 Tryz.prog Tryz.f49 T49 5 [] [.p 0 [2,4] [] [0],.p 1 [4] [] [2,1]] (by kernel_rfl) (by simp [Tryz.f49];rfl) (by simp only [Ws,Wx];rfl)
theorem k49:Zdt TT 49 (Zb5 TT 49) [.tmp 4] 2:=Zdx Tryz.f49 T49 (by kernel_rfl) (by kernel_rfl) (by kernel_rfl)
theorem T50:TT 50=some Tryz.f50:=by kernel_rfl
@[simp] def bd50:=Zcn Tryz.f50 T50 (by simp [Tryz.f50];rfl)
@[simp] def w50:=Zb6 Tryz.prog Tryz.f50 T50 5 [] [.p 0 [4] [] [],.p 1 [4] [] [0,1]] (by kernel_rfl) (by simp [Tryz.f50];rfl) (by simp only [Ws,Wx];rfl)
theorem k50:Zdt TT 50 (Zb5 TT 50) [.tmp 4] 2:=Zdx Tryz.f50 T50 (by kernel_rfl) (by kernel_rfl) (by kernel_rfl)
theorem T51:TT 51=some Tryz.f51:=by kernel_rfl
@[simp] def bd51:=Zcn Tryz.f51 T51 (by simp [Tryz.f51];rfl)
@[simp] def w51:=Zb6 Tryz.prog Tryz.f51 T51 5 [] [.p 0 [4] [] [],.p 1 [4] [] [0,1]] (by kernel_rfl) (by simp [Tryz.f51];rfl) (by simp only [Ws,Wx];rfl)
theorem k51:Zdt TT 51 (Zb5 TT 51) [.tmp 4] 2:=Zdx Tryz.f51 T51 (by kernel_rfl) (by kernel_rfl) (by kernel_rfl)
theorem T52:TT 52=some Tryz.f52:=by kernel_rfl
@[simp] def bd52:=Zcn Tryz.f52 T52 (by simp [Tryz.f52];rfl)
@[simp] def w52:=Zb6 Tryz.prog Tryz.f52 T52 7 [] [.p 0 [3,6] [] [0],.p 1 [6] [] [3,1,2]] (by kernel_rfl) (by simp [Tryz.f52];rfl) (by simp only [Ws,Wx];rfl)
theorem k52:Zdt TT 52 (Zb5 TT 52) [.tmp 6] 3:=Zdx Tryz.f52 T52 (by kernel_rfl) (by kernel_rfl) (by kernel_rfl)
theorem T68:TT 68=some Tryz.f68:=by kernel_rfl
@[simp] def bd68:=Zcn Tryz.f68 T68 (by simp [Tryz.f68];rfl)
@[simp] def w68:=Zb6 Tryz.prog Tryz.f68 T68 1 [] [.p 0 [0] [] [],.p 1 [0] [] []] (by kernel_rfl) (by simp [Tryz.f68];rfl) (by simp only [Ws,Wx];rfl)
theorem k68:Zdt TT 68 (Zb5 TT 68) [.tmp 0] 0:=Zdx Tryz.f68 T68 (by kernel_rfl) (by kernel_rfl) (by kernel_rfl)
theorem T69:TT 69=some Tryz.f69:=by kernel_rfl
@[simp] def bd69:=Zcn Tryz.f69 T69 (by simp [Tryz.f69];rfl)
@[simp] def w69:=Zb6 Tryz.prog Tryz.f69 T69 48 [48,83] [.p 0 [2,3,4] [] [0,1],.p 2 [4] [] [],.p 3 [44,45,46,47] [] [2],.p 4 [] [48] [47,46],.p 5 [6,5] [] [45,47],.p 6 [7] [] [3,5],.p 7 [] [83] [6,7],.p 8 [4] [] [],.p 9 [47] [] [47],.p 10 [4] [] []] (by kernel_rfl) (by simp [Tryz.f69];rfl) (by simp only [Ws,Wx];rfl)
@[simp] def w69_1:=Zb6 Tryz.prog Tryz.f69 T69 48 [48,83] [.p 1 [8,9,10,11,12,13,14,15,16,17,18,19,20,21,22,23,24,25,26,27,28,29,30,31,32,33,34,35,36,37,38,39,40,41,42,43] [] [2,3]] (by kernel_rfl) (by simp [Tryz.f69];rfl) (by simp only [Ws,Wx];rfl)
theorem k69:Zdt TT 69 (Zb5 TT 69) [.tmp 4] 2:=Zdx Tryz.f69 T69 (by kernel_rfl) (by kernel_rfl) (by kernel_rfl)
theorem T70:TT 70=some Tryz.f70:=by kernel_rfl
@[simp] def bd70:=Zcn Tryz.f70 T70 (by simp [Tryz.f70];rfl)
@[simp] def w70:=Zb6 Tryz.prog Tryz.f70 T70 7 [7,22,43] [.p 0 [3,4] [] [1],.p 2 [] [7] [6],.p 3 [4] [] [0,3],.p 4 [] [22] [6],.p 5 [4] [] [0,3],.p 6 [] [43] [6],.p 7 [4] [] [0,3],.p 8 [4] [] []] (by kernel_rfl) (by simp [Tryz.f70];rfl) (by simp only [Ws,Wx];rfl)
@[simp] def w70_1:=Zb6 Tryz.prog Tryz.f70 T70 7 [7,22,43] [.p 1 [5,6] [] [3]] (by kernel_rfl) (by simp [Tryz.f70];rfl) (by simp only [Ws,Wx];rfl)
theorem k70:Zdt TT 70 (Zb5 TT 70) [.tmp 4] 2:=Zdx Tryz.f70 T70 (by kernel_rfl) (by kernel_rfl) (by kernel_rfl)
theorem T71:TT 71=some Tryz.f71:=by kernel_rfl
@[simp] def bd71:=Zcn Tryz.f71 T71 (by simp [Tryz.f71];rfl)
@[simp] def w71:=Zb6 Tryz.prog Tryz.f71 T71 9 [9,16] [.p 0 [4] [] [],.p 1 [6,7,8] [] [0],.p 2 [] [9] [8,7],.p 3 [5] [] [8],.p 4 [] [16] [1,0,5],.p 5 [4] [] [5],.p 6 [8] [] [8],.p 7 [4] [] []] (by kernel_rfl) (by simp [Tryz.f71];rfl) (by simp only [Ws,Wx];rfl)
theorem k71:Zdt TT 71 (Zb5 TT 71) [.tmp 4] 2:=Zdx Tryz.f71 T71 (by kernel_rfl) (by kernel_rfl) (by kernel_rfl)
theorem T72:TT 72=some Tryz.f72:=by kernel_rfl
@[simp] def bd72:=Zcn Tryz.f72 T72 (by simp [Tryz.f72];rfl)
@[simp] def w72:=Zb6 Tryz.prog Tryz.f72 T72 3 [8] [.p 0 [2] [] [],.p 1 [] [8] [0],.p 2 [2] [] [],.p 3 [2] [] [0]] (by kernel_rfl) (by simp [Tryz.f72];rfl) (by simp only [Ws,Wx];rfl)
theorem k72:Zdt TT 72 (Zb5 TT 72) [.tmp 2] 1:=Zdx Tryz.f72 T72 (by kernel_rfl) (by kernel_rfl) (by kernel_rfl)
theorem T73:TT 73=some Tryz.f73:=by kernel_rfl
@[simp] def bd73:=Zcn Tryz.f73 T73 (by simp [Tryz.f73];rfl)
@[simp] def w73:=Zb6 Tryz.prog Tryz.f73 T73 7 [7,18,29,29,40,50,60,60,68,75,102,123,123] [.p 0 [3,4] [] [1],.p 1 [5,6] [] [3],.p 2 [] [7] [6],.d 3 [4] [] [3,0] [(1,[8]),(6,[8]),(7,[8])] [],.p 4 [] [18] [6],.d 5 [4] [] [3,0] [(1,[8]),(6,[8]),(7,[8])] [],.p 6 [] [29] [6],.p 7 [] [29] [6],.p 8 [4] [] [3],.p 9 [] [40] [6],.d 10 [4] [] [0,3] [(4,[7]),(6,[7])] [],.p 11 [] [50] [6],.p 12 [4] [] [3],.p 13 [] [60] [6],.p 14 [] [60] [6],.p 15 [4] [] [0,3],.p 16 [] [68] [6],.p 17 [4] [] [0,3],.p 18 [] [75] [6],.d 19 [4] [] [0,3] [(1,[8]),(6,[8]),(7,[8]),(11,[26]),(16,[26]),(18,[26]),(21,[26]),(22,[26])] [],.p 20 [] [102] [6],.d 21 [4] [] [0,3] [(1,[8]),(6,[8]),(7,[8]),(11,[20]),(16,[20])] [],.p 22 [] [123] [6],.p 23 [] [123] [6],.p 24 [4] [] [3],.p 25 [4] [] []] (by kernel_rfl) (by simp [Tryz.f73];rfl) (by simp only [Ws,Wx];rfl)
theorem k73:Zdt TT 73 (Zb5 TT 73) [.tmp 4] 2:=Zdx Tryz.f73 T73 (by kernel_rfl) (by kernel_rfl) (by kernel_rfl)
theorem T74:TT 74=some Tryz.f74:=by kernel_rfl
@[simp] def bd74:=Zcn Tryz.f74 T74 (by simp [Tryz.f74];rfl)
@[simp] def w74:=Zb6 Tryz.prog Tryz.f74 T74 11 [21,33,39] [.p 0 [6] [] [],.p 1 [7] [] [1],.p 2 [8] [] [7],.p 3 [] [21] [2,8],.p 4 [9] [] [8],.p 5 [10] [] [8],.p 6 [] [33] [2,0,10,8],.p 7 [9] [] [10],.p 8 [] [39] [0,9,7],.p 9 [] [] [0,7,9],.p 10 [7] [] [9],.p 11 [6] [] [7,1]] (by kernel_rfl) (by simp [Tryz.f74];rfl) (by simp only [Ws,Wx];rfl)
theorem k74:Zdt TT 74 (Zb5 TT 74) [.tmp 6] 3:=Zdx Tryz.f74 T74 (by kernel_rfl) (by kernel_rfl) (by kernel_rfl)
theorem T75:TT 75=some Tryz.f75:=by kernel_rfl
@[simp] def bd75:=Zcn Tryz.f75 T75 (by simp [Tryz.f75];rfl)
@[simp] def w75:=Zb6 Tryz.prog Tryz.f75 T75 8 [8,8,13] [.p 0 [1,2] [] [0],.p 1 [6,7] [] [1],.p 2 [] [8] [7],.p 3 [] [8] [7],.p 4 [2] [] [1],.p 5 [] [13] [7],.p 6 [2] [] [1],.p 7 [3,4,5] [] [1],.p 8 [2] [] [3]] (by kernel_rfl) (by simp [Tryz.f75];rfl) (by simp only [Ws,Wx];rfl)
theorem k75:Zdt TT 75 (Zb5 TT 75) [.tmp 2] 1:=Zdx Tryz.f75 T75 (by kernel_rfl) (by kernel_rfl) (by kernel_rfl)
theorem T76:TT 76=some Tryz.f76:=by kernel_rfl
@[simp] def bd76:=Zcn Tryz.f76 T76 (by simp [Tryz.f76];rfl)
@[simp] def w76:=Zb6 Tryz.prog Tryz.f76 T76 10 [10,10,13,15,17,17,22,33,48,48,51,51,51,51,51,51,60,60,60,60,67,71,71,82,86,86,86,86,93,97,103,109,123] [.p 0 [4,6,7] [] [1],.p 1 [8,9] [] [4],.p 2 [] [10] [9],.p 3 [] [10] [9],.p 4 [6,7] [] [],.p 5 [] [13] [9],.p 6 [6,7] [] [],.p 7 [] [15] [9],.p 8 [6,7] [] [],.p 9 [] [17] [9],.p 10 [] [17] [9],.p 11 [6,7] [] [4],.p 12 [] [22] [9],.p 13 [6,7] [] [0,4],.p 14 [] [33] [9],.d 15 [6,7] [] [2,0,4] [(6,[11]),(8,[11]),(10,[11])] [0,1,2,3,4,5,6,7,8,9,10,11,12,13,14],.p 16 [] [48] [9],.p 17 [] [48] [9],.p 18 [6,7] [] [],.p 19 [] [51] [9],.p 20 [] [51] [9],.p 21 [] [51] [9],.p 22 [] [51] [9],.p 23 [] [51] [9],.p 24 [] [51] [9],.p 25 [6,7] [] [2],.p 26 [] [60] [9],.p 27 [] [60] [9],.p 28 [] [60] [9],.p 29 [] [60] [9],.p 30 [6,7] [] [2],.p 31 [] [67] [9],.p 32 [6,7] [] [2],.p 33 [] [71] [9],.p 34 [] [71] [9],.d 35 [6,7] [] [0,2] [(3,[7]),(6,[7])] [],.p 36 [] [82] [9],.p 37 [6,7] [] [2],.p 38 [] [86] [9],.p 39 [] [86] [9],.p 40 [] [86] [9],.p 41 [] [86] [9],.p 42 [6,7] [] [2],.p 43 [] [93] [9],.p 44 [6,7] [] [2],.p 45 [] [97] [9],.p 46 [6,7] [] [2,4],.p 47 [] [103] [9],.d 48 [6,7] [] [4,2] [(1,[3,6])] [],.p 49 [] [109] [9],.d 50 [6,7] [] [0,2] [(3,[4]),(9,[14])] [],.p 51 [] [123] [9],.p 52 [6,7] [] [2],.p 53 [6,7] [] [0,4,2]] (by kernel_rfl) (by simp [Tryz.f76];rfl) (by simp only [Ws,Wx];rfl)
theorem k76:Zdt TT 76 (Zb5 TT 76) [.tmp 6,.tmp 7] 3:=Zdx Tryz.f76 T76 (by kernel_rfl) (by kernel_rfl) (by kernel_rfl)
theorem T77:TT 77=some Tryz.f77:=by kernel_rfl
@[simp] def bd77:=Zcn Tryz.f77 T77 (by simp [Tryz.f77];rfl)
@[simp] def w77:=Zb6 Tryz.prog Tryz.f77 T77 14 [14,27] [.p 0 [4,6] [] [1],.p 1 [12,13] [] [4],.p 2 [] [14] [13],.p 3 [6] [] [0,4],.p 4 [] [27] [13],.d 5 [7,8] [] [0,4,2] [(1,[5]),(4,[5])] [0,1,2,3,4,5,6,7,8,9,10,11],.p 6 [6] [] [8,7],.p 7 [9,10,11] [] [4],.p 8 [6] [] [10]] (by kernel_rfl) (by simp [Tryz.f77];rfl) (by simp only [Ws,Wx];rfl)
theorem k77:Zdt TT 77 (Zb5 TT 77) [.tmp 6] 3:=Zdx Tryz.f77 T77 (by kernel_rfl) (by kernel_rfl) (by kernel_rfl)
theorem T78:TT 78=some Tryz.f78:=by kernel_rfl
@[simp] def bd78:=Zcn Tryz.f78 T78 (by simp [Tryz.f78];rfl)
@[simp] def w78:=Zb6 Tryz.prog Tryz.f78 T78 7 [7,12,19] [.p 0 [2,4] [] [0],.p 1 [5,6] [] [2],.p 2 [] [7] [6],.p 3 [4] [] [2],.p 4 [] [12] [6],.p 5 [4] [] [1,2],.p 6 [] [19] [6],.p 7 [4] [] [],.p 8 [4] [] [1]] (by kernel_rfl) (by simp [Tryz.f78];rfl) (by simp only [Ws,Wx];rfl)
theorem k78:Zdt TT 78 (Zb5 TT 78) [.tmp 4] 2:=Zdx Tryz.f78 T78 (by kernel_rfl) (by kernel_rfl) (by kernel_rfl)
theorem T79:TT 79=some Tryz.f79:=by kernel_rfl
@[simp] def bd79:=Zcn Tryz.f79 T79 (by simp [Tryz.f79];rfl)
@[simp] def w79:=Zb6 Tryz.prog Tryz.f79 T79 2 [] [.p 0 [] [] [0,1],.p 1 [] [] [0]] (by kernel_rfl) (by simp [Tryz.f79];rfl) (by simp only [Ws,Wx];rfl)
theorem k79:Zdt TT 79 (Zb5 TT 79) [] 2:=Zdx Tryz.f79 T79 (by kernel_rfl) (by kernel_rfl) (by kernel_rfl)
theorem T80:TT 80=some Tryz.f80:=by kernel_rfl
@[simp] def bd80:=Zcn Tryz.f80 T80 (by simp [Tryz.f80];rfl)
@[simp] def w80:=Zb6 Tryz.prog Tryz.f80 T80 7 [] [.p 0 [3,6] [] [0],.d 1 [6] [] [3,1,2] [(2,[9]),(4,[9]),(7,[9])] []] (by kernel_rfl) (by simp [Tryz.f80];rfl) (by simp only [Ws,Wx];rfl)
theorem k80:Zdt TT 80 (Zb5 TT 80) [.tmp 6] 3:=Zdx Tryz.f80 T80 (by kernel_rfl) (by kernel_rfl) (by kernel_rfl)
theorem T81:TT 81=some Tryz.f81:=by kernel_rfl
@[simp] def bd81:=Zcn Tryz.f81 T81 (by simp [Tryz.f81];rfl)
@[simp] def w81:=Zb6 Tryz.prog Tryz.f81 T81 7 [] [.p 0 [3,6] [] [0],.p 1 [6] [] [3,2,1]] (by kernel_rfl) (by simp [Tryz.f81];rfl) (by simp only [Ws,Wx];rfl)
theorem k81:Zdt TT 81 (Zb5 TT 81) [.tmp 6] 3:=Zdx Tryz.f81 T81 (by kernel_rfl) (by kernel_rfl) (by kernel_rfl)
theorem T82:TT 82=some Tryz.f82:=by kernel_rfl
@[simp] def bd82:=Zcn Tryz.f82 T82 (by simp [Tryz.f82];rfl)
@[simp] def w82:=Zb6 Tryz.prog Tryz.f82 T82 5 [] [.p 0 [2,4] [] [0],.p 1 [4] [] [2,1]] (by kernel_rfl) (by simp [Tryz.f82];rfl) (by simp only [Ws,Wx];rfl)
theorem k82:Zdt TT 82 (Zb5 TT 82) [.tmp 4] 2:=Zdx Tryz.f82 T82 (by kernel_rfl) (by kernel_rfl) (by kernel_rfl)
theorem T83:TT 83=some Tryz.f83:=by kernel_rfl
@[simp] def bd83:=Zcn Tryz.f83 T83 (by simp [Tryz.f83];rfl)
@[simp] def w83:=Zb6 Tryz.prog Tryz.f83 T83 9 [28,36,49] [.p 0 [6,7] [] [],.p 1 [] [28] [0,1],.p 2 [6,7] [] [],.p 3 [8] [] [],.p 4 [] [36] [8,0,1],.p 5 [] [49] [0,1,8,2],.p 6 [6,7] [] [8],.p 7 [8] [] [8],.p 8 [6,7] [] []] (by kernel_rfl) (by simp [Tryz.f83];rfl) (by simp only [Ws,Wx];rfl)
theorem k83:Zdt TT 83 (Zb5 TT 83) [.tmp 6,.tmp 7] 3:=Zdx Tryz.f83 T83 (by kernel_rfl) (by kernel_rfl) (by kernel_rfl)
theorem T84:TT 84=some Tryz.f84:=by kernel_rfl
@[simp] def bd84:=Zcn Tryz.f84 T84 (by simp [Tryz.f84];rfl)
@[simp] def w84:=Zb6 Tryz.prog Tryz.f84 T84 11 [36,44,93] [.p 0 [6] [] [],.p 1 [] [36] [1,0,2],.p 2 [6] [] [],.p 3 [7] [] [],.p 4 [] [44] [7,0,2],.p 5 [8] [] [0,2,7],.p 6 [9,10] [] [0,1,8],.d 7 [] [93] [10,0,1,9,8] [(7,[28]),(11,[28]),(13,[28]),(21,[28]),(25,[28]),(27,[28])] [],.p 8 [6] [] [],.p 9 [7] [] [7],.p 10 [6] [] []] (by kernel_rfl) (by simp [Tryz.f84];rfl) (by simp only [Ws,Wx];rfl)
theorem k84:Zdt TT 84 (Zb5 TT 84) [.tmp 6] 3:=Zdx Tryz.f84 T84 (by kernel_rfl) (by kernel_rfl) (by kernel_rfl)
theorem T85:TT 85=some Tryz.f85:=by kernel_rfl
@[simp] def bd85:=Zcn Tryz.f85 T85 (by simp [Tryz.f85];rfl)
@[simp] def w85:=Zb6 Tryz.prog Tryz.f85 T85 9 [45,50,63,68,107] [.p 0 [2,3,4] [] [0,1],.p 2 [4] [] [],.p 3 [5] [] [],.p 4 [] [50] [5,2],.p 5 [] [63] [2,3,5],.p 6 [4] [] [],.p 7 [5] [] [5],.p 8 [6] [] [],.p 9 [] [68] [6,2],.p 10 [7] [] [2,6],.p 11 [8] [] [3,6],.p 12 [] [107] [7,8],.p 13 [4] [] [],.p 14 [6] [] [6],.p 15 [4] [] []] (by kernel_rfl) (by simp [Tryz.f85];rfl) (by simp only [Ws,Wx];rfl)
@[simp] def w85_1:=Zb6 Tryz.prog Tryz.f85 T85 9 [45,50,63,68,107] [.p 1 [] [45] [2,3]] (by kernel_rfl) (by simp [Tryz.f85];rfl) (by simp only [Ws,Wx];rfl)
theorem k85:Zdt TT 85 (Zb5 TT 85) [.tmp 4] 2:=Zdx Tryz.f85 T85 (by kernel_rfl) (by kernel_rfl) (by kernel_rfl)
theorem T86:TT 86=some Tryz.f86:=by kernel_rfl
@[simp] def bd86:=Zcn Tryz.f86 T86 (by simp [Tryz.f86];rfl)
@[simp] def w86:=Zb6 Tryz.prog Tryz.f86 T86 14 [14,29,30,53,68,73,84,87,102,106,111,154,159,169,172,183,188,199] [.p 0 [3,4] [] [1],.p 2 [] [14] [13],.p 3 [] [29] [3],.p 4 [4] [] [],.p 5 [] [30] [13],.p 6 [4] [] [0,3],.p 7 [] [53] [13],.p 8 [] [68] [3],.p 9 [4] [] [],.p 10 [4] [] [],.p 11 [5] [] [],.p 12 [] [73] [5,3],.p 13 [] [84] [0,3,5],.p 14 [4] [] [],.p 15 [6] [] [],.p 16 [] [87] [6,5],.p 17 [] [102] [5,3,6],.p 18 [4] [] [],.p 19 [6] [] [6],.p 20 [5] [] [5],.p 21 [] [106] [3],.p 22 [4] [] [],.p 23 [7] [] [],.p 24 [] [111] [7,3],.p 25 [8] [] [3,7],.p 26 [] [154] [0,3,8],.p 27 [4] [] [],.p 28 [9] [] [],.p 29 [] [159] [9,8],.p 30 [] [169] [0,8,9],.p 31 [4] [] [],.p 32 [9] [] [9],.p 33 [10] [] [],.p 34 [] [172] [10,7],.p 35 [] [183] [8,3,10],.p 36 [4] [] [],.p 37 [10] [] [10],.p 38 [11] [] [],.p 39 [] [188] [11,3],.p 40 [] [199] [8,3,11],.p 41 [4] [] [],.p 42 [11] [] [11],.p 43 [7] [] [7],.p 44 [4] [] []] (by kernel_rfl) (by simp [Tryz.f86];rfl) (by simp only [Ws,Wx];rfl)
@[simp] def w86_1:=Zb6 Tryz.prog Tryz.f86 T86 14 [14,29,30,53,68,73,84,87,102,106,111,154,159,169,172,183,188,199] [.p 1 [12,13] [] [3]] (by kernel_rfl) (by simp [Tryz.f86];rfl) (by simp only [Ws,Wx];rfl)
theorem k86:Zdt TT 86 (Zb5 TT 86) [.tmp 4] 2:=Zdx Tryz.f86 T86 (by kernel_rfl) (by kernel_rfl) (by kernel_rfl)
theorem T87:TT 87=some Tryz.f87:=by kernel_rfl
@[simp] def bd87:=Zcn Tryz.f87 T87 (by simp [Tryz.f87];rfl)
@[simp] def w87:=Zb6 Tryz.prog Tryz.f87 T87 5 [] [.p 0 [4] [] [],.p 1 [4] [] [1,0]] (by kernel_rfl) (by simp [Tryz.f87];rfl) (by simp only [Ws,Wx];rfl)
theorem k87:Zdt TT 87 (Zb5 TT 87) [.tmp 4] 2:=Zdx Tryz.f87 T87 (by kernel_rfl) (by kernel_rfl) (by kernel_rfl)
theorem T88:TT 88=some Tryz.f88:=by kernel_rfl
@[simp] def bd88:=Zcn Tryz.f88 T88 (by simp [Tryz.f88];rfl)
@[simp] def w88:=Zb6 Tryz.prog Tryz.f88 T88 5 [] [.p 0 [4] [] [],.p 1 [4] [] [1,0]] (by kernel_rfl) (by simp [Tryz.f88];rfl) (by simp only [Ws,Wx];rfl)
theorem k88:Zdt TT 88 (Zb5 TT 88) [.tmp 4] 2:=Zdx Tryz.f88 T88 (by kernel_rfl) (by kernel_rfl) (by kernel_rfl)
theorem Z5y:TT 109=some Tryz.f109:=by kernel_rfl
@[simp] def bd109:=Zcn Tryz.f109 Z5y (by simp [Tryz.f109];rfl)
@[simp] def w109:=Zb6 Tryz.prog Tryz.f109 Z5y 14 [14,24] [.p 0 [4] [] [],.p 1 [6,7,8,9,10] [] [0,1],.p 2 [4] [] [],.p 3 [11,12,13] [] [0],.p 4 [] [14] [13,12],.p 5 [5] [] [13],.p 6 [] [24] [0,1,5],.p 7 [4] [] [],.p 8 [13] [] [13],.p 9 [4] [] []] (by kernel_rfl) (by simp [Tryz.f109];rfl) (by simp only [Ws,Wx];rfl)
theorem Z8l:Zdt TT 109 (Zb5 TT 109) [.tmp 4] 2:=Zdx Tryz.f109 Z5y (by kernel_rfl) (by kernel_rfl) (by kernel_rfl)
theorem Z4y:TT 110=some Tryz.f110:=by kernel_rfl
@[simp] def bd110:=Zcn Tryz.f110 Z4y (by simp [Tryz.f110];rfl)
@[simp] def w110:=Zb6 Tryz.prog Tryz.f110 Z4y 42 [42,62] [.p 0 [3,4] [] [1],.p 1 [5] [] [],.p 3 [4] [] [],.p 4 [20,21,22,23] [] [3],.p 5 [24] [] [23,22],.p 6 [25,26,7] [] [21,23],.p 7 [27,28,29,30,31] [] [0,7],.p 8 [4] [] [],.p 9 [32,33,34,35,36,5] [] [5,7],.p 10 [37,23] [] [23],.p 11 [38,39,40,41] [] [3],.p 12 [] [42] [41,40],.p 13 [9] [] [39,41],.p 14 [] [62] [0,3,9],.p 15 [4] [] [],.p 16 [5] [] [5,9],.p 17 [41] [] [41],.p 18 [4] [] [5]] (by kernel_rfl) (by simp [Tryz.f110];rfl) (by simp only [Ws,Wx];rfl)
@[simp] def w110_2:=Zb6 Tryz.prog Tryz.f110 Z4y 42 [42,62] [.p 2 [10,11,12,13,14,15,16,17,18,19] [] [3]] (by kernel_rfl) (by simp [Tryz.f110];rfl) (by simp only [Ws,Wx];rfl)
theorem Z8z:Zdt TT 110 (Zb5 TT 110) [.tmp 4] 2:=Zdx Tryz.f110 Z4y (by kernel_rfl) (by kernel_rfl) (by kernel_rfl)
theorem Z5b:TT 111=some Tryz.f111:=by kernel_rfl
@[simp] def bd111:=Zcn Tryz.f111 Z5b (by simp [Tryz.f111];rfl)
@[simp] def w111:=Zb6 Tryz.prog Tryz.f111 Z5b 5 [] [.p 0 [4] [] [],.p 1 [4] [] [0,1]] (by kernel_rfl) (by simp [Tryz.f111];rfl) (by simp only [Ws,Wx];rfl)
theorem Z82:Zdt TT 111 (Zb5 TT 111) [.tmp 4] 2:=Zdx Tryz.f111 Z5b (by kernel_rfl) (by kernel_rfl) (by kernel_rfl)
theorem Z6:TT 113=some Tryz.f113:=by kernel_rfl
@[simp] def bd113:=Zcn Tryz.f113 Z6 (by simp [Tryz.f113];rfl)
@[simp] def w113:=Zb6 Tryz.prog Tryz.f113 Z6 8 [8,8,8,8] [.p 0 [4] [] [],.p 1 [5,6,7] [] [0,1],.p 2 [] [8] [7],.p 3 [] [8] [7],.p 4 [] [8] [7],.p 5 [] [8] [7],.p 6 [4] [] [],.p 7 [4] [] []] (by kernel_rfl) (by simp [Tryz.f113];rfl) (by simp only [Ws,Wx];rfl)
theorem Z8s:Zdt TT 113 (Zb5 TT 113) [.tmp 4] 2:=Zdx Tryz.f113 Z6 (by kernel_rfl) (by kernel_rfl) (by kernel_rfl)
theorem Z5m:TT 114=some Tryz.f114:=by kernel_rfl
@[simp] def bd114:=Zcn Tryz.f114 Z5m (by simp [Tryz.f114];rfl)
@[simp] def w114:=Zb6 Tryz.prog Tryz.f114 Z5m 5 [13] [.p 0 [4] [] [],.p 1 [] [13] [1,0],.p 2 [4] [] [],.p 3 [4] [] [0,1]] (by kernel_rfl) (by simp [Tryz.f114];rfl) (by simp only [Ws,Wx];rfl)
theorem Z60:Zdt TT 114 (Zb5 TT 114) [.tmp 4] 2:=Zdx Tryz.f114 Z5m (by kernel_rfl) (by kernel_rfl) (by kernel_rfl)
theorem Z46:TT 115=some Tryz.f115:=by kernel_rfl
@[simp] def bd115:=Zcn Tryz.f115 Z46 (by simp [Tryz.f115];rfl)
@[simp] def w115:=Zb6 Tryz.prog Tryz.f115 Z46 6 [6,6,6,6,6,6,6,14,14,14,14,19,19,19,19,19,19,19,19,19,19,19,19,19,19,19,19,19,19,38,38,38,38,38,38,45,47,49] [.p 0 [2,3,4] [] [],.p 1 [5] [] [0],.p 2 [] [6] [5],.p 3 [] [6] [5],.p 4 [] [6] [5],.p 5 [] [6] [5],.p 6 [] [6] [5],.p 7 [] [6] [5],.p 8 [] [6] [5],.p 9 [2,3,4] [] [],.p 10 [] [14] [5],.p 11 [] [14] [5],.p 12 [] [14] [5],.p 13 [] [14] [5],.p 14 [2,3,4] [] [],.p 15 [] [19] [5],.p 16 [] [19] [5],.p 17 [] [19] [5],.p 18 [] [19] [5],.p 19 [] [19] [5],.p 20 [] [19] [5],.p 21 [] [19] [5],.p 22 [] [19] [5],.p 23 [] [19] [5],.p 24 [] [19] [5],.p 25 [] [19] [5],.p 26 [] [19] [5],.p 27 [] [19] [5],.p 28 [] [19] [5],.p 29 [] [19] [5],.p 30 [] [19] [5],.p 31 [] [19] [5],.p 32 [] [19] [5],.p 33 [2,3,4] [] [],.p 34 [] [38] [5],.p 35 [] [38] [5],.p 36 [] [38] [5],.p 37 [] [38] [5],.p 38 [] [38] [5],.p 39 [] [38] [5],.p 40 [2,3,4] [] [],.p 41 [] [45] [5],.p 42 [2,3,4] [] [],.p 43 [] [47] [5],.p 44 [2,3,4] [] [],.p 45 [] [49] [5],.p 46 [2,3,4] [] [],.p 47 [2,3,4] [] []] (by kernel_rfl) (by simp [Tryz.f115];rfl) (by simp only [Ws,Wx];rfl)
theorem Z7u:Zdt TT 115 (Zb5 TT 115) [.tmp 2,.tmp 3,.tmp 4] 1:=Zdx Tryz.f115 Z46 (by kernel_rfl) (by kernel_rfl) (by kernel_rfl)
theorem Z5f:TT 116=some Tryz.f116:=by kernel_rfl
@[simp] def bd116:=Zcn Tryz.f116 Z5f (by simp [Tryz.f116];rfl)
@[simp] def w116:=Zb6 Tryz.prog Tryz.f116 Z5f 17 [17,32] [.p 0 [6] [] [],.p 1 [9,10,11,12,13] [] [1,2],.p 2 [6] [] [],.p 3 [14,15,16] [] [1],.p 4 [] [17] [16,15],.p 5 [7,8] [] [14,16],.d 6 [] [32] [0,8,2,7] [(4,[10]),(9,[10])] [],.p 7 [6] [] [],.p 8 [16] [] [16],.p 9 [6] [] []] (by kernel_rfl) (by simp [Tryz.f116];rfl) (by simp only [Ws,Wx];rfl)
theorem Z71:Zdt TT 116 (Zb5 TT 116) [.tmp 6] 3:=Zdx Tryz.f116 Z5f (by kernel_rfl) (by kernel_rfl) (by kernel_rfl)
theorem Z55:TT 117=some Tryz.f117:=by kernel_rfl
@[simp] def bd117:=Zcn Tryz.f117 Z55 (by simp [Tryz.f117];rfl)
@[simp] def w117:=Zb6 Tryz.prog Tryz.f117 Z55 10 [10,15] [.p 0 [4] [] [],.p 1 [7,8,9] [] [0],.p 2 [] [10] [9,8],.p 3 [6] [] [7,9],.p 4 [] [15] [6,1],.p 5 [4] [] [],.p 6 [9] [] [9],.p 7 [4] [] []] (by kernel_rfl) (by simp [Tryz.f117];rfl) (by simp only [Ws,Wx];rfl)
theorem Z77:Zdt TT 117 (Zb5 TT 117) [.tmp 4] 2:=Zdx Tryz.f117 Z55 (by kernel_rfl) (by kernel_rfl) (by kernel_rfl)
theorem Z5g:TT 118=some Tryz.f118:=by kernel_rfl
@[simp] def bd118:=Zcn Tryz.f118 Z5g (by simp [Tryz.f118];rfl)
@[simp] def w118:=Zb6 Tryz.prog Tryz.f118 Z5g 7 [9] [.p 0 [6] [] [],.p 1 [] [9] [1,2],.p 2 [6] [] [0,1],.p 3 [6] [] [0,2,1]] (by kernel_rfl) (by simp [Tryz.f118];rfl) (by simp only [Ws,Wx];rfl)
theorem Z8g:Zdt TT 118 (Zb5 TT 118) [.tmp 6] 3:=Zdx Tryz.f118 Z5g (by kernel_rfl) (by kernel_rfl) (by kernel_rfl)
theorem Z58:TT 119=some Tryz.f119:=by kernel_rfl
@[simp] def bd119:=Zcn Tryz.f119 Z58 (by simp [Tryz.f119];rfl)
@[simp] def w119:=Zb6 Tryz.prog Tryz.f119 Z58 15 [15,15,40,59,67,67,81,95,103,118,136,158,162] [.p 0 [4,6,7] [] [1],.p 1 [13,14] [] [4],.p 2 [] [15] [14],.p 3 [] [15] [14],.d 4 [] [40] [4,0,2] [(3,[4]),(8,[23]),(13,[23]),(16,[23]),(19,[23]),(20,[23])] [],.p 5 [6,7] [] [],.p 6 [8] [] [0,2,4],.p 7 [] [59] [4],.p 8 [6,7] [] [0,2,8],.p 9 [6,7] [] [8],.p 10 [] [67] [14],.p 11 [] [67] [14],.p 12 [] [81] [0,2],.p 13 [6,7] [] [],.p 14 [9] [] [0,2],.p 15 [] [95] [4],.p 16 [6,7] [] [0,2,9],.p 17 [6,7] [] [9],.p 18 [] [103] [14],.d 19 [6,7] [] [0,4,2] [(1,[12,15]),(6,[12]),(8,[12]),(11,[12])] [],.p 20 [] [118] [14],.d 21 [10] [] [0,4] [(4,[9,10]),(6,[9,10]),(8,[9,10])] [0,1,2,3,4,5,6,7,8,9,10],.d 22 [6,7] [] [0,2,10] [(1,[6,9]),(5,[6])] [],.p 23 [] [136] [14],.d 24 [11,12] [] [0,4,2] [(1,[5]),(4,[5])] [0,1,2,3,4,5,6,7,8,9,10,11],.d 25 [6,7] [] [12,0,2,11] [(1,[9,13]),(6,[9]),(8,[9])] [],.p 26 [] [158] [14],.p 27 [] [162] [4],.p 28 [6,7] [] [0],.p 29 [6,7] [] [2,0],.p 30 [6,7] [] []] (by kernel_rfl) (by simp [Tryz.f119];rfl) (by simp only [Ws,Wx];rfl)
theorem Z8q:Zdt TT 119 (Zb5 TT 119) [.tmp 6,.tmp 7] 3:=Zdx Tryz.f119 Z58 (by kernel_rfl) (by kernel_rfl) (by kernel_rfl)
theorem Z48:TT 120=some Tryz.f120:=by kernel_rfl
@[simp] def bd120:=Zcn Tryz.f120 Z48 (by simp [Tryz.f120];rfl)
@[simp] def w120:=Zb6 Tryz.prog Tryz.f120 Z48 10 [36] [.p 0 [4,6,7] [] [1],.d 1 [8,9] [] [2,0,4] [(4,[15]),(10,[15]),(12,[15]),(14,[15])] [],.p 2 [] [36] [9,0,2],.p 3 [7] [] [6],.p 4 [7] [] [0,2,8,6]] (by kernel_rfl) (by simp [Tryz.f120];rfl) (by simp only [Ws,Wx];rfl)
theorem Z8n:Zdt TT 120 (Zb5 TT 120) [.cell 6 30,.tmp 7] 3:=Zdx Tryz.f120 Z48 (by kernel_rfl) (by kernel_rfl) (by kernel_rfl)
theorem Z54:TT 121=some Tryz.f121:=by kernel_rfl
@[simp] def bd121:=Zcn Tryz.f121 Z54 (by simp [Tryz.f121];rfl)
@[simp] def w121:=Zb6 Tryz.prog Tryz.f121 Z54 5 [17] [.p 0 [4] [] [1],.p 1 [] [17] [0,1,4],.p 2 [] [] [0,4,1],.p 3 [1] [] [4]] (by kernel_rfl) (by simp [Tryz.f121];rfl) (by simp only [Ws,Wx];rfl)
theorem Z7d:Zdt TT 121 (Zb5 TT 121) [] 2:=Zdx Tryz.f121 Z54 (by kernel_rfl) (by kernel_rfl) (by kernel_rfl)
theorem Z52:TT 122=some Tryz.f122:=by kernel_rfl
@[simp] def bd122:=Zcn Tryz.f122 Z52 (by simp [Tryz.f122];rfl)
@[simp] def w122:=Zb6 Tryz.prog Tryz.f122 Z52 8 [17,28] [.p 0 [6] [] [],.p 1 [] [17] [1,0,2],.p 2 [6] [] [],.p 3 [7] [] [0,2],.p 4 [] [28] [0,1],.p 5 [6] [] [7],.p 6 [6] [] [7,0,1,2]] (by kernel_rfl) (by simp [Tryz.f122];rfl) (by simp only [Ws,Wx];rfl)
theorem Z79:Zdt TT 122 (Zb5 TT 122) [.tmp 6] 3:=Zdx Tryz.f122 Z52 (by kernel_rfl) (by kernel_rfl) (by kernel_rfl)
theorem Z49:TT 123=some Tryz.f123:=by kernel_rfl
@[simp] def bd123:=Zcn Tryz.f123 Z49 (by simp [Tryz.f123];rfl)
@[simp] def w123:=Zb6 Tryz.prog Tryz.f123 Z49 6 [10,14,25] [.p 0 [4] [] [],.p 1 [] [10] [0,1],.p 2 [4] [] [],.p 3 [5] [] [],.p 4 [] [14] [5,0],.p 5 [] [25] [0,1,5],.p 6 [4] [] [],.p 7 [5] [] [5],.p 8 [4] [] []] (by kernel_rfl) (by simp [Tryz.f123];rfl) (by simp only [Ws,Wx];rfl)
theorem Z7w:Zdt TT 123 (Zb5 TT 123) [.tmp 4] 2:=Zdx Tryz.f123 Z49 (by kernel_rfl) (by kernel_rfl) (by kernel_rfl)
theorem Z4q:TT 139=some Tryz.f139:=by kernel_rfl
@[simp] def bd139:=Zcn Tryz.f139 Z4q (by simp [Tryz.f139];rfl)
@[simp] def w139:=Zb6 Tryz.prog Tryz.f139 Z4q 27 [27,33] [.p 0 [3,4] [] [1],.p 2 [4] [] [],.p 4 [] [27] [26,25],.p 5 [6] [] [24,26],.p 6 [] [33] [0,6],.p 7 [4] [] [],.p 8 [26] [] [26],.p 9 [4] [] []] (by kernel_rfl) (by simp [Tryz.f139];rfl) (by simp only [Ws,Wx];rfl)
@[simp] def w139_1:=Zb6 Tryz.prog Tryz.f139 Z4q 27 [27,33] [.p 1 [7,8,9,10,11,12,13,14,15,16,17,18,19,20,21,22] [] [0,3]] (by kernel_rfl) (by simp [Tryz.f139];rfl) (by simp only [Ws,Wx];rfl)
@[simp] def w139_3:=Zb6 Tryz.prog Tryz.f139 Z4q 27 [27,33] [.p 3 [23,24,25,26] [] [3]] (by kernel_rfl) (by simp [Tryz.f139];rfl) (by simp only [Ws,Wx];rfl)
theorem Z7e:Zdt TT 139 (Zb5 TT 139) [.tmp 4] 2:=Zdx Tryz.f139 Z4q (by kernel_rfl) (by kernel_rfl) (by kernel_rfl)
theorem Z5n:TT 140=some Tryz.f140:=by kernel_rfl
@[simp] def bd140:=Zcn Tryz.f140 Z5n (by simp [Tryz.f140];rfl)
@[simp] def w140:=Zb6 Tryz.prog Tryz.f140 Z5n 8 [8,16] [.p 0 [2] [] [],.p 1 [5,6,7] [] [0],.p 2 [] [8] [7,6],.p 3 [3,4] [] [5,7],.p 4 [] [16] [0,3,4],.p 5 [2] [] [],.p 6 [7] [] [7],.p 7 [2] [] []] (by kernel_rfl) (by simp [Tryz.f140];rfl) (by simp only [Ws,Wx];rfl)
theorem Z7h:Zdt TT 140 (Zb5 TT 140) [.tmp 2] 1:=Zdx Tryz.f140 Z5n (by kernel_rfl) (by kernel_rfl) (by kernel_rfl)
theorem Z43:TT 142=some Tryz.f142:=by kernel_rfl
@[simp] def bd142:=Zcn Tryz.f142 Z43 (by simp [Tryz.f142];rfl)
@[simp] def w142:=Zb6 Tryz.prog Tryz.f142 Z43 7 [14] [.p 0 [4] [] [],.p 1 [5,6] [] [0,1],.p 2 [] [14] [6],.p 3 [4] [] [],.p 4 [4] [] [5]] (by kernel_rfl) (by simp [Tryz.f142];rfl) (by simp only [Ws,Wx];rfl)
theorem Z8p:Zdt TT 142 (Zb5 TT 142) [.tmp 4] 2:=Zdx Tryz.f142 Z43 (by kernel_rfl) (by kernel_rfl) (by kernel_rfl)
theorem Z6j:TT 143=some Tryz.f143:=by kernel_rfl
@[simp] def bd143:=Zcn Tryz.f143 Z6j (by simp [Tryz.f143];rfl)
@[simp] def w143:=Zb6 Tryz.prog Tryz.f143 Z6j 9 [15,22,32] [.p 0 [6] [] [],.p 1 [7,8] [] [1,0,2],.p 2 [] [15] [7,8],.p 3 [6] [] [],.p 4 [] [22] [1,2],.p 5 [6] [] [7],.p 6 [] [32] [7],.p 7 [6] [] [8],.p 8 [6] [] [0,1,2]] (by kernel_rfl) (by simp [Tryz.f143];rfl) (by simp only [Ws,Wx];rfl)
theorem Z7k:Zdt TT 143 (Zb5 TT 143) [.tmp 6] 3:=Zdx Tryz.f143 Z6j (by kernel_rfl) (by kernel_rfl) (by kernel_rfl)
theorem Z6c:TT 144=some Tryz.f144:=by kernel_rfl
@[simp] def bd144:=Zcn Tryz.f144 Z6c (by simp [Tryz.f144];rfl)
@[simp] def w144:=Zb6 Tryz.prog Tryz.f144 Z6c 29 [29,41,62] [.p 0 [6] [] [],.p 1 [12,13,14,15,16,17,18,19,20,21] [] [1,0,2],.p 2 [6] [] [],.p 3 [22,23,24,25,26,27,28] [] [0,2],.p 4 [] [29] [28,27],.p 5 [8] [] [26,28],.p 6 [9,10] [] [0,1,8],.p 7 [] [41] [10],.p 8 [6] [] [],.p 9 [11] [] [0,1,9],.p 10 [] [62] [11,8],.p 11 [6] [] [],.p 12 [28] [] [28],.p 13 [6] [] []] (by kernel_rfl) (by simp [Tryz.f144];rfl) (by simp only [Ws,Wx];rfl)
theorem Z7p:Zdt TT 144 (Zb5 TT 144) [.tmp 6] 3:=Zdx Tryz.f144 Z6c (by kernel_rfl) (by kernel_rfl) (by kernel_rfl)
theorem Z5o:TT 145=some Tryz.f145:=by kernel_rfl
@[simp] def bd145:=Zcn Tryz.f145 Z5o (by simp [Tryz.f145];rfl)
@[simp] def w145:=Zb6 Tryz.prog Tryz.f145 Z5o 11 [24] [.p 0 [5,6,7] [] [2],.p 1 [8,9] [] [0,1],.p 2 [] [24] [8],.p 3 [6,7] [] [],.p 4 [10] [] [8,5],.p 5 [6,7] [] [10]] (by kernel_rfl) (by simp [Tryz.f145];rfl) (by simp only [Ws,Wx];rfl)
theorem Z7s:Zdt TT 145 (Zb5 TT 145) [.tmp 6,.tmp 7] 3:=Zdx Tryz.f145 Z5o (by kernel_rfl) (by kernel_rfl) (by kernel_rfl)
theorem Z5q:TT 158=some Tryz.f158:=by kernel_rfl
@[simp] def bd158:=Zcn Tryz.f158 Z5q (by simp [Tryz.f158];rfl)
@[simp] def w158:=Zb6 Tryz.prog Tryz.f158 Z5q 5 [] [.p 0 [4] [] [],.p 1 [4] [] [0,1]] (by kernel_rfl) (by simp [Tryz.f158];rfl) (by simp only [Ws,Wx];rfl)
theorem Z80:Zdt TT 158 (Zb5 TT 158) [.tmp 4] 2:=Zdx Tryz.f158 Z5q (by kernel_rfl) (by kernel_rfl) (by kernel_rfl)
theorem Z5z:TT 162=some Tryz.f162:=by kernel_rfl
@[simp] def bd162:=Zcn Tryz.f162 Z5z (by simp [Tryz.f162];rfl)
@[simp] def w162:=Zb6 Tryz.prog Tryz.f162 Z5z 6 [13] [.p 0 [4,5] [] [],.p 1 [] [13] [1,0],.p 2 [5] [] [4],.p 3 [5] [] [0,1,4]] (by kernel_rfl) (by simp [Tryz.f162];rfl) (by simp only [Ws,Wx];rfl)
theorem Z8h:Zdt TT 162 (Zb5 TT 162) [.cell 4 33,.tmp 5] 2:=Zdx Tryz.f162 Z5z (by kernel_rfl) (by kernel_rfl) (by kernel_rfl)
theorem Z6i:TT 163=some Tryz.f163:=by kernel_rfl
@[simp] def bd163:=Zcn Tryz.f163 Z6i (by simp [Tryz.f163];rfl)
@[simp] def w163:=Zb6 Tryz.prog Tryz.f163 Z6i 9 [9,16] [.p 0 [4] [] [],.p 1 [6,7,8] [] [0],.p 2 [] [9] [8,7],.p 3 [5] [] [8],.p 4 [] [16] [1,0,5],.p 5 [4] [] [5],.p 6 [8] [] [8],.p 7 [4] [] []] (by kernel_rfl) (by simp [Tryz.f163];rfl) (by simp only [Ws,Wx];rfl)
theorem Z8c:Zdt TT 163 (Zb5 TT 163) [.tmp 4] 2:=Zdx Tryz.f163 Z6i (by kernel_rfl) (by kernel_rfl) (by kernel_rfl)
theorem Z6g:TT 164=some Tryz.f164:=by kernel_rfl
@[simp] def bd164:=Zcn Tryz.f164 Z6g (by simp [Tryz.f164];rfl)
@[simp] def w164:=Zb6 Tryz.prog Tryz.f164 Z6g 4 [] [.p 0 [2,3] [] [0],.p 1 [3] [] [2,1]] (by kernel_rfl) (by simp [Tryz.f164];rfl) (by simp only [Ws,Wx];rfl)
theorem Z70:Zdt TT 164 (Zb5 TT 164) [.tmp 3] 2:=Zdx Tryz.f164 Z6g (by kernel_rfl) (by kernel_rfl) (by kernel_rfl)
theorem Z5p:TT 177=some Tryz.f177:=by kernel_rfl
@[simp] def bd177:=Zcn Tryz.f177 Z5p (by simp [Tryz.f177];rfl)
@[simp] def w177:=Zb6 Tryz.prog Tryz.f177 Z5p 9 [9,16] [.p 0 [4] [] [],.p 1 [6,7,8] [] [0],.p 2 [] [9] [8,7],.p 3 [5] [] [8],.p 4 [] [16] [1,0,5],.p 5 [4] [] [5],.p 6 [8] [] [8],.p 7 [4] [] []] (by kernel_rfl) (by simp [Tryz.f177];rfl) (by simp only [Ws,Wx];rfl)
theorem Z7z:Zdt TT 177 (Zb5 TT 177) [.tmp 4] 2:=Zdx Tryz.f177 Z5p (by kernel_rfl) (by kernel_rfl) (by kernel_rfl)
theorem Z6t:TT 217=some Tryz.f217:=by kernel_rfl
@[simp] def bd217:=Zcn Tryz.f217 Z6t (by simp [Tryz.f217];rfl)
@[simp] def w217:=Zb6 Tryz.prog Tryz.f217 Z6t 3 [] [.p 0 [2] [] [],.p 1 [2] [] [0]] (by kernel_rfl) (by simp [Tryz.f217];rfl) (by simp only [Ws,Wx];rfl)
theorem Z78:Zdt TT 217 (Zb5 TT 217) [.tmp 2] 1:=Zdx Tryz.f217 Z6t (by kernel_rfl) (by kernel_rfl) (by kernel_rfl)
theorem Z6h:TT 218=some Tryz.f218:=by kernel_rfl
@[simp] def bd218:=Zcn Tryz.f218 Z6h (by simp [Tryz.f218];rfl)
@[simp] def w218:=Zb6 Tryz.prog Tryz.f218 Z6h 7 [] [.p 0 [6] [] [],.p 1 [6] [] [1,0,2]] (by kernel_rfl) (by simp [Tryz.f218];rfl) (by simp only [Ws,Wx];rfl)
theorem Z8d:Zdt TT 218 (Zb5 TT 218) [.tmp 6] 3:=Zdx Tryz.f218 Z6h (by kernel_rfl) (by kernel_rfl) (by kernel_rfl)
theorem Z6o:TT 219=some Tryz.f219:=by kernel_rfl
@[simp] def bd219:=Zcn Tryz.f219 Z6o (by simp [Tryz.f219];rfl)
@[simp] def w219:=Zb6 Tryz.prog Tryz.f219 Z6o 3 [] [.d 0 [] [] [2,0,1] [(7,[13]),(11,[13])] []] (by kernel_rfl) (by simp [Tryz.f219];rfl) (by simp only [Ws,Wx];rfl)
theorem Z7m:Zdt TT 219 (Zb5 TT 219) [] 3:=Zdx Tryz.f219 Z6o (by kernel_rfl) (by kernel_rfl) (by kernel_rfl)
theorem Z5a:TT 220=some Tryz.f220:=by kernel_rfl
@[simp] def bd220:=Zcn Tryz.f220 Z5a (by simp [Tryz.f220];rfl)
@[simp] def w220:=Zb6 Tryz.prog Tryz.f220 Z5a 5 [] [.p 0 [2] [] [],.p 1 [3] [] [0],.p 2 [4] [] [0,3],.p 3 [] [] [0,3],.p 4 [2] [] [4]] (by kernel_rfl) (by simp [Tryz.f220];rfl) (by simp only [Ws,Wx];rfl)
theorem Z8:Zdt TT 220 (Zb5 TT 220) [.tmp 2] 1:=Zdx Tryz.f220 Z5a (by kernel_rfl) (by kernel_rfl) (by kernel_rfl)
theorem Z51:TT 221=some Tryz.f221:=by kernel_rfl
@[simp] def bd221:=Zcn Tryz.f221 Z51 (by simp [Tryz.f221];rfl)
@[simp] def w221:=Zb6 Tryz.prog Tryz.f221 Z51 2 [] [.d 0 [] [] [0,1] [(3,[6,7])] [0,1,2,3,4,5,6,7,8,9]] (by kernel_rfl) (by simp [Tryz.f221];rfl) (by simp only [Ws,Wx];rfl)
theorem Z8o:Zdt TT 221 (Zb5 TT 221) [] 2:=Zdx Tryz.f221 Z51 (by kernel_rfl) (by kernel_rfl) (by kernel_rfl)
attribute [simp] Z41 Ztp Z5t Z3u Z3k Z2h Z3m Z56 Z6n Zwy Ztw Z1x
attribute [simp] Zr9 Zpw Z35 Zt9 Zrk Z40 Z6e Z0k Z59 Z5 Zx1 Zwq
attribute [simp] Z0o Ztu Zuc Z5k Z6s Z6a Z45 Z5i Z5c Z37 Z21 Z47
attribute [simp] Z53 Z6f Z5w Z23 Z4c Z25 Z4p Z16 Z1g Z2n Z1i Zyt
attribute [simp] Zzp Zle Z7g okx Zgf Zfc Zya Z27 Zyo Z6r Z3b Zu
attribute [simp] Zra Z3z Z5s Z1s Z3y Z8y Zw5 Zy7 Z06 Z0t Zpx Z57
attribute [simp] Z2j Z1d Zqy Z11 Z0x Z1q Zt2 Zr5 Z6d Z6p Zvp Zvh
attribute [simp] Zwh Zxc Zxj Zq4 Zrg Z5x Z3v Z1h Zyj Zfb Zon Znz
attribute [simp] Zsd Zeq Z1t Z0j Z2g Zbk Zbp Z09 Zsj Zco Zwn Zrp
attribute [simp] Zwf Ztz Zvm Zv7 Zy9 Zy5 Z30 Zv2 Zv9 Zv1 Zr1 Zs
attribute [simp] Zph Zri Zb Zdh Instr.fill Zu2 Z1c Zyf Zy4 Zyu Zuj Zze
attribute [simp] Zzt Z1v Zdf Zc1 Z19 Z04 Z6k Z5r Zic Zx0 Zvj Zzq
attribute [simp] Zr0 Zy2 Zto Zp2 Zwx Zmf Zpr Zzv Zyh Z3h Z0r Zrd
attribute [simp] Znf Zu6 Zv4 Z0u Zwu Zvq Zq6 Z1y Z2p
end Go.Proofs.YtbldiceiindbdaaGreatDoor.gen
