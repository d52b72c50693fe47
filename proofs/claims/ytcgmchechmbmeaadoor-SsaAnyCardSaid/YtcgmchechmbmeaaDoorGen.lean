/- This text names the regions of the functions that are walked, with the slots that they read and set, and the facts of the types. No condition. -/
import Derived.Test.YtcgmchechmbmeaaDoorProg
import Derived.Test.YtcgmchechmbmeaaDoorShD
set_option linter.unusedVariables false
set_option linter.unusedSimpArgs false
set_option maxRecDepth 100000
set_option linter.defProp false
namespace Go.Proofs.YtcgmchechmbmeaaDoor.gen
open Go.Sh
def fns:List FuncId:=[4,7,8,10,11,13,15,16,17,18,19,20,21,22,23,26,27,28,29,30,31,32,33,34,35,36,37,38,39,40,41,42,50,51,52,53,54,55,56,57,58,59,60,61,62,63,68,69,70,9]
noncomputable def TT:FuncId→Option Func:=Sh.tabOf Tryd.prog fns
attribute [local simp] Zll rgs Z79 Zk0 Zkf Zrr Zis skl nR nO
variable {S:Zb4}{m:Mem}{k:List Fr}{E:Zb}{Q:Zsl}
theorem Z9h:Zir Tryd.prog 22 1 24=true:=by kernel_rfl
theorem ap3:Zir Tryd.prog 3 1 8=true:=by kernel_rfl
theorem Z9q:Zir Tryd.prog 36 6 96=true:=by kernel_rfl
theorem ap4:Zir Tryd.prog 4 1 1=true:=by kernel_rfl
theorem Z92:Zir Tryd.prog 41 1 24=true:=by kernel_rfl
theorem Z9r:Zir Tryd.prog 43 6 64=true:=by kernel_rfl
theorem Ybr:Zir Tryd.prog 52 4 64=true:=by kernel_rfl
theorem Ybz:Zir Tryd.prog 60 1 24=true:=by kernel_rfl
theorem Z9o:Zir Tryd.prog 94 2 16=true:=by kernel_rfl
theorem b24:(Tryd.prog.info? 24).isSome=true:=by kernel_rfl
theorem b29:(Tryd.prog.info? 29).isSome=true:=by kernel_rfl
theorem b36:(Tryd.prog.info? 36).isSome=true:=by kernel_rfl
theorem b41:(Tryd.prog.info? 41).isSome=true:=by kernel_rfl
theorem b43:(Tryd.prog.info? 43).isSome=true:=by kernel_rfl
theorem b66:(Tryd.prog.info? 66).isSome=true:=by kernel_rfl
theorem b70:(Tryd.prog.info? 70).isSome=true:=by kernel_rfl
theorem Z5e:Zfk Tryd.prog 24 [.slice none 0 0,.slice none 0 0,.int .i64 0] [(0,1),(1,1),(2,1)]=true:=by kernel_rfl
theorem Ybq:Zfk Tryd.prog 29 [.int .i64 0,.int .i64 0,.slice none 0 0,.slice none 0 0,.slice none 0 0] [(0,1),(1,1),(2,1),(3,1),(4,1)]=true:=by kernel_rfl
theorem Zy0:Zfk Tryd.prog 36 [.slice none 0 0,.int .i64 0,.int .i64 0,.slice none 0 0,.slice none 0 0,.int .i64 0] [(0,1),(1,1),(2,1),(3,1),(4,1),(5,1)]=true:=by kernel_rfl
theorem Ya5:Zfk Tryd.prog 41 [.slice none 0 0] [(0,1)]=true:=by kernel_rfl
theorem Zqw:Zfk Tryd.prog 43 [.int .i64 0,.int .i64 0,.int .i64 0,.int .i64 0,.slice none 0 0,.int .i64 0] [(0,1),(1,1),(2,1),(3,1),(4,1),(5,1)]=true:=by kernel_rfl
theorem Yaq:Zfk Tryd.prog 52 [.int .i64 0,.int .i64 0,.slice none 0 0,.slice none 0 0] [(0,1),(1,1),(2,1),(3,1)]=true:=by kernel_rfl
theorem Yad:Zfk Tryd.prog 66 [.int .i64 0,.int .i64 0,.slice none 0 0,.slice none 0 0,.slice none 0 0,.slice none 0 0,.slice none 0 0,.slice none 0 0] [(0,5),(5,1),(6,1),(7,1)]=true:=by kernel_rfl
theorem Ybe:Zfk Tryd.prog 70 [.int .i64 0,.int .i64 0,.slice none 0 0,.slice none 0 0,.slice none 0 0,.slice none 0 0,.slice none 0 0,.slice none 0 0] [(0,5),(5,1),(6,1),(7,1)]=true:=by kernel_rfl
theorem Z93:Zfk Tryd.prog 94 [.int .i64 0,.int .i64 0] [(0,1),(1,1)]=true:=by kernel_rfl
theorem bs3:Z2 Tryd.prog 3 [.int .i64 0]=true:=by kernel_rfl
theorem Z9t:Z2 Tryd.prog 36 [.slice none 0 0,.int .i64 0,.int .i64 0,.slice none 0 0,.slice none 0 0,.int .i64 0]=true:=by kernel_rfl
theorem Yaa:Z2 Tryd.prog 41 [.slice none 0 0]=true:=by kernel_rfl
theorem Z97:Z2 Tryd.prog 43 [.int .i64 0,.int .i64 0,.int .i64 0,.int .i64 0,.slice none 0 0,.int .i64 0]=true:=by kernel_rfl
theorem Z9n:Z2 Tryd.prog 52 [.int .i64 0,.int .i64 0,.slice none 0 0,.slice none 0 0]=true:=by kernel_rfl
theorem Z9s:Z2 Tryd.prog 94 [.int .i64 0,.int .i64 0]=true:=by kernel_rfl
theorem Z6m:Zil Tryd.prog 24 0 0=true:=by kernel_rfl
theorem Z7i:Zil Tryd.prog 24 1 1=true:=by kernel_rfl
theorem Z6w:Zil Tryd.prog 24 2 2=true:=by kernel_rfl
theorem Z72:Zil Tryd.prog 29 2 2=true:=by kernel_rfl
theorem Z6f:Zil Tryd.prog 29 3 3=true:=by kernel_rfl
theorem Z61:Zil Tryd.prog 29 4 4=true:=by kernel_rfl
theorem Z7k:Zil Tryd.prog 36 0 0=true:=by kernel_rfl
theorem Z7p:Zil Tryd.prog 36 1 1=true:=by kernel_rfl
theorem Z7e:Zil Tryd.prog 36 2 2=true:=by kernel_rfl
theorem Z7a:Zil Tryd.prog 36 3 3=true:=by kernel_rfl
theorem Z75:Zil Tryd.prog 36 4 4=true:=by kernel_rfl
theorem Z58:Zil Tryd.prog 36 5 5=true:=by kernel_rfl
theorem Z50:Zil Tryd.prog 41 0 0=true:=by kernel_rfl
theorem Z6k:Zil Tryd.prog 43 0 0=true:=by kernel_rfl
theorem Z7s:Zil Tryd.prog 43 1 1=true:=by kernel_rfl
theorem Z7g:Zil Tryd.prog 43 2 2=true:=by kernel_rfl
theorem Z74:Zil Tryd.prog 43 3 3=true:=by kernel_rfl
theorem Z7b:Zil Tryd.prog 43 4 4=true:=by kernel_rfl
theorem Z6d:Zil Tryd.prog 43 5 5=true:=by kernel_rfl
theorem Z5r:Zil Tryd.prog 52 2 2=true:=by kernel_rfl
theorem Z6x:Zil Tryd.prog 52 3 3=true:=by kernel_rfl
theorem Z60:Zil Tryd.prog 66 0 0=true:=by kernel_rfl
theorem Z7c:Zil Tryd.prog 66 1 5=true:=by kernel_rfl
theorem Z63:Zil Tryd.prog 66 2 6=true:=by kernel_rfl
theorem Z7w:Zil Tryd.prog 66 3 7=true:=by kernel_rfl
theorem Z71:Zil Tryd.prog 70 0 0=true:=by kernel_rfl
theorem Z5u:Zil Tryd.prog 70 1 5=true:=by kernel_rfl
theorem Z65:Zil Tryd.prog 70 2 6=true:=by kernel_rfl
theorem Z6a:Zil Tryd.prog 70 3 7=true:=by kernel_rfl
theorem Z6u:Zil Tryd.prog 94 0 0=true:=by kernel_rfl
theorem Z7y:Zil Tryd.prog 94 1 1=true:=by kernel_rfl
theorem ld2:Zrx Tryd.prog 2=true:=by kernel_rfl
theorem Yae:Zrx Tryd.prog 22=true:=by kernel_rfl
theorem Ybl:Zrx Tryd.prog 25=true:=by kernel_rfl
theorem Yah:Zrx Tryd.prog 26=true:=by kernel_rfl
theorem Yav:Zrx Tryd.prog 27=true:=by kernel_rfl
theorem Z3c:Zy Tryd.prog 29 5=true:=by kernel_rfl
theorem ld3:Zrx Tryd.prog 3=true:=by kernel_rfl
theorem Ybj:Zy Tryd.prog 36 6=true:=by kernel_rfl
theorem Ybu:Zrx Tryd.prog 39=true:=by kernel_rfl
theorem ld4:Zrx Tryd.prog 4=true:=by kernel_rfl
theorem Ya2:Zy Tryd.prog 41 1=true:=by kernel_rfl
theorem Ybt:Zy Tryd.prog 43 6=true:=by kernel_rfl
theorem Yai:Zrx Tryd.prog 49=true:=by kernel_rfl
theorem Yar:Zrx Tryd.prog 50=true:=by kernel_rfl
theorem Yaw:Zy Tryd.prog 52 4=true:=by kernel_rfl
theorem Ybi:Zrx Tryd.prog 53=true:=by kernel_rfl
theorem Ybw:Zrx Tryd.prog 60=true:=by kernel_rfl
theorem Yan:Zrx Tryd.prog 63=true:=by kernel_rfl
theorem Yay:Zy Tryd.prog 66 8=true:=by kernel_rfl
theorem Z9v:Zaj Tryd.prog 22=some 1:=by kernel_rfl
theorem Yak:Zaj Tryd.prog 25=some 1:=by kernel_rfl
theorem Yac:Zaj Tryd.prog 26=some 1:=by kernel_rfl
theorem Yb0:Zaj Tryd.prog 27=some 1:=by kernel_rfl
theorem Yal:Zaj Tryd.prog 29=some 5:=by kernel_rfl
theorem sz3:Zaj Tryd.prog 3=some 1:=by kernel_rfl
theorem Z76:Zaj Tryd.prog 36=some 6:=by kernel_rfl
theorem Yax:Zaj Tryd.prog 39=some 1:=by kernel_rfl
theorem sz4:Zaj Tryd.prog 4=some 1:=by kernel_rfl
theorem Z8:Zaj Tryd.prog 41=some 1:=by kernel_rfl
theorem Z4h:Zaj Tryd.prog 43=some 6:=by kernel_rfl
theorem Ybs:Zaj Tryd.prog 49=some 1:=by kernel_rfl
theorem Yao:Zaj Tryd.prog 50=some 1:=by kernel_rfl
theorem Z8x:Zaj Tryd.prog 52=some 4:=by kernel_rfl
theorem Ybv:Zaj Tryd.prog 53=some 1:=by kernel_rfl
theorem Z9z:Zaj Tryd.prog 60=some 1:=by kernel_rfl
theorem Yau:Zaj Tryd.prog 66=some 8:=by kernel_rfl
theorem Z8e:Zaj Tryd.prog 94=some 2:=by kernel_rfl
theorem u12:Tryd.prog.underlying 12=some (.int .u64):=by kernel_rfl
theorem u2:Tryd.prog.underlying 2=some (.int .i64):=by kernel_rfl
theorem u22:Tryd.prog.underlying 22=some (.slice 3):=by kernel_rfl
theorem u25:Tryd.prog.underlying 25=some (.slice 43):=by kernel_rfl
theorem u26:Tryd.prog.underlying 26=some (.slice 36):=by kernel_rfl
theorem u27:Tryd.prog.underlying 27=some (.slice 41):=by kernel_rfl
theorem u3:Tryd.prog.underlying 3=some (.int .i64):=by kernel_rfl
theorem u39:Tryd.prog.underlying 39=some (.slice 52):=by kernel_rfl
theorem u4:Tryd.prog.underlying 4=some .bool:=by kernel_rfl
theorem u5:Tryd.prog.underlying 5=some (.int .u8):=by kernel_rfl
theorem u57:Tryd.prog.underlying 57=some (.slice 22):=by kernel_rfl
theorem u6:Tryd.prog.underlying 6=some (.int .u8):=by kernel_rfl
theorem u60:Tryd.prog.underlying 60=some (.slice 4):=by kernel_rfl
theorem u62:Tryd.prog.underlying 62=some (.array 40 4):=by kernel_rfl
theorem u63:Tryd.prog.underlying 63=some (.slice 60):=by kernel_rfl
theorem u9:Tryd.prog.underlying 9=some .string:=by kernel_rfl
theorem u92:Tryd.prog.underlying 92=some (.slice 94):=by kernel_rfl
theorem Ya0:Zfn Tryd.prog 22 [.slice none 0 0]=true:=by kernel_rfl
theorem Ybn:Zfn Tryd.prog 29 [.int .i64 0,.int .i64 0,.slice none 0 0,.slice none 0 0,.slice none 0 0]=true:=by kernel_rfl
theorem zo3:Zfn Tryd.prog 3 [.int .i64 0]=true:=by kernel_rfl
theorem Ybo:Zfn Tryd.prog 36 [.slice none 0 0,.int .i64 0,.int .i64 0,.slice none 0 0,.slice none 0 0,.int .i64 0]=true:=by kernel_rfl
theorem Ybm:Zfn Tryd.prog 41 [.slice none 0 0]=true:=by kernel_rfl
theorem Ybp:Zfn Tryd.prog 43 [.int .i64 0,.int .i64 0,.int .i64 0,.int .i64 0,.slice none 0 0,.int .i64 0]=true:=by kernel_rfl
theorem Yb:Zfn Tryd.prog 49 [.nilFunc]=true:=by kernel_rfl
theorem Yam:Zfn Tryd.prog 50 [.nilFunc]=true:=by kernel_rfl
theorem Yas:Zfn Tryd.prog 52 [.int .i64 0,.int .i64 0,.slice none 0 0,.slice none 0 0]=true:=by kernel_rfl
theorem Ya8:Zfn Tryd.prog 53 [.nilFunc]=true:=by kernel_rfl
theorem Ya9:Zfn Tryd.prog 62 [.bool false,.bool false,.bool false,.bool false,.bool false,.bool false,.bool false,.bool false,.bool false,.bool false,.bool false,.bool false,.bool false,.bool false,.bool false,.bool false,.bool false,.bool false,.bool false,.bool false,.bool false,.bool false,.bool false,.bool false,.bool false,.bool false,.bool false,.bool false,.bool false,.bool false,.bool false,.bool false,.bool false,.bool false,.bool false,.bool false,.bool false,.bool false,.bool false,.bool false]=true:=by kernel_rfl
theorem Ya6:Zfn Tryd.prog 66 [.int .i64 0,.int .i64 0,.slice none 0 0,.slice none 0 0,.slice none 0 0,.slice none 0 0,.slice none 0 0,.slice none 0 0]=true:=by kernel_rfl
theorem T4:TT 4=some Tryd.f4:=by kernel_rfl
@[simp] def bd4:=Zb5 Tryd.f4 T4 (by simp [Tryd.f4];rfl)
@[simp] def w4:=Zam Tryd.prog Tryd.f4 T4 7 [7,21,31] [.p 0 [2,4] [] [0],.p 1 [] [7] [1],.p 2 [5] [] [2],.p 3 [6] [] [],.p 4 [] [21] [2,6],.p 5 [] [31] [2,6],.p 6 [4] [] [],.p 7 [6] [] [6],.d 8 [] [] [5,2] [(5,[2,7]),(6,[2,7])] [0,1,2,3,4,5,6,7,8,9],.d 9 [4] [] [2] [(2,[3]),(4,[3,5])] []] (by kernel_rfl) (by simp [Tryd.f4];rfl) (by simp only [Ws,Wx];rfl)
theorem k4:Ze0 TT 4 (Zbj TT 4) [.tmp 4] 2:=Zff Tryd.f4 T4 (by kernel_rfl) (by kernel_rfl) (by kernel_rfl)
theorem T7:TT 7=some Tryd.f7:=by kernel_rfl
@[simp] def bd7:=Zb5 Tryd.f7 T7 (by simp [Tryd.f7];rfl)
@[simp] def w7:=Zam Tryd.prog Tryd.f7 T7 86 [126,209,298] [.p 0 [1,2] [] [0],.p 7 [39,40,41] [] [8,4],.d 8 [44,45,46,47,48,49,50] [] [7,8,5] [(0,[4,5,6]),(1,[4])] [0,1,2,3,4,5,6,7],.p 15 [60,13] [] [6,3],.p 18 [63,64,65,66,67,68,69,70,71,72,73,74,75,76,77] [] [1,14,3],.p 19 [80,81,82,83,84,85] [] [1,14],.p 20 [] [126] [85],.p 37 [] [209] [85],.d 55 [] [] [3,25,22,5] [(1,[10,13]),(4,[10]),(5,[10]),(6,[10]),(9,[10])] [0,1,2,3,4,5,6,7,8,9,10,11,12,13],.p 70 [78,79,14] [] [14]] (by kernel_rfl) (by simp [Tryd.f7];rfl) (by simp only [Ws,Wx];rfl)
@[simp] def w7_1:=Zam Tryd.prog Tryd.f7 T7 86 [126,209,298] [.p 1 [33,3] [] []] (by kernel_rfl) (by simp [Tryd.f7];rfl) (by simp only [Ws,Wx];rfl)
@[simp] def w7_2:=Zam Tryd.prog Tryd.f7 T7 86 [126,209,298] [.p 2 [34,35,36,4] [] [1]] (by kernel_rfl) (by simp [Tryd.f7];rfl) (by simp only [Ws,Wx];rfl)
@[simp] def w7_3:=Zam Tryd.prog Tryd.f7 T7 86 [126,209,298] [.p 3 [5] [] []] (by kernel_rfl) (by simp [Tryd.f7];rfl) (by simp only [Ws,Wx];rfl)
@[simp] def w7_4:=Zam Tryd.prog Tryd.f7 T7 86 [126,209,298] [.p 4 [37,6] [] []] (by kernel_rfl) (by simp [Tryd.f7];rfl) (by simp only [Ws,Wx];rfl)
@[simp] def w7_5:=Zam Tryd.prog Tryd.f7 T7 86 [126,209,298] [.p 5 [38,7] [] [3,6]] (by kernel_rfl) (by simp [Tryd.f7];rfl) (by simp only [Ws,Wx];rfl)
@[simp] def w7_6:=Zam Tryd.prog Tryd.f7 T7 86 [126,209,298] [.p 6 [8] [] []] (by kernel_rfl) (by simp [Tryd.f7];rfl) (by simp only [Ws,Wx];rfl)
@[simp] def w7_9:=Zam Tryd.prog Tryd.f7 T7 86 [126,209,298] [.p 9 [42,43,8] [] [8]] (by kernel_rfl) (by simp [Tryd.f7];rfl) (by simp only [Ws,Wx];rfl)
@[simp] def w7_10:=Zam Tryd.prog Tryd.f7 T7 86 [126,209,298] [.d 10 [51,52,53,54,55,56] [] [7,5] [(0,[3,4,5]),(1,[3])] [0,1,2,3,4,5,6]] (by kernel_rfl) (by simp [Tryd.f7];rfl) (by simp only [Ws,Wx];rfl)
@[simp] def w7_11:=Zam Tryd.prog Tryd.f7 T7 86 [126,209,298] [.p 11 [9] [] []] (by kernel_rfl) (by simp [Tryd.f7];rfl) (by simp only [Ws,Wx];rfl)
@[simp] def w7_12:=Zam Tryd.prog Tryd.f7 T7 86 [126,209,298] [.p 12 [57,10] [] [9,1]] (by kernel_rfl) (by simp [Tryd.f7];rfl) (by simp only [Ws,Wx];rfl)
@[simp] def w7_13:=Zam Tryd.prog Tryd.f7 T7 86 [126,209,298] [.p 13 [58,11] [] [3,10,5]] (by kernel_rfl) (by simp [Tryd.f7];rfl) (by simp only [Ws,Wx];rfl)
@[simp] def w7_14:=Zam Tryd.prog Tryd.f7 T7 86 [126,209,298] [.p 14 [59,12] [] [10,3,5,7,11]] (by kernel_rfl) (by simp [Tryd.f7];rfl) (by simp only [Ws,Wx];rfl)
@[simp] def w7_16:=Zam Tryd.prog Tryd.f7 T7 86 [126,209,298] [.p 16 [61,62] [] [12]] (by kernel_rfl) (by simp [Tryd.f7];rfl) (by simp only [Ws,Wx];rfl)
@[simp] def w7_17:=Zam Tryd.prog Tryd.f7 T7 86 [126,209,298] [.p 17 [14] [] []] (by kernel_rfl) (by simp [Tryd.f7];rfl) (by simp only [Ws,Wx];rfl)
@[simp] def w7_21:=Zam Tryd.prog Tryd.f7 T7 86 [126,209,298] [.d 21 [15] [] [10,5] [(0,[4,8]),(1,[4]),(2,[4]),(3,[4]),(6,[8])] []] (by kernel_rfl) (by simp [Tryd.f7];rfl) (by simp only [Ws,Wx];rfl)
@[simp] def w7_22:=Zam Tryd.prog Tryd.f7 T7 86 [126,209,298] [.p 22 [16] [] [5]] (by kernel_rfl) (by simp [Tryd.f7];rfl) (by simp only [Ws,Wx];rfl)
@[simp] def w7_23:=Zam Tryd.prog Tryd.f7 T7 86 [126,209,298] [.p 23 [17] [] [13,15,3]] (by kernel_rfl) (by simp [Tryd.f7];rfl) (by simp only [Ws,Wx];rfl)
@[simp] def w7_24:=Zam Tryd.prog Tryd.f7 T7 86 [126,209,298] [.p 24 [] [] [17,6]] (by kernel_rfl) (by simp [Tryd.f7];rfl) (by simp only [Ws,Wx];rfl)
@[simp] def w7_25:=Zam Tryd.prog Tryd.f7 T7 86 [126,209,298] [.p 25 [] [] [12]] (by kernel_rfl) (by simp [Tryd.f7];rfl) (by simp only [Ws,Wx];rfl)
@[simp] def w7_26:=Zam Tryd.prog Tryd.f7 T7 86 [126,209,298] [.p 26 [18] [] [5]] (by kernel_rfl) (by simp [Tryd.f7];rfl) (by simp only [Ws,Wx];rfl)
@[simp] def w7_27:=Zam Tryd.prog Tryd.f7 T7 86 [126,209,298] [.p 27 [] [] [16,5]] (by kernel_rfl) (by simp [Tryd.f7];rfl) (by simp only [Ws,Wx];rfl)
@[simp] def w7_28:=Zam Tryd.prog Tryd.f7 T7 86 [126,209,298] [.p 28 [19] [] [13,3]] (by kernel_rfl) (by simp [Tryd.f7];rfl) (by simp only [Ws,Wx];rfl)
@[simp] def w7_29:=Zam Tryd.prog Tryd.f7 T7 86 [126,209,298] [.p 29 [] [] [17,6]] (by kernel_rfl) (by simp [Tryd.f7];rfl) (by simp only [Ws,Wx];rfl)
@[simp] def w7_30:=Zam Tryd.prog Tryd.f7 T7 86 [126,209,298] [.p 30 [] [] [12]] (by kernel_rfl) (by simp [Tryd.f7];rfl) (by simp only [Ws,Wx];rfl)
@[simp] def w7_31:=Zam Tryd.prog Tryd.f7 T7 86 [126,209,298] [.p 31 [20] [] [5]] (by kernel_rfl) (by simp [Tryd.f7];rfl) (by simp only [Ws,Wx];rfl)
@[simp] def w7_32:=Zam Tryd.prog Tryd.f7 T7 86 [126,209,298] [.p 32 [] [] [16,5]] (by kernel_rfl) (by simp [Tryd.f7];rfl) (by simp only [Ws,Wx];rfl)
@[simp] def w7_33:=Zam Tryd.prog Tryd.f7 T7 86 [126,209,298] [.p 33 [21] [] [13,3]] (by kernel_rfl) (by simp [Tryd.f7];rfl) (by simp only [Ws,Wx];rfl)
@[simp] def w7_34:=Zam Tryd.prog Tryd.f7 T7 86 [126,209,298] [.p 34 [] [] [19,21,6]] (by kernel_rfl) (by simp [Tryd.f7];rfl) (by simp only [Ws,Wx];rfl)
@[simp] def w7_35:=Zam Tryd.prog Tryd.f7 T7 86 [126,209,298] [.d 35 [] [] [7,18,20,5] [(0,[4,6,7,8]),(1,[4,6])] [0,1,2,3,4,5,6,7,8,9]] (by kernel_rfl) (by simp [Tryd.f7];rfl) (by simp only [Ws,Wx];rfl)
@[simp] def w7_36:=Zam Tryd.prog Tryd.f7 T7 86 [126,209,298] [.p 36 [] [] [12]] (by kernel_rfl) (by simp [Tryd.f7];rfl) (by simp only [Ws,Wx];rfl)
@[simp] def w7_38:=Zam Tryd.prog Tryd.f7 T7 86 [126,209,298] [.d 38 [22] [] [10,5] [(0,[4,8]),(1,[4]),(2,[4]),(3,[4]),(6,[8])] []] (by kernel_rfl) (by simp [Tryd.f7];rfl) (by simp only [Ws,Wx];rfl)
@[simp] def w7_39:=Zam Tryd.prog Tryd.f7 T7 86 [126,209,298] [.p 39 [23] [] [13,3]] (by kernel_rfl) (by simp [Tryd.f7];rfl) (by simp only [Ws,Wx];rfl)
@[simp] def w7_40:=Zam Tryd.prog Tryd.f7 T7 86 [126,209,298] [.p 40 [24] [] [23]] (by kernel_rfl) (by simp [Tryd.f7];rfl) (by simp only [Ws,Wx];rfl)
@[simp] def w7_41:=Zam Tryd.prog Tryd.f7 T7 86 [126,209,298] [.p 41 [] [] [23,24,6]] (by kernel_rfl) (by simp [Tryd.f7];rfl) (by simp only [Ws,Wx];rfl)
@[simp] def w7_42:=Zam Tryd.prog Tryd.f7 T7 86 [126,209,298] [.p 42 [25] [] [7,22]] (by kernel_rfl) (by simp [Tryd.f7];rfl) (by simp only [Ws,Wx];rfl)
@[simp] def w7_43:=Zam Tryd.prog Tryd.f7 T7 86 [126,209,298] [.d 43 [26] [] [7,10,5,25] [(0,[5,9,11]),(1,[5,9]),(2,[5]),(3,[5]),(4,[5]),(7,[9])] [0,1,2,3,4,5,6,7,8,9,10,11,12]] (by kernel_rfl) (by simp [Tryd.f7];rfl) (by simp only [Ws,Wx];rfl)
@[simp] def w7_44:=Zam Tryd.prog Tryd.f7 T7 86 [126,209,298] [.p 44 [] [] [25,26,5]] (by kernel_rfl) (by simp [Tryd.f7];rfl) (by simp only [Ws,Wx];rfl)
@[simp] def w7_45:=Zam Tryd.prog Tryd.f7 T7 86 [126,209,298] [.d 45 [] [] [7,11] [(0,[2,4]),(1,[2])] []] (by kernel_rfl) (by simp [Tryd.f7];rfl) (by simp only [Ws,Wx];rfl)
@[simp] def w7_46:=Zam Tryd.prog Tryd.f7 T7 86 [126,209,298] [.p 46 [27] [] [7]] (by kernel_rfl) (by simp [Tryd.f7];rfl) (by simp only [Ws,Wx];rfl)
@[simp] def w7_47:=Zam Tryd.prog Tryd.f7 T7 86 [126,209,298] [.p 47 [28] [] [7,25,27]] (by kernel_rfl) (by simp [Tryd.f7];rfl) (by simp only [Ws,Wx];rfl)
@[simp] def w7_48:=Zam Tryd.prog Tryd.f7 T7 86 [126,209,298] [.p 48 [] [] [28,5]] (by kernel_rfl) (by simp [Tryd.f7];rfl) (by simp only [Ws,Wx];rfl)
@[simp] def w7_49:=Zam Tryd.prog Tryd.f7 T7 86 [126,209,298] [.p 49 [] [] [13,25,24]] (by kernel_rfl) (by simp [Tryd.f7];rfl) (by simp only [Ws,Wx];rfl)
@[simp] def w7_50:=Zam Tryd.prog Tryd.f7 T7 86 [126,209,298] [.p 50 [29] [] [5]] (by kernel_rfl) (by simp [Tryd.f7];rfl) (by simp only [Ws,Wx];rfl)
@[simp] def w7_51:=Zam Tryd.prog Tryd.f7 T7 86 [126,209,298] [.p 51 [] [] [24,6]] (by kernel_rfl) (by simp [Tryd.f7];rfl) (by simp only [Ws,Wx];rfl)
@[simp] def w7_52:=Zam Tryd.prog Tryd.f7 T7 86 [126,209,298] [.p 52 [] [] [12]] (by kernel_rfl) (by simp [Tryd.f7];rfl) (by simp only [Ws,Wx];rfl)
@[simp] def w7_53:=Zam Tryd.prog Tryd.f7 T7 86 [126,209,298] [.p 53 [] [] [3,25,22,28]] (by kernel_rfl) (by simp [Tryd.f7];rfl) (by simp only [Ws,Wx];rfl)
@[simp] def w7_54:=Zam Tryd.prog Tryd.f7 T7 86 [126,209,298] [.p 54 [] [298] [10]] (by kernel_rfl) (by simp [Tryd.f7];rfl) (by simp only [Ws,Wx];rfl)
@[simp] def w7_56:=Zam Tryd.prog Tryd.f7 T7 86 [126,209,298] [.d 56 [] [] [3,26,5] [(1,[17,20]),(4,[17]),(8,[17]),(10,[17]),(11,[17]),(12,[17]),(13,[17]),(16,[17])] [0,1,2,3,4,5,6,7,8,9,10,11,12,13,14,15,16,17,18,19,20]] (by kernel_rfl) (by simp [Tryd.f7];rfl) (by simp only [Ws,Wx];rfl)
@[simp] def w7_57:=Zam Tryd.prog Tryd.f7 T7 86 [126,209,298] [.p 57 [] [] [29,5]] (by kernel_rfl) (by simp [Tryd.f7];rfl) (by simp only [Ws,Wx];rfl)
@[simp] def w7_58:=Zam Tryd.prog Tryd.f7 T7 86 [126,209,298] [.p 58 [] [] [13,24]] (by kernel_rfl) (by simp [Tryd.f7];rfl) (by simp only [Ws,Wx];rfl)
@[simp] def w7_59:=Zam Tryd.prog Tryd.f7 T7 86 [126,209,298] [.p 59 [] [] [24,6]] (by kernel_rfl) (by simp [Tryd.f7];rfl) (by simp only [Ws,Wx];rfl)
@[simp] def w7_60:=Zam Tryd.prog Tryd.f7 T7 86 [126,209,298] [.p 60 [] [] [12]] (by kernel_rfl) (by simp [Tryd.f7];rfl) (by simp only [Ws,Wx];rfl)
@[simp] def w7_61:=Zam Tryd.prog Tryd.f7 T7 86 [126,209,298] [.d 61 [30] [] [10,5] [(0,[4,8]),(1,[4]),(2,[4]),(3,[4]),(6,[8])] []] (by kernel_rfl) (by simp [Tryd.f7];rfl) (by simp only [Ws,Wx];rfl)
@[simp] def w7_62:=Zam Tryd.prog Tryd.f7 T7 86 [126,209,298] [.p 62 [31] [] [13,30,3]] (by kernel_rfl) (by simp [Tryd.f7];rfl) (by simp only [Ws,Wx];rfl)
@[simp] def w7_63:=Zam Tryd.prog Tryd.f7 T7 86 [126,209,298] [.p 63 [32] [] [5]] (by kernel_rfl) (by simp [Tryd.f7];rfl) (by simp only [Ws,Wx];rfl)
@[simp] def w7_64:=Zam Tryd.prog Tryd.f7 T7 86 [126,209,298] [.p 64 [] [] [31,6]] (by kernel_rfl) (by simp [Tryd.f7];rfl) (by simp only [Ws,Wx];rfl)
@[simp] def w7_65:=Zam Tryd.prog Tryd.f7 T7 86 [126,209,298] [.p 65 [] [] [12]] (by kernel_rfl) (by simp [Tryd.f7];rfl) (by simp only [Ws,Wx];rfl)
@[simp] def w7_66:=Zam Tryd.prog Tryd.f7 T7 86 [126,209,298] [.p 66 [] [] [13,11]] (by kernel_rfl) (by simp [Tryd.f7];rfl) (by simp only [Ws,Wx];rfl)
@[simp] def w7_67:=Zam Tryd.prog Tryd.f7 T7 86 [126,209,298] [.p 67 [] [] [32,5]] (by kernel_rfl) (by simp [Tryd.f7];rfl) (by simp only [Ws,Wx];rfl)
@[simp] def w7_68:=Zam Tryd.prog Tryd.f7 T7 86 [126,209,298] [.p 68 [] [] [31,6]] (by kernel_rfl) (by simp [Tryd.f7];rfl) (by simp only [Ws,Wx];rfl)
@[simp] def w7_69:=Zam Tryd.prog Tryd.f7 T7 86 [126,209,298] [.p 69 [] [] [12]] (by kernel_rfl) (by simp [Tryd.f7];rfl) (by simp only [Ws,Wx];rfl)
@[simp] def w7_71:=Zam Tryd.prog Tryd.f7 T7 86 [126,209,298] [.p 71 [] [] [13,11]] (by kernel_rfl) (by simp [Tryd.f7];rfl) (by simp only [Ws,Wx];rfl)
@[simp] def w7_72:=Zam Tryd.prog Tryd.f7 T7 86 [126,209,298] [.p 72 [] [] [3,2]] (by kernel_rfl) (by simp [Tryd.f7];rfl) (by simp only [Ws,Wx];rfl)
theorem k7:Ze0 TT 7 (Zbj TT 7) [.cell 2 29] 1:=Zff Tryd.f7 T7 (by kernel_rfl) (by kernel_rfl) (by kernel_rfl)
theorem T8:TT 8=some Tryd.f8:=by kernel_rfl
@[simp] def bd8:=Zb5 Tryd.f8 T8 (by simp [Tryd.f8];rfl)
@[simp] def w8:=Zam Tryd.prog Tryd.f8 T8 78 [95,108,121,130,149,171,183,194,222,231,242,261,272,283,295,306,315,87] [.p 0 [2,4] [] [0],.p 1 [5] [] [],.p 2 [20,21,22,23,24,25,26,27] [] [1,5],.p 3 [30,31,32,33,34,6] [] [1,5],.p 4 [35,36,37,38,7] [] [2],.p 5 [39,40,41,42,8] [] [2],.p 6 [43,44,45,46,9] [] [2],.p 7 [47,48,49,50,51,52,53,54,55,56,57,58,59] [] [7,8,9],.p 8 [60] [] [2,4],.p 9 [61,62,63,64,10] [] [6,7],.p 10 [65,66,67,68,11] [] [6,8],.p 11 [69,70,71,72,12] [] [6,9],.p 12 [73,74,75,76,77] [] [1,5],.p 13 [] [95] [77],.p 14 [] [] [10,6,7],.p 15 [] [108] [77],.p 16 [] [] [10,6,7],.p 17 [] [121] [77],.p 18 [] [] [7,10,6],.p 19 [] [130] [77],.p 20 [] [] [7,10],.p 21 [] [149] [7,10],.d 22 [] [] [10,6,7] [(4,[13,19,21]),(11,[13]),(12,[13]),(17,[13,19])] [],.p 23 [] [171] [77],.p 24 [] [] [7,10,6,9],.p 25 [] [183] [77],.p 26 [13] [] [8,11],.p 27 [] [194] [13],.p 28 [14] [] [6,13],.d 29 [] [] [13,14] [(9,[15]),(13,[15])] [],.p 30 [] [] [8,11,13],.p 31 [] [222] [77],.p 32 [] [] [8,11,6],.p 33 [] [231] [77],.p 34 [15] [] [8,11],.p 35 [] [242] [15],.p 36 [] [] [15,6,8],.p 37 [] [] [8,11,15],.p 38 [] [261] [77],.p 39 [16] [] [8,11],.p 40 [] [272] [16],.p 41 [16] [] [16],.p 42 [16] [] [16],.p 43 [] [] [8,11,16],.p 44 [] [283] [77],.p 45 [] [] [8,11,6,7],.p 46 [] [295] [77],.p 47 [17] [] [9,12],.p 48 [] [306] [17],.p 49 [18] [] [17],.p 50 [] [315] [18],.p 51 [] [] [18,6,7],.p 52 [] [] [17,18],.p 53 [] [] [9,12,17],.p 54 [19] [] [8,11],.p 55 [] [87] [19],.p 56 [19] [] [19],.p 57 [] [] [8,11,19],.p 59 [] [] [8,2],.p 60 [] [] [9,2],.p 61 [28,29,5] [] [5],.p 62 [] [] [2,4]] (by kernel_rfl) (by simp [Tryd.f8];rfl) (by simp only [Ws,Wx];rfl)
@[simp] def w8_58:=Zam Tryd.prog Tryd.f8 T8 78 [95,108,121,130,149,171,183,194,222,231,242,261,272,283,295,306,315,87] [.p 58 [] [] [7,2]] (by kernel_rfl) (by simp [Tryd.f8];rfl) (by simp only [Ws,Wx];rfl)
theorem k8:Ze0 TT 8 (Zbj TT 8) [.cell 4 29] 2:=Zff Tryd.f8 T8 (by kernel_rfl) (by kernel_rfl) (by kernel_rfl)
theorem T10:TT 10=some Tryd.f10:=by kernel_rfl
@[simp] def bd10:=Zb5 Tryd.f10 T10 (by simp [Tryd.f10];rfl)
@[simp] def w10:=Zam Tryd.prog Tryd.f10 T10 25 [27,38,61,99,104,110,117,130,141,222,231,240,248,267,279,296,301,315,324,341,365] [.p 0 [1,2] [] [0],.p 1 [] [27] [1],.p 2 [2] [] [],.p 3 [3] [] [1],.p 4 [4] [] [1],.p 5 [5] [] [],.p 6 [] [38] [5,1],.p 7 [] [] [4,1,5],.d 8 [] [61] [1,3,5] [(1,[10]),(5,[10]),(9,[10])] [],.p 9 [2] [] [],.p 10 [] [99] [3,1,5],.p 11 [2] [] [],.p 12 [5] [] [5],.p 13 [] [104] [3],.p 14 [2] [] [],.p 15 [6] [] [4],.p 16 [7] [] [],.p 17 [] [110] [7,6],.p 18 [] [117] [6,7],.p 19 [2] [] [],.p 20 [7] [] [7],.p 21 [8] [] [1],.p 22 [9] [] [1],.p 23 [10] [] [],.p 24 [] [130] [10,1],.p 25 [11] [] [],.p 26 [12] [] [],.p 27 [] [141] [12,1,10],.d 28 [13] [] [1,10,12] [(1,[13,14]),(3,[13,14]),(7,[13,14]),(10,[13,14]),(12,[13,14])] [0,1,2,3,4,5,6,7,8,9,10,11,12,13,14],.p 29 [] [] [8,1,12,10],.p 30 [] [] [9,1,10,12],.p 31 [14] [] [13],.p 32 [] [222] [14,11,3,13,10],.p 33 [2] [] [],.p 34 [11] [] [11,14],.p 35 [12] [] [12],.p 36 [10] [] [10],.p 37 [15] [] [],.p 38 [16] [] [],.p 39 [] [231] [16,1],.p 40 [] [240] [1,16],.p 41 [] [248] [1,16,15],.p 42 [2] [] [],.p 43 [] [] [1,16,15],.p 44 [16] [] [16],.p 45 [17] [] [4],.p 46 [18] [] [1,8,9,17],.p 47 [19] [] [],.p 48 [] [267] [19,1],.p 49 [20] [] [1,19],.p 50 [21] [] [],.p 51 [] [279] [21,20],.d 52 [22] [] [1,20,21] [(1,[9,10]),(3,[9,10]),(6,[9,10]),(8,[9,10])] [0,1,2,3,4,5,6,7,8,9,10],.p 53 [23] [] [22],.p 54 [24] [] [],.p 55 [] [296] [24,23],.p 56 [] [301] [22],.d 57 [] [315] [18,23,3,19,24] [(0,[12]),(4,[12]),(8,[12]),(11,[12])] [],.p 58 [2] [] [],.d 59 [] [324] [18,23,24,19,21] [(0,[7]),(4,[7])] [],.p 60 [2] [] [],.p 61 [24] [] [24],.p 62 [] [341] [18,22,19,21],.p 63 [2] [] [],.p 64 [21] [] [21],.p 65 [] [365] [18,20,19],.p 66 [2] [] [],.p 67 [19] [] [19],.p 68 [2] [] []] (by kernel_rfl) (by simp [Tryd.f10];rfl) (by simp only [Ws,Wx];rfl)
theorem k10:Ze0 TT 10 (Zbj TT 10) [.tmp 2] 1:=Zff Tryd.f10 T10 (by kernel_rfl) (by kernel_rfl) (by kernel_rfl)
theorem T11:TT 11=some Tryd.f11:=by kernel_rfl
@[simp] def bd11:=Zb5 Tryd.f11 T11 (by simp [Tryd.f11];rfl)
@[simp] def w11:=Zam Tryd.prog Tryd.f11 T11 5 [26,72,80] [.p 0 [1,2] [] [0],.p 1 [] [26] [1],.p 2 [2] [] [],.p 3 [3] [] [1],.p 5 [2] [] [],.p 7 [] [80] [4,1],.p 8 [2] [] [],.p 9 [] [] [3,1],.p 10 [2] [] [1,3]] (by kernel_rfl) (by simp [Tryd.f11];rfl) (by simp only [Ws,Wx];rfl)
@[simp] def w11_4:=Zam Tryd.prog Tryd.f11 T11 5 [26,72,80] [.p 4 [] [72] [1,3]] (by kernel_rfl) (by simp [Tryd.f11];rfl) (by simp only [Ws,Wx];rfl)
@[simp] def w11_6:=Zam Tryd.prog Tryd.f11 T11 5 [26,72,80] [.p 6 [4] [] [3]] (by kernel_rfl) (by simp [Tryd.f11];rfl) (by simp only [Ws,Wx];rfl)
theorem k11:Ze0 TT 11 (Zbj TT 11) [.tmp 2] 1:=Zff Tryd.f11 T11 (by kernel_rfl) (by kernel_rfl) (by kernel_rfl)
theorem T13:TT 13=some Tryd.f13:=by kernel_rfl
@[simp] def bd13:=Zb5 Tryd.f13 T13 (by simp [Tryd.f13];rfl)
@[simp] def w13:=Zam Tryd.prog Tryd.f13 T13 17 [17,28] [.p 0 [1,2] [] [0],.p 3 [] [17] [16],.p 4 [3] [] [3,1],.p 5 [] [28] [16],.p 6 [3] [] [3,1],.p 7 [2] [] [3]] (by kernel_rfl) (by simp [Tryd.f13];rfl) (by simp only [Ws,Wx];rfl)
@[simp] def w13_1:=Zam Tryd.prog Tryd.f13 T13 17 [17,28] [.d 1 [5,6,7,8,10,11,12,9,13,4,14,3] [] [1] [(1,[6,7]),(3,[6,7]),(5,[6]),(8,[9,10])] [1,2,3,4,6,7,8,5,9,0,10,11]] (by kernel_rfl) (by simp [Tryd.f13];rfl) (by simp only [Ws,Wx];rfl)
@[simp] def w13_2:=Zam Tryd.prog Tryd.f13 T13 17 [17,28] [.p 2 [15,16] [] [1]] (by kernel_rfl) (by simp [Tryd.f13];rfl) (by simp only [Ws,Wx];rfl)
theorem k13:Ze0 TT 13 (Zbj TT 13) [.tmp 2] 1:=Zff Tryd.f13 T13 (by kernel_rfl) (by kernel_rfl) (by kernel_rfl)
theorem T15:TT 15=some Tryd.f15:=by kernel_rfl
@[simp] def bd15:=Zb5 Tryd.f15 T15 (by simp [Tryd.f15];rfl)
@[simp] def w15:=Zam Tryd.prog Tryd.f15 T15 3 [8] [.p 0 [2] [] [],.p 1 [] [8] [0],.p 2 [2] [] [],.p 3 [2] [] [0]] (by kernel_rfl) (by simp [Tryd.f15];rfl) (by simp only [Ws,Wx];rfl)
theorem k15:Ze0 TT 15 (Zbj TT 15) [.tmp 2] 1:=Zff Tryd.f15 T15 (by kernel_rfl) (by kernel_rfl) (by kernel_rfl)
theorem T16:TT 16=some Tryd.f16:=by kernel_rfl
@[simp] def bd16:=Zb5 Tryd.f16 T16 (by simp [Tryd.f16];rfl)
@[simp] def w16:=Zam Tryd.prog Tryd.f16 T16 5 [9] [.p 0 [4] [] [],.p 1 [0] [] [0,1],.p 2 [] [9] [0],.p 3 [0] [] [0,1],.p 4 [4] [] [0]] (by kernel_rfl) (by simp [Tryd.f16];rfl) (by simp only [Ws,Wx];rfl)
theorem k16:Ze0 TT 16 (Zbj TT 16) [.tmp 4] 2:=Zff Tryd.f16 T16 (by kernel_rfl) (by kernel_rfl) (by kernel_rfl)
theorem T17:TT 17=some Tryd.f17:=by kernel_rfl
@[simp] def bd17:=Zb5 Tryd.f17 T17 (by simp [Tryd.f17];rfl)
@[simp] def w17:=Zam Tryd.prog Tryd.f17 T17 5 [5,5,5,5,5,5,5,5,5,5,5,5,23,23,23,23,23,23,33,38,53] [.p 0 [1,2] [] [0],.p 1 [3,4] [] [1],.p 2 [] [5] [4],.p 3 [] [5] [4],.p 4 [] [5] [4],.p 5 [] [5] [4],.p 6 [] [5] [4],.p 7 [] [5] [4],.p 8 [] [5] [4],.p 9 [] [5] [4],.p 10 [] [5] [4],.p 11 [] [5] [4],.p 12 [] [5] [4],.p 13 [] [5] [4],.p 14 [2] [] [1],.p 15 [] [23] [4],.p 16 [] [23] [4],.p 17 [] [23] [4],.p 18 [] [23] [4],.p 19 [] [23] [4],.p 20 [] [23] [4],.p 21 [2] [] [1],.p 22 [] [33] [4],.p 23 [] [38] [1],.p 24 [2] [] [1],.d 25 [2] [] [1] [(1,[8]),(3,[8]),(5,[8]),(7,[8])] [0,1,2,3,4,5,6,7,8,9],.p 26 [] [53] [4],.p 27 [2] [] [1],.p 28 [2] [] []] (by kernel_rfl) (by simp [Tryd.f17];rfl) (by simp only [Ws,Wx];rfl)
theorem k17:Ze0 TT 17 (Zbj TT 17) [.tmp 2] 1:=Zff Tryd.f17 T17 (by kernel_rfl) (by kernel_rfl) (by kernel_rfl)
theorem T18:TT 18=some Tryd.f18:=by kernel_rfl
theorem T19:TT 19=some Tryd.f19:=by kernel_rfl
@[simp] def bd19:=Zb5 Tryd.f19 T19 (by simp [Tryd.f19];rfl)
@[simp] def w19:=Zam Tryd.prog Tryd.f19 T19 5 [] [.p 0 [3,4] [] [0]] (by kernel_rfl) (by simp [Tryd.f19];rfl) (by simp only [Ws,Wx];rfl)
@[simp] def w19_1:=Zam Tryd.prog Tryd.f19 T19 5 [] [.p 1 [] [] [3,1]] (by kernel_rfl) (by simp [Tryd.f19];rfl) (by simp only [Ws,Wx];rfl)
@[simp] def w19_2:=Zam Tryd.prog Tryd.f19 T19 5 [] [.p 2 [] [] [1,2]] (by kernel_rfl) (by simp [Tryd.f19];rfl) (by simp only [Ws,Wx];rfl)
@[simp] def w19_3:=Zam Tryd.prog Tryd.f19 T19 5 [] [.p 3 [4] [] [1]] (by kernel_rfl) (by simp [Tryd.f19];rfl) (by simp only [Ws,Wx];rfl)
theorem k19:Ze0 TT 19 (Zbj TT 19) [.tmp 4] 3:=Zff Tryd.f19 T19 (by kernel_rfl) (by kernel_rfl) (by kernel_rfl)
theorem T20:TT 20=some Tryd.f20:=by kernel_rfl
@[simp] def bd20:=Zb5 Tryd.f20 T20 (by simp [Tryd.f20];rfl)
@[simp] def w20:=Zam Tryd.prog Tryd.f20 T20 5 [9] [.p 0 [4] [] [],.p 1 [] [9] [1,2],.p 2 [4] [] [],.p 3 [] [] [1],.p 4 [4] [] [2,1,0]] (by kernel_rfl) (by simp [Tryd.f20];rfl) (by simp only [Ws,Wx];rfl)
theorem k20:Ze0 TT 20 (Zbj TT 20) [.tmp 4] 3:=Zff Tryd.f20 T20 (by kernel_rfl) (by kernel_rfl) (by kernel_rfl)
theorem T21:TT 21=some Tryd.f21:=by kernel_rfl
@[simp] def bd21:=Zb5 Tryd.f21 T21 (by simp [Tryd.f21];rfl)
@[simp] def w21:=Zam Tryd.prog Tryd.f21 T21 6 [13] [.p 0 [3] [] [],.p 1 [4] [] [0],.d 4 [] [] [1,2,4] [(1,[6,9,10]),(2,[6,9]),(3,[6]),(4,[6]),(5,[6]),(8,[9])] [0,1,2,3,4,5,6,7,8,9,10,11,12],.p 5 [5] [] [5]] (by kernel_rfl) (by simp [Tryd.f21];rfl) (by simp only [Ws,Wx];rfl)
@[simp] def w21_2:=Zam Tryd.prog Tryd.f21 T21 6 [13] [.p 2 [5] [] [1]] (by kernel_rfl) (by simp [Tryd.f21];rfl) (by simp only [Ws,Wx];rfl)
@[simp] def w21_3:=Zam Tryd.prog Tryd.f21 T21 6 [13] [.p 3 [] [13] [5]] (by kernel_rfl) (by simp [Tryd.f21];rfl) (by simp only [Ws,Wx];rfl)
@[simp] def w21_6:=Zam Tryd.prog Tryd.f21 T21 6 [13] [.p 6 [] [] [2,4]] (by kernel_rfl) (by simp [Tryd.f21];rfl) (by simp only [Ws,Wx];rfl)
@[simp] def w21_7:=Zam Tryd.prog Tryd.f21 T21 6 [13] [.p 7 [] [] [4,0]] (by kernel_rfl) (by simp [Tryd.f21];rfl) (by simp only [Ws,Wx];rfl)
@[simp] def w21_8:=Zam Tryd.prog Tryd.f21 T21 6 [13] [.p 8 [3] [] [0]] (by kernel_rfl) (by simp [Tryd.f21];rfl) (by simp only [Ws,Wx];rfl)
theorem k21:Ze0 TT 21 (Zbj TT 21) [.tmp 3] 3:=Zff Tryd.f21 T21 (by kernel_rfl) (by kernel_rfl) (by kernel_rfl)
theorem T22:TT 22=some Tryd.f22:=by kernel_rfl
@[simp] def bd22:=Zb5 Tryd.f22 T22 (by simp [Tryd.f22];rfl)
@[simp] def w22:=Zam Tryd.prog Tryd.f22 T22 9 [19,48,61,73,85,96,106,122,131] [.p 0 [5] [] [0],.p 1 [] [19] [5,1],.d 2 [6] [] [0,2] [(0,[4,8]),(1,[4]),(2,[4]),(3,[4]),(6,[8])] [],.d 3 [7] [] [0,2] [(0,[4,8]),(1,[4]),(2,[4]),(3,[4]),(6,[8])] [],.p 4 [8] [] [0],.p 5 [] [48] [8],.p 7 [] [61] [8],.d 8 [] [] [3,0,2] [(0,[3,6,7,8]),(1,[3,6]),(2,[3])] [0,1,2,3,4,5,6,7,8,9],.p 9 [] [73] [8],.d 10 [] [] [3,6,0,2] [(0,[4,6,7,8]),(1,[4,6]),(3,[4])] [0,1,2,3,4,5,6,7,8,9],.p 11 [] [85] [8],.d 12 [] [] [3,6,7,2] [(0,[5,6,7]),(1,[5])] [0,1,2,3,4,5,6,7,8],.p 13 [] [96] [8],.d 14 [] [] [3,6,0,7] [(0,[3,6]),(2,[3])] [],.p 15 [] [106] [8],.d 16 [] [] [3,6,7,0,2] [(0,[7,10,12]),(3,[7,10]),(4,[7]),(5,[7]),(6,[7]),(9,[10])] [0,1,2,3,4,5,6,7,8,9,10,11,12],.p 17 [] [122] [8],.d 18 [] [] [3,6,4] [(0,[3,5]),(2,[3])] [],.p 19 [] [131] [8],.d 20 [] [] [3,4] [(0,[2,4]),(1,[2])] [],.d 21 [] [] [3,0,6,2] [(0,[3,7,8,9]),(1,[3,7]),(2,[3])] [0,1,2,3,4,5,6,7,8,9,10]] (by kernel_rfl) (by simp [Tryd.f22];rfl) (by simp only [Ws,Wx];rfl)
@[simp] def w22_6:=Zam Tryd.prog Tryd.f22 T22 9 [19,48,61,73,85,96,106,122,131] [.d 6 [] [] [3,8,6,7,2] [(0,[7,8,9]),(1,[7])] [0,1,2,3,4,5,6,7,8,9,10]] (by kernel_rfl) (by simp [Tryd.f22];rfl) (by simp only [Ws,Wx];rfl)
@[simp] def w22_22:=Zam Tryd.prog Tryd.f22 T22 9 [19,48,61,73,85,96,106,122,131] [.p 22 [5] [] [5]] (by kernel_rfl) (by simp [Tryd.f22];rfl) (by simp only [Ws,Wx];rfl)
theorem k22:Ze0 TT 22 (Zbj TT 22) [] 5:=Zff Tryd.f22 T22 (by kernel_rfl) (by kernel_rfl) (by kernel_rfl)
theorem T23:TT 23=some Tryd.f23:=by kernel_rfl
@[simp] def bd23:=Zb5 Tryd.f23 T23 (by simp [Tryd.f23];rfl)
@[simp] def w23:=Zam Tryd.prog Tryd.f23 T23 5 [] [.p 0 [3,4] [] [0]] (by kernel_rfl) (by simp [Tryd.f23];rfl) (by simp only [Ws,Wx];rfl)
@[simp] def w23_1:=Zam Tryd.prog Tryd.f23 T23 5 [] [.p 1 [] [] [1,3]] (by kernel_rfl) (by simp [Tryd.f23];rfl) (by simp only [Ws,Wx];rfl)
@[simp] def w23_2:=Zam Tryd.prog Tryd.f23 T23 5 [] [.p 2 [] [] [1,3]] (by kernel_rfl) (by simp [Tryd.f23];rfl) (by simp only [Ws,Wx];rfl)
@[simp] def w23_3:=Zam Tryd.prog Tryd.f23 T23 5 [] [.p 3 [] [] [3,2]] (by kernel_rfl) (by simp [Tryd.f23];rfl) (by simp only [Ws,Wx];rfl)
@[simp] def w23_4:=Zam Tryd.prog Tryd.f23 T23 5 [] [.p 4 [] [] [1]] (by kernel_rfl) (by simp [Tryd.f23];rfl) (by simp only [Ws,Wx];rfl)
@[simp] def w23_5:=Zam Tryd.prog Tryd.f23 T23 5 [] [.p 5 [4] [] [2]] (by kernel_rfl) (by simp [Tryd.f23];rfl) (by simp only [Ws,Wx];rfl)
theorem k23:Ze0 TT 23 (Zbj TT 23) [.tmp 4] 3:=Zff Tryd.f23 T23 (by kernel_rfl) (by kernel_rfl) (by kernel_rfl)
theorem T26:TT 26=some Tryd.f26:=by kernel_rfl
@[simp] def bd26:=Zb5 Tryd.f26 T26 (by simp [Tryd.f26];rfl)
@[simp] def w26:=Zam Tryd.prog Tryd.f26 T26 255 [255,257,259,304,307,319,324,346] [.p 0 [1,2] [] [0],.p 1 [18,19,20,21,22,23,24,25,26,27,28,29,30,31,32,33,34,35,36,37,38,39] [] [1],.p 2 [2] [] [],.p 3 [3] [] [],.p 4 [40,41,42,43,44] [] [3,1],.p 5 [47,48,49,50,51,52,53,54,55,56,57,58,59,60,61,62,63,64] [] [1,3],.p 6 [2] [] [],.p 7 [4] [] [],.p 8 [65,66,67,68,69,70,71,72,73] [] [4,1,3],.p 9 [76,77,78,79,80,81,82,83,84,85,86,87,88,89,90,91,92,93,94,95,96,97,98,99,100,101] [] [1,3,4],.p 10 [2] [] [],.p 11 [74,75,4] [] [4],.p 12 [102,103,104,105,106,107,5] [] [1,3],.p 13 [6] [] [],.p 14 [108,109,110,111] [] [6,5],.d 15 [114,115,116,117,118,119,120,121,122,123,124,125,126,127,128,129,130,131,132,133,134,135] [] [1,5,6] [(3,[7]),(5,[7]),(6,[7]),(11,[19]),(15,[19]),(18,[19])] [],.p 16 [2] [] [],.p 17 [112,113,6] [] [6],.p 18 [45,46,3] [] [3],.p 19 [7] [] [],.p 20 [136,137,138,139,140] [] [7,1],.p 21 [143,144,145,146,147,8] [] [1,7],.p 22 [148,149,150,151,152,153,154,155,156,157,158,159,160,161,162,163,164,165,166,167,168,169,170,171,172,173,174,175,176,177,178,179,180,181,182,183,184,185,186,187,188,189,190,191,192,193,194,195,196,197,198,199,200,201,202,203,204,205,206] [] [8,1],.p 23 [2] [] [],.p 25 [10] [] [],.p 26 [209,210,211,212] [] [10,9],.d 27 [215,216,217,218,219,220,221,222,223,224,225,226,227,228,229,230,231,232,233,234,235,236] [] [1,9,10] [(3,[7]),(5,[7]),(6,[7]),(11,[19]),(15,[19]),(18,[19])] [],.p 28 [2] [] [],.p 29 [213,214,10] [] [10],.p 30 [141,142,7] [] [7],.p 31 [237,238,239,240,11] [] [1],.p 32 [12] [] [],.p 33 [13] [] [],.p 34 [241,242,243,244,245] [] [13,1],.p 35 [248,249,250,251,252,14] [] [1,13],.p 36 [15] [] [],.p 37 [253,254] [] [14],.p 38 [] [255] [254],.p 39 [15] [] [],.p 40 [] [257] [254],.p 41 [15] [] [],.p 42 [] [259] [254],.p 43 [15] [] [],.p 44 [2] [] [],.p 45 [] [304] [15,14,1],.p 46 [2] [] [],.p 48 [] [307] [16,15],.d 49 [] [319] [14,16,1] [(1,[8]),(4,[8]),(6,[8]),(7,[8])] [],.p 50 [2] [] [],.p 51 [16] [] [16],.p 52 [17] [] [],.p 53 [] [324] [17,14],.d 54 [] [346] [1,11,14,17] [(1,[8]),(4,[8]),(6,[8]),(7,[8]),(13,[20]),(16,[20]),(18,[20])] [],.p 55 [2] [] [],.p 56 [] [] [11,14,17],.p 57 [12] [] [12],.p 58 [17] [] [17],.p 59 [246,247,13] [] [13],.p 60 [2] [] [12,1]] (by kernel_rfl) (by simp [Tryd.f26];rfl) (by simp only [Ws,Wx];rfl)
@[simp] def w26_24:=Zam Tryd.prog Tryd.f26 T26 255 [255,257,259,304,307,319,324,346] [.p 24 [207,208,9] [] [8]] (by kernel_rfl) (by simp [Tryd.f26];rfl) (by simp only [Ws,Wx];rfl)
@[simp] def w26_47:=Zam Tryd.prog Tryd.f26 T26 255 [255,257,259,304,307,319,324,346] [.p 47 [16] [] []] (by kernel_rfl) (by simp [Tryd.f26];rfl) (by simp only [Ws,Wx];rfl)
theorem k26:Ze0 TT 26 (Zbj TT 26) [.tmp 2] 1:=Zff Tryd.f26 T26 (by kernel_rfl) (by kernel_rfl) (by kernel_rfl)
theorem T27:TT 27=some Tryd.f27:=by kernel_rfl
@[simp] def bd27:=Zb5 Tryd.f27 T27 (by simp [Tryd.f27];rfl)
@[simp] def w27:=Zam Tryd.prog Tryd.f27 T27 7 [15,26] [.p 0 [1,2] [] [0],.p 1 [3] [] [1],.p 2 [4] [] [],.p 3 [] [15] [4,1],.p 4 [5] [] [],.p 5 [] [26] [5,1,4],.p 6 [6] [] [1,4,5],.p 7 [] [] [3,6,4],.p 8 [5] [] [5],.p 9 [4] [] [4],.p 10 [2] [] [3]] (by kernel_rfl) (by simp [Tryd.f27];rfl) (by simp only [Ws,Wx];rfl)
theorem k27:Ze0 TT 27 (Zbj TT 27) [.tmp 2] 1:=Zff Tryd.f27 T27 (by kernel_rfl) (by kernel_rfl) (by kernel_rfl)
theorem T28:TT 28=some Tryd.f28:=by kernel_rfl
@[simp] def bd28:=Zb5 Tryd.f28 T28 (by simp [Tryd.f28];rfl)
@[simp] def w28:=Zam Tryd.prog Tryd.f28 T28 6 [10,14,25] [.p 0 [4] [] [],.p 1 [] [10] [0,1],.p 2 [4] [] [],.p 3 [5] [] [],.p 4 [] [14] [5,0],.p 5 [] [25] [0,1,5],.p 6 [4] [] [],.p 7 [5] [] [5],.p 8 [4] [] []] (by kernel_rfl) (by simp [Tryd.f28];rfl) (by simp only [Ws,Wx];rfl)
theorem k28:Ze0 TT 28 (Zbj TT 28) [.tmp 4] 2:=Zff Tryd.f28 T28 (by kernel_rfl) (by kernel_rfl) (by kernel_rfl)
theorem T29:TT 29=some Tryd.f29:=by kernel_rfl
@[simp] def bd29:=Zb5 Tryd.f29 T29 (by simp [Tryd.f29];rfl)
@[simp] def w29:=Zam Tryd.prog Tryd.f29 T29 12 [17,26,38,57] [.p 0 [6] [] [],.p 1 [7] [] [0],.p 2 [] [17] [1,2],.p 3 [6] [] [7],.p 4 [] [] [7,1],.p 5 [8] [] [1],.p 6 [] [26] [8],.p 7 [9] [] [8],.p 8 [8] [] [8],.p 9 [10] [] [],.p 10 [] [38] [10,0,9],.p 11 [11] [] [0,9,10],.p 12 [] [57] [2,7,11],.p 13 [] [] [7,11],.p 14 [8] [] [8,11],.p 15 [10] [] [10],.p 16 [6] [] [7]] (by kernel_rfl) (by simp [Tryd.f29];rfl) (by simp only [Ws,Wx];rfl)
theorem k29:Ze0 TT 29 (Zbj TT 29) [.tmp 6] 3:=Zff Tryd.f29 T29 (by kernel_rfl) (by kernel_rfl) (by kernel_rfl)
theorem T30:TT 30=some Tryd.f30:=by kernel_rfl
@[simp] def bd30:=Zb5 Tryd.f30 T30 (by simp [Tryd.f30];rfl)
@[simp] def w30:=Zam Tryd.prog Tryd.f30 T30 9 [15,31] [.p 0 [4] [] [],.p 1 [5] [] [0],.p 2 [6] [] [],.p 3 [] [15] [6,0],.p 4 [7] [] [0,1,6],.p 5 [] [] [5,6,0],.p 6 [8] [] [],.p 7 [] [31] [8,0],.d 8 [] [] [5,6,7,8] [(3,[11]),(8,[11])] [],.p 9 [8] [] [8],.p 10 [6] [] [6],.p 11 [4] [] [5]] (by kernel_rfl) (by simp [Tryd.f30];rfl) (by simp only [Ws,Wx];rfl)
theorem k30:Ze0 TT 30 (Zbj TT 30) [.tmp 4] 2:=Zff Tryd.f30 T30 (by kernel_rfl) (by kernel_rfl) (by kernel_rfl)
theorem T31:TT 31=some Tryd.f31:=by kernel_rfl
@[simp] def bd31:=Zb5 Tryd.f31 T31 (by simp [Tryd.f31];rfl)
@[simp] def w31:=Zam Tryd.prog Tryd.f31 T31 9 [] [.p 0 [4,8] [] [0],.p 1 [8] [] [3,4,1,2]] (by kernel_rfl) (by simp [Tryd.f31];rfl) (by simp only [Ws,Wx];rfl)
theorem k31:Ze0 TT 31 (Zbj TT 31) [.tmp 8] 4:=Zff Tryd.f31 T31 (by kernel_rfl) (by kernel_rfl) (by kernel_rfl)
theorem T32:TT 32=some Tryd.f32:=by kernel_rfl
@[simp] def bd32:=Zb5 Tryd.f32 T32 (by simp [Tryd.f32];rfl)
@[simp] def w32:=Zam Tryd.prog Tryd.f32 T32 11 [21,32] [.p 0 [4,8] [] [0],.p 1 [9] [] [4,1],.p 2 [10] [] [],.p 3 [] [21] [10,9],.d 4 [] [32] [4,9,10,2,3] [(0,[7]),(4,[7])] [],.p 5 [8] [] [],.p 6 [10] [] [10],.p 7 [8] [] []] (by kernel_rfl) (by simp [Tryd.f32];rfl) (by simp only [Ws,Wx];rfl)
theorem k32:Ze0 TT 32 (Zbj TT 32) [.tmp 8] 4:=Zff Tryd.f32 T32 (by kernel_rfl) (by kernel_rfl) (by kernel_rfl)
theorem T33:TT 33=some Tryd.f33:=by kernel_rfl
@[simp] def bd33:=Zb5 Tryd.f33 T33 (by simp [Tryd.f33];rfl)
@[simp] def w33:=Zam Tryd.prog Tryd.f33 T33 8 [10,16] [.p 0 [6] [] [],.p 1 [7] [] [],.p 2 [] [10] [7,1],.p 3 [] [16] [2,7],.p 4 [6] [] [],.p 5 [7] [] [7],.p 6 [6] [] []] (by kernel_rfl) (by simp [Tryd.f33];rfl) (by simp only [Ws,Wx];rfl)
theorem k33:Ze0 TT 33 (Zbj TT 33) [.tmp 6] 3:=Zff Tryd.f33 T33 (by kernel_rfl) (by kernel_rfl) (by kernel_rfl)
theorem T34:TT 34=some Tryd.f34:=by kernel_rfl
@[simp] def bd34:=Zb5 Tryd.f34 T34 (by simp [Tryd.f34];rfl)
@[simp] def w34:=Zam Tryd.prog Tryd.f34 T34 30 [30,56] [.p 0 [4] [] [],.p 1 [8,9,10,11,12,13,14,15,5] [] [0,1],.p 3 [4] [] [],.p 4 [26,27,28,29] [] [5],.p 5 [] [30] [29,28],.p 6 [7] [] [27,29],.p 7 [] [56] [0,7],.p 8 [4] [] [],.p 9 [29] [] [29],.p 10 [4] [] []] (by kernel_rfl) (by simp [Tryd.f34];rfl) (by simp only [Ws,Wx];rfl)
@[simp] def w34_2:=Zam Tryd.prog Tryd.f34 T34 30 [30,56] [.p 2 [16,17,18,19,20,21,22,23,24,25] [] [5]] (by kernel_rfl) (by simp [Tryd.f34];rfl) (by simp only [Ws,Wx];rfl)
theorem k34:Ze0 TT 34 (Zbj TT 34) [.tmp 4] 2:=Zff Tryd.f34 T34 (by kernel_rfl) (by kernel_rfl) (by kernel_rfl)
theorem T35:TT 35=some Tryd.f35:=by kernel_rfl
@[simp] def bd35:=Zb5 Tryd.f35 T35 (by simp [Tryd.f35];rfl)
@[simp] def w35:=Zam Tryd.prog Tryd.f35 T35 62 [62,84,114] [.p 0 [2] [] [],.d 1 [12,13,14,15,16,17,18,19,21,22,23,24,25,26,20,28,29,27,30,31] [] [0] [(6,[14]),(7,[14]),(12,[14,17]),(13,[14,17,18])] [0,1,2,3,4,5,6,7,9,10,11,12,13,14,8,16,17,18,15,19,20,21],.p 2 [32,33,34,35,36,37] [] [0],.p 3 [38] [] [37,36],.p 4 [39,3] [] [37],.p 5 [40,41,42,43,44,45] [] [0,3],.p 6 [46,37] [] [37],.p 7 [4] [] [],.p 8 [47,48,49,50,51,52,53] [] [0],.p 9 [54] [] [53,52],.p 10 [55,56,57,6,5] [] [51,53],.p 11 [7] [] [],.p 12 [58,59,60,61] [] [6],.p 13 [] [62] [61,60],.p 14 [8,9] [] [59,61],.p 15 [] [84] [0,9],.p 16 [2] [] [],.p 17 [10] [] [0,9],.p 18 [11] [] [10],.p 19 [] [114] [7,10,5,11],.p 20 [2] [] [],.p 21 [7] [] [11],.d 22 [] [] [0,9,5,8] [(3,[13]),(8,[13])] [],.p 23 [4] [] [4],.p 24 [61] [] [61],.p 25 [53] [] [53],.p 26 [2] [] [4,0]] (by kernel_rfl) (by simp [Tryd.f35];rfl) (by simp only [Ws,Wx];rfl)
theorem k35:Ze0 TT 35 (Zbj TT 35) [.tmp 2] 1:=Zff Tryd.f35 T35 (by kernel_rfl) (by kernel_rfl) (by kernel_rfl)
theorem T36:TT 36=some Tryd.f36:=by kernel_rfl
@[simp] def bd36:=Zb5 Tryd.f36 T36 (by simp [Tryd.f36];rfl)
@[simp] def w36:=Zam Tryd.prog Tryd.f36 T36 44 [44,50,72] [.p 0 [4] [] [],.p 1 [6,7,8,9,10,11,12,13,5] [] [0,1],.d 2 [14,15,16,17,18,19,20,21,22,23,24,25,26,27,28,29,30,31,32,33,34,35,36,37,38,39,40,41] [] [5,0] [(1,[2]),(6,[7]),(13,[14]),(17,[24]),(22,[24]),(23,[24])] [],.p 3 [4] [] [],.p 4 [42,43] [] [5],.p 6 [4] [] [5],.p 7 [] [50] [43],.p 8 [4] [] [5,0,1],.p 9 [] [72] [43],.p 10 [4] [] [0,1,5],.p 11 [4] [] []] (by kernel_rfl) (by simp [Tryd.f36];rfl) (by simp only [Ws,Wx];rfl)
@[simp] def w36_5:=Zam Tryd.prog Tryd.f36 T36 44 [44,50,72] [.p 5 [] [44] [43]] (by kernel_rfl) (by simp [Tryd.f36];rfl) (by simp only [Ws,Wx];rfl)
theorem k36:Ze0 TT 36 (Zbj TT 36) [.tmp 4] 2:=Zff Tryd.f36 T36 (by kernel_rfl) (by kernel_rfl) (by kernel_rfl)
theorem T37:TT 37=some Tryd.f37:=by kernel_rfl
@[simp] def bd37:=Zb5 Tryd.f37 T37 (by simp [Tryd.f37];rfl)
@[simp] def w37:=Zam Tryd.prog Tryd.f37 T37 35 [35,41,54] [.p 0 [4] [] [],.p 1 [8,9,10,11,12,13,14,15,5] [] [0,1],.p 2 [16,17,18,19] [] [5],.p 3 [20] [] [19,18],.p 4 [21,22,7] [] [17,19],.p 5 [23,24,25,26,27,28,29,30,31] [] [7,0],.p 6 [4] [] [],.p 7 [32,19] [] [19],.p 8 [33,34] [] [5],.p 9 [] [35] [34],.p 10 [4] [] [5],.p 11 [] [41] [34],.p 13 [] [54] [34],.p 15 [4] [] []] (by kernel_rfl) (by simp [Tryd.f37];rfl) (by simp only [Ws,Wx];rfl)
@[simp] def w37_12:=Zam Tryd.prog Tryd.f37 T37 35 [35,41,54] [.p 12 [4] [] [0,5]] (by kernel_rfl) (by simp [Tryd.f37];rfl) (by simp only [Ws,Wx];rfl)
@[simp] def w37_14:=Zam Tryd.prog Tryd.f37 T37 35 [35,41,54] [.d 14 [4] [] [5,0] [(1,[13]),(2,[13]),(6,[13]),(11,[13]),(12,[13])] []] (by kernel_rfl) (by simp [Tryd.f37];rfl) (by simp only [Ws,Wx];rfl)
theorem k37:Ze0 TT 37 (Zbj TT 37) [.tmp 4] 2:=Zff Tryd.f37 T37 (by kernel_rfl) (by kernel_rfl) (by kernel_rfl)
theorem T38:TT 38=some Tryd.f38:=by kernel_rfl
@[simp] def bd38:=Zb5 Tryd.f38 T38 (by simp [Tryd.f38];rfl)
@[simp] def w38:=Zam Tryd.prog Tryd.f38 T38 57 [57,75] [.p 0 [4] [] [],.p 1 [10,11] [] [1],.p 2 [12,13,14,15,16,17,18] [] [0],.p 3 [19] [] [18,17],.p 4 [20,21,22,5,6] [] [16,18],.p 5 [23,24,25,26,27,28,29,30,31,32,33,34,35,36,37,38,39,40,41,42,43] [] [0,5,6],.p 6 [4] [] [],.p 7 [44,18] [] [18],.p 9 [53,54,55,56] [] [7],.p 10 [] [57] [56,55],.p 11 [9] [] [54,56],.p 12 [] [75] [7,0,9],.p 13 [4] [] [],.p 14 [56] [] [56],.p 15 [4] [] []] (by kernel_rfl) (by simp [Tryd.f38];rfl) (by simp only [Ws,Wx];rfl)
@[simp] def w38_8:=Zam Tryd.prog Tryd.f38 T38 57 [57,75] [.p 8 [45,46,47,48,49,50,51,52,7] [] [0,1]] (by kernel_rfl) (by simp [Tryd.f38];rfl) (by simp only [Ws,Wx];rfl)
theorem k38:Ze0 TT 38 (Zbj TT 38) [.tmp 4] 2:=Zff Tryd.f38 T38 (by kernel_rfl) (by kernel_rfl) (by kernel_rfl)
theorem T39:TT 39=some Tryd.f39:=by kernel_rfl
@[simp] def bd39:=Zb5 Tryd.f39 T39 (by simp [Tryd.f39];rfl)
@[simp] def w39:=Zam Tryd.prog Tryd.f39 T39 3 [] [.p 0 [2] [] [],.p 1 [2] [] [0]] (by kernel_rfl) (by simp [Tryd.f39];rfl) (by simp only [Ws,Wx];rfl)
theorem k39:Ze0 TT 39 (Zbj TT 39) [.tmp 2] 1:=Zff Tryd.f39 T39 (by kernel_rfl) (by kernel_rfl) (by kernel_rfl)
theorem T40:TT 40=some Tryd.f40:=by kernel_rfl
@[simp] def bd40:=Zb5 Tryd.f40 T40 (by simp [Tryd.f40];rfl)
@[simp] def w40:=Zam Tryd.prog Tryd.f40 T40 71 [71,78,84,94] [.p 0 [1,2] [] [0],.d 1 [17,18,19,20,3,4] [] [1] [(0,[1]),(2,[1,3])] [],.d 2 [21,22,23,25,26,27,24,5,6,28] [] [1] [(1,[6]),(2,[6]),(4,[6,7,8,9,10]),(5,[6,7,8,9,10])] [0,1,2,4,5,6,3,8,9,10,7,11],.p 3 [29,30,31] [] [5],.p 4 [32] [] [31,30],.p 5 [33,7] [] [31],.p 6 [34,35,36] [] [5,7],.p 7 [37,31] [] [31],.p 8 [38,39,40] [] [3],.p 9 [41] [] [40,39],.p 10 [42,43,44,8,9] [] [38,40],.p 11 [45,46,47,48] [] [6,9,8],.p 12 [49,40] [] [40],.p 13 [50,51,52] [] [3],.p 14 [53,2] [] [5],.p 15 [54,55] [] [5],.p 16 [56,10] [] [6,5],.p 17 [11] [] [],.p 18 [57] [] [11],.p 19 [11] [] [],.p 20 [58,59,60,61] [] [3],.p 21 [62] [] [61,60],.p 22 [63,64,13] [] [59,61],.p 23 [14] [] [],.p 24 [65,66,67,68,69,70] [] [4,13],.p 25 [] [71] [70,69],.p 26 [16] [] [68,70],.p 27 [] [78] [5,16],.p 28 [] [84] [14],.p 29 [14] [] [16],.p 30 [14] [] [10,14,16],.p 31 [70] [] [70],.p 32 [] [94] [5,13,14],.p 33 [11] [] [5,13,14],.p 34 [61] [] [61],.p 35 [] [] [5],.p 36 [2] [] [5]] (by kernel_rfl) (by simp [Tryd.f40];rfl) (by simp only [Ws,Wx];rfl)
theorem k40:Ze0 TT 40 (Zbj TT 40) [.tmp 2] 1:=Zff Tryd.f40 T40 (by kernel_rfl) (by kernel_rfl) (by kernel_rfl)
theorem T41:TT 41=some Tryd.f41:=by kernel_rfl
@[simp] def bd41:=Zb5 Tryd.f41 T41 (by simp [Tryd.f41];rfl)
@[simp] def w41:=Zam Tryd.prog Tryd.f41 T41 99 [99,108] [.p 0 [4] [] [],.p 1 [12,13,14,15,16,17,18,19,5] [] [0,1],.p 2 [20,21,22,6] [] [5],.p 3 [23,24,25,26] [] [5],.p 4 [27] [] [26,25],.p 5 [28,29,30,7,8] [] [24,26],.p 6 [31,32,33,34,35,36,37,38,9] [] [0,8],.p 7 [39,40,41] [] [9],.p 8 [42,43,44,45] [] [9],.p 9 [46] [] [45,44],.p 10 [47,48,49,10,11] [] [43,45],.d 11 [50,51,53,54,55,56,57,58,59,60,61,62,63,64,65,66,67,68,69,70,71,52,72,73] [] [11,0,5,10] [(3,[21,22]),(6,[21,22]),(11,[21,22]),(13,[21,22]),(16,[21,22]),(19,[21,22]),(20,[21,22])] [0,1,3,4,5,6,7,8,9,10,11,12,13,14,15,16,17,18,19,20,21,2,22,23],.p 12 [4] [] [],.p 13 [74,45] [] [45],.p 15 [4] [] [],.p 16 [96,26] [] [26],.p 17 [97,98] [] [5],.p 19 [4] [] [0,5,1,6],.p 20 [] [108] [98],.p 21 [4] [] [0,5,1,6],.p 22 [4] [] []] (by kernel_rfl) (by simp [Tryd.f41];rfl) (by simp only [Ws,Wx];rfl)
@[simp] def w41_14:=Zam Tryd.prog Tryd.f41 T41 99 [99,108] [.p 14 [75,76,77,78,79,80,81,82,83,84,85,86,87,88,89,90,91,92,93,94,95] [] [0,9,1,7]] (by kernel_rfl) (by simp [Tryd.f41];rfl) (by simp only [Ws,Wx];rfl)
@[simp] def w41_18:=Zam Tryd.prog Tryd.f41 T41 99 [99,108] [.p 18 [] [99] [98]] (by kernel_rfl) (by simp [Tryd.f41];rfl) (by simp only [Ws,Wx];rfl)
theorem k41:Ze0 TT 41 (Zbj TT 41) [.tmp 4] 2:=Zff Tryd.f41 T41 (by kernel_rfl) (by kernel_rfl) (by kernel_rfl)
theorem T42:TT 42=some Tryd.f42:=by kernel_rfl
@[simp] def bd42:=Zb5 Tryd.f42 T42 (by simp [Tryd.f42];rfl)
@[simp] def w42:=Zam Tryd.prog Tryd.f42 T42 4 [4,4,4,4,4,4,4,4,4,4,4,4,4,18,18,18,18,18,18] [.p 0 [2] [] [],.p 1 [3] [] [0],.p 2 [] [4] [3],.p 3 [] [4] [3],.p 4 [] [4] [3],.p 5 [] [4] [3],.p 6 [] [4] [3],.p 7 [] [4] [3],.p 8 [] [4] [3],.p 9 [] [4] [3],.p 10 [] [4] [3],.p 11 [] [4] [3],.p 12 [] [4] [3],.p 13 [] [4] [3],.p 14 [] [4] [3],.p 15 [2] [] [],.p 16 [] [18] [3],.p 17 [] [18] [3],.p 18 [] [18] [3],.p 19 [] [18] [3],.p 20 [] [18] [3],.p 21 [] [18] [3],.p 22 [2] [] [],.p 23 [2] [] []] (by kernel_rfl) (by simp [Tryd.f42];rfl) (by simp only [Ws,Wx];rfl)
theorem k42:Ze0 TT 42 (Zbj TT 42) [.tmp 2] 1:=Zff Tryd.f42 T42 (by kernel_rfl) (by kernel_rfl) (by kernel_rfl)
theorem T50:TT 50=some Tryd.f50:=by kernel_rfl
@[simp] def bd50:=Zb5 Tryd.f50 T50 (by simp [Tryd.f50];rfl)
@[simp] def w50:=Zam Tryd.prog Tryd.f50 T50 5 [9] [.p 0 [1,2] [] [0],.p 1 [3] [] [],.p 2 [4] [] [],.p 3 [] [9] [4,1],.d 4 [3] [] [3,1,4] [(2,[7]),(6,[7]),(9,[7,14]),(13,[7,14])] [],.p 5 [4] [] [4],.p 6 [2] [] [3]] (by kernel_rfl) (by simp [Tryd.f50];rfl) (by simp only [Ws,Wx];rfl)
theorem k50:Ze0 TT 50 (Zbj TT 50) [.tmp 2] 1:=Zff Tryd.f50 T50 (by kernel_rfl) (by kernel_rfl) (by kernel_rfl)
theorem T51:TT 51=some Tryd.f51:=by kernel_rfl
@[simp] def bd51:=Zb5 Tryd.f51 T51 (by simp [Tryd.f51];rfl)
@[simp] def w51:=Zam Tryd.prog Tryd.f51 T51 5 [] [.p 0 [4] [] [],.p 1 [4] [] [0,1]] (by kernel_rfl) (by simp [Tryd.f51];rfl) (by simp only [Ws,Wx];rfl)
theorem k51:Ze0 TT 51 (Zbj TT 51) [.tmp 4] 2:=Zff Tryd.f51 T51 (by kernel_rfl) (by kernel_rfl) (by kernel_rfl)
theorem T52:TT 52=some Tryd.f52:=by kernel_rfl
@[simp] def bd52:=Zb5 Tryd.f52 T52 (by simp [Tryd.f52];rfl)
@[simp] def w52:=Zam Tryd.prog Tryd.f52 T52 3 [] [.p 0 [2] [] [],.p 1 [2] [] [0]] (by kernel_rfl) (by simp [Tryd.f52];rfl) (by simp only [Ws,Wx];rfl)
theorem k52:Ze0 TT 52 (Zbj TT 52) [.tmp 2] 1:=Zff Tryd.f52 T52 (by kernel_rfl) (by kernel_rfl) (by kernel_rfl)
theorem T53:TT 53=some Tryd.f53:=by kernel_rfl
@[simp] def bd53:=Zb5 Tryd.f53 T53 (by simp [Tryd.f53];rfl)
@[simp] def w53:=Zam Tryd.prog Tryd.f53 T53 31 [31,31,31,31] [.p 0 [4] [] [],.p 1 [7,8,9] [] [1],.p 2 [10] [] [9,8],.p 3 [11,12,6] [] [7,9],.p 4 [13,14,15,16,17,18,19,20,21] [] [6,0],.p 5 [4] [] [],.p 6 [22,23,24,25,26,27,28,29,30] [] [0,6],.p 7 [] [31] [30],.p 8 [] [31] [30],.p 9 [] [31] [30],.p 10 [] [31] [30],.p 11 [4] [] [],.p 12 [9] [] [9],.p 13 [4] [] []] (by kernel_rfl) (by simp [Tryd.f53];rfl) (by simp only [Ws,Wx];rfl)
theorem k53:Ze0 TT 53 (Zbj TT 53) [.tmp 4] 2:=Zff Tryd.f53 T53 (by kernel_rfl) (by kernel_rfl) (by kernel_rfl)
theorem T54:TT 54=some Tryd.f54:=by kernel_rfl
@[simp] def bd54:=Zb5 Tryd.f54 T54 (by simp [Tryd.f54];rfl)
@[simp] def w54:=Zam Tryd.prog Tryd.f54 T54 5 [] [.p 0 [4] [] [],.p 1 [4] [] [0,1]] (by kernel_rfl) (by simp [Tryd.f54];rfl) (by simp only [Ws,Wx];rfl)
theorem k54:Ze0 TT 54 (Zbj TT 54) [.tmp 4] 2:=Zff Tryd.f54 T54 (by kernel_rfl) (by kernel_rfl) (by kernel_rfl)
theorem T55:TT 55=some Tryd.f55:=by kernel_rfl
@[simp] def bd55:=Zb5 Tryd.f55 T55 (by simp [Tryd.f55];rfl)
@[simp] def w55:=Zam Tryd.prog Tryd.f55 T55 3 [] [.p 0 [2] [] [],.p 1 [2] [] [0]] (by kernel_rfl) (by simp [Tryd.f55];rfl) (by simp only [Ws,Wx];rfl)
theorem k55:Ze0 TT 55 (Zbj TT 55) [.tmp 2] 1:=Zff Tryd.f55 T55 (by kernel_rfl) (by kernel_rfl) (by kernel_rfl)
theorem T56:TT 56=some Tryd.f56:=by kernel_rfl
@[simp] def bd56:=Zb5 Tryd.f56 T56 (by simp [Tryd.f56];rfl)
@[simp] def w56:=Zam Tryd.prog Tryd.f56 T56 5 [] [.p 0 [4] [] [],.p 1 [4] [] [0,1]] (by kernel_rfl) (by simp [Tryd.f56];rfl) (by simp only [Ws,Wx];rfl)
theorem k56:Ze0 TT 56 (Zbj TT 56) [.tmp 4] 2:=Zff Tryd.f56 T56 (by kernel_rfl) (by kernel_rfl) (by kernel_rfl)
theorem T57:TT 57=some Tryd.f57:=by kernel_rfl
@[simp] def bd57:=Zb5 Tryd.f57 T57 (by simp [Tryd.f57];rfl)
@[simp] def w57:=Zam Tryd.prog Tryd.f57 T57 4 [] [.p 0 [2,3] [] [0],.p 1 [3] [] [2,1]] (by kernel_rfl) (by simp [Tryd.f57];rfl) (by simp only [Ws,Wx];rfl)
theorem k57:Ze0 TT 57 (Zbj TT 57) [.tmp 3] 2:=Zff Tryd.f57 T57 (by kernel_rfl) (by kernel_rfl) (by kernel_rfl)
theorem T58:TT 58=some Tryd.f58:=by kernel_rfl
@[simp] def bd58:=Zb5 Tryd.f58 T58 (by simp [Tryd.f58];rfl)
@[simp] def w58:=Zam Tryd.prog Tryd.f58 T58 24 [24,30] [.p 0 [1,2] [] [0],.p 1 [8,9,10,11,3] [] [1],.p 2 [12,13,14,15] [] [1],.p 3 [16] [] [15,14],.p 4 [17,18,19,5,4] [] [13,15],.p 5 [20,21,22,23] [] [5],.p 6 [] [24] [23,22],.p 7 [7] [] [21,23],.p 8 [] [30] [7,3],.p 9 [] [] [3,7,4],.p 10 [23] [] [23],.p 11 [15] [] [15],.p 12 [2] [] [3]] (by kernel_rfl) (by simp [Tryd.f58];rfl) (by simp only [Ws,Wx];rfl)
theorem k58:Ze0 TT 58 (Zbj TT 58) [.tmp 2] 1:=Zff Tryd.f58 T58 (by kernel_rfl) (by kernel_rfl) (by kernel_rfl)
theorem T59:TT 59=some Tryd.f59:=by kernel_rfl
@[simp] def bd59:=Zb5 Tryd.f59 T59 (by simp [Tryd.f59];rfl)
@[simp] def w59:=Zam Tryd.prog Tryd.f59 T59 14 [14,24] [.p 0 [4] [] [],.p 1 [6,7,8,9,10] [] [0,1],.p 2 [4] [] [],.p 3 [11,12,13] [] [0],.p 4 [] [14] [13,12],.p 5 [5] [] [13],.p 6 [] [24] [0,1,5],.p 7 [4] [] [],.p 8 [13] [] [13],.p 9 [4] [] []] (by kernel_rfl) (by simp [Tryd.f59];rfl) (by simp only [Ws,Wx];rfl)
theorem k59:Ze0 TT 59 (Zbj TT 59) [.tmp 4] 2:=Zff Tryd.f59 T59 (by kernel_rfl) (by kernel_rfl) (by kernel_rfl)
theorem T60:TT 60=some Tryd.f60:=by kernel_rfl
@[simp] def bd60:=Zb5 Tryd.f60 T60 (by simp [Tryd.f60];rfl)
@[simp] def w60:=Zam Tryd.prog Tryd.f60 T60 9 [16,25,46,83] [.p 0 [1,2] [] [0],.p 1 [3] [] [1],.p 2 [4] [] [],.p 3 [5] [] [],.p 4 [] [16] [1],.p 5 [5] [] [3,5],.p 6 [] [25] [5],.p 7 [6] [] [5],.p 8 [7] [] [1,6],.p 9 [] [46] [6,7],.p 10 [4] [] [4,6],.p 11 [5] [] [5],.p 12 [8] [] [7,6],.p 13 [] [] [6],.p 14 [] [83] [3,8],.p 15 [] [] [3,8],.p 16 [5] [] [5,8],.p 17 [] [] [4],.p 18 [2] [] [4]] (by kernel_rfl) (by simp [Tryd.f60];rfl) (by simp only [Ws,Wx];rfl)
theorem k60:Ze0 TT 60 (Zbj TT 60) [.tmp 2] 1:=Zff Tryd.f60 T60 (by kernel_rfl) (by kernel_rfl) (by kernel_rfl)
theorem T61:TT 61=some Tryd.f61:=by kernel_rfl
@[simp] def bd61:=Zb5 Tryd.f61 T61 (by simp [Tryd.f61];rfl)
@[simp] def w61:=Zam Tryd.prog Tryd.f61 T61 7 [9,18] [.p 0 [6] [] [],.p 1 [] [9] [0,1],.p 2 [] [18] [0,2,1],.p 3 [0] [] [3,0],.p 4 [1] [] [3,1],.p 5 [6] [] [0]] (by kernel_rfl) (by simp [Tryd.f61];rfl) (by simp only [Ws,Wx];rfl)
theorem k61:Ze0 TT 61 (Zbj TT 61) [.tmp 6] 4:=Zff Tryd.f61 T61 (by kernel_rfl) (by kernel_rfl) (by kernel_rfl)
theorem T62:TT 62=some Tryd.f62:=by kernel_rfl
@[simp] def bd62:=Zb5 Tryd.f62 T62 (by simp [Tryd.f62];rfl)
@[simp] def w62:=Zam Tryd.prog Tryd.f62 T62 14 [14,49] [.p 0 [8] [] [],.p 1 [11,12,13] [] [1],.p 2 [] [14] [13,12],.p 3 [10] [] [11,13],.p 4 [] [49] [3,0,10,2],.p 5 [8] [] [],.p 6 [13] [] [13],.p 7 [8] [] []] (by kernel_rfl) (by simp [Tryd.f62];rfl) (by simp only [Ws,Wx];rfl)
theorem k62:Ze0 TT 62 (Zbj TT 62) [.tmp 8] 4:=Zff Tryd.f62 T62 (by kernel_rfl) (by kernel_rfl) (by kernel_rfl)
theorem T63:TT 63=some Tryd.f63:=by kernel_rfl
@[simp] def bd63:=Zb5 Tryd.f63 T63 (by simp [Tryd.f63];rfl)
@[simp] def w63:=Zam Tryd.prog Tryd.f63 T63 22 [22,40] [.p 0 [8] [] [],.p 1 [11,12,13,14,15,16,17,18,19,20,21] [] [0,1],.p 2 [] [22] [21,20],.p 3 [10] [] [19,21],.p 4 [] [40] [0,10,2,3],.p 5 [8] [] [],.p 6 [21] [] [21],.p 7 [8] [] []] (by kernel_rfl) (by simp [Tryd.f63];rfl) (by simp only [Ws,Wx];rfl)
theorem k63:Ze0 TT 63 (Zbj TT 63) [.tmp 8] 4:=Zff Tryd.f63 T63 (by kernel_rfl) (by kernel_rfl) (by kernel_rfl)
theorem T68:TT 68=some Tryd.f68:=by kernel_rfl
@[simp] def bd68:=Zb5 Tryd.f68 T68 (by simp [Tryd.f68];rfl)
@[simp] def w68:=Zam Tryd.prog Tryd.f68 T68 9 [9,16] [.p 0 [4] [] [],.p 1 [6,7,8] [] [0],.p 2 [] [9] [8,7],.p 3 [5] [] [8],.p 4 [] [16] [1,0,5],.p 5 [4] [] [5],.p 6 [8] [] [8],.p 7 [4] [] []] (by kernel_rfl) (by simp [Tryd.f68];rfl) (by simp only [Ws,Wx];rfl)
theorem k68:Ze0 TT 68 (Zbj TT 68) [.tmp 4] 2:=Zff Tryd.f68 T68 (by kernel_rfl) (by kernel_rfl) (by kernel_rfl)
theorem T69:TT 69=some Tryd.f69:=by kernel_rfl
@[simp] def bd69:=Zb5 Tryd.f69 T69 (by simp [Tryd.f69];rfl)
@[simp] def w69:=Zam Tryd.prog Tryd.f69 T69 4 [9] [.p 0 [2,3] [] [0],.p 1 [] [9] [2,3],.d 2 [] [] [3,0,2] [(7,[13]),(11,[13])] [],.p 3 [2,3] [] [2,3]] (by kernel_rfl) (by simp [Tryd.f69];rfl) (by simp only [Ws,Wx];rfl)
theorem k69:Ze0 TT 69 (Zbj TT 69) [] 1:=Zff Tryd.f69 T69 (by kernel_rfl) (by kernel_rfl) (by kernel_rfl)
theorem T70:TT 70=some Tryd.f70:=by kernel_rfl
@[simp] def bd70:=Zb5 Tryd.f70 T70 (by simp [Tryd.f70];rfl)
@[simp] def w70:=Zam Tryd.prog Tryd.f70 T70 7 [8,11] [.p 0 [6] [] [],.p 1 [] [8] [2],.p 2 [] [11] [1,2],.p 3 [6] [] [],.p 4 [2] [] [0,2],.p 5 [6] [] []] (by kernel_rfl) (by simp [Tryd.f70];rfl) (by simp only [Ws,Wx];rfl)
theorem k70:Ze0 TT 70 (Zbj TT 70) [.tmp 6] 3:=Zff Tryd.f70 T70 (by kernel_rfl) (by kernel_rfl) (by kernel_rfl)
attribute [simp] Zor Zv1 Z9c Zuf Z7o Z36 Z5w Z9b Z8l Zw1 Zvy Z4i
attribute [simp] Ztk Zq4 Z7v Zvt Zrz Z9m Z9i Z2x Z9 Z8i Z1w Zys
attribute [simp] Z46 Zu9 Zu5 Z8z Z83 Z9k Z8v Z9d Z9g Z6o Z7x Z8r
attribute [simp] Z81 Z84 Z89 Z57 Z5p Z67 Z7r Z3r Z4d Z3d Z5 Z0f
attribute [simp] Z1g Zlq Ybf okx Zfd Zd3 Z0z Z6z Z0m Z8m Z6p Zv3
attribute [simp] Zr2 Z68 Z8o Z3 Z7 Ya7 Zyv Z1v Z4u Z2w Zrj Z88
attribute [simp] Z40 Z35 Zta Z3o Z2y Z4o Zu6 Zs6 Z8n Z87 Zza Zwf
attribute [simp] Zw8 Zw2 Zxy Zs9 Zr9 Z9f Z6b Z4r Zz7 Ze6 Zpw Zoi
attribute [simp] Zt9 Zeh Z4w Z2z Z47 Zau Zae Z2t Z1 Z3s Zyr Zsk
attribute [simp] Zxu Zvx Zxs Zym Z07 Z1i Z7j Zw6 Zzl Zwl Zs1 Zs3
attribute [simp] Zqb Zt Zao Zbx Instr.fill Zzq Z32 Z0d Zzz Z1m Zv Z1q
attribute [simp] Z1e Z30 Z5a Zqe Z4n Z24 Z9l Z8q Z27 Z03 Zxh
attribute [simp] Zsg
attribute [simp] Znc Zwp Zwj Z3i Zy1 Zxx Zsv Z3e Z3p
@[simp] def sf:=And.intro (Zca Ya0) <| And.intro (Zca Ybn) <| And.intro (Zca zo3) <| And.intro (Zca Ybo) <| And.intro (Zca Ybm) <| And.intro (Zca Ybp) <| And.intro (Zca Yb) <| And.intro (Zca Yam) <| And.intro (Zca Yas) <| And.intro (Zca Ya8) <| And.intro (Zca Ya9) <| And.intro (Zca Ya6) <| And.intro (Zaf Z6m) <| And.intro (Zaf Z7i) <| And.intro (Zaf Z6w) <| And.intro (Zaf Z72) <| And.intro (Zaf Z6f) <| And.intro (Zaf Z61) <| And.intro (Zaf Z7k) <| And.intro (Zaf Z7p) <| And.intro (Zaf Z7e) <| And.intro (Zaf Z7a) <| And.intro (Zaf Z75) <| And.intro (Zaf Z58) <| And.intro (Zaf Z50) <| And.intro (Zaf Z6k) <| And.intro (Zaf Z7s) <| And.intro (Zaf Z7g) <| And.intro (Zaf Z74) <| And.intro (Zaf Z7b) <| And.intro (Zaf Z6d) <| And.intro (Zaf Z5r) <| And.intro (Zaf Z6x) <| And.intro (Zaf Z60) <| And.intro (Zaf Z7c) <| And.intro (Zaf Z63) <| And.intro (Zaf Z7w) <| And.intro (Zaf Z71) <| And.intro (Zaf Z5u) <| And.intro (Zaf Z65) <| And.intro (Zaf Z6a) <| And.intro (Zaf Z6u) <| And.intro (Zaf Z7y) <| And.intro (Zb0 u22 sz3) <| And.intro (Zb0 u25 Z4h) <| And.intro (Zb0 u26 Z76) <| And.intro (Zb0 u27 Z8) <| And.intro (Zb0 u39 Z8x) <| And.intro (Zb0 u57 Z9v) <| And.intro (Zb0 u60 sz4) <| And.intro (Zb0 u63 Z9z) <| And.intro (Zb0 u92 Z8e) <| And.intro (Zc4 u22) <| And.intro (Zc4 u25) <| And.intro (Zc4 u26) <| And.intro (Zc4 u27) <| And.intro (Zc4 u39) <| And.intro (Zc4 u57) <| And.intro (Zc4 u60) <| And.intro (Zc4 u92) <| And.intro (Zfe Z3c) <| And.intro (Zfe Ybj) <| And.intro (Zfe Ya2) <| And.intro (Zfe Ybt) <| And.intro (Zfe Yaw) <| And.intro (Zfe Yay) <| And.intro (Zce ld2) <| And.intro (Zce Yae) <| And.intro (Zce Ybl) <| And.intro (Zce Yah) <| And.intro (Zce Yav) <| And.intro (Zce ld3) <| And.intro (Zce Ybu) <| And.intro (Zce ld4) <| And.intro (Zce Yai) <| And.intro (Zce Yar) <| And.intro (Zce Ybi) <| And.intro (Zce Ybw) <| And.intro (Zce Yan) <| And.intro (Zbm Z9v) <| And.intro (Zbm Yak) <| And.intro (Zbm Yac) <| And.intro (Zbm Yb0) <| And.intro (Zbm Yal) <| And.intro (Zbm sz3) <| And.intro (Zbm Z76) <| And.intro (Zbm Yax) <| And.intro (Zbm sz4) <| And.intro (Zbm Z8) <| And.intro (Zbm Z4h) <| And.intro (Zbm Ybs) <| And.intro (Zbm Yao) <| And.intro (Zbm Z8x) <| And.intro (Zbm Ybv) <| And.intro (Zbm Z9z) <| (Zbm Yau)
end Go.Proofs.YtcgmchechmbmeaaDoor.gen
