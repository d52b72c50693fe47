/- This text names the regions of the functions that are walked, with the slots that they read and set, and the facts of the types. No condition. -/
import Derived.Test.YtlogdohlcdhepaaDoorProg
import Derived.Test.YtlogdohlcdhepaaDoorShD
set_option linter.unusedVariables false
set_option linter.unusedSimpArgs false
set_option maxRecDepth 100000
set_option linter.defProp false
namespace Go.Proofs.YtlogdohlcdhepaaDoor.gen
open Go.Sh
def fns:List FuncId:=[4,9,10,13,14,15,16,17,18,19,20,21,22,23,24,25,26,27,28,29,30,31,32,33,34,35,36,37,38,39,40,41,42,43,44,45,46,47,48,49,50,51,52,53,54,55,56,57,58,59,60,61,62,63,64,65,66,67,68,69,70,71,72,73,74,75,76,77,78,79,81,82,83,12]
noncomputable def TT:FuncId→Option Func:=Sh.tabOf Tryd.prog fns
attribute [local simp] Zk3 rgs Z9s Zkm Zjt Zrt Zih skl nR nO
variable {S:Zb2}{m:Mem}{k:List Fr}{E:Zba}{Q:Zsv}
theorem Z7a:Zj9 Tryd.prog 124 2 16=true:=by kernel_rfl
theorem ap3:Zj9 Tryd.prog 3 1 8=true:=by kernel_rfl
theorem Ycd:Zj9 Tryd.prog 36 1 24=true:=by kernel_rfl
theorem Yco:Zj9 Tryd.prog 38 6 64=true:=by kernel_rfl
theorem ap4:Zj9 Tryd.prog 4 1 1=true:=by kernel_rfl
theorem Yc1:Zj9 Tryd.prog 40 6 96=true:=by kernel_rfl
theorem Ybc:Zj9 Tryd.prog 44 4 64=true:=by kernel_rfl
theorem Zww:Zj9 Tryd.prog 45 1 8=true:=by kernel_rfl
theorem Ydm:Zj9 Tryd.prog 67 1 24=true:=by kernel_rfl
theorem b28:(Tryd.prog.info? 28).isSome=true:=by kernel_rfl
theorem b34:(Tryd.prog.info? 34).isSome=true:=by kernel_rfl
theorem b38:(Tryd.prog.info? 38).isSome=true:=by kernel_rfl
theorem b40:(Tryd.prog.info? 40).isSome=true:=by kernel_rfl
theorem b47:(Tryd.prog.info? 47).isSome=true:=by kernel_rfl
theorem b59:(Tryd.prog.info? 59).isSome=true:=by kernel_rfl
theorem b75:(Tryd.prog.info? 75).isSome=true:=by kernel_rfl
theorem b76:(Tryd.prog.info? 76).isSome=true:=by kernel_rfl
theorem b78:(Tryd.prog.info? 78).isSome=true:=by kernel_rfl
theorem b99:(Tryd.prog.info? 99).isSome=true:=by kernel_rfl
theorem Z72:Zef Tryd.prog 124 [.int .i64 0,.int .i64 0] [(0,1),(1,1)]=true:=by kernel_rfl
theorem Z7n:Zef Tryd.prog 28 [.int .i64 0,.int .i64 0,.int .i64 0,.slice none 0 0,.int .i64 0] [(0,1),(1,1),(2,1),(3,1),(4,1)]=true:=by kernel_rfl
theorem Ycj:Zef Tryd.prog 34 [.int .i64 0,.int .i64 0,.slice none 0 0,.slice none 0 0,.slice none 0 0] [(0,1),(1,1),(2,1),(3,1),(4,1)]=true:=by kernel_rfl
theorem Zr:Zef Tryd.prog 38 [.int .i64 0,.int .i64 0,.int .i64 0,.int .i64 0,.slice none 0 0,.int .i64 0] [(0,1),(1,1),(2,1),(3,1),(4,1),(5,1)]=true:=by kernel_rfl
theorem Zz5:Zef Tryd.prog 40 [.slice none 0 0,.int .i64 0,.int .i64 0,.slice none 0 0,.slice none 0 0,.int .i64 0] [(0,1),(1,1),(2,1),(3,1),(4,1),(5,1)]=true:=by kernel_rfl
theorem Ybm:Zef Tryd.prog 44 [.int .i64 0,.int .i64 0,.slice none 0 0,.slice none 0 0] [(0,1),(1,1),(2,1),(3,1)]=true:=by kernel_rfl
theorem Ycu:Zef Tryd.prog 59 [.int .i64 0,.slice none 0 0] [(0,1),(1,1)]=true:=by kernel_rfl
theorem Ycv:Zef Tryd.prog 64 [.int .i64 0,.int .i64 0,.slice none 0 0,.slice none 0 0] [(0,1),(1,1),(2,1),(3,1)]=true:=by kernel_rfl
theorem Ycy:Zef Tryd.prog 67 [.slice none 0 0] [(0,1)]=true:=by kernel_rfl
theorem Yc4:Zef Tryd.prog 75 [.slice none 0 0,.int .i64 0] [(0,1),(1,1)]=true:=by kernel_rfl
theorem Ycs:Zef Tryd.prog 78 [.int .i64 0,.int .i64 0,.slice none 0 0,.slice none 0 0,.slice none 0 0,.pointer none,.slice none 0 0,.int .i64 0,.int .i64 0] [(0,5),(5,1),(6,1),(7,1),(8,1)]=true:=by kernel_rfl
theorem Yda:Zef Tryd.prog 99 [.int .i64 0,.int .i64 0,.slice none 0 0,.slice none 0 0,.slice none 0 0,.slice none 0 0,.slice none 0 0,.slice none 0 0] [(0,5),(5,1),(6,1),(7,1)]=true:=by kernel_rfl
theorem Z8d:Z0 Tryd.prog 124 [.int .i64 0,.int .i64 0]=true:=by kernel_rfl
theorem bs3:Z0 Tryd.prog 3 [.int .i64 0]=true:=by kernel_rfl
theorem Ydf:Z0 Tryd.prog 38 [.int .i64 0,.int .i64 0,.int .i64 0,.int .i64 0,.slice none 0 0,.int .i64 0]=true:=by kernel_rfl
theorem Yb2:Z0 Tryd.prog 40 [.slice none 0 0,.int .i64 0,.int .i64 0,.slice none 0 0,.slice none 0 0,.int .i64 0]=true:=by kernel_rfl
theorem Yb:Z0 Tryd.prog 44 [.int .i64 0,.int .i64 0,.slice none 0 0,.slice none 0 0]=true:=by kernel_rfl
theorem Zrw:Z0 Tryd.prog 45 [.int .u64 0]=true:=by kernel_rfl
theorem Ybv:Z0 Tryd.prog 64 [.int .i64 0,.int .i64 0,.slice none 0 0,.slice none 0 0]=true:=by kernel_rfl
theorem Yce:Z0 Tryd.prog 67 [.slice none 0 0]=true:=by kernel_rfl
theorem Z3y:Zfb Tryd.prog 124 0 0=true:=by kernel_rfl
theorem Z6d:Zfb Tryd.prog 124 1 1=true:=by kernel_rfl
theorem Z85:Zfb Tryd.prog 28 0 0=true:=by kernel_rfl
theorem Z73:Zfb Tryd.prog 28 1 1=true:=by kernel_rfl
theorem Z8y:Zfb Tryd.prog 28 2 2=true:=by kernel_rfl
theorem Z9k:Zfb Tryd.prog 28 3 3=true:=by kernel_rfl
theorem Z7e:Zfb Tryd.prog 28 4 4=true:=by kernel_rfl
theorem Z7z:Zfb Tryd.prog 34 2 2=true:=by kernel_rfl
theorem Z8t:Zfb Tryd.prog 34 3 3=true:=by kernel_rfl
theorem Z9e:Zfb Tryd.prog 34 4 4=true:=by kernel_rfl
theorem Z8p:Zfb Tryd.prog 38 0 0=true:=by kernel_rfl
theorem Z7l:Zfb Tryd.prog 38 1 1=true:=by kernel_rfl
theorem Z8v:Zfb Tryd.prog 38 2 2=true:=by kernel_rfl
theorem Z8u:Zfb Tryd.prog 38 3 3=true:=by kernel_rfl
theorem Z8g:Zfb Tryd.prog 38 4 4=true:=by kernel_rfl
theorem Z65:Zfb Tryd.prog 38 5 5=true:=by kernel_rfl
theorem Z7i:Zfb Tryd.prog 40 0 0=true:=by kernel_rfl
theorem Z8s:Zfb Tryd.prog 40 1 1=true:=by kernel_rfl
theorem Z66:Zfb Tryd.prog 40 2 2=true:=by kernel_rfl
theorem Z71:Zfb Tryd.prog 40 3 3=true:=by kernel_rfl
theorem Z7y:Zfb Tryd.prog 40 4 4=true:=by kernel_rfl
theorem Z67:Zfb Tryd.prog 40 5 5=true:=by kernel_rfl
theorem Z7m:Zfb Tryd.prog 44 0 0=true:=by kernel_rfl
theorem Z8m:Zfb Tryd.prog 44 1 1=true:=by kernel_rfl
theorem Z8b:Zfb Tryd.prog 44 2 2=true:=by kernel_rfl
theorem Z8j:Zfb Tryd.prog 44 3 3=true:=by kernel_rfl
theorem Z7j:Zfb Tryd.prog 47 0 0=true:=by kernel_rfl
theorem Z81:Zfb Tryd.prog 47 1 1=true:=by kernel_rfl
theorem Z61:Zfb Tryd.prog 47 2 2=true:=by kernel_rfl
theorem Z84:Zfb Tryd.prog 59 0 0=true:=by kernel_rfl
theorem Z7p:Zfb Tryd.prog 59 1 1=true:=by kernel_rfl
theorem Z7r:Zfb Tryd.prog 64 0 0=true:=by kernel_rfl
theorem Z9n:Zfb Tryd.prog 64 1 1=true:=by kernel_rfl
theorem Z8c:Zfb Tryd.prog 64 2 2=true:=by kernel_rfl
theorem Z8n:Zfb Tryd.prog 64 3 3=true:=by kernel_rfl
theorem Z83:Zfb Tryd.prog 67 0 0=true:=by kernel_rfl
theorem Z76:Zfb Tryd.prog 75 0 0=true:=by kernel_rfl
theorem Z7h:Zfb Tryd.prog 75 1 1=true:=by kernel_rfl
theorem Z8o:Zfb Tryd.prog 78 0 0=true:=by kernel_rfl
theorem Z7x:Zfb Tryd.prog 78 1 5=true:=by kernel_rfl
theorem Z74:Zfb Tryd.prog 78 2 6=true:=by kernel_rfl
theorem Z7q:Zfb Tryd.prog 78 3 7=true:=by kernel_rfl
theorem Z87:Zfb Tryd.prog 78 4 8=true:=by kernel_rfl
theorem Z75:Zfb Tryd.prog 99 0 0=true:=by kernel_rfl
theorem Z7u:Zfb Tryd.prog 99 1 5=true:=by kernel_rfl
theorem Z6r:Zfb Tryd.prog 99 2 6=true:=by kernel_rfl
theorem Z9j:Zfb Tryd.prog 99 3 7=true:=by kernel_rfl
theorem ld2:Zol Tryd.prog 2=true:=by kernel_rfl
theorem Yc2:Zol Tryd.prog 22=true:=by kernel_rfl
theorem Yby:Zol Tryd.prog 26=true:=by kernel_rfl
theorem Zwp:Zwv Tryd.prog 28 5=true:=by kernel_rfl
theorem ld3:Zol Tryd.prog 3=true:=by kernel_rfl
theorem Ydh:Zol Tryd.prog 30=true:=by kernel_rfl
theorem Ycp:Zol Tryd.prog 31=true:=by kernel_rfl
theorem Ydj:Zol Tryd.prog 32=true:=by kernel_rfl
theorem Ybj:Zwv Tryd.prog 34 5=true:=by kernel_rfl
theorem Ydo:Zol Tryd.prog 36=true:=by kernel_rfl
theorem Ycl:Zwv Tryd.prog 38 6=true:=by kernel_rfl
theorem ld4:Zol Tryd.prog 4=true:=by kernel_rfl
theorem Yc5:Zwv Tryd.prog 40 6=true:=by kernel_rfl
theorem Ybt:Zol Tryd.prog 42=true:=by kernel_rfl
theorem Ybu:Zwv Tryd.prog 44 4=true:=by kernel_rfl
theorem Yc0:Zol Tryd.prog 45=true:=by kernel_rfl
theorem Yc6:Zwv Tryd.prog 47 3=true:=by kernel_rfl
theorem Yb3:Zwv Tryd.prog 64 4=true:=by kernel_rfl
theorem Ybx:Zol Tryd.prog 65=true:=by kernel_rfl
theorem Ydp:Zwv Tryd.prog 67 1=true:=by kernel_rfl
theorem Ybs:Zol Tryd.prog 76=true:=by kernel_rfl
theorem Ydl:Zol Tryd.prog 85=true:=by kernel_rfl
theorem Yck:Zol Tryd.prog 86=true:=by kernel_rfl
theorem Yct:Zol Tryd.prog 87=true:=by kernel_rfl
theorem Z1e:Zal Tryd.prog 124=some 2:=by kernel_rfl
theorem Ydb:Zal Tryd.prog 26=some 1:=by kernel_rfl
theorem Yc9:Zal Tryd.prog 28=some 5:=by kernel_rfl
theorem sz3:Zal Tryd.prog 3=some 1:=by kernel_rfl
theorem Ybq:Zal Tryd.prog 30=some 1:=by kernel_rfl
theorem Ydq:Zal Tryd.prog 31=some 1:=by kernel_rfl
theorem Yc7:Zal Tryd.prog 32=some 1:=by kernel_rfl
theorem Ydc:Zal Tryd.prog 34=some 5:=by kernel_rfl
theorem Ybb:Zal Tryd.prog 36=some 1:=by kernel_rfl
theorem Z6l:Zal Tryd.prog 38=some 6:=by kernel_rfl
theorem sz4:Zal Tryd.prog 4=some 1:=by kernel_rfl
theorem Yad:Zal Tryd.prog 40=some 6:=by kernel_rfl
theorem Yc8:Zal Tryd.prog 42=some 1:=by kernel_rfl
theorem Z9t:Zal Tryd.prog 44=some 4:=by kernel_rfl
theorem Zrv:Zal Tryd.prog 45=some 1:=by kernel_rfl
theorem Ybd:Zal Tryd.prog 64=some 4:=by kernel_rfl
theorem Z96:Zal Tryd.prog 67=some 1:=by kernel_rfl
theorem Ybz:Zal Tryd.prog 85=some 1:=by kernel_rfl
theorem Ycq:Zal Tryd.prog 86=some 1:=by kernel_rfl
theorem Ycc:Zal Tryd.prog 87=some 1:=by kernel_rfl
theorem Z92:Tryd.prog.underlying 112=some (.slice 36):=by kernel_rfl
theorem u12:Tryd.prog.underlying 12=some (.int .u64):=by kernel_rfl
theorem Z94:Tryd.prog.underlying 121=some (.slice 4):=by kernel_rfl
theorem Z03:Tryd.prog.underlying 122=some (.slice 124):=by kernel_rfl
theorem u2:Tryd.prog.underlying 2=some (.int .i64):=by kernel_rfl
theorem u22:Tryd.prog.underlying 22=some (.pointer 75):=by kernel_rfl
theorem u23:Tryd.prog.underlying 23=some (.int .i64):=by kernel_rfl
theorem u26:Tryd.prog.underlying 26=some (.slice 44):=by kernel_rfl
theorem u3:Tryd.prog.underlying 3=some (.int .i64):=by kernel_rfl
theorem u30:Tryd.prog.underlying 30=some (.slice 38):=by kernel_rfl
theorem u31:Tryd.prog.underlying 31=some (.slice 40):=by kernel_rfl
theorem u32:Tryd.prog.underlying 32=some (.slice 67):=by kernel_rfl
theorem u36:Tryd.prog.underlying 36=some (.slice 3):=by kernel_rfl
theorem u4:Tryd.prog.underlying 4=some .bool:=by kernel_rfl
theorem u42:Tryd.prog.underlying 42=some (.slice 45):=by kernel_rfl
theorem u45:Tryd.prog.underlying 45=some (.int .u64):=by kernel_rfl
theorem u5:Tryd.prog.underlying 5=some (.int .u8):=by kernel_rfl
theorem u6:Tryd.prog.underlying 6=some (.int .u8):=by kernel_rfl
theorem u65:Tryd.prog.underlying 65=some (.slice 64):=by kernel_rfl
theorem u9:Tryd.prog.underlying 9=some .string:=by kernel_rfl
theorem u90:Tryd.prog.underlying 90=some (.int .u64):=by kernel_rfl
theorem Yb5:Zfn Tryd.prog 28 [.int .i64 0,.int .i64 0,.int .i64 0,.slice none 0 0,.int .i64 0]=true:=by kernel_rfl
theorem zo3:Zfn Tryd.prog 3 [.int .i64 0]=true:=by kernel_rfl
theorem Ycr:Zfn Tryd.prog 34 [.int .i64 0,.int .i64 0,.slice none 0 0,.slice none 0 0,.slice none 0 0]=true:=by kernel_rfl
theorem Yb9:Zfn Tryd.prog 36 [.slice none 0 0]=true:=by kernel_rfl
theorem Ycn:Zfn Tryd.prog 38 [.int .i64 0,.int .i64 0,.int .i64 0,.int .i64 0,.slice none 0 0,.int .i64 0]=true:=by kernel_rfl
theorem Ych:Zfn Tryd.prog 40 [.slice none 0 0,.int .i64 0,.int .i64 0,.slice none 0 0,.slice none 0 0,.int .i64 0]=true:=by kernel_rfl
theorem Ycm:Zfn Tryd.prog 44 [.int .i64 0,.int .i64 0,.slice none 0 0,.slice none 0 0]=true:=by kernel_rfl
theorem Yci:Zfn Tryd.prog 64 [.int .i64 0,.int .i64 0,.slice none 0 0,.slice none 0 0]=true:=by kernel_rfl
theorem Ybr:Zfn Tryd.prog 67 [.slice none 0 0]=true:=by kernel_rfl
theorem Ydr:Zfn Tryd.prog 85 [.nilFunc]=true:=by kernel_rfl
theorem Ycx:Zfn Tryd.prog 86 [.nilFunc]=true:=by kernel_rfl
theorem Ydk:Zfn Tryd.prog 87 [.nilFunc]=true:=by kernel_rfl
theorem T4:TT 4=some Tryd.f4:=by kernel_rfl
@[simp] def bd4:=Zbd Tryd.f4 T4 (by simp [Tryd.f4];rfl)
@[simp] def w4:=Zah Tryd.prog Tryd.f4 T4 19 [33,35] [.p 0 [6,12] [] [0],.p 1 [13] [] [6],.p 2 [14] [] [1],.p 3 [15,16] [] [14],.p 4 [] [33] [16],.p 5 [12] [] [],.p 6 [] [35] [5],.p 7 [3] [] [3],.p 8 [4] [] [4],.d 9 [17] [] [13,15,2,3,4] [(0,[3,4,7])] [0,1,3,2,4,5,6,7,8,9],.p 10 [18] [] [13,14,2,3,4],.d 11 [12] [] [17,18,15,14] [(0,[2]),(1,[2]),(9,[5,10])] []] (by kernel_rfl) (by simp [Tryd.f4];rfl) (by simp only [Ws,Wx];rfl)
theorem k4:Zcz TT 4 (Za5 TT 4) [.tmp 12] 6:=Zdc Tryd.f4 T4 (by kernel_rfl) (by kernel_rfl) (by kernel_rfl)
theorem T9:TT 9=some Tryd.f9:=by kernel_rfl
@[simp] def bd9:=Zbd Tryd.f9 T9 (by simp [Tryd.f9];rfl)
@[simp] def w9:=Zah Tryd.prog Tryd.f9 T9 4 [9] [.p 0 [2,3] [] [],.p 1 [] [9] [0],.p 2 [2,3] [] [],.p 3 [2,3] [] [0]] (by kernel_rfl) (by simp [Tryd.f9];rfl) (by simp only [Ws,Wx];rfl)
theorem k9:Zcz TT 9 (Za5 TT 9) [.tmp 2,.tmp 3] 1:=Zdc Tryd.f9 T9 (by kernel_rfl) (by kernel_rfl) (by kernel_rfl)
theorem T10:TT 10=some Tryd.f10:=by kernel_rfl
@[simp] def bd10:=Zbd Tryd.f10 T10 (by simp [Tryd.f10];rfl)
@[simp] def w10:=Zah Tryd.prog Tryd.f10 T10 112 [112,118,128] [.p 0 [5,10] [] [0],.p 2 [25] [] [10],.d 3 [26,27,28,29,30,32,31,33,34,11] [] [1,5,3] [(0,[6,8]),(3,[6]),(4,[6])] [0,1,2,3,4,6,5,7,8,9],.p 4 [35,36,37] [] [11,2],.p 5 [12] [] [],.p 6 [38,39,40,41,42,13] [] [5,12],.p 7 [43,44,45,46] [] [13],.p 8 [47] [] [46,45],.p 9 [48,49,15] [] [44,46],.p 10 [50,51,52,53,54,55,16] [] [5,15],.p 11 [57,58,59,60,61,62,56] [] [16],.p 12 [64,65,66,67,68,69,63] [] [11,4],.p 13 [70,71] [] [11,10],.p 14 [72,73,74,75,76,77,78] [] [11],.p 15 [79,80,81] [] [11,15],.p 16 [82,83,84,85,86,87,88,89,90] [] [11,5,15,10],.p 17 [91,92,93] [] [11,15],.p 18 [94,46] [] [46],.p 19 [95,96,97,98,99,100] [] [11,4],.p 20 [101,102] [] [11,10],.p 21 [103,104,105,106,107,108,109] [] [11],.p 22 [17] [] [],.p 23 [110,111] [] [13],.p 24 [] [112] [111],.p 25 [] [] [11,13,10],.p 26 [] [118] [111],.p 27 [] [128] [11,13],.p 28 [17] [] [],.p 30 [12] [] [13,17]] (by kernel_rfl) (by simp [Tryd.f10];rfl) (by simp only [Ws,Wx];rfl)
@[simp] def w10_1:=Zah Tryd.prog Tryd.f10 T10 112 [112,118,128] [.p 1 [18,19,20,21,22,23,24] [] [1,5]] (by kernel_rfl) (by simp [Tryd.f10];rfl) (by simp only [Ws,Wx];rfl)
@[simp] def w10_29:=Zah Tryd.prog Tryd.f10 T10 112 [112,118,128] [.p 29 [] [] [11,12,13,17]] (by kernel_rfl) (by simp [Tryd.f10];rfl) (by simp only [Ws,Wx];rfl)
theorem k10:Zcz TT 10 (Za5 TT 10) [.cell 10 28] 5:=Zdc Tryd.f10 T10 (by kernel_rfl) (by kernel_rfl) (by kernel_rfl)
theorem T13:TT 13=some Tryd.f13:=by kernel_rfl
@[simp] def bd13:=Zbd Tryd.f13 T13 (by simp [Tryd.f13];rfl)
@[simp] def w13:=Zah Tryd.prog Tryd.f13 T13 86 [126,209,298] [.p 0 [1,2] [] [0],.p 7 [39,40,41] [] [8,4],.d 8 [44,45,46,47,48,49,50] [] [7,8,5] [(0,[4,5,6]),(1,[4])] [0,1,2,3,4,5,6,7],.p 15 [60,13] [] [6,3],.p 18 [63,64,65,66,67,68,69,70,71,72,73,74,75,76,77] [] [1,14,3],.p 19 [80,81,82,83,84,85] [] [1,14],.p 20 [] [126] [85],.p 37 [] [209] [85],.d 55 [] [] [3,25,22,5] [(1,[10,13]),(4,[10]),(5,[10]),(6,[10]),(9,[10])] [0,1,2,3,4,5,6,7,8,9,10,11,12,13],.p 70 [78,79,14] [] [14]] (by kernel_rfl) (by simp [Tryd.f13];rfl) (by simp only [Ws,Wx];rfl)
@[simp] def w13_1:=Zah Tryd.prog Tryd.f13 T13 86 [126,209,298] [.p 1 [33,3] [] []] (by kernel_rfl) (by simp [Tryd.f13];rfl) (by simp only [Ws,Wx];rfl)
@[simp] def w13_2:=Zah Tryd.prog Tryd.f13 T13 86 [126,209,298] [.p 2 [34,35,36,4] [] [1]] (by kernel_rfl) (by simp [Tryd.f13];rfl) (by simp only [Ws,Wx];rfl)
@[simp] def w13_3:=Zah Tryd.prog Tryd.f13 T13 86 [126,209,298] [.p 3 [5] [] []] (by kernel_rfl) (by simp [Tryd.f13];rfl) (by simp only [Ws,Wx];rfl)
@[simp] def w13_4:=Zah Tryd.prog Tryd.f13 T13 86 [126,209,298] [.p 4 [37,6] [] []] (by kernel_rfl) (by simp [Tryd.f13];rfl) (by simp only [Ws,Wx];rfl)
@[simp] def w13_5:=Zah Tryd.prog Tryd.f13 T13 86 [126,209,298] [.p 5 [38,7] [] [3,6]] (by kernel_rfl) (by simp [Tryd.f13];rfl) (by simp only [Ws,Wx];rfl)
@[simp] def w13_6:=Zah Tryd.prog Tryd.f13 T13 86 [126,209,298] [.p 6 [8] [] []] (by kernel_rfl) (by simp [Tryd.f13];rfl) (by simp only [Ws,Wx];rfl)
@[simp] def w13_9:=Zah Tryd.prog Tryd.f13 T13 86 [126,209,298] [.p 9 [42,43,8] [] [8]] (by kernel_rfl) (by simp [Tryd.f13];rfl) (by simp only [Ws,Wx];rfl)
@[simp] def w13_10:=Zah Tryd.prog Tryd.f13 T13 86 [126,209,298] [.d 10 [51,52,53,54,55,56] [] [7,5] [(0,[3,4,5]),(1,[3])] [0,1,2,3,4,5,6]] (by kernel_rfl) (by simp [Tryd.f13];rfl) (by simp only [Ws,Wx];rfl)
@[simp] def w13_11:=Zah Tryd.prog Tryd.f13 T13 86 [126,209,298] [.p 11 [9] [] []] (by kernel_rfl) (by simp [Tryd.f13];rfl) (by simp only [Ws,Wx];rfl)
@[simp] def w13_12:=Zah Tryd.prog Tryd.f13 T13 86 [126,209,298] [.p 12 [57,10] [] [9,1]] (by kernel_rfl) (by simp [Tryd.f13];rfl) (by simp only [Ws,Wx];rfl)
@[simp] def w13_13:=Zah Tryd.prog Tryd.f13 T13 86 [126,209,298] [.p 13 [58,11] [] [3,10,5]] (by kernel_rfl) (by simp [Tryd.f13];rfl) (by simp only [Ws,Wx];rfl)
@[simp] def w13_14:=Zah Tryd.prog Tryd.f13 T13 86 [126,209,298] [.p 14 [59,12] [] [10,3,5,7,11]] (by kernel_rfl) (by simp [Tryd.f13];rfl) (by simp only [Ws,Wx];rfl)
@[simp] def w13_16:=Zah Tryd.prog Tryd.f13 T13 86 [126,209,298] [.p 16 [61,62] [] [12]] (by kernel_rfl) (by simp [Tryd.f13];rfl) (by simp only [Ws,Wx];rfl)
@[simp] def w13_17:=Zah Tryd.prog Tryd.f13 T13 86 [126,209,298] [.p 17 [14] [] []] (by kernel_rfl) (by simp [Tryd.f13];rfl) (by simp only [Ws,Wx];rfl)
@[simp] def w13_21:=Zah Tryd.prog Tryd.f13 T13 86 [126,209,298] [.d 21 [15] [] [10,5] [(0,[4,8]),(1,[4]),(2,[4]),(3,[4]),(6,[8])] []] (by kernel_rfl) (by simp [Tryd.f13];rfl) (by simp only [Ws,Wx];rfl)
@[simp] def w13_22:=Zah Tryd.prog Tryd.f13 T13 86 [126,209,298] [.p 22 [16] [] [5]] (by kernel_rfl) (by simp [Tryd.f13];rfl) (by simp only [Ws,Wx];rfl)
@[simp] def w13_23:=Zah Tryd.prog Tryd.f13 T13 86 [126,209,298] [.p 23 [17] [] [13,15,3]] (by kernel_rfl) (by simp [Tryd.f13];rfl) (by simp only [Ws,Wx];rfl)
@[simp] def w13_24:=Zah Tryd.prog Tryd.f13 T13 86 [126,209,298] [.p 24 [] [] [17,6]] (by kernel_rfl) (by simp [Tryd.f13];rfl) (by simp only [Ws,Wx];rfl)
@[simp] def w13_25:=Zah Tryd.prog Tryd.f13 T13 86 [126,209,298] [.p 25 [] [] [12]] (by kernel_rfl) (by simp [Tryd.f13];rfl) (by simp only [Ws,Wx];rfl)
@[simp] def w13_26:=Zah Tryd.prog Tryd.f13 T13 86 [126,209,298] [.p 26 [18] [] [5]] (by kernel_rfl) (by simp [Tryd.f13];rfl) (by simp only [Ws,Wx];rfl)
@[simp] def w13_27:=Zah Tryd.prog Tryd.f13 T13 86 [126,209,298] [.p 27 [] [] [16,5]] (by kernel_rfl) (by simp [Tryd.f13];rfl) (by simp only [Ws,Wx];rfl)
@[simp] def w13_28:=Zah Tryd.prog Tryd.f13 T13 86 [126,209,298] [.p 28 [19] [] [13,3]] (by kernel_rfl) (by simp [Tryd.f13];rfl) (by simp only [Ws,Wx];rfl)
@[simp] def w13_29:=Zah Tryd.prog Tryd.f13 T13 86 [126,209,298] [.p 29 [] [] [17,6]] (by kernel_rfl) (by simp [Tryd.f13];rfl) (by simp only [Ws,Wx];rfl)
@[simp] def w13_30:=Zah Tryd.prog Tryd.f13 T13 86 [126,209,298] [.p 30 [] [] [12]] (by kernel_rfl) (by simp [Tryd.f13];rfl) (by simp only [Ws,Wx];rfl)
@[simp] def w13_31:=Zah Tryd.prog Tryd.f13 T13 86 [126,209,298] [.p 31 [20] [] [5]] (by kernel_rfl) (by simp [Tryd.f13];rfl) (by simp only [Ws,Wx];rfl)
@[simp] def w13_32:=Zah Tryd.prog Tryd.f13 T13 86 [126,209,298] [.p 32 [] [] [16,5]] (by kernel_rfl) (by simp [Tryd.f13];rfl) (by simp only [Ws,Wx];rfl)
@[simp] def w13_33:=Zah Tryd.prog Tryd.f13 T13 86 [126,209,298] [.p 33 [21] [] [13,3]] (by kernel_rfl) (by simp [Tryd.f13];rfl) (by simp only [Ws,Wx];rfl)
@[simp] def w13_34:=Zah Tryd.prog Tryd.f13 T13 86 [126,209,298] [.p 34 [] [] [19,21,6]] (by kernel_rfl) (by simp [Tryd.f13];rfl) (by simp only [Ws,Wx];rfl)
@[simp] def w13_35:=Zah Tryd.prog Tryd.f13 T13 86 [126,209,298] [.d 35 [] [] [7,18,20,5] [(0,[4,6,7,8]),(1,[4,6])] [0,1,2,3,4,5,6,7,8,9]] (by kernel_rfl) (by simp [Tryd.f13];rfl) (by simp only [Ws,Wx];rfl)
@[simp] def w13_36:=Zah Tryd.prog Tryd.f13 T13 86 [126,209,298] [.p 36 [] [] [12]] (by kernel_rfl) (by simp [Tryd.f13];rfl) (by simp only [Ws,Wx];rfl)
@[simp] def w13_38:=Zah Tryd.prog Tryd.f13 T13 86 [126,209,298] [.d 38 [22] [] [10,5] [(0,[4,8]),(1,[4]),(2,[4]),(3,[4]),(6,[8])] []] (by kernel_rfl) (by simp [Tryd.f13];rfl) (by simp only [Ws,Wx];rfl)
@[simp] def w13_39:=Zah Tryd.prog Tryd.f13 T13 86 [126,209,298] [.p 39 [23] [] [13,3]] (by kernel_rfl) (by simp [Tryd.f13];rfl) (by simp only [Ws,Wx];rfl)
@[simp] def w13_40:=Zah Tryd.prog Tryd.f13 T13 86 [126,209,298] [.p 40 [24] [] [23]] (by kernel_rfl) (by simp [Tryd.f13];rfl) (by simp only [Ws,Wx];rfl)
@[simp] def w13_41:=Zah Tryd.prog Tryd.f13 T13 86 [126,209,298] [.p 41 [] [] [23,24,6]] (by kernel_rfl) (by simp [Tryd.f13];rfl) (by simp only [Ws,Wx];rfl)
@[simp] def w13_42:=Zah Tryd.prog Tryd.f13 T13 86 [126,209,298] [.p 42 [25] [] [7,22]] (by kernel_rfl) (by simp [Tryd.f13];rfl) (by simp only [Ws,Wx];rfl)
@[simp] def w13_43:=Zah Tryd.prog Tryd.f13 T13 86 [126,209,298] [.d 43 [26] [] [7,10,5,25] [(0,[5,9,11]),(1,[5,9]),(2,[5]),(3,[5]),(4,[5]),(7,[9])] [0,1,2,3,4,5,6,7,8,9,10,11,12]] (by kernel_rfl) (by simp [Tryd.f13];rfl) (by simp only [Ws,Wx];rfl)
@[simp] def w13_44:=Zah Tryd.prog Tryd.f13 T13 86 [126,209,298] [.p 44 [] [] [25,26,5]] (by kernel_rfl) (by simp [Tryd.f13];rfl) (by simp only [Ws,Wx];rfl)
@[simp] def w13_45:=Zah Tryd.prog Tryd.f13 T13 86 [126,209,298] [.d 45 [] [] [7,11] [(0,[2,4]),(1,[2])] []] (by kernel_rfl) (by simp [Tryd.f13];rfl) (by simp only [Ws,Wx];rfl)
@[simp] def w13_46:=Zah Tryd.prog Tryd.f13 T13 86 [126,209,298] [.p 46 [27] [] [7]] (by kernel_rfl) (by simp [Tryd.f13];rfl) (by simp only [Ws,Wx];rfl)
@[simp] def w13_47:=Zah Tryd.prog Tryd.f13 T13 86 [126,209,298] [.p 47 [28] [] [7,25,27]] (by kernel_rfl) (by simp [Tryd.f13];rfl) (by simp only [Ws,Wx];rfl)
@[simp] def w13_48:=Zah Tryd.prog Tryd.f13 T13 86 [126,209,298] [.p 48 [] [] [28,5]] (by kernel_rfl) (by simp [Tryd.f13];rfl) (by simp only [Ws,Wx];rfl)
@[simp] def w13_49:=Zah Tryd.prog Tryd.f13 T13 86 [126,209,298] [.p 49 [] [] [13,25,24]] (by kernel_rfl) (by simp [Tryd.f13];rfl) (by simp only [Ws,Wx];rfl)
@[simp] def w13_50:=Zah Tryd.prog Tryd.f13 T13 86 [126,209,298] [.p 50 [29] [] [5]] (by kernel_rfl) (by simp [Tryd.f13];rfl) (by simp only [Ws,Wx];rfl)
@[simp] def w13_51:=Zah Tryd.prog Tryd.f13 T13 86 [126,209,298] [.p 51 [] [] [24,6]] (by kernel_rfl) (by simp [Tryd.f13];rfl) (by simp only [Ws,Wx];rfl)
@[simp] def w13_52:=Zah Tryd.prog Tryd.f13 T13 86 [126,209,298] [.p 52 [] [] [12]] (by kernel_rfl) (by simp [Tryd.f13];rfl) (by simp only [Ws,Wx];rfl)
@[simp] def w13_53:=Zah Tryd.prog Tryd.f13 T13 86 [126,209,298] [.p 53 [] [] [3,25,22,28]] (by kernel_rfl) (by simp [Tryd.f13];rfl) (by simp only [Ws,Wx];rfl)
@[simp] def w13_54:=Zah Tryd.prog Tryd.f13 T13 86 [126,209,298] [.p 54 [] [298] [10]] (by kernel_rfl) (by simp [Tryd.f13];rfl) (by simp only [Ws,Wx];rfl)
@[simp] def w13_56:=Zah Tryd.prog Tryd.f13 T13 86 [126,209,298] [.d 56 [] [] [3,26,5] [(1,[17,20]),(4,[17]),(8,[17]),(10,[17]),(11,[17]),(12,[17]),(13,[17]),(16,[17])] [0,1,2,3,4,5,6,7,8,9,10,11,12,13,14,15,16,17,18,19,20]] (by kernel_rfl) (by simp [Tryd.f13];rfl) (by simp only [Ws,Wx];rfl)
@[simp] def w13_57:=Zah Tryd.prog Tryd.f13 T13 86 [126,209,298] [.p 57 [] [] [29,5]] (by kernel_rfl) (by simp [Tryd.f13];rfl) (by simp only [Ws,Wx];rfl)
@[simp] def w13_58:=Zah Tryd.prog Tryd.f13 T13 86 [126,209,298] [.p 58 [] [] [13,24]] (by kernel_rfl) (by simp [Tryd.f13];rfl) (by simp only [Ws,Wx];rfl)
@[simp] def w13_59:=Zah Tryd.prog Tryd.f13 T13 86 [126,209,298] [.p 59 [] [] [24,6]] (by kernel_rfl) (by simp [Tryd.f13];rfl) (by simp only [Ws,Wx];rfl)
@[simp] def w13_60:=Zah Tryd.prog Tryd.f13 T13 86 [126,209,298] [.p 60 [] [] [12]] (by kernel_rfl) (by simp [Tryd.f13];rfl) (by simp only [Ws,Wx];rfl)
@[simp] def w13_61:=Zah Tryd.prog Tryd.f13 T13 86 [126,209,298] [.d 61 [30] [] [10,5] [(0,[4,8]),(1,[4]),(2,[4]),(3,[4]),(6,[8])] []] (by kernel_rfl) (by simp [Tryd.f13];rfl) (by simp only [Ws,Wx];rfl)
@[simp] def w13_62:=Zah Tryd.prog Tryd.f13 T13 86 [126,209,298] [.p 62 [31] [] [13,30,3]] (by kernel_rfl) (by simp [Tryd.f13];rfl) (by simp only [Ws,Wx];rfl)
@[simp] def w13_63:=Zah Tryd.prog Tryd.f13 T13 86 [126,209,298] [.p 63 [32] [] [5]] (by kernel_rfl) (by simp [Tryd.f13];rfl) (by simp only [Ws,Wx];rfl)
@[simp] def w13_64:=Zah Tryd.prog Tryd.f13 T13 86 [126,209,298] [.p 64 [] [] [31,6]] (by kernel_rfl) (by simp [Tryd.f13];rfl) (by simp only [Ws,Wx];rfl)
@[simp] def w13_65:=Zah Tryd.prog Tryd.f13 T13 86 [126,209,298] [.p 65 [] [] [12]] (by kernel_rfl) (by simp [Tryd.f13];rfl) (by simp only [Ws,Wx];rfl)
@[simp] def w13_66:=Zah Tryd.prog Tryd.f13 T13 86 [126,209,298] [.p 66 [] [] [13,11]] (by kernel_rfl) (by simp [Tryd.f13];rfl) (by simp only [Ws,Wx];rfl)
@[simp] def w13_67:=Zah Tryd.prog Tryd.f13 T13 86 [126,209,298] [.p 67 [] [] [32,5]] (by kernel_rfl) (by simp [Tryd.f13];rfl) (by simp only [Ws,Wx];rfl)
@[simp] def w13_68:=Zah Tryd.prog Tryd.f13 T13 86 [126,209,298] [.p 68 [] [] [31,6]] (by kernel_rfl) (by simp [Tryd.f13];rfl) (by simp only [Ws,Wx];rfl)
@[simp] def w13_69:=Zah Tryd.prog Tryd.f13 T13 86 [126,209,298] [.p 69 [] [] [12]] (by kernel_rfl) (by simp [Tryd.f13];rfl) (by simp only [Ws,Wx];rfl)
@[simp] def w13_71:=Zah Tryd.prog Tryd.f13 T13 86 [126,209,298] [.p 71 [] [] [13,11]] (by kernel_rfl) (by simp [Tryd.f13];rfl) (by simp only [Ws,Wx];rfl)
@[simp] def w13_72:=Zah Tryd.prog Tryd.f13 T13 86 [126,209,298] [.p 72 [] [] [3,2]] (by kernel_rfl) (by simp [Tryd.f13];rfl) (by simp only [Ws,Wx];rfl)
theorem k13:Zcz TT 13 (Za5 TT 13) [.cell 2 34] 1:=Zdc Tryd.f13 T13 (by kernel_rfl) (by kernel_rfl) (by kernel_rfl)
theorem T14:TT 14=some Tryd.f14:=by kernel_rfl
@[simp] def bd14:=Zbd Tryd.f14 T14 (by simp [Tryd.f14];rfl)
@[simp] def w14:=Zah Tryd.prog Tryd.f14 T14 9 [17,44] [.p 0 [2] [] [],.p 1 [3] [] [],.p 2 [4] [] [],.p 3 [] [17] [0,4],.p 4 [5] [] [0,4],.p 5 [6,7] [] [3,0,4,5],.p 6 [8] [] [],.p 7 [] [44] [7,8,5],.p 9 [8] [] [8],.p 10 [4] [] [4],.p 11 [2] [] [3]] (by kernel_rfl) (by simp [Tryd.f14];rfl) (by simp only [Ws,Wx];rfl)
@[simp] def w14_8:=Zah Tryd.prog Tryd.f14 T14 9 [17,44] [.p 8 [] [] [3,6,0,4,8]] (by kernel_rfl) (by simp [Tryd.f14];rfl) (by simp only [Ws,Wx];rfl)
theorem k14:Zcz TT 14 (Za5 TT 14) [.tmp 2] 1:=Zdc Tryd.f14 T14 (by kernel_rfl) (by kernel_rfl) (by kernel_rfl)
theorem T15:TT 15=some Tryd.f15:=by kernel_rfl
@[simp] def bd15:=Zbd Tryd.f15 T15 (by simp [Tryd.f15];rfl)
@[simp] def w15:=Zah Tryd.prog Tryd.f15 T15 11 [25,32,67,70] [.p 0 [2,3] [] [],.p 1 [4,5] [] [0],.p 2 [] [25] [5,4],.p 3 [2,3] [] [],.p 4 [6] [] [],.p 5 [] [32] [6,0],.p 6 [7] [] [0,6],.p 7 [8,9] [] [4,0,6,7],.p 8 [] [67] [9],.p 9 [2,3] [] [],.p 10 [10] [] [],.p 11 [] [70] [10,7],.p 12 [] [] [4,0,6,10],.p 13 [10] [] [10],.p 14 [6] [] [6,7],.d 15 [2,3] [] [4,0] [(6,[2,7])] []] (by kernel_rfl) (by simp [Tryd.f15];rfl) (by simp only [Ws,Wx];rfl)
theorem k15:Zcz TT 15 (Za5 TT 15) [.tmp 2,.tmp 3] 1:=Zdc Tryd.f15 T15 (by kernel_rfl) (by kernel_rfl) (by kernel_rfl)
theorem T16:TT 16=some Tryd.f16:=by kernel_rfl
@[simp] def bd16:=Zbd Tryd.f16 T16 (by simp [Tryd.f16];rfl)
@[simp] def w16:=Zah Tryd.prog Tryd.f16 T16 5 [9] [.p 0 [4] [] [],.p 1 [0] [] [0,1],.p 2 [] [9] [0],.p 3 [0] [] [0,1],.p 4 [4] [] [0]] (by kernel_rfl) (by simp [Tryd.f16];rfl) (by simp only [Ws,Wx];rfl)
theorem k16:Zcz TT 16 (Za5 TT 16) [.tmp 4] 2:=Zdc Tryd.f16 T16 (by kernel_rfl) (by kernel_rfl) (by kernel_rfl)
theorem T17:TT 17=some Tryd.f17:=by kernel_rfl
@[simp] def bd17:=Zbd Tryd.f17 T17 (by simp [Tryd.f17];rfl)
@[simp] def w17:=Zah Tryd.prog Tryd.f17 T17 325 [331,337,344] [.p 0 [5,10] [] [0],.p 1 [25,26,27,28,11] [] [5],.p 2 [12] [] [],.p 3 [13] [] [],.p 4 [14] [] [],.p 5 [15] [] [],.p 6 [29,30,31,32,33,16] [] [5,14],.p 7 [17] [] [],.p 8 [18] [] [],.p 9 [34,35,36,37,38] [] [18,16],.d 10 [39,40,41,42,43,44,45,46,47,19] [] [5,16,18] [(1,[9,10]),(3,[9,10]),(6,[9,10]),(8,[9,10])] [0,1,2,3,4,5,6,7,8,9,10],.p 11 [20] [] [],.p 12 [48,49,50] [] [19],.p 13 [51,52,53,54,55] [] [19,2],.p 14 [56,57,58,59,60,20] [] [2,19],.p 15 [61,62,63] [] [19],.p 16 [21] [] [],.p 17 [64,65,66,67,68] [] [21,16],.p 18 [71,72,73,74,75,76,77] [] [16,21,15],.p 19 [78,79,80,81,82,83,84,85,20] [] [11,19,21],.p 20 [69,70,21] [] [21],.p 21 [86,87,88,89,17] [] [17,20],.p 22 [90,91,18] [] [18],.p 23 [22] [] [],.p 24 [92,93,94] [] [22,18],.d 25 [97,98,99,100,101,102,103,104,105,106,107] [] [11,16,17,22] [(2,[11]),(5,[11]),(9,[11])] [],.p 26 [108,109,12] [] [12],.p 27 [95,96,22] [] [22],.p 28 [110,111,112,113,114] [] [18,16],.p 29 [117,118,119] [] [12,4],.p 30 [120,121] [] [12,10],.p 31 [122,123,12] [] [12],.p 32 [124,125,126,127,128,23] [] [16,18],.p 33 [129,130,131,132,133,24] [] [5,23],.p 34 [134,135] [] [24],.p 35 [156,155] [] [135],.p 36 [157,158,159,160,161,162] [] [11,23,24],.p 37 [164,163] [] [135],.p 38 [165,166,167,168,169,170,171,172,173,174,175] [] [23,1,11,24],.p 39 [177,176] [] [135],.p 40 [178,179,180,181,182,183,184,185,186,187,188] [] [23,1,11,24],.p 41 [190,189] [] [135],.d 42 [191,192,193,194,195,196,197,198,199,200,201,202,203,204] [] [23,1,11,24] [(5,[12]),(7,[12]),(9,[12]),(10,[12])] [],.p 43 [206,205] [] [135],.d 44 [207,208,209,210,211,212,213,214,215,216,217,218,219,220,221,222,223] [] [23,1,11,24] [(5,[15]),(7,[15]),(11,[15]),(13,[15])] [],.p 45 [225,224] [] [135],.d 46 [226,227,228,229,230,231,232,233,234,235,236,237,238,239,240,241] [] [1,11,24] [(3,[15]),(5,[15]),(7,[15]),(8,[15]),(12,[15]),(14,[15])] [],.p 47 [243,242] [] [135],.d 48 [244,245,246,247,248,249,250,251,252,253,254,255,256,257,258,259,260,261,262,263,264] [] [1,11,24] [(3,[20]),(5,[20]),(9,[20]),(11,[20]),(15,[20]),(17,[20]),(19,[20])] [],.p 49 [266,265] [] [135],.p 50 [267,268,269,270,271,272] [] [11,24],.p 51 [273,274,275,276,277,278,279] [] [5,11,24,23,12,10],.p 52 [281,280] [] [135],.p 53 [282,283,284,285,286,287,288] [] [13,3],.p 54 [289,290,291,292,293,294,295] [] [5,11,24,23,12,10],.p 55 [296,297,13] [] [13],.p 56 [299,298] [] [135],.p 57 [300,298] [] [135],.d 58 [302,303,304,305,306,307,308,309,310,311,301,312,313,314] [] [23,11,24] [(3,[9]),(6,[9]),(8,[9])] [],.d 59 [137,138,139,140,141,142,143,144,145,146,147,148,149,150,151,136,152,153,154] [] [23,11,24] [(3,[14]),(6,[14]),(8,[14]),(11,[14]),(13,[14])] [],.p 60 [115,116,18] [] [18],.p 61 [315,316,317] [] [12,4],.p 62 [318,319] [] [12,10],.p 63 [320,321,12] [] [12],.p 64 [322,15] [] [14],.p 65 [323,324] [] [16],.p 66 [] [331] [324],.p 67 [14] [] [16],.p 68 [] [337] [324],.p 69 [] [344] [11,16],.p 70 [14] [] [16],.p 71 [14] [] [16],.p 72 [] [] [5,11,16,12,10]] (by kernel_rfl) (by simp [Tryd.f17];rfl) (by simp only [Ws,Wx];rfl)
theorem k17:Zcz TT 17 (Za5 TT 17) [.cell 10 28] 5:=Zdc Tryd.f17 T17 (by kernel_rfl) (by kernel_rfl) (by kernel_rfl)
theorem T18:TT 18=some Tryd.f18:=by kernel_rfl
@[simp] def bd18:=Zbd Tryd.f18 T18 (by simp [Tryd.f18];rfl)
@[simp] def w18:=Zah Tryd.prog Tryd.f18 T18 5 [] [.p 0 [2,3,4] [] [0,1]] (by kernel_rfl) (by simp [Tryd.f18];rfl) (by simp only [Ws,Wx];rfl)
@[simp] def w18_1:=Zah Tryd.prog Tryd.f18 T18 5 [] [.p 1 [4] [] [2,3]] (by kernel_rfl) (by simp [Tryd.f18];rfl) (by simp only [Ws,Wx];rfl)
theorem k18:Zcz TT 18 (Za5 TT 18) [.tmp 4] 2:=Zdc Tryd.f18 T18 (by kernel_rfl) (by kernel_rfl) (by kernel_rfl)
theorem T19:TT 19=some Tryd.f19:=by kernel_rfl
@[simp] def bd19:=Zbd Tryd.f19 T19 (by simp [Tryd.f19];rfl)
@[simp] def w19:=Zah Tryd.prog Tryd.f19 T19 6 [10,14,25] [.p 0 [4] [] [],.p 1 [] [10] [0,1],.p 2 [4] [] [],.p 3 [5] [] [],.p 4 [] [14] [5,0],.p 5 [] [25] [0,1,5],.p 6 [4] [] [],.p 7 [5] [] [5],.p 8 [4] [] []] (by kernel_rfl) (by simp [Tryd.f19];rfl) (by simp only [Ws,Wx];rfl)
theorem k19:Zcz TT 19 (Za5 TT 19) [.tmp 4] 2:=Zdc Tryd.f19 T19 (by kernel_rfl) (by kernel_rfl) (by kernel_rfl)
theorem T20:TT 20=some Tryd.f20:=by kernel_rfl
@[simp] def bd20:=Zbd Tryd.f20 T20 (by simp [Tryd.f20];rfl)
@[simp] def w20:=Zah Tryd.prog Tryd.f20 T20 3 [] [.p 0 [2] [] [],.p 1 [2] [] [0]] (by kernel_rfl) (by simp [Tryd.f20];rfl) (by simp only [Ws,Wx];rfl)
theorem k20:Zcz TT 20 (Za5 TT 20) [.tmp 2] 1:=Zdc Tryd.f20 T20 (by kernel_rfl) (by kernel_rfl) (by kernel_rfl)
theorem T21:TT 21=some Tryd.f21:=by kernel_rfl
@[simp] def bd21:=Zbd Tryd.f21 T21 (by simp [Tryd.f21];rfl)
@[simp] def w21:=Zah Tryd.prog Tryd.f21 T21 3 [] [.p 0 [2] [] [],.p 1 [2] [] [0]] (by kernel_rfl) (by simp [Tryd.f21];rfl) (by simp only [Ws,Wx];rfl)
theorem k21:Zcz TT 21 (Za5 TT 21) [.tmp 2] 1:=Zdc Tryd.f21 T21 (by kernel_rfl) (by kernel_rfl) (by kernel_rfl)
theorem T22:TT 22=some Tryd.f22:=by kernel_rfl
@[simp] def bd22:=Zbd Tryd.f22 T22 (by simp [Tryd.f22];rfl)
@[simp] def w22:=Zah Tryd.prog Tryd.f22 T22 5 [26,72,80] [.p 0 [1,2] [] [0],.p 1 [] [26] [1],.p 2 [2] [] [],.p 3 [3] [] [1],.p 5 [2] [] [],.p 7 [] [80] [4,1],.p 8 [2] [] [],.p 9 [] [] [3,1],.p 10 [2] [] [1,3]] (by kernel_rfl) (by simp [Tryd.f22];rfl) (by simp only [Ws,Wx];rfl)
@[simp] def w22_4:=Zah Tryd.prog Tryd.f22 T22 5 [26,72,80] [.p 4 [] [72] [1,3]] (by kernel_rfl) (by simp [Tryd.f22];rfl) (by simp only [Ws,Wx];rfl)
@[simp] def w22_6:=Zah Tryd.prog Tryd.f22 T22 5 [26,72,80] [.p 6 [4] [] [3]] (by kernel_rfl) (by simp [Tryd.f22];rfl) (by simp only [Ws,Wx];rfl)
theorem k22:Zcz TT 22 (Za5 TT 22) [.tmp 2] 1:=Zdc Tryd.f22 T22 (by kernel_rfl) (by kernel_rfl) (by kernel_rfl)
theorem T23:TT 23=some Tryd.f23:=by kernel_rfl
@[simp] def bd23:=Zbd Tryd.f23 T23 (by simp [Tryd.f23];rfl)
@[simp] def w23:=Zah Tryd.prog Tryd.f23 T23 10 [38,62] [.p 0 [6,7] [] [],.p 1 [] [38] [1,2,0],.p 2 [6,7] [] [],.p 3 [8] [] [0],.p 4 [] [] [0,1,2],.p 5 [9] [] [],.p 6 [] [62] [9,2],.p 7 [] [] [0],.p 8 [9] [] [9],.p 9 [6,7] [] [8]] (by kernel_rfl) (by simp [Tryd.f23];rfl) (by simp only [Ws,Wx];rfl)
theorem k23:Zcz TT 23 (Za5 TT 23) [.tmp 6,.tmp 7] 3:=Zdc Tryd.f23 T23 (by kernel_rfl) (by kernel_rfl) (by kernel_rfl)
theorem T25:TT 25=some Tryd.f25:=by kernel_rfl
@[simp] def bd25:=Zbd Tryd.f25 T25 (by simp [Tryd.f25];rfl)
@[simp] def w25:=Zah Tryd.prog Tryd.f25 T25 17 [17,30,35] [.p 0 [7,8,9,10,11,12,13,14,15,16] [] [0],.p 1 [] [17] [16,15],.p 2 [5] [] [14,16],.p 3 [6] [] [0,5],.p 4 [] [30] [6],.p 5 [] [35] [6,1],.d 6 [] [] [0,5,1,6] [(3,[11]),(7,[11]),(9,[11])] [],.p 7 [] [] [0],.p 8 [16] [] [16]] (by kernel_rfl) (by simp [Tryd.f25];rfl) (by simp only [Ws,Wx];rfl)
theorem k25:Zcz TT 25 (Za5 TT 25) [] 2:=Zdc Tryd.f25 T25 (by kernel_rfl) (by kernel_rfl) (by kernel_rfl)
theorem T26:TT 26=some Tryd.f26:=by kernel_rfl
@[simp] def bd26:=Zbd Tryd.f26 T26 (by simp [Tryd.f26];rfl)
@[simp] def w26:=Zah Tryd.prog Tryd.f26 T26 3 [] [.p 0 [2] [] [],.p 1 [] [] [0,2]] (by kernel_rfl) (by simp [Tryd.f26];rfl) (by simp only [Ws,Wx];rfl)
theorem k26:Zcz TT 26 (Za5 TT 26) [.cell 2 28] 1:=Zdc Tryd.f26 T26 (by kernel_rfl) (by kernel_rfl) (by kernel_rfl)
theorem T27:TT 27=some Tryd.f27:=by kernel_rfl
@[simp] def bd27:=Zbd Tryd.f27 T27 (by simp [Tryd.f27];rfl)
@[simp] def w27:=Zah Tryd.prog Tryd.f27 T27 16 [16,27,33,38] [.p 0 [4] [] [],.p 1 [6,7,8,9,10,11,12,13,5] [] [0,1],.p 2 [14,15] [] [5],.p 3 [] [16] [15],.p 4 [4] [] [0,5],.p 5 [] [27] [15],.p 6 [] [33] [0],.p 7 [4] [] [],.p 8 [] [38] [0],.p 9 [] [] [0],.p 10 [4] [] []] (by kernel_rfl) (by simp [Tryd.f27];rfl) (by simp only [Ws,Wx];rfl)
theorem k27:Zcz TT 27 (Za5 TT 27) [.tmp 4] 2:=Zdc Tryd.f27 T27 (by kernel_rfl) (by kernel_rfl) (by kernel_rfl)
theorem T28:TT 28=some Tryd.f28:=by kernel_rfl
@[simp] def bd28:=Zbd Tryd.f28 T28 (by simp [Tryd.f28];rfl)
@[simp] def w28:=Zah Tryd.prog Tryd.f28 T28 30 [30] [.p 0 [3,6] [] [0],.p 1 [11,12,13,14,15,16,17,7] [] [1,2,3],.p 2 [18,8] [] [3],.p 3 [19,20,21,22,23,24,25,26,27,28,29] [] [3,1],.p 4 [] [30] [29,28],.p 5 [10] [] [27,29],.d 6 [] [] [8,10,7] [(1,[9,13,15,16]),(3,[9,13,15]),(5,[9,13,15]),(8,[9]),(12,[9,13])] [0,1,2,3,4,5,6,7,8,9,10,11,12,13,14,15,16,17,18],.p 7 [29] [] [29],.p 8 [] [] [7,6]] (by kernel_rfl) (by simp [Tryd.f28];rfl) (by simp only [Ws,Wx];rfl)
theorem k28:Zcz TT 28 (Za5 TT 28) [.cell 6 28] 3:=Zdc Tryd.f28 T28 (by kernel_rfl) (by kernel_rfl) (by kernel_rfl)
theorem T29:TT 29=some Tryd.f29:=by kernel_rfl
@[simp] def bd29:=Zbd Tryd.f29 T29 (by simp [Tryd.f29];rfl)
@[simp] def w29:=Zah Tryd.prog Tryd.f29 T29 57 [68,77,92,107,123,140,151,172,172] [.p 0 [9,10,11,12,13,14,15,16,4] [] [0,1],.p 1 [5,6] [] [],.p 2 [17,18,7] [] [4],.p 3 [19,20] [] [7],.p 4 [40,39] [] [20],.p 5 [42,41] [] [20],.p 6 [43,44,45,46,47,48,49,50,51,5] [] [0,7],.p 7 [21,22,23,24,25,26,27,28,29,30,31,32,33,34,35,36,37,38,5,6] [] [0,7],.p 9 [55,56] [] [4],.p 11 [] [] [0,1,8],.p 12 [] [77] [56],.d 13 [] [] [1,0,5] [(3,[10,13]),(8,[10]),(11,[13])] [],.p 14 [] [92] [56],.d 15 [] [] [1,0,5] [(3,[10,13]),(8,[10]),(11,[13])] [],.p 16 [] [107] [56],.d 17 [] [] [1,0,5,8] [(3,[12,14]),(8,[12])] [],.p 18 [] [123] [56],.d 19 [] [] [1,0,5,6] [(3,[13,15]),(8,[13])] [],.p 20 [] [140] [56],.p 21 [] [] [0,5,8,6],.p 22 [] [151] [56],.d 23 [] [] [5,6,0,4] [(3,[18]),(11,[18]),(13,[18]),(15,[18]),(17,[18])] [],.p 24 [] [172] [56],.p 25 [] [172] [56],.d 26 [] [] [0,1,4,5,6] [(3,[9,11]),(6,[9])] []] (by kernel_rfl) (by simp [Tryd.f29];rfl) (by simp only [Ws,Wx];rfl)
@[simp] def w29_8:=Zah Tryd.prog Tryd.f29 T29 57 [68,77,92,107,123,140,151,172,172] [.p 8 [52,53,54,8] [] [4]] (by kernel_rfl) (by simp [Tryd.f29];rfl) (by simp only [Ws,Wx];rfl)
@[simp] def w29_10:=Zah Tryd.prog Tryd.f29 T29 57 [68,77,92,107,123,140,151,172,172] [.p 10 [] [68] [56]] (by kernel_rfl) (by simp [Tryd.f29];rfl) (by simp only [Ws,Wx];rfl)
theorem k29:Zcz TT 29 (Za5 TT 29) [] 2:=Zdc Tryd.f29 T29 (by kernel_rfl) (by kernel_rfl) (by kernel_rfl)
theorem T30:TT 30=some Tryd.f30:=by kernel_rfl
@[simp] def bd30:=Zbd Tryd.f30 T30 (by simp [Tryd.f30];rfl)
@[simp] def w30:=Zah Tryd.prog Tryd.f30 T30 75 [75] [.p 0 [14,15,16,17,18,19,20,21,6] [] [0,2],.p 1 [7] [] [],.p 2 [22,23,24,25,26,27,28,29,30,31,32,33,34,35,36] [] [6,7,1],.p 3 [37,38,7] [] [7],.p 5 [39,40,41,42] [] [6],.p 6 [43] [] [42,41],.p 7 [44,45,10] [] [40,42],.p 8 [46,47,48,49,50,51,52,53,11] [] [0,10],.p 9 [54,55,56] [] [11],.d 10 [57,58,59,60,61,62,63,64,65,66,67,68,69,70,8] [] [8,0,11,7] [(4,[12]),(6,[12]),(9,[12]),(11,[12])] [0,1,2,3,4,5,6,7,8,9,10,11,12,13,14],.p 11 [71,42] [] [42],.p 12 [72,73,74] [] [8],.p 13 [] [75] [74,73],.p 14 [12,13] [] [72,74],.d 15 [] [] [0,6,12,13] [(3,[11]),(5,[11]),(8,[11])] [],.p 16 [] [] [0],.p 17 [74] [] [74]] (by kernel_rfl) (by simp [Tryd.f30];rfl) (by simp only [Ws,Wx];rfl)
@[simp] def w30_4:=Zah Tryd.prog Tryd.f30 T30 75 [75] [.p 4 [8] [] []] (by kernel_rfl) (by simp [Tryd.f30];rfl) (by simp only [Ws,Wx];rfl)
theorem k30:Zcz TT 30 (Za5 TT 30) [] 3:=Zdc Tryd.f30 T30 (by kernel_rfl) (by kernel_rfl) (by kernel_rfl)
theorem T31:TT 31=some Tryd.f31:=by kernel_rfl
@[simp] def bd31:=Zbd Tryd.f31 T31 (by simp [Tryd.f31];rfl)
@[simp] def w31:=Zah Tryd.prog Tryd.f31 T31 5 [] [.p 0 [3,4] [] [0]] (by kernel_rfl) (by simp [Tryd.f31];rfl) (by simp only [Ws,Wx];rfl)
@[simp] def w31_1:=Zah Tryd.prog Tryd.f31 T31 5 [] [.p 1 [] [] [3,1]] (by kernel_rfl) (by simp [Tryd.f31];rfl) (by simp only [Ws,Wx];rfl)
@[simp] def w31_2:=Zah Tryd.prog Tryd.f31 T31 5 [] [.p 2 [] [] [1,2]] (by kernel_rfl) (by simp [Tryd.f31];rfl) (by simp only [Ws,Wx];rfl)
@[simp] def w31_3:=Zah Tryd.prog Tryd.f31 T31 5 [] [.p 3 [4] [] [1]] (by kernel_rfl) (by simp [Tryd.f31];rfl) (by simp only [Ws,Wx];rfl)
theorem k31:Zcz TT 31 (Za5 TT 31) [.tmp 4] 3:=Zdc Tryd.f31 T31 (by kernel_rfl) (by kernel_rfl) (by kernel_rfl)
theorem T32:TT 32=some Tryd.f32:=by kernel_rfl
@[simp] def bd32:=Zbd Tryd.f32 T32 (by simp [Tryd.f32];rfl)
@[simp] def w32:=Zah Tryd.prog Tryd.f32 T32 5 [9] [.p 0 [4] [] [],.p 1 [] [9] [1,2],.p 2 [4] [] [],.p 3 [] [] [1],.p 4 [4] [] [2,1,0]] (by kernel_rfl) (by simp [Tryd.f32];rfl) (by simp only [Ws,Wx];rfl)
theorem k32:Zcz TT 32 (Za5 TT 32) [.tmp 4] 3:=Zdc Tryd.f32 T32 (by kernel_rfl) (by kernel_rfl) (by kernel_rfl)
theorem T33:TT 33=some Tryd.f33:=by kernel_rfl
@[simp] def bd33:=Zbd Tryd.f33 T33 (by simp [Tryd.f33];rfl)
@[simp] def w33:=Zah Tryd.prog Tryd.f33 T33 6 [13] [.p 0 [3] [] [],.p 1 [4] [] [0],.d 4 [] [] [1,2,4] [(1,[6,9,10]),(2,[6,9]),(3,[6]),(4,[6]),(5,[6]),(8,[9])] [0,1,2,3,4,5,6,7,8,9,10,11,12],.p 5 [5] [] [5]] (by kernel_rfl) (by simp [Tryd.f33];rfl) (by simp only [Ws,Wx];rfl)
@[simp] def w33_2:=Zah Tryd.prog Tryd.f33 T33 6 [13] [.p 2 [5] [] [1]] (by kernel_rfl) (by simp [Tryd.f33];rfl) (by simp only [Ws,Wx];rfl)
@[simp] def w33_3:=Zah Tryd.prog Tryd.f33 T33 6 [13] [.p 3 [] [13] [5]] (by kernel_rfl) (by simp [Tryd.f33];rfl) (by simp only [Ws,Wx];rfl)
@[simp] def w33_6:=Zah Tryd.prog Tryd.f33 T33 6 [13] [.p 6 [] [] [2,4]] (by kernel_rfl) (by simp [Tryd.f33];rfl) (by simp only [Ws,Wx];rfl)
@[simp] def w33_7:=Zah Tryd.prog Tryd.f33 T33 6 [13] [.p 7 [] [] [4,0]] (by kernel_rfl) (by simp [Tryd.f33];rfl) (by simp only [Ws,Wx];rfl)
@[simp] def w33_8:=Zah Tryd.prog Tryd.f33 T33 6 [13] [.p 8 [3] [] [0]] (by kernel_rfl) (by simp [Tryd.f33];rfl) (by simp only [Ws,Wx];rfl)
theorem k33:Zcz TT 33 (Za5 TT 33) [.tmp 3] 3:=Zdc Tryd.f33 T33 (by kernel_rfl) (by kernel_rfl) (by kernel_rfl)
theorem T34:TT 34=some Tryd.f34:=by kernel_rfl
@[simp] def bd34:=Zbd Tryd.f34 T34 (by simp [Tryd.f34];rfl)
@[simp] def w34:=Zah Tryd.prog Tryd.f34 T34 9 [19,48,61,73,85,96,106,122,131] [.p 0 [5] [] [0],.p 1 [] [19] [5,1],.d 2 [6] [] [0,2] [(0,[4,8]),(1,[4]),(2,[4]),(3,[4]),(6,[8])] [],.d 3 [7] [] [0,2] [(0,[4,8]),(1,[4]),(2,[4]),(3,[4]),(6,[8])] [],.p 4 [8] [] [0],.p 5 [] [48] [8],.p 7 [] [61] [8],.d 8 [] [] [3,0,2] [(0,[3,6,7,8]),(1,[3,6]),(2,[3])] [0,1,2,3,4,5,6,7,8,9],.p 9 [] [73] [8],.d 10 [] [] [3,6,0,2] [(0,[4,6,7,8]),(1,[4,6]),(3,[4])] [0,1,2,3,4,5,6,7,8,9],.p 11 [] [85] [8],.d 12 [] [] [3,6,7,2] [(0,[5,6,7]),(1,[5])] [0,1,2,3,4,5,6,7,8],.p 13 [] [96] [8],.d 14 [] [] [3,6,0,7] [(0,[3,6]),(2,[3])] [],.p 15 [] [106] [8],.d 16 [] [] [3,6,7,0,2] [(0,[7,10,12]),(3,[7,10]),(4,[7]),(5,[7]),(6,[7]),(9,[10])] [0,1,2,3,4,5,6,7,8,9,10,11,12],.p 17 [] [122] [8],.d 18 [] [] [3,6,4] [(0,[3,5]),(2,[3])] [],.p 19 [] [131] [8],.d 20 [] [] [3,4] [(0,[2,4]),(1,[2])] [],.d 21 [] [] [3,0,6,2] [(0,[3,7,8,9]),(1,[3,7]),(2,[3])] [0,1,2,3,4,5,6,7,8,9,10]] (by kernel_rfl) (by simp [Tryd.f34];rfl) (by simp only [Ws,Wx];rfl)
@[simp] def w34_6:=Zah Tryd.prog Tryd.f34 T34 9 [19,48,61,73,85,96,106,122,131] [.d 6 [] [] [3,8,6,7,2] [(0,[7,8,9]),(1,[7])] [0,1,2,3,4,5,6,7,8,9,10]] (by kernel_rfl) (by simp [Tryd.f34];rfl) (by simp only [Ws,Wx];rfl)
@[simp] def w34_22:=Zah Tryd.prog Tryd.f34 T34 9 [19,48,61,73,85,96,106,122,131] [.p 22 [5] [] [5]] (by kernel_rfl) (by simp [Tryd.f34];rfl) (by simp only [Ws,Wx];rfl)
theorem k34:Zcz TT 34 (Za5 TT 34) [] 5:=Zdc Tryd.f34 T34 (by kernel_rfl) (by kernel_rfl) (by kernel_rfl)
theorem T35:TT 35=some Tryd.f35:=by kernel_rfl
@[simp] def bd35:=Zbd Tryd.f35 T35 (by simp [Tryd.f35];rfl)
@[simp] def w35:=Zah Tryd.prog Tryd.f35 T35 5 [] [.p 0 [3,4] [] [0]] (by kernel_rfl) (by simp [Tryd.f35];rfl) (by simp only [Ws,Wx];rfl)
@[simp] def w35_1:=Zah Tryd.prog Tryd.f35 T35 5 [] [.p 1 [] [] [1,3]] (by kernel_rfl) (by simp [Tryd.f35];rfl) (by simp only [Ws,Wx];rfl)
@[simp] def w35_2:=Zah Tryd.prog Tryd.f35 T35 5 [] [.p 2 [] [] [1,3]] (by kernel_rfl) (by simp [Tryd.f35];rfl) (by simp only [Ws,Wx];rfl)
@[simp] def w35_3:=Zah Tryd.prog Tryd.f35 T35 5 [] [.p 3 [] [] [3,2]] (by kernel_rfl) (by simp [Tryd.f35];rfl) (by simp only [Ws,Wx];rfl)
@[simp] def w35_4:=Zah Tryd.prog Tryd.f35 T35 5 [] [.p 4 [] [] [1]] (by kernel_rfl) (by simp [Tryd.f35];rfl) (by simp only [Ws,Wx];rfl)
@[simp] def w35_5:=Zah Tryd.prog Tryd.f35 T35 5 [] [.p 5 [4] [] [2]] (by kernel_rfl) (by simp [Tryd.f35];rfl) (by simp only [Ws,Wx];rfl)
theorem k35:Zcz TT 35 (Za5 TT 35) [.tmp 4] 3:=Zdc Tryd.f35 T35 (by kernel_rfl) (by kernel_rfl) (by kernel_rfl)
theorem T36:TT 36=some Tryd.f36:=by kernel_rfl
@[simp] def bd36:=Zbd Tryd.f36 T36 (by simp [Tryd.f36];rfl)
@[simp] def w36:=Zah Tryd.prog Tryd.f36 T36 9 [21] [.p 0 [8] [] [],.p 1 [] [21] [2,0,1],.p 2 [8] [] [],.p 3 [8] [] [0,1,2,3]] (by kernel_rfl) (by simp [Tryd.f36];rfl) (by simp only [Ws,Wx];rfl)
theorem k36:Zcz TT 36 (Za5 TT 36) [.tmp 8] 4:=Zdc Tryd.f36 T36 (by kernel_rfl) (by kernel_rfl) (by kernel_rfl)
theorem T37:TT 37=some Tryd.f37:=by kernel_rfl
@[simp] def bd37:=Zbd Tryd.f37 T37 (by simp [Tryd.f37];rfl)
@[simp] def w37:=Zah Tryd.prog Tryd.f37 T37 9 [36] [.p 0 [6,7] [] [],.p 1 [] [36] [1,2,0],.p 2 [6,7] [] [],.p 3 [8] [] [0],.p 4 [] [] [0,1,2],.p 5 [] [] [0,2],.p 6 [6,7] [] [8]] (by kernel_rfl) (by simp [Tryd.f37];rfl) (by simp only [Ws,Wx];rfl)
theorem k37:Zcz TT 37 (Za5 TT 37) [.tmp 6,.tmp 7] 3:=Zdc Tryd.f37 T37 (by kernel_rfl) (by kernel_rfl) (by kernel_rfl)
theorem T38:TT 38=some Tryd.f38:=by kernel_rfl
@[simp] def bd38:=Zbd Tryd.f38 T38 (by simp [Tryd.f38];rfl)
@[simp] def w38:=Zah Tryd.prog Tryd.f38 T38 7 [18] [.p 0 [6] [] [],.p 1 [] [18] [1,0],.p 2 [6] [] [],.p 3 [] [] [0,1,2],.p 4 [6] [] []] (by kernel_rfl) (by simp [Tryd.f38];rfl) (by simp only [Ws,Wx];rfl)
theorem k38:Zcz TT 38 (Za5 TT 38) [.tmp 6] 3:=Zdc Tryd.f38 T38 (by kernel_rfl) (by kernel_rfl) (by kernel_rfl)
theorem T39:TT 39=some Tryd.f39:=by kernel_rfl
@[simp] def bd39:=Zbd Tryd.f39 T39 (by simp [Tryd.f39];rfl)
@[simp] def w39:=Zah Tryd.prog Tryd.f39 T39 5 [] [.p 0 [4] [] [],.p 1 [4] [] [0,1]] (by kernel_rfl) (by simp [Tryd.f39];rfl) (by simp only [Ws,Wx];rfl)
theorem k39:Zcz TT 39 (Za5 TT 39) [.tmp 4] 2:=Zdc Tryd.f39 T39 (by kernel_rfl) (by kernel_rfl) (by kernel_rfl)
theorem T40:TT 40=some Tryd.f40:=by kernel_rfl
@[simp] def bd40:=Zbd Tryd.f40 T40 (by simp [Tryd.f40];rfl)
@[simp] def w40:=Zah Tryd.prog Tryd.f40 T40 5 [] [.p 0 [4] [] [],.p 1 [4] [] [0,1]] (by kernel_rfl) (by simp [Tryd.f40];rfl) (by simp only [Ws,Wx];rfl)
theorem k40:Zcz TT 40 (Za5 TT 40) [.tmp 4] 2:=Zdc Tryd.f40 T40 (by kernel_rfl) (by kernel_rfl) (by kernel_rfl)
theorem T41:TT 41=some Tryd.f41:=by kernel_rfl
@[simp] def bd41:=Zbd Tryd.f41 T41 (by simp [Tryd.f41];rfl)
@[simp] def w41:=Zah Tryd.prog Tryd.f41 T41 5 [12] [.p 0 [4] [] [],.p 1 [] [12] [1,0],.p 2 [4] [] [],.p 3 [4] [] [0,1]] (by kernel_rfl) (by simp [Tryd.f41];rfl) (by simp only [Ws,Wx];rfl)
theorem k41:Zcz TT 41 (Za5 TT 41) [.tmp 4] 2:=Zdc Tryd.f41 T41 (by kernel_rfl) (by kernel_rfl) (by kernel_rfl)
theorem T42:TT 42=some Tryd.f42:=by kernel_rfl
@[simp] def bd42:=Zbd Tryd.f42 T42 (by simp [Tryd.f42];rfl)
@[simp] def w42:=Zah Tryd.prog Tryd.f42 T42 7 [18] [.p 0 [6] [] [],.p 1 [] [18] [1,0],.p 2 [6] [] [],.p 3 [] [] [0,1,2],.p 4 [6] [] []] (by kernel_rfl) (by simp [Tryd.f42];rfl) (by simp only [Ws,Wx];rfl)
theorem k42:Zcz TT 42 (Za5 TT 42) [.tmp 6] 3:=Zdc Tryd.f42 T42 (by kernel_rfl) (by kernel_rfl) (by kernel_rfl)
theorem T43:TT 43=some Tryd.f43:=by kernel_rfl
@[simp] def bd43:=Zbd Tryd.f43 T43 (by simp [Tryd.f43];rfl)
@[simp] def w43:=Zah Tryd.prog Tryd.f43 T43 17 [29,50,70] [.p 0 [5,10] [] [0],.p 1 [11] [] [2,3,4],.p 2 [12] [] [],.p 3 [] [29] [12,5,2],.p 4 [13] [] [5,2,12],.p 5 [14] [] [13],.p 6 [15] [] [],.p 7 [] [50] [15,13],.d 8 [] [] [1,13,15,14] [(1,[10,11]),(4,[10]),(7,[10]),(9,[10])] [0,1,2,3,4,5,6,7,8,9,10,11,12,13],.p 9 [15] [] [15],.p 10 [16] [] [],.p 11 [] [70] [16,13],.d 12 [] [] [1,13,16,14] [(1,[10,11]),(4,[10]),(7,[10]),(9,[10])] [0,1,2,3,4,5,6,7,8,9,10,11,12,13],.p 13 [16] [] [16],.p 14 [] [] [14,11],.p 15 [12] [] [12],.p 16 [] [] [11,10]] (by kernel_rfl) (by simp [Tryd.f43];rfl) (by simp only [Ws,Wx];rfl)
theorem k43:Zcz TT 43 (Za5 TT 43) [.cell 10 28] 5:=Zdc Tryd.f43 T43 (by kernel_rfl) (by kernel_rfl) (by kernel_rfl)
theorem T44:TT 44=some Tryd.f44:=by kernel_rfl
@[simp] def bd44:=Zbd Tryd.f44 T44 (by simp [Tryd.f44];rfl)
@[simp] def w44:=Zah Tryd.prog Tryd.f44 T44 15 [15,20,25,30,33,35,42,49,54,58,63,69,75,81,87] [.p 0 [6,7] [] [],.p 1 [10,11,8] [] [1],.p 2 [12,13,9] [] [2],.p 3 [14] [] [0],.p 4 [] [15] [14],.p 5 [6,7] [] [1,2],.p 6 [] [20] [14],.p 7 [6,7] [] [1,2],.p 8 [] [25] [14],.p 9 [6,7] [] [1,2],.p 10 [] [30] [14],.p 11 [] [33] [9],.p 12 [6,7] [] [],.p 13 [] [35] [9],.p 14 [6,7] [] [1],.p 15 [6,7] [] [8,9],.p 16 [] [42] [14],.p 17 [] [49] [9],.p 18 [6,7] [] [],.p 19 [6,7] [] [8,9],.p 20 [] [54] [14],.p 21 [6,7] [] [1],.p 22 [] [58] [14],.p 23 [6,7] [] [1],.p 24 [] [63] [14],.p 25 [6,7] [] [1,2],.p 26 [] [69] [14],.p 27 [6,7] [] [1,2],.p 28 [] [75] [14],.p 29 [6,7] [] [8,9],.p 30 [] [81] [14],.p 31 [6,7] [] [8,9],.p 32 [] [87] [14],.p 33 [6,7] [] [1,2],.p 34 [6,7] [] []] (by kernel_rfl) (by simp [Tryd.f44];rfl) (by simp only [Ws,Wx];rfl)
theorem k44:Zcz TT 44 (Za5 TT 44) [.tmp 6,.tmp 7] 3:=Zdc Tryd.f44 T44 (by kernel_rfl) (by kernel_rfl) (by kernel_rfl)
theorem T45:TT 45=some Tryd.f45:=by kernel_rfl
@[simp] def bd45:=Zbd Tryd.f45 T45 (by simp [Tryd.f45];rfl)
@[simp] def w45:=Zah Tryd.prog Tryd.f45 T45 6 [10,14,68] [.p 0 [4] [] [],.p 1 [] [10] [0,1],.p 2 [4] [] [],.p 3 [5] [] [],.p 4 [] [14] [5,0],.d 5 [] [68] [0,1,5] [(4,[35]),(9,[35]),(16,[35]),(21,[35]),(29,[35]),(34,[35]),(43,[49]),(48,[49])] [],.p 6 [4] [] [],.p 7 [5] [] [5],.p 8 [4] [] []] (by kernel_rfl) (by simp [Tryd.f45];rfl) (by simp only [Ws,Wx];rfl)
theorem k45:Zcz TT 45 (Za5 TT 45) [.tmp 4] 2:=Zdc Tryd.f45 T45 (by kernel_rfl) (by kernel_rfl) (by kernel_rfl)
theorem T46:TT 46=some Tryd.f46:=by kernel_rfl
@[simp] def bd46:=Zbd Tryd.f46 T46 (by simp [Tryd.f46];rfl)
@[simp] def w46:=Zah Tryd.prog Tryd.f46 T46 8 [10,16] [.p 0 [6] [] [],.p 1 [7] [] [],.p 2 [] [10] [7,1],.p 3 [] [16] [2,7],.p 4 [6] [] [],.p 5 [7] [] [7],.p 6 [6] [] []] (by kernel_rfl) (by simp [Tryd.f46];rfl) (by simp only [Ws,Wx];rfl)
theorem k46:Zcz TT 46 (Za5 TT 46) [.tmp 6] 3:=Zdc Tryd.f46 T46 (by kernel_rfl) (by kernel_rfl) (by kernel_rfl)
theorem T47:TT 47=some Tryd.f47:=by kernel_rfl
@[simp] def bd47:=Zbd Tryd.f47 T47 (by simp [Tryd.f47];rfl)
@[simp] def w47:=Zah Tryd.prog Tryd.f47 T47 30 [30,56] [.p 0 [4] [] [],.p 1 [8,9,10,11,12,13,14,15,5] [] [0,1],.p 3 [4] [] [],.p 4 [26,27,28,29] [] [5],.p 5 [] [30] [29,28],.p 6 [7] [] [27,29],.p 7 [] [56] [0,7],.p 8 [4] [] [],.p 9 [29] [] [29],.p 10 [4] [] []] (by kernel_rfl) (by simp [Tryd.f47];rfl) (by simp only [Ws,Wx];rfl)
@[simp] def w47_2:=Zah Tryd.prog Tryd.f47 T47 30 [30,56] [.p 2 [16,17,18,19,20,21,22,23,24,25] [] [5]] (by kernel_rfl) (by simp [Tryd.f47];rfl) (by simp only [Ws,Wx];rfl)
theorem k47:Zcz TT 47 (Za5 TT 47) [.tmp 4] 2:=Zdc Tryd.f47 T47 (by kernel_rfl) (by kernel_rfl) (by kernel_rfl)
theorem T48:TT 48=some Tryd.f48:=by kernel_rfl
@[simp] def bd48:=Zbd Tryd.f48 T48 (by simp [Tryd.f48];rfl)
@[simp] def w48:=Zah Tryd.prog Tryd.f48 T48 62 [62,84,114] [.p 0 [2] [] [],.d 1 [12,13,14,15,16,17,18,19,21,22,23,24,25,26,20,28,29,27,30,31] [] [0] [(6,[14]),(7,[14]),(12,[14,17]),(13,[14,17,18])] [0,1,2,3,4,5,6,7,9,10,11,12,13,14,8,16,17,18,15,19,20,21],.p 2 [32,33,34,35,36,37] [] [0],.p 3 [38] [] [37,36],.p 4 [39,3] [] [37],.p 5 [40,41,42,43,44,45] [] [0,3],.p 6 [46,37] [] [37],.p 7 [4] [] [],.p 8 [47,48,49,50,51,52,53] [] [0],.p 9 [54] [] [53,52],.p 10 [55,56,57,6,5] [] [51,53],.p 11 [7] [] [],.p 12 [58,59,60,61] [] [6],.p 13 [] [62] [61,60],.p 14 [8,9] [] [59,61],.p 15 [] [84] [0,9],.p 16 [2] [] [],.p 17 [10] [] [0,9],.p 18 [11] [] [10],.p 19 [] [114] [7,10,5,11],.p 20 [2] [] [],.p 21 [7] [] [11],.d 22 [] [] [0,9,5,8] [(3,[13]),(8,[13])] [],.p 23 [4] [] [4],.p 24 [61] [] [61],.p 25 [53] [] [53],.p 26 [2] [] [4,0]] (by kernel_rfl) (by simp [Tryd.f48];rfl) (by simp only [Ws,Wx];rfl)
theorem k48:Zcz TT 48 (Za5 TT 48) [.tmp 2] 1:=Zdc Tryd.f48 T48 (by kernel_rfl) (by kernel_rfl) (by kernel_rfl)
theorem T49:TT 49=some Tryd.f49:=by kernel_rfl
@[simp] def bd49:=Zbd Tryd.f49 T49 (by simp [Tryd.f49];rfl)
@[simp] def w49:=Zah Tryd.prog Tryd.f49 T49 44 [44,50,72] [.p 0 [4] [] [],.p 1 [6,7,8,9,10,11,12,13,5] [] [0,1],.d 2 [14,15,16,17,18,19,20,21,22,23,24,25,26,27,28,29,30,31,32,33,34,35,36,37,38,39,40,41] [] [5,0] [(1,[2]),(6,[7]),(13,[14]),(17,[24]),(22,[24]),(23,[24])] [],.p 3 [4] [] [],.p 4 [42,43] [] [5],.p 6 [4] [] [5],.p 7 [] [50] [43],.p 8 [4] [] [5,0,1],.p 9 [] [72] [43],.p 10 [4] [] [0,1,5],.p 11 [4] [] []] (by kernel_rfl) (by simp [Tryd.f49];rfl) (by simp only [Ws,Wx];rfl)
@[simp] def w49_5:=Zah Tryd.prog Tryd.f49 T49 44 [44,50,72] [.p 5 [] [44] [43]] (by kernel_rfl) (by simp [Tryd.f49];rfl) (by simp only [Ws,Wx];rfl)
theorem k49:Zcz TT 49 (Za5 TT 49) [.tmp 4] 2:=Zdc Tryd.f49 T49 (by kernel_rfl) (by kernel_rfl) (by kernel_rfl)
theorem T50:TT 50=some Tryd.f50:=by kernel_rfl
@[simp] def bd50:=Zbd Tryd.f50 T50 (by simp [Tryd.f50];rfl)
@[simp] def w50:=Zah Tryd.prog Tryd.f50 T50 35 [35,41,54] [.p 0 [4] [] [],.p 1 [8,9,10,11,12,13,14,15,5] [] [0,1],.p 2 [16,17,18,19] [] [5],.p 3 [20] [] [19,18],.p 4 [21,22,7] [] [17,19],.p 5 [23,24,25,26,27,28,29,30,31] [] [7,0],.p 6 [4] [] [],.p 7 [32,19] [] [19],.p 8 [33,34] [] [5],.p 9 [] [35] [34],.p 10 [4] [] [5],.p 11 [] [41] [34],.p 13 [] [54] [34],.p 15 [4] [] []] (by kernel_rfl) (by simp [Tryd.f50];rfl) (by simp only [Ws,Wx];rfl)
@[simp] def w50_12:=Zah Tryd.prog Tryd.f50 T50 35 [35,41,54] [.p 12 [4] [] [0,5]] (by kernel_rfl) (by simp [Tryd.f50];rfl) (by simp only [Ws,Wx];rfl)
@[simp] def w50_14:=Zah Tryd.prog Tryd.f50 T50 35 [35,41,54] [.d 14 [4] [] [5,0] [(1,[13]),(2,[13]),(6,[13]),(11,[13]),(12,[13])] []] (by kernel_rfl) (by simp [Tryd.f50];rfl) (by simp only [Ws,Wx];rfl)
theorem k50:Zcz TT 50 (Za5 TT 50) [.tmp 4] 2:=Zdc Tryd.f50 T50 (by kernel_rfl) (by kernel_rfl) (by kernel_rfl)
theorem T51:TT 51=some Tryd.f51:=by kernel_rfl
@[simp] def bd51:=Zbd Tryd.f51 T51 (by simp [Tryd.f51];rfl)
@[simp] def w51:=Zah Tryd.prog Tryd.f51 T51 57 [57,75] [.p 0 [4] [] [],.p 1 [10,11] [] [1],.p 2 [12,13,14,15,16,17,18] [] [0],.p 3 [19] [] [18,17],.p 4 [20,21,22,5,6] [] [16,18],.p 5 [23,24,25,26,27,28,29,30,31,32,33,34,35,36,37,38,39,40,41,42,43] [] [0,5,6],.p 6 [4] [] [],.p 7 [44,18] [] [18],.p 9 [53,54,55,56] [] [7],.p 10 [] [57] [56,55],.p 11 [9] [] [54,56],.p 12 [] [75] [7,0,9],.p 13 [4] [] [],.p 14 [56] [] [56],.p 15 [4] [] []] (by kernel_rfl) (by simp [Tryd.f51];rfl) (by simp only [Ws,Wx];rfl)
@[simp] def w51_8:=Zah Tryd.prog Tryd.f51 T51 57 [57,75] [.p 8 [45,46,47,48,49,50,51,52,7] [] [0,1]] (by kernel_rfl) (by simp [Tryd.f51];rfl) (by simp only [Ws,Wx];rfl)
theorem k51:Zcz TT 51 (Za5 TT 51) [.tmp 4] 2:=Zdc Tryd.f51 T51 (by kernel_rfl) (by kernel_rfl) (by kernel_rfl)
theorem T52:TT 52=some Tryd.f52:=by kernel_rfl
@[simp] def bd52:=Zbd Tryd.f52 T52 (by simp [Tryd.f52];rfl)
@[simp] def w52:=Zah Tryd.prog Tryd.f52 T52 3 [] [.p 0 [2] [] [],.p 1 [2] [] [0]] (by kernel_rfl) (by simp [Tryd.f52];rfl) (by simp only [Ws,Wx];rfl)
theorem k52:Zcz TT 52 (Za5 TT 52) [.tmp 2] 1:=Zdc Tryd.f52 T52 (by kernel_rfl) (by kernel_rfl) (by kernel_rfl)
theorem T53:TT 53=some Tryd.f53:=by kernel_rfl
@[simp] def bd53:=Zbd Tryd.f53 T53 (by simp [Tryd.f53];rfl)
@[simp] def w53:=Zah Tryd.prog Tryd.f53 T53 71 [71,78,84,94] [.p 0 [1,2] [] [0],.d 1 [17,18,19,20,3,4] [] [1] [(0,[1]),(2,[1,3])] [],.d 2 [21,22,23,25,26,27,24,5,6,28] [] [1] [(1,[6]),(2,[6]),(4,[6,7,8,9,10]),(5,[6,7,8,9,10])] [0,1,2,4,5,6,3,8,9,10,7,11],.p 3 [29,30,31] [] [5],.p 4 [32] [] [31,30],.p 5 [33,7] [] [31],.p 6 [34,35,36] [] [5,7],.p 7 [37,31] [] [31],.p 8 [38,39,40] [] [3],.p 9 [41] [] [40,39],.p 10 [42,43,44,8,9] [] [38,40],.p 11 [45,46,47,48] [] [6,9,8],.p 12 [49,40] [] [40],.p 13 [50,51,52] [] [3],.p 14 [53,2] [] [5],.p 15 [54,55] [] [5],.p 16 [56,10] [] [6,5],.p 17 [11] [] [],.p 18 [57] [] [11],.p 19 [11] [] [],.p 20 [58,59,60,61] [] [3],.p 21 [62] [] [61,60],.p 22 [63,64,13] [] [59,61],.p 23 [14] [] [],.p 24 [65,66,67,68,69,70] [] [4,13],.p 25 [] [71] [70,69],.p 26 [16] [] [68,70],.p 27 [] [78] [5,16],.p 28 [] [84] [14],.p 29 [14] [] [16],.p 30 [14] [] [10,14,16],.p 31 [70] [] [70],.p 32 [] [94] [5,13,14],.p 33 [11] [] [5,13,14],.p 34 [61] [] [61],.p 35 [] [] [5],.p 36 [2] [] [5]] (by kernel_rfl) (by simp [Tryd.f53];rfl) (by simp only [Ws,Wx];rfl)
theorem k53:Zcz TT 53 (Za5 TT 53) [.tmp 2] 1:=Zdc Tryd.f53 T53 (by kernel_rfl) (by kernel_rfl) (by kernel_rfl)
theorem T54:TT 54=some Tryd.f54:=by kernel_rfl
@[simp] def bd54:=Zbd Tryd.f54 T54 (by simp [Tryd.f54];rfl)
@[simp] def w54:=Zah Tryd.prog Tryd.f54 T54 99 [99,108] [.p 0 [4] [] [],.p 1 [12,13,14,15,16,17,18,19,5] [] [0,1],.p 2 [20,21,22,6] [] [5],.p 3 [23,24,25,26] [] [5],.p 4 [27] [] [26,25],.p 5 [28,29,30,7,8] [] [24,26],.p 6 [31,32,33,34,35,36,37,38,9] [] [0,8],.p 7 [39,40,41] [] [9],.p 8 [42,43,44,45] [] [9],.p 9 [46] [] [45,44],.p 10 [47,48,49,10,11] [] [43,45],.d 11 [50,51,53,54,55,56,57,58,59,60,61,62,63,64,65,66,67,68,69,70,71,52,72,73] [] [11,0,5,10] [(3,[21,22]),(6,[21,22]),(11,[21,22]),(13,[21,22]),(16,[21,22]),(19,[21,22]),(20,[21,22])] [0,1,3,4,5,6,7,8,9,10,11,12,13,14,15,16,17,18,19,20,21,2,22,23],.p 12 [4] [] [],.p 13 [74,45] [] [45],.p 15 [4] [] [],.p 16 [96,26] [] [26],.p 17 [97,98] [] [5],.p 19 [4] [] [0,5,1,6],.p 20 [] [108] [98],.p 21 [4] [] [0,5,1,6],.p 22 [4] [] []] (by kernel_rfl) (by simp [Tryd.f54];rfl) (by simp only [Ws,Wx];rfl)
@[simp] def w54_14:=Zah Tryd.prog Tryd.f54 T54 99 [99,108] [.p 14 [75,76,77,78,79,80,81,82,83,84,85,86,87,88,89,90,91,92,93,94,95] [] [0,9,1,7]] (by kernel_rfl) (by simp [Tryd.f54];rfl) (by simp only [Ws,Wx];rfl)
@[simp] def w54_18:=Zah Tryd.prog Tryd.f54 T54 99 [99,108] [.p 18 [] [99] [98]] (by kernel_rfl) (by simp [Tryd.f54];rfl) (by simp only [Ws,Wx];rfl)
theorem k54:Zcz TT 54 (Za5 TT 54) [.tmp 4] 2:=Zdc Tryd.f54 T54 (by kernel_rfl) (by kernel_rfl) (by kernel_rfl)
theorem T55:TT 55=some Tryd.f55:=by kernel_rfl
@[simp] def bd55:=Zbd Tryd.f55 T55 (by simp [Tryd.f55];rfl)
@[simp] def w55:=Zah Tryd.prog Tryd.f55 T55 5 [12] [.p 0 [4] [] [],.p 1 [] [12] [1,0],.p 2 [4] [] [],.p 3 [4] [] [0,1]] (by kernel_rfl) (by simp [Tryd.f55];rfl) (by simp only [Ws,Wx];rfl)
theorem k55:Zcz TT 55 (Za5 TT 55) [.tmp 4] 2:=Zdc Tryd.f55 T55 (by kernel_rfl) (by kernel_rfl) (by kernel_rfl)
theorem T57:TT 57=some Tryd.f57:=by kernel_rfl
@[simp] def bd57:=Zbd Tryd.f57 T57 (by simp [Tryd.f57];rfl)
@[simp] def w57:=Zah Tryd.prog Tryd.f57 T57 10 [10] [.p 0 [3] [] [],.p 1 [4] [] [],.p 2 [7,8,9] [] [0],.p 3 [] [10] [9,8],.p 4 [6] [] [7,9],.p 5 [4] [] [4,1,6],.p 6 [9] [] [9],.p 7 [3] [] [4]] (by kernel_rfl) (by simp [Tryd.f57];rfl) (by simp only [Ws,Wx];rfl)
theorem k57:Zcz TT 57 (Za5 TT 57) [.tmp 3] 2:=Zdc Tryd.f57 T57 (by kernel_rfl) (by kernel_rfl) (by kernel_rfl)
theorem T58:TT 58=some Tryd.f58:=by kernel_rfl
@[simp] def bd58:=Zbd Tryd.f58 T58 (by simp [Tryd.f58];rfl)
@[simp] def w58:=Zah Tryd.prog Tryd.f58 T58 17 [17,28] [.p 0 [1,2] [] [0],.p 3 [] [17] [16],.p 4 [3] [] [3,1],.p 5 [] [28] [16],.p 6 [3] [] [3,1],.p 7 [2] [] [3]] (by kernel_rfl) (by simp [Tryd.f58];rfl) (by simp only [Ws,Wx];rfl)
@[simp] def w58_1:=Zah Tryd.prog Tryd.f58 T58 17 [17,28] [.d 1 [5,6,7,8,10,11,12,9,13,4,14,3] [] [1] [(1,[6,7]),(3,[6,7]),(5,[6]),(8,[9,10])] [1,2,3,4,6,7,8,5,9,0,10,11]] (by kernel_rfl) (by simp [Tryd.f58];rfl) (by simp only [Ws,Wx];rfl)
@[simp] def w58_2:=Zah Tryd.prog Tryd.f58 T58 17 [17,28] [.p 2 [15,16] [] [1]] (by kernel_rfl) (by simp [Tryd.f58];rfl) (by simp only [Ws,Wx];rfl)
theorem k58:Zcz TT 58 (Za5 TT 58) [.tmp 2] 1:=Zdc Tryd.f58 T58 (by kernel_rfl) (by kernel_rfl) (by kernel_rfl)
theorem T59:TT 59=some Tryd.f59:=by kernel_rfl
@[simp] def bd59:=Zbd Tryd.f59 T59 (by simp [Tryd.f59];rfl)
@[simp] def w59:=Zah Tryd.prog Tryd.f59 T59 5 [] [.p 0 [4] [] [],.p 1 [4] [] [0,1]] (by kernel_rfl) (by simp [Tryd.f59];rfl) (by simp only [Ws,Wx];rfl)
theorem k59:Zcz TT 59 (Za5 TT 59) [.tmp 4] 2:=Zdc Tryd.f59 T59 (by kernel_rfl) (by kernel_rfl) (by kernel_rfl)
theorem T60:TT 60=some Tryd.f60:=by kernel_rfl
@[simp] def bd60:=Zbd Tryd.f60 T60 (by simp [Tryd.f60];rfl)
@[simp] def w60:=Zah Tryd.prog Tryd.f60 T60 5 [] [.p 0 [4] [] [],.p 1 [4] [] [0,1]] (by kernel_rfl) (by simp [Tryd.f60];rfl) (by simp only [Ws,Wx];rfl)
theorem k60:Zcz TT 60 (Za5 TT 60) [.tmp 4] 2:=Zdc Tryd.f60 T60 (by kernel_rfl) (by kernel_rfl) (by kernel_rfl)
theorem T61:TT 61=some Tryd.f61:=by kernel_rfl
@[simp] def bd61:=Zbd Tryd.f61 T61 (by simp [Tryd.f61];rfl)
@[simp] def w61:=Zah Tryd.prog Tryd.f61 T61 14 [14,19,24,29,29,36,40,45,51,57,63,69] [.p 0 [6] [] [],.p 1 [9,10,11,12,7,8] [] [1,2],.p 2 [13] [] [0],.p 3 [] [14] [13],.p 4 [6] [] [1,2],.p 5 [] [19] [13],.p 6 [6] [] [1,2],.p 7 [] [24] [13],.p 8 [6] [] [1,2],.p 9 [] [29] [13],.p 10 [] [29] [13],.p 11 [6] [] [0,7,8],.p 12 [] [36] [13],.p 13 [6] [] [1],.p 14 [] [40] [13],.p 15 [6] [] [1],.p 16 [] [45] [13],.p 17 [6] [] [1,2],.p 18 [] [51] [13],.p 19 [6] [] [1,2],.p 20 [] [57] [13],.p 21 [6] [] [7,8],.p 22 [] [63] [13],.p 23 [6] [] [7,8],.p 24 [] [69] [13],.p 25 [6] [] [1,2],.p 26 [6] [] []] (by kernel_rfl) (by simp [Tryd.f61];rfl) (by simp only [Ws,Wx];rfl)
theorem k61:Zcz TT 61 (Za5 TT 61) [.tmp 6] 3:=Zdc Tryd.f61 T61 (by kernel_rfl) (by kernel_rfl) (by kernel_rfl)
theorem T62:TT 62=some Tryd.f62:=by kernel_rfl
@[simp] def bd62:=Zbd Tryd.f62 T62 (by simp [Tryd.f62];rfl)
@[simp] def w62:=Zah Tryd.prog Tryd.f62 T62 3 [3] [.p 0 [2] [] [],.p 1 [] [3] [0],.p 2 [2] [] [],.p 3 [2] [] []] (by kernel_rfl) (by simp [Tryd.f62];rfl) (by simp only [Ws,Wx];rfl)
theorem k62:Zcz TT 62 (Za5 TT 62) [.tmp 2] 1:=Zdc Tryd.f62 T62 (by kernel_rfl) (by kernel_rfl) (by kernel_rfl)
theorem T63:TT 63=some Tryd.f63:=by kernel_rfl
@[simp] def bd63:=Zbd Tryd.f63 T63 (by simp [Tryd.f63];rfl)
@[simp] def w63:=Zah Tryd.prog Tryd.f63 T63 6 [10,14,25] [.p 0 [4] [] [],.p 1 [] [10] [0,1],.p 2 [4] [] [],.p 3 [5] [] [],.p 4 [] [14] [5,0],.p 5 [] [25] [0,1,5],.p 6 [4] [] [],.p 7 [5] [] [5],.p 8 [4] [] []] (by kernel_rfl) (by simp [Tryd.f63];rfl) (by simp only [Ws,Wx];rfl)
theorem k63:Zcz TT 63 (Za5 TT 63) [.tmp 4] 2:=Zdc Tryd.f63 T63 (by kernel_rfl) (by kernel_rfl) (by kernel_rfl)
theorem T64:TT 64=some Tryd.f64:=by kernel_rfl
@[simp] def bd64:=Zbd Tryd.f64 T64 (by simp [Tryd.f64];rfl)
@[simp] def w64:=Zah Tryd.prog Tryd.f64 T64 31 [31,31,31,31] [.p 0 [4] [] [],.p 1 [7,8,9] [] [1],.p 2 [10] [] [9,8],.p 3 [11,12,6] [] [7,9],.p 4 [13,14,15,16,17,18,19,20,21] [] [6,0],.p 5 [4] [] [],.p 6 [22,23,24,25,26,27,28,29,30] [] [0,6],.p 7 [] [31] [30],.p 8 [] [31] [30],.p 9 [] [31] [30],.p 10 [] [31] [30],.p 11 [4] [] [],.p 12 [9] [] [9],.p 13 [4] [] []] (by kernel_rfl) (by simp [Tryd.f64];rfl) (by simp only [Ws,Wx];rfl)
theorem k64:Zcz TT 64 (Za5 TT 64) [.tmp 4] 2:=Zdc Tryd.f64 T64 (by kernel_rfl) (by kernel_rfl) (by kernel_rfl)
theorem T65:TT 65=some Tryd.f65:=by kernel_rfl
@[simp] def bd65:=Zbd Tryd.f65 T65 (by simp [Tryd.f65];rfl)
@[simp] def w65:=Zah Tryd.prog Tryd.f65 T65 5 [] [.p 0 [4] [] [],.p 1 [4] [] [0,1]] (by kernel_rfl) (by simp [Tryd.f65];rfl) (by simp only [Ws,Wx];rfl)
theorem k65:Zcz TT 65 (Za5 TT 65) [.tmp 4] 2:=Zdc Tryd.f65 T65 (by kernel_rfl) (by kernel_rfl) (by kernel_rfl)
theorem T66:TT 66=some Tryd.f66:=by kernel_rfl
@[simp] def bd66:=Zbd Tryd.f66 T66 (by simp [Tryd.f66];rfl)
@[simp] def w66:=Zah Tryd.prog Tryd.f66 T66 3 [8] [.p 0 [2] [] [],.p 1 [] [8] [0],.p 2 [2] [] [],.p 3 [2] [] [0]] (by kernel_rfl) (by simp [Tryd.f66];rfl) (by simp only [Ws,Wx];rfl)
theorem k66:Zcz TT 66 (Za5 TT 66) [.tmp 2] 1:=Zdc Tryd.f66 T66 (by kernel_rfl) (by kernel_rfl) (by kernel_rfl)
theorem T67:TT 67=some Tryd.f67:=by kernel_rfl
@[simp] def bd67:=Zbd Tryd.f67 T67 (by simp [Tryd.f67];rfl)
@[simp] def w67:=Zah Tryd.prog Tryd.f67 T67 3 [] [.p 0 [2] [] [],.p 1 [2] [] [0]] (by kernel_rfl) (by simp [Tryd.f67];rfl) (by simp only [Ws,Wx];rfl)
theorem k67:Zcz TT 67 (Za5 TT 67) [.tmp 2] 1:=Zdc Tryd.f67 T67 (by kernel_rfl) (by kernel_rfl) (by kernel_rfl)
theorem T68:TT 68=some Tryd.f68:=by kernel_rfl
@[simp] def bd68:=Zbd Tryd.f68 T68 (by simp [Tryd.f68];rfl)
@[simp] def w68:=Zah Tryd.prog Tryd.f68 T68 5 [] [.p 0 [4] [] [],.p 1 [4] [] [0,1]] (by kernel_rfl) (by simp [Tryd.f68];rfl) (by simp only [Ws,Wx];rfl)
theorem k68:Zcz TT 68 (Za5 TT 68) [.tmp 4] 2:=Zdc Tryd.f68 T68 (by kernel_rfl) (by kernel_rfl) (by kernel_rfl)
theorem T69:TT 69=some Tryd.f69:=by kernel_rfl
@[simp] def bd69:=Zbd Tryd.f69 T69 (by simp [Tryd.f69];rfl)
@[simp] def w69:=Zah Tryd.prog Tryd.f69 T69 4 [] [.p 0 [2,3] [] [0],.p 1 [3] [] [2,1]] (by kernel_rfl) (by simp [Tryd.f69];rfl) (by simp only [Ws,Wx];rfl)
theorem k69:Zcz TT 69 (Za5 TT 69) [.tmp 3] 2:=Zdc Tryd.f69 T69 (by kernel_rfl) (by kernel_rfl) (by kernel_rfl)
theorem T70:TT 70=some Tryd.f70:=by kernel_rfl
@[simp] def bd70:=Zbd Tryd.f70 T70 (by simp [Tryd.f70];rfl)
@[simp] def w70:=Zah Tryd.prog Tryd.f70 T70 24 [24,30] [.p 0 [1,2] [] [0],.p 1 [8,9,10,11,3] [] [1],.p 2 [12,13,14,15] [] [1],.p 3 [16] [] [15,14],.p 4 [17,18,19,5,4] [] [13,15],.p 5 [20,21,22,23] [] [5],.p 6 [] [24] [23,22],.p 7 [7] [] [21,23],.p 8 [] [30] [7,3],.p 9 [] [] [3,7,4],.p 10 [23] [] [23],.p 11 [15] [] [15],.p 12 [2] [] [3]] (by kernel_rfl) (by simp [Tryd.f70];rfl) (by simp only [Ws,Wx];rfl)
theorem k70:Zcz TT 70 (Za5 TT 70) [.tmp 2] 1:=Zdc Tryd.f70 T70 (by kernel_rfl) (by kernel_rfl) (by kernel_rfl)
theorem T71:TT 71=some Tryd.f71:=by kernel_rfl
@[simp] def bd71:=Zbd Tryd.f71 T71 (by simp [Tryd.f71];rfl)
@[simp] def w71:=Zah Tryd.prog Tryd.f71 T71 14 [14,24] [.p 0 [4] [] [],.p 1 [6,7,8,9,10] [] [0,1],.p 2 [4] [] [],.p 3 [11,12,13] [] [0],.p 4 [] [14] [13,12],.p 5 [5] [] [13],.p 6 [] [24] [0,1,5],.p 7 [4] [] [],.p 8 [13] [] [13],.p 9 [4] [] []] (by kernel_rfl) (by simp [Tryd.f71];rfl) (by simp only [Ws,Wx];rfl)
theorem k71:Zcz TT 71 (Za5 TT 71) [.tmp 4] 2:=Zdc Tryd.f71 T71 (by kernel_rfl) (by kernel_rfl) (by kernel_rfl)
theorem T72:TT 72=some Tryd.f72:=by kernel_rfl
@[simp] def bd72:=Zbd Tryd.f72 T72 (by simp [Tryd.f72];rfl)
@[simp] def w72:=Zah Tryd.prog Tryd.f72 T72 9 [16,25,46,83] [.p 0 [1,2] [] [0],.p 1 [3] [] [1],.p 2 [4] [] [],.p 3 [5] [] [],.p 4 [] [16] [1],.p 5 [5] [] [3,5],.p 6 [] [25] [5],.p 7 [6] [] [5],.p 8 [7] [] [1,6],.p 9 [] [46] [6,7],.p 10 [4] [] [4,6],.p 11 [5] [] [5],.p 12 [8] [] [7,6],.p 13 [] [] [6],.p 14 [] [83] [3,8],.p 15 [] [] [3,8],.p 16 [5] [] [5,8],.p 17 [] [] [4],.p 18 [2] [] [4]] (by kernel_rfl) (by simp [Tryd.f72];rfl) (by simp only [Ws,Wx];rfl)
theorem k72:Zcz TT 72 (Za5 TT 72) [.tmp 2] 1:=Zdc Tryd.f72 T72 (by kernel_rfl) (by kernel_rfl) (by kernel_rfl)
theorem T73:TT 73=some Tryd.f73:=by kernel_rfl
@[simp] def bd73:=Zbd Tryd.f73 T73 (by simp [Tryd.f73];rfl)
@[simp] def w73:=Zah Tryd.prog Tryd.f73 T73 7 [9,18] [.p 0 [6] [] [],.p 1 [] [9] [0,1],.p 2 [] [18] [0,2,1],.p 3 [0] [] [3,0],.p 4 [1] [] [3,1],.p 5 [6] [] [0]] (by kernel_rfl) (by simp [Tryd.f73];rfl) (by simp only [Ws,Wx];rfl)
theorem k73:Zcz TT 73 (Za5 TT 73) [.tmp 6] 4:=Zdc Tryd.f73 T73 (by kernel_rfl) (by kernel_rfl) (by kernel_rfl)
theorem T74:TT 74=some Tryd.f74:=by kernel_rfl
@[simp] def bd74:=Zbd Tryd.f74 T74 (by simp [Tryd.f74];rfl)
@[simp] def w74:=Zah Tryd.prog Tryd.f74 T74 14 [14,49] [.p 0 [8] [] [],.p 1 [11,12,13] [] [1],.p 2 [] [14] [13,12],.p 3 [10] [] [11,13],.p 4 [] [49] [3,0,10,2],.p 5 [8] [] [],.p 6 [13] [] [13],.p 7 [8] [] []] (by kernel_rfl) (by simp [Tryd.f74];rfl) (by simp only [Ws,Wx];rfl)
theorem k74:Zcz TT 74 (Za5 TT 74) [.tmp 8] 4:=Zdc Tryd.f74 T74 (by kernel_rfl) (by kernel_rfl) (by kernel_rfl)
theorem T75:TT 75=some Tryd.f75:=by kernel_rfl
@[simp] def bd75:=Zbd Tryd.f75 T75 (by simp [Tryd.f75];rfl)
@[simp] def w75:=Zah Tryd.prog Tryd.f75 T75 22 [22,40] [.p 0 [8] [] [],.p 1 [11,12,13,14,15,16,17,18,19,20,21] [] [0,1],.p 2 [] [22] [21,20],.p 3 [10] [] [19,21],.p 4 [] [40] [0,10,2,3],.p 5 [8] [] [],.p 6 [21] [] [21],.p 7 [8] [] []] (by kernel_rfl) (by simp [Tryd.f75];rfl) (by simp only [Ws,Wx];rfl)
theorem k75:Zcz TT 75 (Za5 TT 75) [.tmp 8] 4:=Zdc Tryd.f75 T75 (by kernel_rfl) (by kernel_rfl) (by kernel_rfl)
theorem T76:TT 76=some Tryd.f76:=by kernel_rfl
@[simp] def bd76:=Zbd Tryd.f76 T76 (by simp [Tryd.f76];rfl)
@[simp] def w76:=Zah Tryd.prog Tryd.f76 T76 4 [4,4,4,4,4,4,4,4,4,4,4,4,4,18,18,18,18,18,18] [.p 0 [2] [] [],.p 1 [3] [] [0],.p 2 [] [4] [3],.p 3 [] [4] [3],.p 4 [] [4] [3],.p 5 [] [4] [3],.p 6 [] [4] [3],.p 7 [] [4] [3],.p 8 [] [4] [3],.p 9 [] [4] [3],.p 10 [] [4] [3],.p 11 [] [4] [3],.p 12 [] [4] [3],.p 13 [] [4] [3],.p 14 [] [4] [3],.p 15 [2] [] [],.p 16 [] [18] [3],.p 17 [] [18] [3],.p 18 [] [18] [3],.p 19 [] [18] [3],.p 20 [] [18] [3],.p 21 [] [18] [3],.p 22 [2] [] [],.p 23 [2] [] []] (by kernel_rfl) (by simp [Tryd.f76];rfl) (by simp only [Ws,Wx];rfl)
theorem k76:Zcz TT 76 (Za5 TT 76) [.tmp 2] 1:=Zdc Tryd.f76 T76 (by kernel_rfl) (by kernel_rfl) (by kernel_rfl)
theorem T77:TT 77=some Tryd.f77:=by kernel_rfl
@[simp] def bd77:=Zbd Tryd.f77 T77 (by simp [Tryd.f77];rfl)
@[simp] def w77:=Zah Tryd.prog Tryd.f77 T77 5 [] [.p 0 [4] [] [],.p 1 [4] [] [0,1]] (by kernel_rfl) (by simp [Tryd.f77];rfl) (by simp only [Ws,Wx];rfl)
theorem k77:Zcz TT 77 (Za5 TT 77) [.tmp 4] 2:=Zdc Tryd.f77 T77 (by kernel_rfl) (by kernel_rfl) (by kernel_rfl)
theorem T78:TT 78=some Tryd.f78:=by kernel_rfl
@[simp] def bd78:=Zbd Tryd.f78 T78 (by simp [Tryd.f78];rfl)
@[simp] def w78:=Zah Tryd.prog Tryd.f78 T78 7 [12,13,16] [.p 0 [6] [] [],.p 1 [] [12] [1,2],.p 2 [2] [] [],.p 3 [] [13] [2],.p 4 [6] [] [],.p 5 [] [16] [0],.p 6 [6] [] [1,2],.p 7 [6] [] [1,2]] (by kernel_rfl) (by simp [Tryd.f78];rfl) (by simp only [Ws,Wx];rfl)
theorem k78:Zcz TT 78 (Za5 TT 78) [.tmp 6] 3:=Zdc Tryd.f78 T78 (by kernel_rfl) (by kernel_rfl) (by kernel_rfl)
theorem T79:TT 79=some Tryd.f79:=by kernel_rfl
@[simp] def bd79:=Zbd Tryd.f79 T79 (by simp [Tryd.f79];rfl)
@[simp] def w79:=Zah Tryd.prog Tryd.f79 T79 3 [3] [.p 0 [2] [] [],.p 1 [] [3] [0],.p 2 [2] [] [],.p 3 [2] [] []] (by kernel_rfl) (by simp [Tryd.f79];rfl) (by simp only [Ws,Wx];rfl)
theorem k79:Zcz TT 79 (Za5 TT 79) [.tmp 2] 1:=Zdc Tryd.f79 T79 (by kernel_rfl) (by kernel_rfl) (by kernel_rfl)
theorem T81:TT 81=some Tryd.f81:=by kernel_rfl
@[simp] def bd81:=Zbd Tryd.f81 T81 (by simp [Tryd.f81];rfl)
@[simp] def w81:=Zah Tryd.prog Tryd.f81 T81 9 [9,16] [.p 0 [4] [] [],.p 1 [6,7,8] [] [0],.p 2 [] [9] [8,7],.p 3 [5] [] [8],.p 4 [] [16] [1,0,5],.p 5 [4] [] [5],.p 6 [8] [] [8],.p 7 [4] [] []] (by kernel_rfl) (by simp [Tryd.f81];rfl) (by simp only [Ws,Wx];rfl)
theorem k81:Zcz TT 81 (Za5 TT 81) [.tmp 4] 2:=Zdc Tryd.f81 T81 (by kernel_rfl) (by kernel_rfl) (by kernel_rfl)
theorem T82:TT 82=some Tryd.f82:=by kernel_rfl
@[simp] def bd82:=Zbd Tryd.f82 T82 (by simp [Tryd.f82];rfl)
@[simp] def w82:=Zah Tryd.prog Tryd.f82 T82 4 [9] [.p 0 [2,3] [] [0],.p 1 [] [9] [2,3],.d 2 [] [] [3,0,2] [(7,[13]),(11,[13])] [],.p 3 [2,3] [] [2,3]] (by kernel_rfl) (by simp [Tryd.f82];rfl) (by simp only [Ws,Wx];rfl)
theorem k82:Zcz TT 82 (Za5 TT 82) [] 1:=Zdc Tryd.f82 T82 (by kernel_rfl) (by kernel_rfl) (by kernel_rfl)
theorem T83:TT 83=some Tryd.f83:=by kernel_rfl
@[simp] def bd83:=Zbd Tryd.f83 T83 (by simp [Tryd.f83];rfl)
@[simp] def w83:=Zah Tryd.prog Tryd.f83 T83 7 [8,11] [.p 0 [6] [] [],.p 1 [] [8] [2],.p 2 [] [11] [1,2],.p 3 [6] [] [],.p 4 [2] [] [0,2],.p 5 [6] [] []] (by kernel_rfl) (by simp [Tryd.f83];rfl) (by simp only [Ws,Wx];rfl)
theorem k83:Zcz TT 83 (Za5 TT 83) [.tmp 6] 3:=Zdc Tryd.f83 T83 (by kernel_rfl) (by kernel_rfl) (by kernel_rfl)
attribute [simp] Zof Zu5 Ya0 Zt3 Z7c Z5i Z8i Yau Yai Zye Zvw Z6g
attribute [simp] Zr7 Zpy Z8x Zwa Zsr Ya3 Yaj Z4j Z93 Yag Z10 Zzv
attribute [simp] Z41 Zvf Zv5 Yam Z91 Yab Ya2 Ya6 Z97 Z64 Z8 Yac
attribute [simp] Ya1 Yar Yal Z6u Z7v Z8z Z8e Z5w Z4q Z3z Z5l Z0i
attribute [simp] Z1t Zle Yb7 okx Zfg Zeh Z0g Z6p Z15 Z95 Z9o Zwm
attribute [simp] Zr3 Z62 Z90 Z4f Z9h Ydn Zw5 Z2j Z46 Z51 Zps Ya4
attribute [simp] Z4t Z3n Zr1 Z36 Z4 Z5e Zu8 Zsi Z9z Ya Zyp Zya
attribute [simp] Zxk Zzw Zx0 Zsj Zs2 Yaq Z6o Z4x Z0f Ze9 Zoj Znl
attribute [simp] Zt8 Zd4 Z5b Z58 Z4h Zam Zad Z48 Z0v Z3t Zxz Zs0
attribute [simp] Zzp Zvk Zzz Zxu Z01 Z23 Z6x Zxe Zy7 Zxj Zs5 Zs3
attribute [simp] Zp2 Zsn Zao Zbr Instr.fill Z0c Z30 Z1s Z0r Z0z Zv6 Z2e
attribute [simp] Z2q Z4n Z5j Zqo Z3s Z49 Yaz Yav Z4k Z04 Zw4
attribute [simp] Ztc
attribute [simp] Zm6 Zyz Zw6 Z3q Zxa Zzs Zsm Z5 Z50
@[simp] def sf:=And.intro (Zcb Yb5) <| And.intro (Zcb zo3) <| And.intro (Zcb Ycr) <| And.intro (Zcb Yb9) <| And.intro (Zcb Ycn) <| And.intro (Zcb Ych) <| And.intro (Zcb Ycm) <| And.intro (Zcb Yci) <| And.intro (Zcb Ybr) <| And.intro (Zcb Ydr) <| And.intro (Zcb Ycx) <| And.intro (Zcb Ydk) <| And.intro (Zjx u2 u45) <| And.intro (Zjx u3 u45) <| And.intro (Zjx u3 u90) <| And.intro (Zjx u45 u2) <| And.intro (Zjx u45 u3) <| And.intro (Zac Z3y) <| And.intro (Zac Z6d) <| And.intro (Zac Z85) <| And.intro (Zac Z73) <| And.intro (Zac Z8y) <| And.intro (Zac Z9k) <| And.intro (Zac Z7e) <| And.intro (Zac Z7z) <| And.intro (Zac Z8t) <| And.intro (Zac Z9e) <| And.intro (Zac Z8p) <| And.intro (Zac Z7l) <| And.intro (Zac Z8v) <| And.intro (Zac Z8u) <| And.intro (Zac Z8g) <| And.intro (Zac Z65) <| And.intro (Zac Z7i) <| And.intro (Zac Z8s) <| And.intro (Zac Z66) <| And.intro (Zac Z71) <| And.intro (Zac Z7y) <| And.intro (Zac Z67) <| And.intro (Zac Z7m) <| And.intro (Zac Z8m) <| And.intro (Zac Z8b) <| And.intro (Zac Z8j) <| And.intro (Zac Z7j) <| And.intro (Zac Z81) <| And.intro (Zac Z61) <| And.intro (Zac Z84) <| And.intro (Zac Z7p) <| And.intro (Zac Z7r) <| And.intro (Zac Z9n) <| And.intro (Zac Z8c) <| And.intro (Zac Z8n) <| And.intro (Zac Z83) <| And.intro (Zac Z76) <| And.intro (Zac Z7h) <| And.intro (Zac Z8o) <| And.intro (Zac Z7x) <| And.intro (Zac Z74) <| And.intro (Zac Z7q) <| And.intro (Zac Z87) <| And.intro (Zac Z75) <| And.intro (Zac Z7u) <| And.intro (Zac Z6r) <| And.intro (Zac Z9j) <| And.intro (Zbx Z92 Ybb) <| And.intro (Zbx Z94 sz4) <| And.intro (Zbx Z03 Z1e) <| And.intro (Zbx u26 Z9t) <| And.intro (Zbx u30 Z6l) <| And.intro (Zbx u31 Yad) <| And.intro (Zbx u32 Z96) <| And.intro (Zbx u36 sz3) <| And.intro (Zbx u42 Zrv) <| And.intro (Zbx u65 Ybd) <| And.intro (Zcd Z92) <| And.intro (Zcd Z94) <| And.intro (Zcd Z03) <| And.intro (Zcd u26) <| And.intro (Zcd u30) <| And.intro (Zcd u31) <| And.intro (Zcd u32) <| And.intro (Zcd u36) <| And.intro (Zcd u42) <| And.intro (Zcd u65) <| And.intro (Zd5 Zwp) <| And.intro (Zd5 Ybj) <| And.intro (Zd5 Ycl) <| And.intro (Zd5 Yc5) <| And.intro (Zd5 Ybu) <| And.intro (Zd5 Yc6) <| And.intro (Zd5 Yb3) <| And.intro (Zd5 Ydp) <| And.intro (Zbz ld2) <| And.intro (Zbz Yc2) <| And.intro (Zbz Yby) <| And.intro (Zbz ld3) <| And.intro (Zbz Ydh) <| And.intro (Zbz Ycp) <| And.intro (Zbz Ydj) <| And.intro (Zbz Ydo) <| And.intro (Zbz ld4) <| And.intro (Zbz Ybt) <| And.intro (Zbz Yc0) <| And.intro (Zbz Ybx) <| And.intro (Zbz Ybs) <| And.intro (Zbz Ydl) <| And.intro (Zbz Yck) <| And.intro (Zbz Yct) <| And.intro (Zbf Ydb) <| And.intro (Zbf Yc9) <| And.intro (Zbf sz3) <| And.intro (Zbf Ybq) <| And.intro (Zbf Ydq) <| And.intro (Zbf Yc7) <| And.intro (Zbf Ydc) <| And.intro (Zbf Ybb) <| And.intro (Zbf Z6l) <| And.intro (Zbf sz4) <| And.intro (Zbf Yad) <| And.intro (Zbf Yc8) <| And.intro (Zbf Z9t) <| And.intro (Zbf Zrv) <| And.intro (Zbf Ybd) <| And.intro (Zbf Z96) <| And.intro (Zbf Ybz) <| And.intro (Zbf Ycq) <| (Zbf Ycc)
end Go.Proofs.YtlogdohlcdhepaaDoor.gen
