/- This text proves what the functions of package code, and the document's, answer of any op. Condition: nothing is known of the calls ahead ('S f = []'). -/
import Derived.Test.YtbldiceiindbdaaGreatDoorCodTn
set_option linter.unusedVariables false
set_option linter.unusedSimpArgs false
set_option maxRecDepth 100000
namespace Go.Proofs.YtbldiceiindbdaaGreatDoor.base
open Go.Sh gen
variable {S:Zed}{m:Mem}
theorem Zhq (op:Int):(op=1∨op=2∨op=3∨op=4∨op=5∨op=6∨op=7∨op=8∨op=9∨op=10∨op=11∨op=12∨op=13∨op=14∨op=15∨op=16∨op=17∨op=18∨op=19∨op=20∨op=21∨op=22∨op=23∨op=24∨op=25∨op=26∨op=27∨op=28∨op=29∨op=30∨op=31∨op=32∨op=33∨op=34∨op=35∨op=36∨op=37∨op=38∨op=39∨op=40∨op=41)∨(op < 1∨41 < op):=by omega
def Zba (op:Int):Int × Int × Bool:=
 if op=1∨op=2∨op=3∨op=4∨op=5∨op=34∨op=40 then (0,1,true) else
 if op=6∨op=7∨op=27∨op=39 then (1,0,true) else
 if op=8∨op=9∨op=10∨op=11∨op=12∨op=15∨op=16∨op=17∨op=18∨op=19∨op=20∨op=21∨op=22∨op=23∨op=24∨op=25∨op=30∨op=32 then (2,1,true) else
 if op=13∨op=14∨op=28∨op=33∨op=35∨op=38 then (1,1,true) else
 if op=29 then (2,0,true) else
 if op=31 then (3,0,true) else
 if op=26 then (0,0,true) else
 (0,0,false)
theorem Zqr (hS:S 115=[])(op:Int):Zbi Tryz.prog TT S 115 [.int .i64 op] m=some (.tuple #[.int .i64 (Zba op).1,.int .i64 (Zba op).2.1,.bool (Zba op).2.2],m):=by
 refine Zgh 6 [6,6,6,6,6,6,6,14,14,14,14,19,19,19,19,19,19,19,19,19,19,19,19,19,19,19,19,19,19,38,38,38,38,38,38,45,47,49] Z7u hS rfl ?_
 rcases Zhq op with (rfl | rfl | rfl | rfl | rfl | rfl | rfl | rfl | rfl | rfl | rfl | rfl | rfl | rfl | rfl | rfl | rfl | rfl | rfl | rfl | rfl | rfl | rfl | rfl | rfl | rfl | rfl | rfl | rfl | rfl | rfl | rfl | rfl | rfl | rfl | rfl | rfl | rfl | rfl | rfl | rfl) | hne
 ·simp [-BitVec.toNat_or,-BitVec.toNat_ofInt,-BitVec.toNat_and,id,Zba]
 ·simp [-BitVec.toNat_or,-BitVec.toNat_ofInt,-BitVec.toNat_and,id,Zba]
 ·simp [-BitVec.toNat_or,-BitVec.toNat_ofInt,-BitVec.toNat_and,id,Zba]
 ·simp [-BitVec.toNat_or,-BitVec.toNat_ofInt,-BitVec.toNat_and,id,Zba]
 ·simp [-BitVec.toNat_or,-BitVec.toNat_ofInt,-BitVec.toNat_and,id,Zba]
 ·simp [-BitVec.toNat_or,-BitVec.toNat_ofInt,-BitVec.toNat_and,id,Zba]
 ·simp [-BitVec.toNat_or,-BitVec.toNat_ofInt,-BitVec.toNat_and,id,Zba]
 ·simp [-BitVec.toNat_or,-BitVec.toNat_ofInt,-BitVec.toNat_and,id,Zba]
 ·simp [-BitVec.toNat_or,-BitVec.toNat_ofInt,-BitVec.toNat_and,id,Zba]
 ·simp [-BitVec.toNat_or,-BitVec.toNat_ofInt,-BitVec.toNat_and,id,Zba]
 ·simp [-BitVec.toNat_or,-BitVec.toNat_ofInt,-BitVec.toNat_and,id,Zba]
 ·simp [-BitVec.toNat_or,-BitVec.toNat_ofInt,-BitVec.toNat_and,id,Zba]
 ·simp [-BitVec.toNat_or,-BitVec.toNat_ofInt,-BitVec.toNat_and,id,Zba]
 ·simp [-BitVec.toNat_or,-BitVec.toNat_ofInt,-BitVec.toNat_and,id,Zba]
 ·simp [-BitVec.toNat_or,-BitVec.toNat_ofInt,-BitVec.toNat_and,id,Zba]
 ·simp [-BitVec.toNat_or,-BitVec.toNat_ofInt,-BitVec.toNat_and,id,Zba]
 ·simp [-BitVec.toNat_or,-BitVec.toNat_ofInt,-BitVec.toNat_and,id,Zba]
 ·simp [-BitVec.toNat_or,-BitVec.toNat_ofInt,-BitVec.toNat_and,id,Zba]
 ·simp [-BitVec.toNat_or,-BitVec.toNat_ofInt,-BitVec.toNat_and,id,Zba]
 ·simp [-BitVec.toNat_or,-BitVec.toNat_ofInt,-BitVec.toNat_and,id,Zba]
 ·simp [-BitVec.toNat_or,-BitVec.toNat_ofInt,-BitVec.toNat_and,id,Zba]
 ·simp [-BitVec.toNat_or,-BitVec.toNat_ofInt,-BitVec.toNat_and,id,Zba]
 ·simp [-BitVec.toNat_or,-BitVec.toNat_ofInt,-BitVec.toNat_and,id,Zba]
 ·simp [-BitVec.toNat_or,-BitVec.toNat_ofInt,-BitVec.toNat_and,id,Zba]
 ·simp [-BitVec.toNat_or,-BitVec.toNat_ofInt,-BitVec.toNat_and,id,Zba]
 ·simp [-BitVec.toNat_or,-BitVec.toNat_ofInt,-BitVec.toNat_and,id,Zba]
 ·simp [-BitVec.toNat_or,-BitVec.toNat_ofInt,-BitVec.toNat_and,id,Zba]
 ·simp [-BitVec.toNat_or,-BitVec.toNat_ofInt,-BitVec.toNat_and,id,Zba]
 ·simp [-BitVec.toNat_or,-BitVec.toNat_ofInt,-BitVec.toNat_and,id,Zba]
 ·simp [-BitVec.toNat_or,-BitVec.toNat_ofInt,-BitVec.toNat_and,id,Zba]
 ·simp [-BitVec.toNat_or,-BitVec.toNat_ofInt,-BitVec.toNat_and,id,Zba]
 ·simp [-BitVec.toNat_or,-BitVec.toNat_ofInt,-BitVec.toNat_and,id,Zba]
 ·simp [-BitVec.toNat_or,-BitVec.toNat_ofInt,-BitVec.toNat_and,id,Zba]
 ·simp [-BitVec.toNat_or,-BitVec.toNat_ofInt,-BitVec.toNat_and,id,Zba]
 ·simp [-BitVec.toNat_or,-BitVec.toNat_ofInt,-BitVec.toNat_and,id,Zba]
 ·simp [-BitVec.toNat_or,-BitVec.toNat_ofInt,-BitVec.toNat_and,id,Zba]
 ·simp [-BitVec.toNat_or,-BitVec.toNat_ofInt,-BitVec.toNat_and,id,Zba]
 ·simp [-BitVec.toNat_or,-BitVec.toNat_ofInt,-BitVec.toNat_and,id,Zba]
 ·simp [-BitVec.toNat_or,-BitVec.toNat_ofInt,-BitVec.toNat_and,id,Zba]
 ·simp [-BitVec.toNat_or,-BitVec.toNat_ofInt,-BitVec.toNat_and,id,Zba]
 ·simp [-BitVec.toNat_or,-BitVec.toNat_ofInt,-BitVec.toNat_and,id,Zba]
 ·have n1:¬ op=1:=by omega
  have n2:¬ op=2:=by omega
  have n3:¬ op=3:=by omega
  have n4:¬ op=4:=by omega
  have n5:¬ op=5:=by omega
  have n6:¬ op=6:=by omega
  have n7:¬ op=7:=by omega
  have n8:¬ op=8:=by omega
  have n9:¬ op=9:=by omega
  have n10:¬ op=10:=by omega
  have n11:¬ op=11:=by omega
  have n12:¬ op=12:=by omega
  have n13:¬ op=13:=by omega
  have n14:¬ op=14:=by omega
  have n15:¬ op=15:=by omega
  have n16:¬ op=16:=by omega
  have n17:¬ op=17:=by omega
  have n18:¬ op=18:=by omega
  have n19:¬ op=19:=by omega
  have n20:¬ op=20:=by omega
  have n21:¬ op=21:=by omega
  have n22:¬ op=22:=by omega
  have n23:¬ op=23:=by omega
  have n24:¬ op=24:=by omega
  have n25:¬ op=25:=by omega
  have n26:¬ op=26:=by omega
  have n27:¬ op=27:=by omega
  have n28:¬ op=28:=by omega
  have n29:¬ op=29:=by omega
  have n30:¬ op=30:=by omega
  have n31:¬ op=31:=by omega
  have n32:¬ op=32:=by omega
  have n33:¬ op=33:=by omega
  have n34:¬ op=34:=by omega
  have n35:¬ op=35:=by omega
  have n36:¬ op=36:=by omega
  have n37:¬ op=37:=by omega
  have n38:¬ op=38:=by omega
  have n39:¬ op=39:=by omega
  have n40:¬ op=40:=by omega
  have n41:¬ op=41:=by omega
  simp [-BitVec.toNat_or,-BitVec.toNat_ofInt,-BitVec.toNat_and,id,Zba,n1,n2,n3,n4,n5,n6,n7,n8,n9,n10,n11,n12,n13,n14,n15,n16,n17,n18,n19,n20,n21,n22,n23,n24,n25,n26,n27,n28,n29,n30,n31,n32,n33,n34,n35,n36,n37,n38,n39,n40,n41]
theorem Zua (hS:S 16=[])(op:Int):Zbi Tryz.prog TT S 16 [.int .i64 op] m=some (.tuple #[.int .i64 (Zba op).1,.int .i64 (Zba op).2.1,.bool (Zba op).2.2],m):=by
 refine Zgh 6 [6,6,6,6,6,6,6,14,14,14,14,19,19,19,19,19,19,19,19,19,19,19,19,19,19,19,19,19,19,38,38,38,38,38,38,45,47,49] k16 hS rfl ?_
 rcases Zhq op with (rfl | rfl | rfl | rfl | rfl | rfl | rfl | rfl | rfl | rfl | rfl | rfl | rfl | rfl | rfl | rfl | rfl | rfl | rfl | rfl | rfl | rfl | rfl | rfl | rfl | rfl | rfl | rfl | rfl | rfl | rfl | rfl | rfl | rfl | rfl | rfl | rfl | rfl | rfl | rfl | rfl) | hne
 ·simp [-BitVec.toNat_or,-BitVec.toNat_ofInt,-BitVec.toNat_and,id,Zba]
 ·simp [-BitVec.toNat_or,-BitVec.toNat_ofInt,-BitVec.toNat_and,id,Zba]
 ·simp [-BitVec.toNat_or,-BitVec.toNat_ofInt,-BitVec.toNat_and,id,Zba]
 ·simp [-BitVec.toNat_or,-BitVec.toNat_ofInt,-BitVec.toNat_and,id,Zba]
 ·simp [-BitVec.toNat_or,-BitVec.toNat_ofInt,-BitVec.toNat_and,id,Zba]
 ·simp [-BitVec.toNat_or,-BitVec.toNat_ofInt,-BitVec.toNat_and,id,Zba]
 ·simp [-BitVec.toNat_or,-BitVec.toNat_ofInt,-BitVec.toNat_and,id,Zba]
 ·simp [-BitVec.toNat_or,-BitVec.toNat_ofInt,-BitVec.toNat_and,id,Zba]
 ·simp [-BitVec.toNat_or,-BitVec.toNat_ofInt,-BitVec.toNat_and,id,Zba]
 ·simp [-BitVec.toNat_or,-BitVec.toNat_ofInt,-BitVec.toNat_and,id,Zba]
 ·simp [-BitVec.toNat_or,-BitVec.toNat_ofInt,-BitVec.toNat_and,id,Zba]
 ·simp [-BitVec.toNat_or,-BitVec.toNat_ofInt,-BitVec.toNat_and,id,Zba]
 ·simp [-BitVec.toNat_or,-BitVec.toNat_ofInt,-BitVec.toNat_and,id,Zba]
 ·simp [-BitVec.toNat_or,-BitVec.toNat_ofInt,-BitVec.toNat_and,id,Zba]
 ·simp [-BitVec.toNat_or,-BitVec.toNat_ofInt,-BitVec.toNat_and,id,Zba]
 ·simp [-BitVec.toNat_or,-BitVec.toNat_ofInt,-BitVec.toNat_and,id,Zba]
 ·simp [-BitVec.toNat_or,-BitVec.toNat_ofInt,-BitVec.toNat_and,id,Zba]
 ·simp [-BitVec.toNat_or,-BitVec.toNat_ofInt,-BitVec.toNat_and,id,Zba]
 ·simp [-BitVec.toNat_or,-BitVec.toNat_ofInt,-BitVec.toNat_and,id,Zba]
 ·simp [-BitVec.toNat_or,-BitVec.toNat_ofInt,-BitVec.toNat_and,id,Zba]
 ·simp [-BitVec.toNat_or,-BitVec.toNat_ofInt,-BitVec.toNat_and,id,Zba]
 ·simp [-BitVec.toNat_or,-BitVec.toNat_ofInt,-BitVec.toNat_and,id,Zba]
 ·simp [-BitVec.toNat_or,-BitVec.toNat_ofInt,-BitVec.toNat_and,id,Zba]
 ·simp [-BitVec.toNat_or,-BitVec.toNat_ofInt,-BitVec.toNat_and,id,Zba]
 ·simp [-BitVec.toNat_or,-BitVec.toNat_ofInt,-BitVec.toNat_and,id,Zba]
 ·simp [-BitVec.toNat_or,-BitVec.toNat_ofInt,-BitVec.toNat_and,id,Zba]
 ·simp [-BitVec.toNat_or,-BitVec.toNat_ofInt,-BitVec.toNat_and,id,Zba]
 ·simp [-BitVec.toNat_or,-BitVec.toNat_ofInt,-BitVec.toNat_and,id,Zba]
 ·simp [-BitVec.toNat_or,-BitVec.toNat_ofInt,-BitVec.toNat_and,id,Zba]
 ·simp [-BitVec.toNat_or,-BitVec.toNat_ofInt,-BitVec.toNat_and,id,Zba]
 ·simp [-BitVec.toNat_or,-BitVec.toNat_ofInt,-BitVec.toNat_and,id,Zba]
 ·simp [-BitVec.toNat_or,-BitVec.toNat_ofInt,-BitVec.toNat_and,id,Zba]
 ·simp [-BitVec.toNat_or,-BitVec.toNat_ofInt,-BitVec.toNat_and,id,Zba]
 ·simp [-BitVec.toNat_or,-BitVec.toNat_ofInt,-BitVec.toNat_and,id,Zba]
 ·simp [-BitVec.toNat_or,-BitVec.toNat_ofInt,-BitVec.toNat_and,id,Zba]
 ·simp [-BitVec.toNat_or,-BitVec.toNat_ofInt,-BitVec.toNat_and,id,Zba]
 ·simp [-BitVec.toNat_or,-BitVec.toNat_ofInt,-BitVec.toNat_and,id,Zba]
 ·simp [-BitVec.toNat_or,-BitVec.toNat_ofInt,-BitVec.toNat_and,id,Zba]
 ·simp [-BitVec.toNat_or,-BitVec.toNat_ofInt,-BitVec.toNat_and,id,Zba]
 ·simp [-BitVec.toNat_or,-BitVec.toNat_ofInt,-BitVec.toNat_and,id,Zba]
 ·simp [-BitVec.toNat_or,-BitVec.toNat_ofInt,-BitVec.toNat_and,id,Zba]
 ·have n1:¬ op=1:=by omega
  have n2:¬ op=2:=by omega
  have n3:¬ op=3:=by omega
  have n4:¬ op=4:=by omega
  have n5:¬ op=5:=by omega
  have n6:¬ op=6:=by omega
  have n7:¬ op=7:=by omega
  have n8:¬ op=8:=by omega
  have n9:¬ op=9:=by omega
  have n10:¬ op=10:=by omega
  have n11:¬ op=11:=by omega
  have n12:¬ op=12:=by omega
  have n13:¬ op=13:=by omega
  have n14:¬ op=14:=by omega
  have n15:¬ op=15:=by omega
  have n16:¬ op=16:=by omega
  have n17:¬ op=17:=by omega
  have n18:¬ op=18:=by omega
  have n19:¬ op=19:=by omega
  have n20:¬ op=20:=by omega
  have n21:¬ op=21:=by omega
  have n22:¬ op=22:=by omega
  have n23:¬ op=23:=by omega
  have n24:¬ op=24:=by omega
  have n25:¬ op=25:=by omega
  have n26:¬ op=26:=by omega
  have n27:¬ op=27:=by omega
  have n28:¬ op=28:=by omega
  have n29:¬ op=29:=by omega
  have n30:¬ op=30:=by omega
  have n31:¬ op=31:=by omega
  have n32:¬ op=32:=by omega
  have n33:¬ op=33:=by omega
  have n34:¬ op=34:=by omega
  have n35:¬ op=35:=by omega
  have n36:¬ op=36:=by omega
  have n37:¬ op=37:=by omega
  have n38:¬ op=38:=by omega
  have n39:¬ op=39:=by omega
  have n40:¬ op=40:=by omega
  have n41:¬ op=41:=by omega
  simp [-BitVec.toNat_or,-BitVec.toNat_ofInt,-BitVec.toNat_and,id,Zba,n1,n2,n3,n4,n5,n6,n7,n8,n9,n10,n11,n12,n13,n14,n15,n16,n17,n18,n19,n20,n21,n22,n23,n24,n25,n26,n27,n28,n29,n30,n31,n32,n33,n34,n35,n36,n37,n38,n39,n40,n41]
def Zdj (op:Int):List UInt8:=if 1≤op∧op≤41 then Z6v.getD op.toNat [] else []
theorem Zzk (hS:S 72=nmL)(op:Int):Zbi Tryz.prog TT S 72 [.int .i64 op] m=some (.string ⟨(Zdj op).toArray⟩,m):=by
 rcases Zhq op with (rfl | rfl | rfl | rfl | rfl | rfl | rfl | rfl | rfl | rfl | rfl | rfl | rfl | rfl | rfl | rfl | rfl | rfl | rfl | rfl | rfl | rfl | rfl | rfl | rfl | rfl | rfl | rfl | rfl | rfl | rfl | rfl | rfl | rfl | rfl | rfl | rfl | rfl | rfl | rfl | rfl) | hne
 ·exact Zd (p:=([.int .i64 1],.string ⟨(Zdj 1).toArray⟩)) (by rw [hS];rfl)
 ·exact Zd (p:=([.int .i64 2],.string ⟨(Zdj 2).toArray⟩)) (by rw [hS];rfl)
 ·exact Zd (p:=([.int .i64 3],.string ⟨(Zdj 3).toArray⟩)) (by rw [hS];rfl)
 ·exact Zd (p:=([.int .i64 4],.string ⟨(Zdj 4).toArray⟩)) (by rw [hS];rfl)
 ·exact Zd (p:=([.int .i64 5],.string ⟨(Zdj 5).toArray⟩)) (by rw [hS];rfl)
 ·exact Zd (p:=([.int .i64 6],.string ⟨(Zdj 6).toArray⟩)) (by rw [hS];rfl)
 ·exact Zd (p:=([.int .i64 7],.string ⟨(Zdj 7).toArray⟩)) (by rw [hS];rfl)
 ·exact Zd (p:=([.int .i64 8],.string ⟨(Zdj 8).toArray⟩)) (by rw [hS];rfl)
 ·exact Zd (p:=([.int .i64 9],.string ⟨(Zdj 9).toArray⟩)) (by rw [hS];rfl)
 ·exact Zd (p:=([.int .i64 10],.string ⟨(Zdj 10).toArray⟩)) (by rw [hS];rfl)
 ·exact Zd (p:=([.int .i64 11],.string ⟨(Zdj 11).toArray⟩)) (by rw [hS];rfl)
 ·exact Zd (p:=([.int .i64 12],.string ⟨(Zdj 12).toArray⟩)) (by rw [hS];rfl)
 ·exact Zd (p:=([.int .i64 13],.string ⟨(Zdj 13).toArray⟩)) (by rw [hS];rfl)
 ·exact Zd (p:=([.int .i64 14],.string ⟨(Zdj 14).toArray⟩)) (by rw [hS];rfl)
 ·exact Zd (p:=([.int .i64 15],.string ⟨(Zdj 15).toArray⟩)) (by rw [hS];rfl)
 ·exact Zd (p:=([.int .i64 16],.string ⟨(Zdj 16).toArray⟩)) (by rw [hS];rfl)
 ·exact Zd (p:=([.int .i64 17],.string ⟨(Zdj 17).toArray⟩)) (by rw [hS];rfl)
 ·exact Zd (p:=([.int .i64 18],.string ⟨(Zdj 18).toArray⟩)) (by rw [hS];rfl)
 ·exact Zd (p:=([.int .i64 19],.string ⟨(Zdj 19).toArray⟩)) (by rw [hS];rfl)
 ·exact Zd (p:=([.int .i64 20],.string ⟨(Zdj 20).toArray⟩)) (by rw [hS];rfl)
 ·exact Zd (p:=([.int .i64 21],.string ⟨(Zdj 21).toArray⟩)) (by rw [hS];rfl)
 ·exact Zd (p:=([.int .i64 22],.string ⟨(Zdj 22).toArray⟩)) (by rw [hS];rfl)
 ·exact Zd (p:=([.int .i64 23],.string ⟨(Zdj 23).toArray⟩)) (by rw [hS];rfl)
 ·exact Zd (p:=([.int .i64 24],.string ⟨(Zdj 24).toArray⟩)) (by rw [hS];rfl)
 ·exact Zd (p:=([.int .i64 25],.string ⟨(Zdj 25).toArray⟩)) (by rw [hS];rfl)
 ·exact Zd (p:=([.int .i64 26],.string ⟨(Zdj 26).toArray⟩)) (by rw [hS];rfl)
 ·exact Zd (p:=([.int .i64 27],.string ⟨(Zdj 27).toArray⟩)) (by rw [hS];rfl)
 ·exact Zd (p:=([.int .i64 28],.string ⟨(Zdj 28).toArray⟩)) (by rw [hS];rfl)
 ·exact Zd (p:=([.int .i64 29],.string ⟨(Zdj 29).toArray⟩)) (by rw [hS];rfl)
 ·exact Zd (p:=([.int .i64 30],.string ⟨(Zdj 30).toArray⟩)) (by rw [hS];rfl)
 ·exact Zd (p:=([.int .i64 31],.string ⟨(Zdj 31).toArray⟩)) (by rw [hS];rfl)
 ·exact Zd (p:=([.int .i64 32],.string ⟨(Zdj 32).toArray⟩)) (by rw [hS];rfl)
 ·exact Zd (p:=([.int .i64 33],.string ⟨(Zdj 33).toArray⟩)) (by rw [hS];rfl)
 ·exact Zd (p:=([.int .i64 34],.string ⟨(Zdj 34).toArray⟩)) (by rw [hS];rfl)
 ·exact Zd (p:=([.int .i64 35],.string ⟨(Zdj 35).toArray⟩)) (by rw [hS];rfl)
 ·exact Zd (p:=([.int .i64 36],.string ⟨(Zdj 36).toArray⟩)) (by rw [hS];rfl)
 ·exact Zd (p:=([.int .i64 37],.string ⟨(Zdj 37).toArray⟩)) (by rw [hS];rfl)
 ·exact Zd (p:=([.int .i64 38],.string ⟨(Zdj 38).toArray⟩)) (by rw [hS];rfl)
 ·exact Zd (p:=([.int .i64 39],.string ⟨(Zdj 39).toArray⟩)) (by rw [hS];rfl)
 ·exact Zd (p:=([.int .i64 40],.string ⟨(Zdj 40).toArray⟩)) (by rw [hS];rfl)
 ·exact Zd (p:=([.int .i64 41],.string ⟨(Zdj 41).toArray⟩)) (by rw [hS];rfl)
 ·have n1:¬ op=1:=by omega
  have n2:¬ op=2:=by omega
  have n3:¬ op=3:=by omega
  have n4:¬ op=4:=by omega
  have n5:¬ op=5:=by omega
  have n6:¬ op=6:=by omega
  have n7:¬ op=7:=by omega
  have n8:¬ op=8:=by omega
  have n9:¬ op=9:=by omega
  have n10:¬ op=10:=by omega
  have n11:¬ op=11:=by omega
  have n12:¬ op=12:=by omega
  have n13:¬ op=13:=by omega
  have n14:¬ op=14:=by omega
  have n15:¬ op=15:=by omega
  have n16:¬ op=16:=by omega
  have n17:¬ op=17:=by omega
  have n18:¬ op=18:=by omega
  have n19:¬ op=19:=by omega
  have n20:¬ op=20:=by omega
  have n21:¬ op=21:=by omega
  have n22:¬ op=22:=by omega
  have n23:¬ op=23:=by omega
  have n24:¬ op=24:=by omega
  have n25:¬ op=25:=by omega
  have n26:¬ op=26:=by omega
  have n27:¬ op=27:=by omega
  have n28:¬ op=28:=by omega
  have n29:¬ op=29:=by omega
  have n30:¬ op=30:=by omega
  have n31:¬ op=31:=by omega
  have n32:¬ op=32:=by omega
  have n33:¬ op=33:=by omega
  have n34:¬ op=34:=by omega
  have n35:¬ op=35:=by omega
  have n36:¬ op=36:=by omega
  have n37:¬ op=37:=by omega
  have n38:¬ op=38:=by omega
  have n39:¬ op=39:=by omega
  have n40:¬ op=40:=by omega
  have n41:¬ op=41:=by omega
  have hf:(S 72).find? (fun p=>eqL p.1 [.int .i64 op])=none:=by
   rw [hS,List.find?_eq_none]
   intro p hp
   simp only [nmL,List.mem_cons,List.not_mem_nil,or_false] at hp
   rcases hp with rfl | rfl | rfl | rfl | rfl | rfl | rfl | rfl | rfl | rfl | rfl | rfl | rfl | rfl | rfl | rfl | rfl | rfl | rfl | rfl | rfl | rfl | rfl | rfl | rfl | rfl | rfl | rfl | rfl | rfl | rfl | rfl | rfl | rfl | rfl | rfl | rfl | rfl | rfl | rfl | rfl
   all_goals (simp [eqL,eqV];omega)
  have e0:Zdj op=[]:=by unfold Zdj;rw [if_neg (by omega)]
  rw [e0]
  refine Z4l 3 [8] k72 hf rfl ?_
  rcases hne with h | h
  ·simp [-BitVec.toNat_or,-BitVec.toNat_ofInt,-BitVec.toNat_and,Zaa u42 sz9,Zab ld9,h]
  ·have h1:¬ op < 1:=by omega
   simp [-BitVec.toNat_or,-BitVec.toNat_ofInt,-BitVec.toNat_and,Zaa u42 sz9,Zab ld9,h,h1]
def Zjj (op a pc:Int):List Int:=if op=26 then [a] else if op=27 then [IntKind.i64.wrap (pc+1),a] else if op=41 then [] else [IntKind.i64.wrap (pc+1)]
theorem Z12 (hS:S 78=[])(op a b pc:Int):∃ v m1,Zbi Tryz.prog TT S 78 [.agg #[.int .i64 op,.int .i64 a,.int .i64 b],.int .i64 pc] m=some (v,m1)∧∃ ao fam,v=.slice ao (Zjj op a pc).length (Zjj op a pc).length∧Sl m1 ao (Zjj op a pc).length ((Zjj op a pc).map (Value.int .i64)) 3 1 fam∧m.next≤fam∧Zao m m1 []:=by
 refine Zey 7 [7,12,19] k78 hS rfl ?_
 by_cases h1:op=26
 ·subst h1
  simp [-BitVec.toNat_or,-BitVec.toNat_ofInt,-BitVec.toNat_and,Zah b40,Za Zak,Zab ld3,Za Zal,Zad u23 bs3 rfl,Zjj]
  exact⟨_,Sl.of (Own.new _ _ _) (by simp),by simp [Mem.new],(Zb9 _ _ _ _).trans (Zb9 _ _ _ _)⟩
 ·by_cases h2:op=27
  ·subst h2
   simp [-BitVec.toNat_or,-BitVec.toNat_ofInt,-BitVec.toNat_and,Zah b40,Za Zak,Zab ld3,Za Zal,Zad u23 bs3 rfl,Zjj]
   exact⟨_,Sl.of (Own.new _ _ _) (by simp),by simp [Mem.new],(Zb9 _ _ _ _).trans (Zb9 _ _ _ _)⟩
  ·by_cases h3:op=41
   ·subst h3
    simp [-BitVec.toNat_or,-BitVec.toNat_ofInt,-BitVec.toNat_and,Zah b40,Za Zak,Zab ld3,Za Zal,Zad u23 bs3 rfl,Zjj]
    exact⟨_,Sl.nil _ _ _ _,Nat.le_refl _,Zb9 _ _ _ _⟩
   ·simp [-BitVec.toNat_or,-BitVec.toNat_ofInt,-BitVec.toNat_and,Zah b40,Za Zak,Zab ld3,Za Zal,Zad u23 bs3 rfl,Zjj,h1,h2,h3]
    exact⟨_,Sl.of (Own.new _ _ _) (by simp),by simp [Mem.new],(Zb9 _ _ _ _).trans (Zb9 _ _ _ _)⟩
theorem Zyp (hS:S 17=[])(op a b pc:Int):∃ v m1,Zbi Tryz.prog TT S 17 [.agg #[.int .i64 op,.int .i64 a,.int .i64 b],.int .i64 pc] m=some (v,m1)∧∃ ao fam,v=.slice ao (Zjj op a pc).length (Zjj op a pc).length∧Sl m1 ao (Zjj op a pc).length ((Zjj op a pc).map (Value.int .i64)) 3 1 fam∧m.next≤fam∧Zao m m1 []:=by
 refine Zey 7 [7,12,19] k17 hS rfl ?_
 by_cases h1:op=26
 ·subst h1
  simp [-BitVec.toNat_or,-BitVec.toNat_ofInt,-BitVec.toNat_and,Zah b40,Za Zak,Zab ld3,Za Zal,Zad u23 bs3 rfl,Zjj]
  exact⟨_,Sl.of (Own.new _ _ _) (by simp),by simp [Mem.new],(Zb9 _ _ _ _).trans (Zb9 _ _ _ _)⟩
 ·by_cases h2:op=27
  ·subst h2
   simp [-BitVec.toNat_or,-BitVec.toNat_ofInt,-BitVec.toNat_and,Zah b40,Za Zak,Zab ld3,Za Zal,Zad u23 bs3 rfl,Zjj]
   exact⟨_,Sl.of (Own.new _ _ _) (by simp),by simp [Mem.new],(Zb9 _ _ _ _).trans (Zb9 _ _ _ _)⟩
  ·by_cases h3:op=41
   ·subst h3
    simp [-BitVec.toNat_or,-BitVec.toNat_ofInt,-BitVec.toNat_and,Zah b40,Za Zak,Zab ld3,Za Zal,Zad u23 bs3 rfl,Zjj]
    exact⟨_,Sl.nil _ _ _ _,Nat.le_refl _,Zb9 _ _ _ _⟩
   ·simp [-BitVec.toNat_or,-BitVec.toNat_ofInt,-BitVec.toNat_and,Zah b40,Za Zak,Zab ld3,Za Zal,Zad u23 bs3 rfl,Zjj,h1,h2,h3]
    exact⟨_,Sl.of (Own.new _ _ _) (by simp),by simp [Mem.new],(Zb9 _ _ _ _).trans (Zb9 _ _ _ _)⟩
end Go.Proofs.YtbldiceiindbdaaGreatDoor.base
