/-
  This text proves 'Rows.EvalSwapsCardSaid': the law 'EvalSwaps' returns true at any two words and any number, in whatever memory and on every tape.
  The condition is the card's own: the listed package-level variables hold what the program's text lays.
-/
import Derived.Test.YtlogdohlcdhepaaDoorCards
import Derived.Test.YtlogdohlcdhepaaDoorTie
import Derived.Deep.DeepHandedRow
import Derived.Lib.LaidTab
import Derived.Test.YtlogdohlcdhepaaDoorEySw
import Derived.Test.YtlogdohlcdhepaaDoorEvK
set_option maxRecDepth 100000
set_option linter.unusedSimpArgs false
set_option linter.unusedVariables false
namespace Go.Proofs.YtlogdohlcdhepaaDoor.evalSwaps
open Go.Sh gen base
variable {S : Sums} {m : Mem}
set_option maxHeartbeats 16000000 in
theorem law_run (hK : S 12 = [([], .bool true)]) (hN : Nz S) {a b n : Int} (ha : (Lit.int .u64 a).wf = true) (hb' : (Lit.int .u64 b).wf = true) (hn : (Lit.int .i64 n).wf = true) :
    ∃ v m', callw Tryd.prog TT S 7 [.int .u64 a, .int .u64 b, .int .i64 n] m = some (v, m') ∧ v = .bool true := by
  have hkn := fun m' => sum_ok (P := Tryd.prog) (T := TT) (m := m') hK
  have pk := pick_run (m := m) (hN.e 16 (by decide) (by decide)) n 60 (by omega) (by omega)
  obtain ⟨q, hq⟩ : ∃ q : Nat, n % 60 = (q : Int) := ⟨(n % 60).toNat, by omega⟩
  have hq60 : q < 60 := by omega
  rw [hq] at pk
  obtain ⟨o1, kk1, n1⟩ := new_own (m := m) (cs := ints [0, 5]) (e := 3) rfl
  obtain ⟨b1, hb1⟩ : ∃ b, m.next = b := ⟨_, rfl⟩
  obtain ⟨m1, hm1⟩ : ∃ mm, m.new (ints [0, 5]) 3 = mm := ⟨_, rfl⟩
  rw [hm1, hb1] at o1 n1
  rw [hm1] at kk1
  obtain ⟨o2, kk2, n2⟩ := new_own (m := m1) (cs := ints [1, 4]) (e := 3) rfl
  obtain ⟨b2, hb2⟩ : ∃ b, m1.next = b := ⟨_, rfl⟩
  obtain ⟨m2, hm2⟩ : ∃ mm, m1.new (ints [1, 4]) 3 = mm := ⟨_, rfl⟩
  rw [hm2, hb2] at o2 n2
  rw [hm2] at kk2
  obtain ⟨o3, kk3, n3⟩ := new_own (m := m2) (cs := ints [2, 7]) (e := 3) rfl
  obtain ⟨b3, hb3⟩ : ∃ b, m2.next = b := ⟨_, rfl⟩
  obtain ⟨m3, hm3⟩ : ∃ mm, m2.new (ints [2, 7]) 3 = mm := ⟨_, rfl⟩
  rw [hm3, hb3] at o3 n3
  rw [hm3] at kk3
  obtain ⟨o4, kk4, n4⟩ := new_own (m := m3) (cs := [.int .i64 1, .int .i64 0, .int .i64 0, .int .i64 0, .slice none 0 0, .int .i64 0, .int .i64 1, .int .i64 0, .int .i64 0, .int .i64 1, .slice none 0 0, .int .i64 0, .int .i64 1, .int .i64 0, .int .i64 0, .int .i64 2, .slice none 0 0, .int .i64 0, .int .i64 2, .int .i64 0, .int .i64 0, .int .i64 1, .slice none 0 0, .int .i64 0, .int .i64 21, .int .i64 0, .int .i64 0, .int .i64 0, .slice (some ⟨b1, 0, none⟩) 2 2, .int .i64 0, .int .i64 21, .int .i64 0, .int .i64 0, .int .i64 0, .slice (some ⟨b2, 0, none⟩) 2 2, .int .i64 0, .int .i64 21, .int .i64 0, .int .i64 0, .int .i64 0, .slice (some ⟨b3, 0, none⟩) 2 2, .int .i64 0, .int .i64 4, .int .i64 6, .int .i64 3, .int .i64 0, .slice none 0 0, .int .i64 0]) (e := 38) rfl
  obtain ⟨b4, hb4⟩ : ∃ b, m3.next = b := ⟨_, rfl⟩
  obtain ⟨m4, hm4⟩ : ∃ mm, m3.new ([.int .i64 1, .int .i64 0, .int .i64 0, .int .i64 0, .slice none 0 0, .int .i64 0, .int .i64 1, .int .i64 0, .int .i64 0, .int .i64 1, .slice none 0 0, .int .i64 0, .int .i64 1, .int .i64 0, .int .i64 0, .int .i64 2, .slice none 0 0, .int .i64 0, .int .i64 2, .int .i64 0, .int .i64 0, .int .i64 1, .slice none 0 0, .int .i64 0, .int .i64 21, .int .i64 0, .int .i64 0, .int .i64 0, .slice (some ⟨b1, 0, none⟩) 2 2, .int .i64 0, .int .i64 21, .int .i64 0, .int .i64 0, .int .i64 0, .slice (some ⟨b2, 0, none⟩) 2 2, .int .i64 0, .int .i64 21, .int .i64 0, .int .i64 0, .int .i64 0, .slice (some ⟨b3, 0, none⟩) 2 2, .int .i64 0, .int .i64 4, .int .i64 6, .int .i64 3, .int .i64 0, .slice none 0 0, .int .i64 0]) 38 = mm := ⟨_, rfl⟩
  rw [hm4, hb4] at o4 n4
  rw [hm4] at kk4
  obtain ⟨o5, kk5, n5⟩ := new_own (m := m4) (cs := ints [0, 1, 2, 3]) (e := 3) rfl
  obtain ⟨b5, hb5⟩ : ∃ b, m4.next = b := ⟨_, rfl⟩
  obtain ⟨m5, hm5⟩ : ∃ mm, m4.new (ints [0, 1, 2, 3]) 3 = mm := ⟨_, rfl⟩
  rw [hm5, hb5] at o5 n5
  rw [hm5] at kk5
  obtain ⟨o6, kk6, n6⟩ := new_own (m := m5) (cs := ints [1]) (e := 3) rfl
  obtain ⟨b6, hb6⟩ : ∃ b, m5.next = b := ⟨_, rfl⟩
  obtain ⟨m6, hm6⟩ : ∃ mm, m5.new (ints [1]) 3 = mm := ⟨_, rfl⟩
  rw [hm6, hb6] at o6 n6
  rw [hm6] at kk6
  obtain ⟨o7, kk7, n7⟩ := new_own (m := m6) (cs := ints [4, 5, 6]) (e := 3) rfl
  obtain ⟨b7, hb7⟩ : ∃ b, m6.next = b := ⟨_, rfl⟩
  obtain ⟨m7, hm7⟩ : ∃ mm, m6.new (ints [4, 5, 6]) 3 = mm := ⟨_, rfl⟩
  rw [hm7, hb7] at o7 n7
  rw [hm7] at kk7
  obtain ⟨o8, kk8, n8⟩ := new_own (m := m7) (cs := ints [2, 3]) (e := 3) rfl
  obtain ⟨b8, hb8⟩ : ∃ b, m7.next = b := ⟨_, rfl⟩
  obtain ⟨m8, hm8⟩ : ∃ mm, m7.new (ints [2, 3]) 3 = mm := ⟨_, rfl⟩
  rw [hm8, hb8] at o8 n8
  rw [hm8] at kk8
  obtain ⟨o9, kk9, n9⟩ := new_own (m := m8) (cs := ints [0, 2]) (e := 3) rfl
  obtain ⟨b9, hb9⟩ : ∃ b, m8.next = b := ⟨_, rfl⟩
  obtain ⟨m9, hm9⟩ : ∃ mm, m8.new (ints [0, 2]) 3 = mm := ⟨_, rfl⟩
  rw [hm9, hb9] at o9 n9
  rw [hm9] at kk9
  obtain ⟨o10, kk10, n10⟩ := new_own (m := m9) (cs := ints [7]) (e := 3) rfl
  obtain ⟨b10, hb10⟩ : ∃ b, m9.next = b := ⟨_, rfl⟩
  obtain ⟨m10, hm10⟩ : ∃ mm, m9.new (ints [7]) 3 = mm := ⟨_, rfl⟩
  rw [hm10, hb10] at o10 n10
  rw [hm10] at kk10
  obtain ⟨o11, kk11, n11⟩ := new_own (m := m10) (cs := ints [1]) (e := 3) rfl
  obtain ⟨b11, hb11⟩ : ∃ b, m10.next = b := ⟨_, rfl⟩
  obtain ⟨m11, hm11⟩ : ∃ mm, m10.new (ints [1]) 3 = mm := ⟨_, rfl⟩
  rw [hm11, hb11] at o11 n11
  rw [hm11] at kk11
  obtain ⟨o12, kk12, n12⟩ := new_own (m := m11) (cs := ints [1]) (e := 3) rfl
  obtain ⟨b12, hb12⟩ : ∃ b, m11.next = b := ⟨_, rfl⟩
  obtain ⟨m12, hm12⟩ : ∃ mm, m11.new (ints [1]) 3 = mm := ⟨_, rfl⟩
  rw [hm12, hb12] at o12 n12
  rw [hm12] at kk12
  obtain ⟨o13, kk13, n13⟩ := new_own (m := m12) (cs := ints [1]) (e := 3) rfl
  obtain ⟨b13, hb13⟩ : ∃ b, m12.next = b := ⟨_, rfl⟩
  obtain ⟨m13, hm13⟩ : ∃ mm, m12.new (ints [1]) 3 = mm := ⟨_, rfl⟩
  rw [hm13, hb13] at o13 n13
  rw [hm13] at kk13
  obtain ⟨o14, kk14, n14⟩ := new_own (m := m13) (cs := [.slice (some ⟨b5, 0, none⟩) 4 4, .int .i64 1, .int .i64 0, .slice (some ⟨b6, 0, none⟩) 1 1, .slice none 0 0, .int .i64 0, .slice (some ⟨b7, 0, none⟩) 3 3, .int .i64 2, .int .i64 6, .slice (some ⟨b8, 0, none⟩) 2 2, .slice (some ⟨b9, 0, none⟩) 2 2, .int .i64 0, .slice (some ⟨b10, 0, none⟩) 1 1, .int .i64 1, .int .i64 0, .slice (some ⟨b11, 0, none⟩) 1 1, .slice (some ⟨b12, 0, none⟩) 1 1, .int .i64 0, .slice none 0 0, .int .i64 3, .int .i64 0, .slice none 0 0, .slice (some ⟨b13, 0, none⟩) 1 1, .int .i64 0]) (e := 40) rfl
  obtain ⟨b14, hb14⟩ : ∃ b, m13.next = b := ⟨_, rfl⟩
  obtain ⟨m14, hm14⟩ : ∃ mm, m13.new ([.slice (some ⟨b5, 0, none⟩) 4 4, .int .i64 1, .int .i64 0, .slice (some ⟨b6, 0, none⟩) 1 1, .slice none 0 0, .int .i64 0, .slice (some ⟨b7, 0, none⟩) 3 3, .int .i64 2, .int .i64 6, .slice (some ⟨b8, 0, none⟩) 2 2, .slice (some ⟨b9, 0, none⟩) 2 2, .int .i64 0, .slice (some ⟨b10, 0, none⟩) 1 1, .int .i64 1, .int .i64 0, .slice (some ⟨b11, 0, none⟩) 1 1, .slice (some ⟨b12, 0, none⟩) 1 1, .int .i64 0, .slice none 0 0, .int .i64 3, .int .i64 0, .slice none 0 0, .slice (some ⟨b13, 0, none⟩) 1 1, .int .i64 0]) 40 = mm := ⟨_, rfl⟩
  rw [hm14, hb14] at o14 n14
  rw [hm14] at kk14
  obtain ⟨o15, kk15, n15⟩ := new_own (m := m14) (cs := ints [4, 5]) (e := 3) rfl
  obtain ⟨b15, hb15⟩ : ∃ b, m14.next = b := ⟨_, rfl⟩
  obtain ⟨m15, hm15⟩ : ∃ mm, m14.new (ints [4, 5]) 3 = mm := ⟨_, rfl⟩
  rw [hm15, hb15] at o15 n15
  rw [hm15] at kk15
  obtain ⟨o16, kk16, n16⟩ := new_own (m := m15) (cs := [.int .i64 0, .int .i64 0, .slice (some ⟨b15, 0, none⟩) 2 2, .slice none 0 0]) (e := 64) rfl
  obtain ⟨b16, hb16⟩ : ∃ b, m15.next = b := ⟨_, rfl⟩
  obtain ⟨m16, hm16⟩ : ∃ mm, m15.new ([.int .i64 0, .int .i64 0, .slice (some ⟨b15, 0, none⟩) 2 2, .slice none 0 0]) 64 = mm := ⟨_, rfl⟩
  rw [hm16, hb16] at o16 n16
  rw [hm16] at kk16
  obtain ⟨o17, kk17, n17⟩ := new_own (m := m16) (cs := [.slice (some ⟨b16, 0, none⟩) 1 1]) (e := 67) rfl
  obtain ⟨b17, hb17⟩ : ∃ b, m16.next = b := ⟨_, rfl⟩
  obtain ⟨m17, hm17⟩ : ∃ mm, m16.new ([.slice (some ⟨b16, 0, none⟩) 1 1]) 67 = mm := ⟨_, rfl⟩
  rw [hm17, hb17] at o17 n17
  rw [hm17] at kk17
  obtain ⟨o18, kk18, n18⟩ := new_own (m := m17) (cs := [.int .i64 0, .int .i64 0, .slice none 0 0, .slice none 0 0, .slice none 0 0]) (e := 34) rfl
  obtain ⟨b18, hb18⟩ : ∃ b, m17.next = b := ⟨_, rfl⟩
  obtain ⟨m18, hm18⟩ : ∃ mm, m17.new ([.int .i64 0, .int .i64 0, .slice none 0 0, .slice none 0 0, .slice none 0 0]) 34 = mm := ⟨_, rfl⟩
  rw [hm18, hb18] at o18 n18
  rw [hm18] at kk18
  obtain ⟨mU, eU, oU, kU⟩ := store_own (r := _) rfl o18 (off := 0) (vs := [.int .i64 0, .int .i64 0, .slice (some ⟨b4, 0, none⟩) 8 8, .slice (some ⟨b14, 0, none⟩) 4 4, .slice (some ⟨b17, 0, none⟩) 1 1]) (by simp) (by simp [one_int, one_slice])
  simp [over] at oU
  simp only [ints, List.map_cons, List.map_nil] at hm1 hm2 hm3 hm4 hm5 hm6 hm7 hm8 hm9 hm10 hm11 hm12 hm13 hm14 hm15 hm16 hm17 hm18
  have K17 := (kk18.nil (fs := [b18])).trans kU
  have K16 := (kk17.nil (fs := [b18])).trans K17
  have K15 := (kk16.nil (fs := [b18])).trans K16
  have K14 := (kk15.nil (fs := [b18])).trans K15
  have K13 := (kk14.nil (fs := [b18])).trans K14
  have K12 := (kk13.nil (fs := [b18])).trans K13
  have K11 := (kk12.nil (fs := [b18])).trans K12
  have K10 := (kk11.nil (fs := [b18])).trans K11
  have K9 := (kk10.nil (fs := [b18])).trans K10
  have K8 := (kk9.nil (fs := [b18])).trans K9
  have K7 := (kk8.nil (fs := [b18])).trans K8
  have K6 := (kk7.nil (fs := [b18])).trans K7
  have K5 := (kk6.nil (fs := [b18])).trans K6
  have K4 := (kk5.nil (fs := [b18])).trans K5
  have K3 := (kk4.nil (fs := [b18])).trans K4
  have K2 := (kk3.nil (fs := [b18])).trans K3
  have K1 := (kk2.nil (fs := [b18])).trans K2
  have p1 := o1.keep K1 (by simp; omega)
  have p2 := o2.keep K2 (by simp; omega)
  have p3 := o3.keep K3 (by simp; omega)
  have p4 := o4.keep K4 (by simp; omega)
  have p5 := o5.keep K5 (by simp; omega)
  have p6 := o6.keep K6 (by simp; omega)
  have p7 := o7.keep K7 (by simp; omega)
  have p8 := o8.keep K8 (by simp; omega)
  have p9 := o9.keep K9 (by simp; omega)
  have p10 := o10.keep K10 (by simp; omega)
  have p11 := o11.keep K11 (by simp; omega)
  have p12 := o12.keep K12 (by simp; omega)
  have p13 := o13.keep K13 (by simp; omega)
  have p14 := o14.keep K14 (by simp; omega)
  have p15 := o15.keep K15 (by simp; omega)
  have p16 := o16.keep K16 (by simp; omega)
  have p17 := o17.keep K17 (by simp; omega)
  have KU : Keeps m mU [] := (kk1.trans (kk2.trans (kk3.trans (kk4.trans (kk5.trans (kk6.trans (kk7.trans (kk8.trans (kk9.trans (kk10.trans (kk11.trans (kk12.trans (kk13.trans (kk14.trans (kk15.trans (kk16.trans (kk17.trans kk18))))))))))))))))).fresh kU (by simp; omega)
  have i1 := ints_own (Q := fun f => m.next ≤ f ∧ f < b18) p1 (by omega)
  have i2 := ints_own (Q := fun f => m.next ≤ f ∧ f < b18) p2 (by omega)
  have i3 := ints_own (Q := fun f => m.next ≤ f ∧ f < b18) p3 (by omega)
  have i5 := ints_own (Q := fun f => m.next ≤ f ∧ f < b18) p5 (by omega)
  have i6 := ints_own (Q := fun f => m.next ≤ f ∧ f < b18) p6 (by omega)
  have i7 := ints_own (Q := fun f => m.next ≤ f ∧ f < b18) p7 (by omega)
  have i8 := ints_own (Q := fun f => m.next ≤ f ∧ f < b18) p8 (by omega)
  have i9 := ints_own (Q := fun f => m.next ≤ f ∧ f < b18) p9 (by omega)
  have i10 := ints_own (Q := fun f => m.next ≤ f ∧ f < b18) p10 (by omega)
  have i11 := ints_own (Q := fun f => m.next ≤ f ∧ f < b18) p11 (by omega)
  have i12 := ints_own (Q := fun f => m.next ≤ f ∧ f < b18) p12 (by omega)
  have i13 := ints_own (Q := fun f => m.next ≤ f ∧ f < b18) p13 (by omega)
  have i15 := ints_own (Q := fun f => m.next ≤ f ∧ f < b18) p15 (by omega)
  have av : AtQ (fun f => m.next ≤ f ∧ f < b18) mU (Ty.slice 38 (Ty.pair (Ty.int .i64) (Ty.pair (Ty.int .i64) (Ty.pair (Ty.int .i64) (Ty.pair (Ty.int .i64) (Ty.pair (Ty.slice 3 (Ty.int .i64)) (Ty.pair (Ty.int .i64) Ty.unit))))))) uS.2.2.1 [.slice (some ⟨b4, 0, none⟩) 8 8] := row_own (css := [valC (valD uS 0) none, valC (valD uS 1) none, valC (valD uS 2) none, valC (valD uS 3) none, valC (valD uS 4) (some ⟨b1, 0, none⟩), valC (valD uS 5) (some ⟨b2, 0, none⟩), valC (valD uS 6) (some ⟨b3, 0, none⟩), valC (valD uS 7) none]) ⟨val_atQ ints_nil, val_atQ ints_nil, val_atQ ints_nil, val_atQ ints_nil, val_atQ (x := valD uS 4) i1, val_atQ (x := valD uS 5) i2, val_atQ (x := valD uS 6) i3, val_atQ ints_nil, trivial⟩ p4 rfl (by omega)
  have ab : AtQ (fun f => m.next ≤ f ∧ f < b18) mU (Ty.slice 40 (Ty.pair (Ty.slice 3 (Ty.int .i64)) (Ty.pair (Ty.int .i64) (Ty.pair (Ty.int .i64) (Ty.pair (Ty.slice 3 (Ty.int .i64)) (Ty.pair (Ty.slice 3 (Ty.int .i64)) (Ty.pair (Ty.int .i64) Ty.unit))))))) uS.2.2.2.1 [.slice (some ⟨b14, 0, none⟩) 4 4] := row_own (css := [blkC (blkD uS 0) (some ⟨b5, 0, none⟩) (some ⟨b6, 0, none⟩) none, blkC (blkD uS 1) (some ⟨b7, 0, none⟩) (some ⟨b8, 0, none⟩) (some ⟨b9, 0, none⟩), blkC (blkD uS 2) (some ⟨b10, 0, none⟩) (some ⟨b11, 0, none⟩) (some ⟨b12, 0, none⟩), blkC (blkD uS 3) none none (some ⟨b13, 0, none⟩)]) ⟨blk_atQ (x := blkD uS 0) i5 i6 ints_nil, blk_atQ (x := blkD uS 1) i7 i8 i9, blk_atQ (x := blkD uS 2) i10 i11 i12, blk_atQ (x := blkD uS 3) ints_nil ints_nil i13, trivial⟩ p14 rfl (by omega)
  have af : AtQ (fun f => m.next ≤ f ∧ f < b18) mU (Ty.slice 64 (Ty.pair (Ty.int .i64) (Ty.pair (Ty.int .i64) (Ty.pair (Ty.slice 3 (Ty.int .i64)) (Ty.pair (Ty.slice 3 (Ty.int .i64)) Ty.unit))))) (stD uS 0) [.slice (some ⟨b16, 0, none⟩) 1 1] := row_own (css := [frC (stD uS 0)[0] (some ⟨b15, 0, none⟩) none]) ⟨frm_atQ (x := (stD uS 0)[0]) i15 ints_nil, trivial⟩ p16 rfl (by omega)
  have ast : AtQ (fun f => m.next ≤ f ∧ f < b18) mU (Ty.slice 67 (Ty.pair (Ty.slice 64 (Ty.pair (Ty.int .i64) (Ty.pair (Ty.int .i64) (Ty.pair (Ty.slice 3 (Ty.int .i64)) (Ty.pair (Ty.slice 3 (Ty.int .i64)) Ty.unit))))) Ty.unit)) uS.2.2.2.2.1 [.slice (some ⟨b17, 0, none⟩) 1 1] := row_own (css := [[.slice (some ⟨b16, 0, none⟩) 1 1]]) ⟨st_atQ (x := (stD uS 0, ())) af, trivial⟩ p17 rfl (by omega)
  have hUA : UAt (fun f => m.next ≤ f ∧ f < b18) mU uS (some ⟨b4, 0, none⟩) (some ⟨b14, 0, none⟩) (some ⟨b17, 0, none⟩) := ⟨av, ab, ast⟩
  obtain ⟨O, I, hT, hck⟩ := check_any hN.nk uS_size (by decide) (by decide) (by decide)
  have hcp := uS_check (hT _ uS_pre)
  rw [hcp] at hck
  have hQ : ∀ f, (m.next ≤ f ∧ f < b18) → f < mU.next := fun f hf => by have := oU.flt; omega
  have bU : b18 < mU.next := oU.flt
  obtain ⟨_, mR, cR, ⟨rb, rf, rfl, hR, nR1, nR2, kR⟩⟩ := newR_run (m := mU) (hN.e 21 (by decide) (by decide)) 9
  have hos : OkO [] 9 := ⟨by omega, by simp [wO], by simp, fun o ho => by simp at ho⟩
  obtain ⟨_, mH, cH, ⟨hb, hf, wb, wf, rfl, hH, nH1, nH2⟩, kH⟩ := heap_run (hN.e 15 (by decide) (by decide)) ⟨hN.e _ (by decide) (by decide), hN.e _ (by decide) (by decide), hN.e _ (by decide) (by decide), hN.e _ (by decide) (by decide), hN.e _ (by decide) (by decide), hN.e _ (by decide) (by decide), hN.e _ (by decide) (by decide), hN.e _ (by decide) (by decide), hN.e _ (by decide) (by decide)⟩ hos hR
  have kRH := kR.trans kH
  have mR1 : mU.next ≤ mR.next := kR.1
  have oH := oU.keep kRH (by simp)
  have lH := oH.load (off := 0) 5 (by simp)
  simp [window] at lH
  have hUH := hUA.keep kRH (by simp)
  obtain ⟨mC, cC, kC⟩ := hck mH hUH (fun f hf => by have := hQ f hf; have := kRH.1; omega)
  have hcu : (uCells uS (some ⟨b4, 0, none⟩) (some ⟨b14, 0, none⟩) (some ⟨b17, 0, none⟩)).toArray = #[.int .i64 0, .int .i64 0, .slice (some ⟨b4, 0, none⟩) 8 8, .slice (some ⟨b14, 0, none⟩) 4 4, .slice (some ⟨b17, 0, none⟩) 1 1] := rfl
  rw [hcu] at cC
  have a64 := u64_le ha
  have b64 := u64_le hb'
  obtain ⟨oW, kW, nW⟩ := new_own (m := mC) (cs := words [a, b, (q : Int)]) (e := 45) rfl
  obtain ⟨bw, hbw⟩ : ∃ b, mC.next = b := ⟨_, rfl⟩
  obtain ⟨mW, hmW⟩ : ∃ mm, mC.new (words [a, b, (q : Int)]) 45 = mm := ⟨_, rfl⟩
  rw [hmW, hbw] at oW nW
  rw [hmW] at kW
  have lC := (oH.keep kC (by simp)).load (off := 0) 5 (by simp)
  simp [window] at lC
  have hmW' : mC.new [.int .u64 a, .int .u64 b, .int .u64 (q : Int)] 45 = mW := hmW
  have wq : IntKind.u64.wrap (q : Int) = (q : Int) := wrap_u64 (by omega) (by omega)
  have KHW := kC.trans kW
  have mRH : mU.next ≤ mH.next := kRH.1
  have mHW : mH.next ≤ mW.next := KHW.1
  have hfl := hH.h.flt
  have hwl := hH.w.flt
  have hNu : Nu S := by
    refine ⟨⟨⟨?_, ?_, ?_, ?_, ?_⟩, ?_, ?_, ?_, ?_, ?_, ?_, ?_, ?_⟩, ?_, ?_, ?_, ?_, ?_, ?_, ?_⟩
    all_goals exact hN.e _ (by decide) (by decide)
  obtain ⟨vX, mX, cX, ⟨K, _, _, _, _, hX⟩, kX⟩ := run_run (m := mW) hNu (hUH.keep KHW (by simp)) (fun f hf => by have := hQ f hf; omega) uS_ok (fun m1 k1 => by
      obtain ⟨m2, c2, k2⟩ := hck m1 ((hUH.keep KHW (by simp)).keep k1 (by simp)) (fun f hf => by have := hQ f hf; have := k1.1; omega)
      exact ⟨m2, c2, k2⟩) (hH.keep KHW (by simp) (by simp)) ⟨fun h => by omega, fun h => by omega⟩ (fun w hw => by simp [wO] at hw; subst hw; omega) (by simp [wO])
    (lo := some ⟨bw, 0, none⟩) (loc := [a, b, (q : Int)]) (c := 3) (Sl.of oW (by simp [words])).rs (fun _ => by have := oW.flt; omega) (fun w hw => by simp at hw; rcases hw with rfl | rfl | rfl <;> omega) (by simp) (wish := -1) (fuel := 9999) (by omega) (by omega)
  obtain ⟨z, hz⟩ := sw_run (hwb := wb) (a := a) (b := b) hq60
  have e9 : (9999 : Int).toNat + 1 = 10000 := rfl
  rw [e9, show wO [] = [0] from rfl, hz] at hX
  obtain ⟨⟨fo, rfl, hfr⟩, _⟩ := hX
  rw [hcu] at cX
  simp only [List.length_cons, List.length_nil, Nat.zero_add, Nat.reduceAdd] at cX
  have hl1 : (stD uS 0).length = 1 := rfl
  rw [hl1] at cX hfr
  obtain ⟨oB, kB, nB⟩ := new_own (m := mX) (cs := [.int .i64 0, .int .i64 0, .int .i64 0, .slice none 0 0, .int .i64 0]) (e := 28) rfl
  obtain ⟨mZ, eZ, oZ, kZ⟩ := store_own (r := _) rfl oB (off := 0) (vs := [.int .i64 1, .int .i64 0, .int .i64 (-1), .slice fo 1 1, .int .i64 (10 + 6 * (q : Int))]) (by simp) (by simp [one_int, one_slice])
  simp [over] at oZ
  have kXZ := kB.fresh kZ (by simp)
  have hfZ := hfr.keep kXZ (by simp)
  obtain ⟨vb, lo, so, f1, f2, rfl, lf, r1, r2⟩ := aframe_at (fs := (stD uS 0).map (frW (wS a b (q : Int) (if q % 2 = 1 then b else a) (if q % 2 = 1 then a else b) 0 z))) hfZ (i := 0) (by rw [List.length_map, hl1]; omega)
  have eF : ((stD uS 0).map (frW (wS a b (q : Int) (if q % 2 = 1 then b else a) (if q % 2 = 1 then a else b) 0 z)))[0]'(by rw [List.length_map, hl1]; omega) = ((0 : Int), (0 : Int), [if q % 2 = 1 then b else a, if q % 2 = 1 then a else b], ([] : List Int), ()) := rfl
  rw [eF] at lf r1
  simp only [List.length_cons, List.length_nil, Nat.zero_add, Nat.zero_mul, Nat.reduceAdd] at lf r1
  obtain ⟨lb, rfl, rl⟩ := r1.rdo (by omega)
  have w0 : loadRow mZ ⟨lb, 0, none⟩ 1 = some [.int .u64 (if q % 2 = 1 then b else a)] := rl.load1 (off := 0) rfl
  have w1 : loadRow mZ ⟨lb, 1, none⟩ 1 = some [.int .u64 (if q % 2 = 1 then a else b)] := rl.load1 (off := 1) rfl
  have lf2 := load_sub (k := 2) lf rfl
  have z0 := oZ.load1 (off := 0) rfl
  have z3 := oZ.load1 (off := 3) rfl
  have z4 := oZ.load1 (off := 4) rfl
  have tq : (q : Int).tmod 2 = ((q % 2 : Nat) : Int) := by rw [Int.tmod_eq_emod_of_nonneg (by omega)]; omega
  refine fn_w 11 [60, 71] k7 (hN.e _ (by decide) (by decide)) rfl ?_
  simp [-Int.natCast_add, -BitVec.toNat_or, -BitVec.toNat_ofInt, -BitVec.toNat_and, build_of bo38, buildSlice_of u36 bs3 rfl, buildSlice_of u30 bs38 rfl, build_of bo40, buildSlice_of u31 bs40 rfl, build_of bo64, buildSlice_of u65 bs64 rfl, build_of bo67, buildSlice_of u32 bs67 rfl, build_of bo34, alloc_of zo34, store_of sz34, load_agg ld34, conv_i u3 u45, buildSlice_of u42 bs45 rfl, alloc_of zo28, store_of sz28, fieldAddr_of fa28_0, load_of ld3, fieldAddr_of fa28_3, load_of ld26, len_slice u26, index_slice u26 sz44, fieldAddr_of fa44_2, load_of ld42, len_slice u42, index_slice u42 sz45, load_of ld45, fieldAddr_of fa28_4, pk, hm1, hb1, hm2, hb2, hm3, hb3, hm4, hb4, hm5, hb5, hm6, hb6, hm7, hb7, hm8, hb8, hm9, hb9, hm10, hb10, hm11, hb11, hm12, hb12, hm13, hb13, hm14, hb14, hm15, hb15, hm16, hb16, hm17, hb17, hm18, hb18, eU, cR, cH, hkn, lH, cC, lC, wq, hmW', hbw, cX, eZ, tq]
  have hbx : mX.next = mX.next := rfl
  have e1 : IntKind.i64.wrap ((q : Int) + 1) = (q : Int) + 1 := wrap_i64 (by omega) (by omega)
  have efin : 10 + 6 * (q : Int) = IntKind.i64.wrap (IntKind.i64.wrap (IntKind.i64.wrap (5 + IntKind.i64.wrap (((q : Int) + 1) * 4)) + IntKind.i64.wrap ((q : Int) * 2)) + 1) := by
    have g1 : IntKind.i64.wrap (((q : Int) + 1) * 4) = ((q : Int) + 1) * 4 := wrap_i64 (by omega) (by omega)
    have g2 : IntKind.i64.wrap ((q : Int) * 2) = (q : Int) * 2 := wrap_i64 (by omega) (by omega)
    rw [g1, g2, wrap_i64 (x := 5 + ((q : Int) + 1) * 4) (by omega) (by omega), wrap_i64 (x := 5 + ((q : Int) + 1) * 4 + (q : Int) * 2) (by omega) (by omega), wrap_i64 (by omega) (by omega)]
    omega
  by_cases hp : q % 2 = 1
  · have hp' : (q : Int) % 2 = 1 := by omega
    rw [if_pos hp] at w0 w1
    simp [-Int.natCast_add, -BitVec.toNat_or, -BitVec.toNat_ofInt, -BitVec.toNat_and, build_of bo38, buildSlice_of u36 bs3 rfl, buildSlice_of u30 bs38 rfl, build_of bo40, buildSlice_of u31 bs40 rfl, build_of bo64, buildSlice_of u65 bs64 rfl, build_of bo67, buildSlice_of u32 bs67 rfl, build_of bo34, alloc_of zo34, store_of sz34, load_agg ld34, conv_i u3 u45, buildSlice_of u42 bs45 rfl, alloc_of zo28, store_of sz28, fieldAddr_of fa28_0, load_of ld3, fieldAddr_of fa28_3, load_of ld26, len_slice u26, index_slice u26 sz44, fieldAddr_of fa44_2, load_of ld42, len_slice u42, index_slice u42 sz45, load_of ld45, fieldAddr_of fa28_4, hp, hp', z0, z3, z4, lf2, w0, w1, e1]
    exact efin
  · have hp' : ¬ (q : Int) % 2 = 1 := by omega
    rw [if_neg hp] at w0 w1
    simp [-Int.natCast_add, -BitVec.toNat_or, -BitVec.toNat_ofInt, -BitVec.toNat_and, build_of bo38, buildSlice_of u36 bs3 rfl, buildSlice_of u30 bs38 rfl, build_of bo40, buildSlice_of u31 bs40 rfl, build_of bo64, buildSlice_of u65 bs64 rfl, build_of bo67, buildSlice_of u32 bs67 rfl, build_of bo34, alloc_of zo34, store_of sz34, load_agg ld34, conv_i u3 u45, buildSlice_of u42 bs45 rfl, alloc_of zo28, store_of sz28, fieldAddr_of fa28_0, load_of ld3, fieldAddr_of fa28_3, load_of ld26, len_slice u26, index_slice u26 sz44, fieldAddr_of fa44_2, load_of ld42, len_slice u42, index_slice u42 sz45, load_of ld45, fieldAddr_of fa28_4, hp, hp', z0, z3, z4, lf2, w0, w1, e1]
    exact efin

/- the row -/
open Go.ChangeShapes Go.WideShapes Go.ChangeAt Go.RowKit
theorem own : ownKnob Tryd.prog.godebug = none := by kernel_rfl
theorem tab : Sh.tabCheck Tryd.prog fns = true := by kernel_rfl
def tables : List (Nat × List Value) := []
theorem startT (w : World) (h : laidMetH Tryd.prog Rows.evalSwapsRow.laid w) : MRel Tryd.prog (inj0 Tryd.prog) (memG Tryd.prog tables) (allF w) w w := by
  refine memG_rel Tryd.prog w tables fun p hp => ?_
  simp only [tables, List.mem_cons, List.not_mem_nil, or_false] at hp

theorem walk (w : World) (hL : laidMetH Tryd.prog Rows.evalSwapsRow.laid w) (x0 : Int) (hx0 : (Lit.int .u64 x0).wf = true) (x1 : Int) (hx1 : (Lit.int .u64 x1).wf = true) (x2 : Int) (hx2 : (Lit.int .i64 x2).wf = true) :
    Calls Tryd.prog 7 #[.int .u64 x0, .int .u64 x1, .int .i64 x2] w fun e w' => e = .returned (.bool true) ∧ Below w.heap.size w w' := by
  have hM := startT w hL
  obtain ⟨v', m', h, rfl⟩ := law_run (S := sums) (m := memG Tryd.prog tables) rfl nz hx0 hx1 hx2
  exact calls_of mixed (Sh.tab_ok tab) sumsOk Tryd.func7 (by kernel_rfl) h rfl hM (.cons (.clo _ rfl) (.cons (.clo _ rfl) (.cons (.clo _ rfl) LRel.nil)))

theorem laidOut : laidOutB Tryd.prog = true := by kernel_rfl

theorem contract (H : Type) (enc : TypeId × Value → H) (W : World) (base : Nat) (args : Array Value) (ds gs : List (DataW H)) (before : List MemPlace)
    (hval : ∀ (j : Nat) t v, Tryd.f7.params[j]? = some t → args[j]? = some v → Value.okWide Tryd.prog W .any base t v)
    (hW : DataW.Whole enc Tryd.prog Tryd.f7.params.toList Rows.evalSwapsSpec.vars false W args.toList ds gs before) (hL : laidMetH Tryd.prog Rows.evalSwapsRow.laid W) :
    Calls Tryd.prog 7 args W fun e W' => ∃ v, e = .returned v ∧ Rows.evalSwapsSpec.post enc Tryd.prog Tryd.f7 false true false false W args v W' := by
  have hW' := hW
  obtain ⟨p, q, hA0, hV, rfl, hfz, hnd⟩ := hW
  have hA : DataW.TrodAll enc Tryd.prog W 0 (fun _ => true) true Tryd.f7.params.toList args.toList ds p := hA0
  rw [Tryd.params7] at hA hval
  obtain ⟨v0, v1, v2, d0, d1, d2, p0, p1, p2, rfl, rfl, rfl, t0, t1, t2⟩ := trodAll_three hA
  obtain ⟨rfl, rfl⟩ := trodVars_none hV
  obtain ⟨x0, rfl, rfl, rfl, hx0⟩ := open_int u45 (hval 0 _ _ rfl rfl) t0
  obtain ⟨x1, rfl, rfl, rfl, hx1⟩ := open_int u45 (hval 1 _ _ rfl rfl) t1
  obtain ⟨x2, rfl, rfl, rfl, hx2⟩ := open_int u3 (hval 2 _ _ rfl rfl) t2
  clear hA0
  simp only [List.append_nil, List.nil_append] at hW'
  refine (walk W hL x0 hx0 x1 hx1 x2 hx2).mono fun e W' ⟨he, hg⟩ => ?_
  subst he
  exact ⟨_, rfl, Sh.law_post (pa := ([] ++ ([] ++ []))) (pv := []) hW' hg (by simp) (fun sp hsp => trodAll_mk3 (shut_int u45 hx0) (shut_int u45 hx1) (shut_int u3 hx2)) (fun _ _ => rfl) (fun _ _ _ => (trodAll_cons_mk (shut_bool u4 _) trodAll_mk0))
    (ok_one (by kernel_rfl) rfl (okWide_bool_mk u4 _))⟩
/-- A world for the witness: the settled one, the listed variables holding what is laid. -/
noncomputable def laidWorld (os : Os) : World :=
  { World.holding Tryd.prog os ⟨#[], #[], []⟩ with heap := (((World.holding Tryd.prog os ⟨#[], #[], []⟩).heap).modify 2 (Sh.laidBlock (Rows.laid_unicode_utf8_acceptRanges : DataW Unit))).modify 1 (Sh.laidBlock (Rows.laid_unicode_utf8_first : DataW Unit)) }
theorem laid_met (os : Os) : laidMet Tryd.prog Rows.evalSwapsRow.laid ((laidWorld os).forCall (fun _ _ => 0) ⟨#[], #[.int .u64 0, .int .u64 0, .int .i64 0], []⟩).memory :=
  laidMet_of_run' 8 (by kernel_rfl) (by kernel_rfl)
theorem reads (os : Os) {H : Type} (enc : TypeId × Value → H) : ∃ places, DataW.whole enc Tryd.prog ((laidWorld os).forCall (fun _ _ => 0) ⟨#[], #[.int .u64 0, .int .u64 0, .int .i64 0], []⟩).memory Tryd.f7.params.toList Rows.evalSwapsSpec.vars false (#[.int .u64 0, .int .u64 0, .int .i64 0] : Array Value).toList 8 = some ([.lit (.int .u64 0), .lit (.int .u64 0), .lit (.int .i64 0)], [], places) :=
  ⟨[], by kernel_rfl⟩

theorem lifted (os : Os) (started : os.Started) (H : Type) (enc : TypeId × Value → H) (F : Stop.Interp) :
    ReturnsInHanded {} Tryd.checked os 7 .any ((OpenSpec.ofChange Rows.evalSwapsSpec).preRow enc Tryd.prog Tryd.f7 Rows.evalSwapsRow.domain false Rows.evalSwapsRow.laid) (((OpenSpec.ofChange Rows.evalSwapsSpec).at F).post enc Tryd.prog Tryd.f7 false true false false) := by
  obtain ⟨places, hx⟩ := reads os enc
  refine returnsInHanded_of_row (C := Tryd.checked) (s := OpenSpec.ofChange Rows.evalSwapsSpec) own started (by kernel_rfl) Tryd.func7
    (witness_row_at (enc := enc) (C := Tryd.checked) false (laidWorld os) #[.int .u64 0, .int .u64 0, .int .i64 0] rfl (by kernel_rfl) (by kernel_rfl) (by kernel_rfl)
      (OpenSpec.preRow_of_cond 8 hx (by kernel_rfl) (fun k hk => by cases hk) (by kernel_rfl) (laid_met os))) ?_
  intro W base args ds gs before hval hW _ hcd hwt hL _ _
  exact contract H enc W base args ds gs before hval hW hL

theorem said : Rows.EvalSwapsSaid :=
  OpenClaim.holds_of_cond 7 Tryd.f7 rfl rfl rfl rfl rfl rfl rfl ⟨rfl, rfl, rfl, rfl, rfl⟩ rfl rfl rfl rfl rfl (by kernel_rfl) Tryd.func7 (by kernel_rfl)
    (of_decide_eq_true (by kernel_rfl)) (by unfold Func.isWrapper; first | (rw [if_pos (by decide +kernel)]; kernel_rfl) | (rw [if_neg (by decide +kernel)]; exact ⟨rfl, rfl⟩))
    (fun os started H enc _ F => by rw [OpenClaim.pre_eq_preRow]; exact lifted os started H enc F)

theorem plain (f : FuncId) (fn : Func) (hf : Tryd.pinned.checked.prog.funcNamed "turnstone/turnstonelaw16.EvalSwaps" = some f) (hfn : Tryd.pinned.checked.prog.funcs[f]? = some fn) :
    false = Tryd.pinned.checked.prog.looks [] ∧ ∀ (j : Nat) t, fn.params[j]? = some t → Tryd.pinned.checked.prog.wantsStandIn t = false := by
  obtain rfl : f = 7 := Option.some.inj ((show Tryd.prog.funcNamed "turnstone/turnstonelaw16.EvalSwaps" = some 7 by kernel_rfl).symm.trans hf) |>.symm
  obtain rfl : fn = Tryd.f7 := (Option.some.inj (Tryd.func7.symm.trans hfn)).symm
  refine ⟨by kernel_rfl, fun j t ht => ?_⟩
  rw [Tryd.params7] at ht
  rcases j with _ | _ | _ | _
  all_goals first
    | (simp at ht; done)
    | (obtain rfl := Option.some.inj ht; kernel_rfl)
    | (simp at ht; subst ht; kernel_rfl)

theorem proved : Rows.EvalSwapsCardSaid :=
  Claim7.holds_tied_plain_at .later [] _ _ _ _ said (fun _ h => by cases h) (by kernel_rfl) (fun _ h => by cases h) evalSwaps_row_tie rfl ⟨rfl, rfl⟩ (by kernel_rfl) rfl plain (by kernel_rfl)
#print axioms proved
end Go.Proofs.YtlogdohlcdhepaaDoor.evalSwaps

