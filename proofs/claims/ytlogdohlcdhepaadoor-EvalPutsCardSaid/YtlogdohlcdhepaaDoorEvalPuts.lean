/-
  This text proves 'Rows.EvalPutsCardSaid': the law 'EvalPuts' returns true at any word, any place and any number, in whatever memory and on every tape.
  The condition is the card's own: the listed package-level variables hold what the program's text lays.
-/
import Derived.Test.YtlogdohlcdhepaaDoorCards
import Derived.Test.YtlogdohlcdhepaaDoorTie
import Derived.Deep.DeepHandedRow
import Derived.Lib.LaidTab
import Derived.Test.YtlogdohlcdhepaaDoorEyPv
import Derived.Test.YtlogdohlcdhepaaDoorEvK
set_option maxRecDepth 100000
set_option linter.unusedSimpArgs false
set_option linter.unusedVariables false
namespace Go.Proofs.YtlogdohlcdhepaaDoor.evalPuts
open Go.Sh gen base
variable {S : Sums} {m : Mem}
set_option maxHeartbeats 16000000 in
theorem law_run (hK : S 12 = [([], .bool true)]) (hN : Nz S) {v at_ n : Int} (hv : (Lit.int .u64 v).wf = true) (hat : (Lit.int .u64 at_).wf = true) (hn : (Lit.int .i64 n).wf = true) :
    ∃ r m', callw Tryd.prog TT S 8 [.int .u64 v, .int .u64 at_, .int .i64 n] m = some (r, m') ∧ r = .bool true := by
  have hkn := fun m' => sum_ok (P := Tryd.prog) (T := TT) (m := m') hK
  have v64 := u64_le hv
  have a64 := u64_le hat
  obtain ⟨_, mR, cR, ⟨rb, rf, rfl, hR, nR1, nR2, kR⟩⟩ := newR_run (m := m) (hN.e 21 (by decide) (by decide)) 50
  obtain ⟨_, mA, cA, rfl, ⟨rv, hA⟩, kA⟩ := allocR_yes (t := 5) (n := 20) (hN.e 23 (by decide) (by decide)) hR (by omega) (by simp) (by unfold noRoom; simp)
  have cA' : callw Tryd.prog TT S 23 [.pointer (some ⟨rb, 0, none⟩), .int .i64 5, .int .i64 20] mR = some (.tuple #[.int .u64 1, .bool true], mA) := cA
  have hA2 : RefAt mA rb rb rv rf (wO [(5, List.replicate 20 0)]) 50 := by
    have e : wO [(5, List.replicate 20 0)] = [0] ++ [headOf 5 ((20 : Nat) : Int)] ++ List.replicate 20 0 := by
      unfold wO
      rw [List.flatMap_cons, List.flatMap_nil, List.append_nil, List.length_replicate]
      rfl
    rw [e]
    exact hA
  have hos : OkO [(5, List.replicate 20 0)] 50 := ⟨by omega, by simp [wO], by simp, fun o ho => by simp at ho; subst ho; exact ⟨by simp, by simp, by simp, wd_rep 20⟩⟩
  obtain ⟨_, mH, cH, ⟨hb, hf, wb, wf, rfl, hH, nH1, nH2⟩, kH⟩ := heap_run (hN.e 15 (by decide) (by decide)) ⟨hN.e _ (by decide) (by decide), hN.e _ (by decide) (by decide), hN.e _ (by decide) (by decide), hN.e _ (by decide) (by decide), hN.e _ (by decide) (by decide), hN.e _ (by decide) (by decide), hN.e _ (by decide) (by decide), hN.e _ (by decide) (by decide), hN.e _ (by decide) (by decide)⟩ (os := [(5, List.replicate 20 0)]) hos hA2
  have pk := pick_run (m := mH) (hN.e 16 (by decide) (by decide)) n 20 (by omega) (by omega)
  obtain ⟨q, hq⟩ : ∃ q : Nat, n % 20 = (q : Int) := ⟨(n % 20).toNat, by omega⟩
  have hq20 : q < 20 := by omega
  rw [hq] at pk
  have wq1 : IntKind.i64.wrap ((q : Int) + 1) = ((q + 1 : Nat) : Int) := by rw [wrap_i64 (by omega) (by omega)]; omega
  have wq : IntKind.i64.wrap (q : Int) = (q : Int) := wrap_i64 (by omega) (by omega)
  have uq : IntKind.u64.wrap (q : Int) = (q : Int) := wrap_u64 (by omega) (by omega)
  obtain ⟨o1, kk1, n1⟩ := new_own (m := mH) (cs := ints [2]) (e := 3) rfl
  obtain ⟨b1, hb1⟩ : ∃ b, mH.next = b := ⟨_, rfl⟩
  obtain ⟨m1, hm1⟩ : ∃ mm, mH.new (ints [2]) 3 = mm := ⟨_, rfl⟩
  rw [hm1, hb1] at o1 n1
  rw [hm1] at kk1
  obtain ⟨o2, kk2, n2⟩ := new_own (m := m1) (cs := [.int .i64 1, .int .i64 0, .int .i64 0, .int .i64 0, .slice none 0 0, .int .i64 0, .int .i64 1, .int .i64 0, .int .i64 0, .int .i64 1, .slice none 0 0, .int .i64 0, .int .i64 1, .int .i64 0, .int .i64 0, .int .i64 2, .slice none 0 0, .int .i64 0, .int .i64 20, .int .i64 0, .int .i64 1, .int .i64 0, .slice (some ⟨b1, 0, none⟩) 1 1, .int .i64 0, .int .i64 18, .int .i64 0, .int .i64 1, .int .i64 0, .slice none 0 0, .int .i64 0, .int .i64 17, .int .i64 0, .int .i64 0, .int .i64 ((q + 1 : Nat) : Int), .slice none 0 0, .int .i64 0, .int .i64 16, .int .i64 0, .int .i64 0, .int .i64 0, .slice none 0 0, .int .i64 0, .int .i64 15, .int .i64 0, .int .i64 0, .int .i64 0, .slice none 0 0, .int .i64 0]) (e := 38) rfl
  obtain ⟨b2, hb2⟩ : ∃ b, m1.next = b := ⟨_, rfl⟩
  obtain ⟨m2, hm2⟩ : ∃ mm, m1.new ([.int .i64 1, .int .i64 0, .int .i64 0, .int .i64 0, .slice none 0 0, .int .i64 0, .int .i64 1, .int .i64 0, .int .i64 0, .int .i64 1, .slice none 0 0, .int .i64 0, .int .i64 1, .int .i64 0, .int .i64 0, .int .i64 2, .slice none 0 0, .int .i64 0, .int .i64 20, .int .i64 0, .int .i64 1, .int .i64 0, .slice (some ⟨b1, 0, none⟩) 1 1, .int .i64 0, .int .i64 18, .int .i64 0, .int .i64 1, .int .i64 0, .slice none 0 0, .int .i64 0, .int .i64 17, .int .i64 0, .int .i64 0, .int .i64 ((q + 1 : Nat) : Int), .slice none 0 0, .int .i64 0, .int .i64 16, .int .i64 0, .int .i64 0, .int .i64 0, .slice none 0 0, .int .i64 0, .int .i64 15, .int .i64 0, .int .i64 0, .int .i64 0, .slice none 0 0, .int .i64 0]) 38 = mm := ⟨_, rfl⟩
  rw [hm2, hb2] at o2 n2
  rw [hm2] at kk2
  obtain ⟨o3, kk3, n3⟩ := new_own (m := m2) (cs := ints [0, 1, 2, 3, 4, 5, 6, 7]) (e := 3) rfl
  obtain ⟨b3, hb3⟩ : ∃ b, m2.next = b := ⟨_, rfl⟩
  obtain ⟨m3, hm3⟩ : ∃ mm, m2.new (ints [0, 1, 2, 3, 4, 5, 6, 7]) 3 = mm := ⟨_, rfl⟩
  rw [hm3, hb3] at o3 n3
  rw [hm3] at kk3
  obtain ⟨o4, kk4, n4⟩ := new_own (m := m3) (cs := [.slice (some ⟨b3, 0, none⟩) 8 8, .int .i64 3, .int .i64 0, .slice none 0 0, .slice none 0 0, .int .i64 0]) (e := 40) rfl
  obtain ⟨b4, hb4⟩ : ∃ b, m3.next = b := ⟨_, rfl⟩
  obtain ⟨m4, hm4⟩ : ∃ mm, m3.new ([.slice (some ⟨b3, 0, none⟩) 8 8, .int .i64 3, .int .i64 0, .slice none 0 0, .slice none 0 0, .int .i64 0]) 40 = mm := ⟨_, rfl⟩
  rw [hm4, hb4] at o4 n4
  rw [hm4] at kk4
  obtain ⟨o5, kk5, n5⟩ := new_own (m := m4) (cs := ints [4, 5, 6, 7]) (e := 3) rfl
  obtain ⟨b5, hb5⟩ : ∃ b, m4.next = b := ⟨_, rfl⟩
  obtain ⟨m5, hm5⟩ : ∃ mm, m4.new (ints [4, 5, 6, 7]) 3 = mm := ⟨_, rfl⟩
  rw [hm5, hb5] at o5 n5
  rw [hm5] at kk5
  obtain ⟨o6, kk6, n6⟩ := new_own (m := m5) (cs := [.int .i64 0, .int .i64 0, .slice (some ⟨b5, 0, none⟩) 4 4, .slice none 0 0]) (e := 64) rfl
  obtain ⟨b6, hb6⟩ : ∃ b, m5.next = b := ⟨_, rfl⟩
  obtain ⟨m6, hm6⟩ : ∃ mm, m5.new ([.int .i64 0, .int .i64 0, .slice (some ⟨b5, 0, none⟩) 4 4, .slice none 0 0]) 64 = mm := ⟨_, rfl⟩
  rw [hm6, hb6] at o6 n6
  rw [hm6] at kk6
  obtain ⟨o7, kk7, n7⟩ := new_own (m := m6) (cs := [.slice (some ⟨b6, 0, none⟩) 1 1]) (e := 67) rfl
  obtain ⟨b7, hb7⟩ : ∃ b, m6.next = b := ⟨_, rfl⟩
  obtain ⟨m7, hm7⟩ : ∃ mm, m6.new ([.slice (some ⟨b6, 0, none⟩) 1 1]) 67 = mm := ⟨_, rfl⟩
  rw [hm7, hb7] at o7 n7
  rw [hm7] at kk7
  obtain ⟨o8, kk8, n8⟩ := new_own (m := m7) (cs := [.int .i64 0, .int .i64 0, .slice none 0 0, .slice none 0 0, .slice none 0 0]) (e := 34) rfl
  obtain ⟨b8, hb8⟩ : ∃ b, m7.next = b := ⟨_, rfl⟩
  obtain ⟨m8, hm8⟩ : ∃ mm, m7.new ([.int .i64 0, .int .i64 0, .slice none 0 0, .slice none 0 0, .slice none 0 0]) 34 = mm := ⟨_, rfl⟩
  rw [hm8, hb8] at o8 n8
  rw [hm8] at kk8
  obtain ⟨mU, eU, oU, kU⟩ := store_own (r := _) rfl o8 (off := 0) (vs := [.int .i64 0, .int .i64 0, .slice (some ⟨b2, 0, none⟩) 8 8, .slice (some ⟨b4, 0, none⟩) 1 1, .slice (some ⟨b7, 0, none⟩) 1 1]) (by simp) (by simp [one_int, one_slice])
  simp [over] at oU
  simp only [ints, List.map_cons, List.map_nil] at hm1 hm2 hm3 hm4 hm5 hm6 hm7 hm8
  have K7 := (kk8.nil (fs := [b8])).trans kU
  have K6 := (kk7.nil (fs := [b8])).trans K7
  have K5 := (kk6.nil (fs := [b8])).trans K6
  have K4 := (kk5.nil (fs := [b8])).trans K5
  have K3 := (kk4.nil (fs := [b8])).trans K4
  have K2 := (kk3.nil (fs := [b8])).trans K3
  have K1 := (kk2.nil (fs := [b8])).trans K2
  have p1 := o1.keep K1 (by simp; omega)
  have p2 := o2.keep K2 (by simp; omega)
  have p3 := o3.keep K3 (by simp; omega)
  have p4 := o4.keep K4 (by simp; omega)
  have p5 := o5.keep K5 (by simp; omega)
  have p6 := o6.keep K6 (by simp; omega)
  have p7 := o7.keep K7 (by simp; omega)
  have KU : Keeps mH mU [] := (kk1.trans (kk2.trans (kk3.trans (kk4.trans (kk5.trans (kk6.trans (kk7.trans kk8))))))).fresh kU (by simp; omega)
  have i1 := ints_own (Q := fun f => mH.next ≤ f ∧ f < b8) p1 (by omega)
  have i3 := ints_own (Q := fun f => mH.next ≤ f ∧ f < b8) p3 (by omega)
  have i5 := ints_own (Q := fun f => mH.next ≤ f ∧ f < b8) p5 (by omega)
  have av : AtQ (fun f => mH.next ≤ f ∧ f < b8) mU (Ty.slice 38 (Ty.pair (Ty.int .i64) (Ty.pair (Ty.int .i64) (Ty.pair (Ty.int .i64) (Ty.pair (Ty.int .i64) (Ty.pair (Ty.slice 3 (Ty.int .i64)) (Ty.pair (Ty.int .i64) Ty.unit))))))) (uP ((q + 1 : Nat) : Int)).2.2.1 [.slice (some ⟨b2, 0, none⟩) 8 8] := row_own (css := [valC (valD (uP ((q + 1 : Nat) : Int)) 0) none, valC (valD (uP ((q + 1 : Nat) : Int)) 1) none, valC (valD (uP ((q + 1 : Nat) : Int)) 2) none, valC (valD (uP ((q + 1 : Nat) : Int)) 3) (some ⟨b1, 0, none⟩), valC (valD (uP ((q + 1 : Nat) : Int)) 4) none, valC (valD (uP ((q + 1 : Nat) : Int)) 5) none, valC (valD (uP ((q + 1 : Nat) : Int)) 6) none, valC (valD (uP ((q + 1 : Nat) : Int)) 7) none]) ⟨val_atQ ints_nil, val_atQ ints_nil, val_atQ ints_nil, val_atQ (x := (valD (uP ((q + 1 : Nat) : Int)) 3)) i1, val_atQ ints_nil, val_atQ ints_nil, val_atQ ints_nil, val_atQ ints_nil, trivial⟩ p2 rfl (by omega)
  have ab : AtQ (fun f => mH.next ≤ f ∧ f < b8) mU (Ty.slice 40 (Ty.pair (Ty.slice 3 (Ty.int .i64)) (Ty.pair (Ty.int .i64) (Ty.pair (Ty.int .i64) (Ty.pair (Ty.slice 3 (Ty.int .i64)) (Ty.pair (Ty.slice 3 (Ty.int .i64)) (Ty.pair (Ty.int .i64) Ty.unit))))))) (uP ((q + 1 : Nat) : Int)).2.2.2.1 [.slice (some ⟨b4, 0, none⟩) 1 1] := row_own (css := [blkC (blkD (uP ((q + 1 : Nat) : Int)) 0) (some ⟨b3, 0, none⟩) none none]) ⟨blk_atQ (x := (blkD (uP ((q + 1 : Nat) : Int)) 0)) i3 ints_nil ints_nil, trivial⟩ p4 rfl (by omega)
  have af : AtQ (fun f => mH.next ≤ f ∧ f < b8) mU (Ty.slice 64 (Ty.pair (Ty.int .i64) (Ty.pair (Ty.int .i64) (Ty.pair (Ty.slice 3 (Ty.int .i64)) (Ty.pair (Ty.slice 3 (Ty.int .i64)) Ty.unit))))) (stD (uP ((q + 1 : Nat) : Int)) 0) [.slice (some ⟨b6, 0, none⟩) 1 1] := row_own (css := [frC ((0 : Int), (0 : Int), ([4, 5, 6, 7] : List Int), ([] : List Int), ()) (some ⟨b5, 0, none⟩) none]) ⟨frm_atQ (x := ((0 : Int), (0 : Int), ([4, 5, 6, 7] : List Int), ([] : List Int), ())) i5 ints_nil, trivial⟩ p6 rfl (by omega)
  have ast : AtQ (fun f => mH.next ≤ f ∧ f < b8) mU (Ty.slice 67 (Ty.pair (Ty.slice 64 (Ty.pair (Ty.int .i64) (Ty.pair (Ty.int .i64) (Ty.pair (Ty.slice 3 (Ty.int .i64)) (Ty.pair (Ty.slice 3 (Ty.int .i64)) Ty.unit))))) Ty.unit)) (uP ((q + 1 : Nat) : Int)).2.2.2.2.1 [.slice (some ⟨b7, 0, none⟩) 1 1] := row_own (css := [[.slice (some ⟨b6, 0, none⟩) 1 1]]) ⟨st_atQ (x := ((stD (uP ((q + 1 : Nat) : Int)) 0), ())) af, trivial⟩ p7 rfl (by omega)
  have hUA : UAt (fun f => mH.next ≤ f ∧ f < b8) mU (uP ((q + 1 : Nat) : Int)) (some ⟨b2, 0, none⟩) (some ⟨b4, 0, none⟩) (some ⟨b7, 0, none⟩) := ⟨av, ab, ast⟩
  obtain ⟨O, I, hT, hck⟩ := check_any hN.nk (uP_size ((q + 1 : Nat) : Int)) (by show 8 ≤ 20000000000000; decide) (by show 1 ≤ 20000000000000; decide) (by show 1 ≤ 20000000000000; decide)
  have hcp := uP_check _ (hT _ (uP_pre _))
  rw [hcp] at hck
  have hQ : ∀ f, (mH.next ≤ f ∧ f < b8) → f < mU.next := fun f hf => by have := oU.flt; omega
  have bU : b8 < mU.next := oU.flt
  have lU := oU.load (off := 0) 5 (by simp)
  simp [window] at lU
  obtain ⟨hw, hhw⟩ : ∃ hw, wO [(5, List.replicate 20 0)] = hw := ⟨_, rfl⟩
  have hhl : hw.length = 22 := by rw [← hhw]; simp [wO]
  have hwd : Wd hw := by rw [← hhw]; exact wO_wd hos
  have hw0 : hw.getD 0 0 = 0 := by rw [← hhw]; rfl
  have hw1 : hw.getD 1 0 = 5 * 4294967296 + 20 := by
    rw [← hhw]
    have := head_val (t := 5) (n := 20) (by omega) (by omega)
    rw [← this]
    rfl
  rw [hhw] at hH
  have hfl := hH.h.flt
  have hwl := hH.w.flt
  have hcu : ∀ vo bo so, (uCells (uP ((q + 1 : Nat) : Int)) vo bo so).toArray = #[.int .i64 0, .int .i64 0, .slice vo 8 8, .slice bo 1 1, .slice so 1 1] := fun _ _ _ => rfl
  obtain ⟨mX, fo, cX, hfr, hHX, kX⟩ := pu_call hN hq20 hck hUA hQ (hH.keep KU (by simp) (by simp)) ⟨fun h => by omega, fun h => by omega⟩ hwd (by omega) (a := 1) (v := v) (by omega) v64
  rw [hcu] at cX
  have hwU : mU.new [.int .u64 1, .int .u64 (q : Int), .int .u64 v] 45 = mU.new (words [1, (q : Int), v]) 45 := rfl
  have ep : putF hw (1 + 1 + (q : Int)) v = hw.set (2 + q) v := by unfold putF; rw [if_neg (by omega)]; congr 1
  have hset : ∀ k, (hw.set (2 + q) v).getD k 0 = if 2 + q = k then v else hw.getD k 0 := fun k => getD_set _ _ _ _ (by omega)
  obtain ⟨hv1, hhv1⟩ : ∃ h1, hw.set (2 + q) v = h1 := ⟨_, rfl⟩
  rw [ep, hhv1] at hHX
  have hl1 : hv1.length = 22 := by rw [← hhv1]; simpa using hhl
  have hwd1 : Wd hv1 := by
    rw [← hhv1]
    intro w hw'
    rcases List.mem_or_eq_of_mem_set hw' with h | rfl
    · exact hwd w h
    · exact v64
  have eW : puW hw 1 q v = [1, (q : Int), v, 0, v, v, 20, 5] := by
    unfold puW
    rw [ep, show ((1 : Int) + 1 + (q : Int)).toNat = 2 + q by omega, hset, if_pos rfl, hset, if_neg (by omega), show ((1 : Int)).toNat = 1 from rfl, hw1]
    rfl
  rw [eW] at hfr
  -- the first exit
  obtain ⟨oB, kB, nB⟩ := new_own (m := mX) (cs := [.int .i64 0, .int .i64 0, .int .i64 0, .slice none 0 0, .int .i64 0]) (e := 28) rfl
  obtain ⟨xb, hxb⟩ : ∃ b, mX.next = b := ⟨_, rfl⟩
  obtain ⟨mZ, eZ, oZ, kZ⟩ := store_own (r := _) rfl oB (off := 0) (vs := [.int .i64 1, .int .i64 0, .int .i64 (-1), .slice fo 1 1, .int .i64 9]) (by simp) (by simp [one_int, one_slice])
  simp [over] at oZ
  have kXZ := kB.fresh kZ (by simp)
  rw [hxb] at oZ eZ
  have hfZ := hfr.keep kXZ (by simp)
  obtain ⟨vb, lo, so, f1, f2, rfl, lf, r1, r2⟩ := aframe_at (fs := (stD (uP ((q + 1 : Nat) : Int)) 0).map (frW [1, (q : Int), v, 0, v, v, 20, 5])) hfZ (i := 0) (by show 0 < 1; decide)
  have eF : ((stD (uP ((q + 1 : Nat) : Int)) 0).map (frW [1, (q : Int), v, 0, v, v, 20, 5]))[0]'(by show 0 < 1; decide) = ((0 : Int), (0 : Int), [v, v, 20, 5], ([] : List Int), ()) := rfl
  rw [eF] at lf r1
  simp only [List.length_cons, List.length_nil, Nat.zero_add, Nat.zero_mul, Nat.reduceAdd] at lf r1
  obtain ⟨lb, rfl, rl⟩ := r1.rdo (by omega)
  have w0 : loadRow mZ ⟨lb, 0, none⟩ 1 = some [.int .u64 v] := rl.load1 (off := 0) rfl
  have w1 : loadRow mZ ⟨lb, 1, none⟩ 1 = some [.int .u64 v] := rl.load1 (off := 1) rfl
  have w2 : loadRow mZ ⟨lb, 2, none⟩ 1 = some [.int .u64 20] := rl.load1 (off := 2) rfl
  have w3 : loadRow mZ ⟨lb, 3, none⟩ 1 = some [.int .u64 5] := rl.load1 (off := 3) rfl
  have lf2 := load_sub (k := 2) lf rfl
  have z3 := oZ.load1 (off := 3) rfl
  have hHZ := hHX.keep kXZ (by simp) (by simp)
  have gt := get_run (i := (q : Int)) (r := 1) (hN.e 24 (by decide) (by decide)) (hN.e _ (by decide) (by decide)) (hN.e _ (by decide) (by decide)) (hN.e _ (by decide) (by decide)) (hN.e _ (by decide) (by decide)) hHZ (by omega) (by omega) hwd1
  have eAt : hv1.getD (atV hv1 1 (q : Int)).toNat 0 = v := by
    have h1 : hv1.getD 1 0 = 5 * 4294967296 + 20 := by rw [← hhv1, hset, if_neg (by omega), hw1]
    unfold atV
    rw [show ((1 : Int)).toNat = 1 from rfl, h1, if_pos (by omega), uq, wrap_u64 (x := (1 : Int) + 1) (by omega) (by omega), wrap_u64 (by omega) (by omega), show ((1 : Int) + 1 + (q : Int)).toNat = 2 + q by omega, ← hhv1, hset, if_pos rfl]
  rw [eAt] at gt
  -- the words as they were
  obtain ⟨_, mV, cV, nb1, nf1, rfl, oV, nV, kV⟩ := words_run (hN.e 20 (by decide) (by decide)) hHZ (fun e => by rw [e] at hl1; simp at hl1) (by omega)
  have hHV := hHZ.keep kV (by simp) (by simp)
  have kUV : Keeps mU mV [hf, wf] := (kX.trans kXZ.nil).trans kV.nil
  have hHq : ∀ f ∈ [hf, wf], ¬ (mH.next ≤ f ∧ f < b8) := fun f hf' => by simp at hf'; omega
  have hUV := hUA.keep kUV hHq
  have oUV := oU.keep kUV (by simp; omega)
  have lV := oUV.load (off := 0) 5 (by simp)
  simp [window] at lV
  have mUV : mU.next ≤ mV.next := kUV.1
  -- the second run
  obtain ⟨a2, ha2⟩ : ∃ a2 : Int, 60 + at_ % 1000 = a2 := ⟨_, rfl⟩
  have ha2b : 60 ≤ a2 ∧ a2 ≤ 1059 := by omega
  obtain ⟨mY, go, cY, hgr, hHY, kY⟩ := pu_call hN hq20 hck hUV (fun f hf => by have := hQ f hf; omega) hHV ⟨fun h => by omega, fun h => by omega⟩ hwd1 (by omega) (a := a2) (v := v) (by omega) v64
  rw [hcu] at cY
  have hwV : mV.new [.int .u64 a2, .int .u64 (q : Int), .int .u64 v] 45 = mV.new (words [a2, (q : Int), v]) 45 := rfl
  have ep2 : putF hv1 (a2 + 1 + (q : Int)) v = hv1 := by unfold putF; rw [if_pos (Or.inr (by omega))]
  have far : ∀ k : Nat, 22 ≤ k → hv1.getD k 0 = 0 := fun k hk => by rw [List.getD_eq_getElem?_getD, List.getElem?_eq_none (by omega)]; rfl
  rw [ep2] at hHY
  have eW2 : puW hv1 a2 q v = [a2, (q : Int), v, 0, 0, 0, 0, 0] := by
    unfold puW
    rw [ep2, far _ (by omega), far _ (by omega)]
    rfl
  rw [eW2] at hgr
  obtain ⟨oB2, kB2, nB2⟩ := new_own (m := mY) (cs := [.int .i64 0, .int .i64 0, .int .i64 0, .slice none 0 0, .int .i64 0]) (e := 28) rfl
  obtain ⟨yb, hyb⟩ : ∃ b, mY.next = b := ⟨_, rfl⟩
  obtain ⟨mT, eT, oT, kT⟩ := store_own (r := _) rfl oB2 (off := 0) (vs := [.int .i64 1, .int .i64 0, .int .i64 (-1), .slice go 1 1, .int .i64 9]) (by simp) (by simp [one_int, one_slice])
  simp [over] at oT
  have kYT := kB2.fresh kT (by simp)
  rw [hyb] at oT eT
  have hgT := hgr.keep kYT (by simp)
  obtain ⟨vb2, lo2, so2, f3, f4, rfl, lg, r3, r4⟩ := aframe_at (fs := (stD (uP ((q + 1 : Nat) : Int)) 0).map (frW [a2, (q : Int), v, 0, 0, 0, 0, 0])) hgT (i := 0) (by show 0 < 1; decide)
  have eG : ((stD (uP ((q + 1 : Nat) : Int)) 0).map (frW [a2, (q : Int), v, 0, 0, 0, 0, 0]))[0]'(by show 0 < 1; decide) = ((0 : Int), (0 : Int), [0, 0, 0, 0], ([] : List Int), ()) := rfl
  rw [eG] at lg r3
  simp only [List.length_cons, List.length_nil, Nat.zero_add, Nat.zero_mul, Nat.reduceAdd] at lg r3
  obtain ⟨lb2, rfl, rl2⟩ := r3.rdo (by omega)
  have y0 : loadRow mT ⟨lb2, 0, none⟩ 1 = some [.int .u64 0] := rl2.load1 (off := 0) rfl
  have y2 : loadRow mT ⟨lb2, 2, none⟩ 1 = some [.int .u64 0] := rl2.load1 (off := 2) rfl
  have lg2 := load_sub (k := 2) lg rfl
  have t3 := oT.load1 (off := 3) rfl
  have hHT := hHY.keep kYT (by simp) (by simp)
  obtain ⟨_, mS, cS, nb2, nf2, rfl, oS, nS, kS⟩ := words_run (hN.e 20 (by decide) (by decide)) hHT (fun e => by rw [e] at hl1; simp at hl1) (by omega)
  have kVS : Keeps mV mS [hf, wf] := (kY.trans kYT.nil).trans kS.nil
  have nfl : nf1 < mV.next := oV.flt
  have mZV : mZ.next ≤ mV.next := kV.1
  have oVS := oV.keep kVS (by have := hHZ.h.flt; have := hHZ.w.flt; simp; omega)
  obtain ⟨sq, cW, hsq⟩ := samew_run (m := mS) (hN.e 19 (by decide) (by decide)) (a := hv1) (b := hv1) (Sl.of oS (by rw [words_len]; simp)).rs (Sl.of oVS (by rw [words_len]; simp)).rs (by omega) (by omega)
  have hsqt := hsq.2 rfl
  subst hsqt
  have wa : IntKind.u64.wrap (60 + at_.tmod 1000) = a2 := by rw [Int.tmod_eq_emod_of_nonneg (by omega), wrap_u64 (by omega) (by omega), ha2]
  refine fn_w 15 [51, 71, 107] k8 (hN.e _ (by decide) (by decide)) rfl ?_
  simp [-Int.natCast_add, -List.getD_eq_getElem?_getD, -BitVec.toNat_or, -BitVec.toNat_ofInt, -BitVec.toNat_and, build_of bo38, buildSlice_of u36 bs3 rfl, buildSlice_of u30 bs38 rfl, build_of bo40, buildSlice_of u31 bs40 rfl, build_of bo64, buildSlice_of u65 bs64 rfl, build_of bo67, buildSlice_of u32 bs67 rfl, build_of bo34, alloc_of zo34, store_of sz34, load_agg ld34, conv_i u3 u45, buildSlice_of u42 bs45 rfl, alloc_of zo28, store_of sz28, fieldAddr_of fa28_3, load_of ld26, len_slice u26, index_slice u26 sz44, fieldAddr_of fa44_2, load_of ld42, len_slice u42, index_slice u42 sz45, load_of ld45, cR, cA', cH, pk, wq1, wq, uq, hm1, hb1, hm2, hb2, hm3, hb3, hm4, hb4, hm5, hb5, hm6, hb6, hm7, hb7, hm8, hb8, eU, hkn, lU, hwU, cX, hxb, eZ, z3, lf2, w0, w1, w2, w3, gt, cV, lV, wa, hwV, cY, hyb, eT, t3, lg2, y0, y2, cS, cW]

/- the row -/
open Go.ChangeShapes Go.WideShapes Go.ChangeAt Go.RowKit
theorem own : ownKnob Tryd.prog.godebug = none := by kernel_rfl
theorem tab : Sh.tabCheck Tryd.prog fns = true := by kernel_rfl
def tables : List (Nat × List Value) := []
theorem startT (w : World) (h : laidMetH Tryd.prog Rows.evalPutsRow.laid w) : MRel Tryd.prog (inj0 Tryd.prog) (memG Tryd.prog tables) (allF w) w w := by
  refine memG_rel Tryd.prog w tables fun p hp => ?_
  simp only [tables, List.mem_cons, List.not_mem_nil, or_false] at hp

theorem walk (w : World) (hL : laidMetH Tryd.prog Rows.evalPutsRow.laid w) (x0 : Int) (hx0 : (Lit.int .u64 x0).wf = true) (x1 : Int) (hx1 : (Lit.int .u64 x1).wf = true) (x2 : Int) (hx2 : (Lit.int .i64 x2).wf = true) :
    Calls Tryd.prog 8 #[.int .u64 x0, .int .u64 x1, .int .i64 x2] w fun e w' => e = .returned (.bool true) ∧ Below w.heap.size w w' := by
  have hM := startT w hL
  obtain ⟨v', m', h, rfl⟩ := law_run (S := sums) (m := memG Tryd.prog tables) rfl nz hx0 hx1 hx2
  exact calls_of mixed (Sh.tab_ok tab) sumsOk Tryd.func8 (by kernel_rfl) h rfl hM (.cons (.clo _ rfl) (.cons (.clo _ rfl) (.cons (.clo _ rfl) LRel.nil)))

theorem laidOut : laidOutB Tryd.prog = true := by kernel_rfl

theorem contract (H : Type) (enc : TypeId × Value → H) (W : World) (base : Nat) (args : Array Value) (ds gs : List (DataW H)) (before : List MemPlace)
    (hval : ∀ (j : Nat) t v, Tryd.f8.params[j]? = some t → args[j]? = some v → Value.okWide Tryd.prog W .any base t v)
    (hW : DataW.Whole enc Tryd.prog Tryd.f8.params.toList Rows.evalPutsSpec.vars false W args.toList ds gs before) (hL : laidMetH Tryd.prog Rows.evalPutsRow.laid W) :
    Calls Tryd.prog 8 args W fun e W' => ∃ v, e = .returned v ∧ Rows.evalPutsSpec.post enc Tryd.prog Tryd.f8 false true false false W args v W' := by
  have hW' := hW
  obtain ⟨p, q, hA0, hV, rfl, hfz, hnd⟩ := hW
  have hA : DataW.TrodAll enc Tryd.prog W 0 (fun _ => true) true Tryd.f8.params.toList args.toList ds p := hA0
  rw [Tryd.params8] at hA hval
  obtain ⟨v0, v1, v2, d0, d1, d2, p0, p1, p2, rfl, rfl, rfl, t0, t1, t2⟩ := trodAll_three hA
  obtain ⟨rfl, rfl⟩ := trodVars_none hV
  obtain ⟨x0, rfl, rfl, rfl, hx0⟩ := open_int u45 (hval 0 _ _ rfl rfl) t0
  obtain ⟨x1, rfl, rfl, rfl, hx1⟩ := open_int u45 (hval 1 _ _ rfl rfl) t1
  obtain ⟨x2, rfl, rfl, rfl, hx2⟩ := open_int u3 (hval 2 _ _ rfl rfl) t2
  clear hA0
  simp only [List.append_nil, List.nil_append] at hW'
  refine (walk W hL x0 hx0 x1 hx1 x2 hx2).mono fun e W' ⟨he, hg⟩ => ?_
  subst he
  exact ⟨_, rfl, Sh.law_post (pa := ([] ++ ([] ++ []))) (pv := []) hW' hg (by simp) (fun sp hsp => trodAll_mk3 (shut_int u45 hx0) (shut_int u45 hx1) (shut_int u3 hx2)) (fun _ _ => rfl) (fun _ _ _ => (trodAll_cons_mk (shut_bool u4 _) trodAll_mk0))
    (ok_one (by kernel_rfl) rfl (okWide_bool_mk u4 _))⟩
/-- A world for the witness: the settled one, the listed variables holding what is laid. -/
noncomputable def laidWorld (os : Os) : World :=
  { World.holding Tryd.prog os ⟨#[], #[], []⟩ with heap := (((World.holding Tryd.prog os ⟨#[], #[], []⟩).heap).modify 2 (Sh.laidBlock (Rows.laid_unicode_utf8_acceptRanges : DataW Unit))).modify 1 (Sh.laidBlock (Rows.laid_unicode_utf8_first : DataW Unit)) }
theorem laid_met (os : Os) : laidMet Tryd.prog Rows.evalPutsRow.laid ((laidWorld os).forCall (fun _ _ => 0) ⟨#[], #[.int .u64 0, .int .u64 0, .int .i64 0], []⟩).memory :=
  laidMet_of_run' 8 (by kernel_rfl) (by kernel_rfl)
theorem reads (os : Os) {H : Type} (enc : TypeId × Value → H) : ∃ places, DataW.whole enc Tryd.prog ((laidWorld os).forCall (fun _ _ => 0) ⟨#[], #[.int .u64 0, .int .u64 0, .int .i64 0], []⟩).memory Tryd.f8.params.toList Rows.evalPutsSpec.vars false (#[.int .u64 0, .int .u64 0, .int .i64 0] : Array Value).toList 8 = some ([.lit (.int .u64 0), .lit (.int .u64 0), .lit (.int .i64 0)], [], places) :=
  ⟨[], by kernel_rfl⟩

theorem lifted (os : Os) (started : os.Started) (H : Type) (enc : TypeId × Value → H) (F : Stop.Interp) :
    ReturnsInHanded {} Tryd.checked os 8 .any ((OpenSpec.ofChange Rows.evalPutsSpec).preRow enc Tryd.prog Tryd.f8 Rows.evalPutsRow.domain false Rows.evalPutsRow.laid) (((OpenSpec.ofChange Rows.evalPutsSpec).at F).post enc Tryd.prog Tryd.f8 false true false false) := by
  obtain ⟨places, hx⟩ := reads os enc
  refine returnsInHanded_of_row (C := Tryd.checked) (s := OpenSpec.ofChange Rows.evalPutsSpec) own started (by kernel_rfl) Tryd.func8
    (witness_row_at (enc := enc) (C := Tryd.checked) false (laidWorld os) #[.int .u64 0, .int .u64 0, .int .i64 0] rfl (by kernel_rfl) (by kernel_rfl) (by kernel_rfl)
      (OpenSpec.preRow_of_cond 8 hx (by kernel_rfl) (fun k hk => by cases hk) (by kernel_rfl) (laid_met os))) ?_
  intro W base args ds gs before hval hW _ hcd hwt hL _ _
  exact contract H enc W base args ds gs before hval hW hL

theorem said : Rows.EvalPutsSaid :=
  OpenClaim.holds_of_cond 8 Tryd.f8 rfl rfl rfl rfl rfl rfl rfl ⟨rfl, rfl, rfl, rfl, rfl⟩ rfl rfl rfl rfl rfl (by kernel_rfl) Tryd.func8 (by kernel_rfl)
    (of_decide_eq_true (by kernel_rfl)) (by unfold Func.isWrapper; first | (rw [if_pos (by decide +kernel)]; kernel_rfl) | (rw [if_neg (by decide +kernel)]; exact ⟨rfl, rfl⟩))
    (fun os started H enc _ F => by rw [OpenClaim.pre_eq_preRow]; exact lifted os started H enc F)

theorem plain (f : FuncId) (fn : Func) (hf : Tryd.pinned.checked.prog.funcNamed "turnstone/turnstonelaw16.EvalPuts" = some f) (hfn : Tryd.pinned.checked.prog.funcs[f]? = some fn) :
    false = Tryd.pinned.checked.prog.looks [] ∧ ∀ (j : Nat) t, fn.params[j]? = some t → Tryd.pinned.checked.prog.wantsStandIn t = false := by
  obtain rfl : f = 8 := Option.some.inj ((show Tryd.prog.funcNamed "turnstone/turnstonelaw16.EvalPuts" = some 8 by kernel_rfl).symm.trans hf) |>.symm
  obtain rfl : fn = Tryd.f8 := (Option.some.inj (Tryd.func8.symm.trans hfn)).symm
  refine ⟨by kernel_rfl, fun j t ht => ?_⟩
  rw [Tryd.params8] at ht
  rcases j with _ | _ | _ | _
  all_goals first
    | (simp at ht; done)
    | (obtain rfl := Option.some.inj ht; kernel_rfl)
    | (simp at ht; subst ht; kernel_rfl)

theorem proved : Rows.EvalPutsCardSaid :=
  Claim7.holds_tied_plain_at .later [] _ _ _ _ said (fun _ h => by cases h) (by kernel_rfl) (fun _ h => by cases h) evalPuts_row_tie rfl ⟨rfl, rfl⟩ (by kernel_rfl) rfl plain (by kernel_rfl)
#print axioms proved
end Go.Proofs.YtlogdohlcdhepaaDoor.evalPuts

