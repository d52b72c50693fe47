/-
  This text proves what eval's 'left' answers, over the abstract run: the frames.
  Condition: nothing is known of the calls ahead ('S f = []').
-/
import Derived.Test.YtlogdohlcdhepaaDoorEvR
set_option maxRecDepth 100000
set_option linter.unusedSimpArgs false
set_option linter.unusedVariables false
namespace Go.Proofs.YtlogdohlcdhepaaDoor.base
open Go.Sh gen
variable {S : Sums} {m : Mem}
abbrev ns (u : UnT.D) : Nat := u.2.2.2.2.1.length
abbrev AFrT : Ty := (Ty.pair (Ty.int .i64) (Ty.pair (Ty.int .i64) (Ty.pair (Ty.slice 45 (Ty.int .u64)) (Ty.pair (Ty.slice 45 (Ty.int .u64)) Ty.unit))))
def frW (ws : List Int) (f : FrmT.D) : AFrT.D := ((show Int from f.1), (show Int from f.2.1), rowW ws f.2.2.1, rowW ws f.2.2.2.1, ())
theorem slice_elem2 {Q : Nat → Prop} {e : TypeId} {t : Ty} {l : List t.D} {ao : Option Addr} (h : AtQ Q m (Ty.slice e t) l [.slice ao l.length l.length]) {i : Nat} (hi : i < l.length) :
    ∃ (vb : Nat) (c : List Value), ao = some ⟨vb, 0, none⟩ ∧ AtQ Q m t l[i] c ∧ ∀ (m' : Mem) (fs : List Nat), Keeps m m' fs → (∀ f ∈ fs, ¬ Q f) → loadRow m' ⟨vb, i * t.size, none⟩ t.size = some c := by
  obtain ⟨css, fam, hcl, hce, hr, hq⟩ := slice_at h
  obtain ⟨vb, rfl, o⟩ := hr.rdo (by omega)
  have hce' : ∀ (j : Nat) d c, l[j]? = some d → css[j]? = some c → At m t d c := fun j d c h1 h2 => (hce j d c h1 h2).at_
  have hci : i < css.length := by omega
  have hat := hce i l[i] css[i] (List.getElem?_eq_getElem hi) (List.getElem?_eq_getElem hci)
  have hlen : ∀ x ∈ css, x.length = t.size := by
    intro x hx
    obtain ⟨j, hj⟩ := List.getElem?_of_mem hx
    have hjl : j < l.length := by have := (List.getElem?_eq_some_iff.1 hj).1; omega
    exact (hce' j l[j] x (List.getElem?_eq_getElem hjl) hj).len
  have hwin := win_flat hlen hci
  have hfl : css.flatten.length = css.length * t.size := flat_size hlen
  have hb : i * t.size + t.size ≤ css.flatten.length := by
    rw [hfl, ← Nat.succ_mul]
    exact Nat.mul_le_mul_right _ hci
  refine ⟨vb, css[i], rfl, hat, fun m' fs k hf => ?_⟩
  rw [(o.keep k (fun hm => hf fam hm (hq (by omega)))).load t.size hb, hwin]
theorem state_at {Q : Nat → Prop} {u : UnT.D} {vo bo so : Option Addr} (h : UAt Q m u vo bo so) {i : Nat} (hi : i < ns u) :
    ∃ (b : Nat) (fo : Option Addr), so = some ⟨b, 0, none⟩ ∧ (∀ (m' : Mem) (fs : List Nat), Keeps m m' fs → (∀ f ∈ fs, ¬ Q f) → loadRow m' ⟨b, i, none⟩ 1 = some [.slice fo (u.2.2.2.2.1[i]).1.length (u.2.2.2.2.1[i]).1.length]) ∧ AtQ Q m (Ty.slice 64 (Ty.pair (Ty.int .i64) (Ty.pair (Ty.int .i64) (Ty.pair (Ty.slice 3 (Ty.int .i64)) (Ty.pair (Ty.slice 3 (Ty.int .i64)) Ty.unit))))) (u.2.2.2.2.1[i]).1 [.slice fo (u.2.2.2.2.1[i]).1.length (u.2.2.2.2.1[i]).1.length] := by
  obtain ⟨vb, c, e, hc, hl⟩ := slice_elem2 h.s hi
  obtain ⟨_, _, e1, h1, h2⟩ := hc
  simp only [AtQ] at h2
  subst h2
  have h1' := h1
  obtain ⟨ao, css, fm, rfl, _⟩ := h1
  refine ⟨vb, ao, e, fun m' fs k hf => ?_, h1'⟩
  have hl' := hl m' fs k hf
  rw [e1] at hl'
  rw [show (Ty.pair (Ty.slice 64 FrmT) Ty.unit).size = 1 from rfl] at hl'
  simpa using hl'
abbrev frC (f : FrmT.D) (lo so : Option Addr) : List Value := [.int .i64 f.1, .int .i64 f.2.1, .slice lo f.2.2.1.length f.2.2.1.length, .slice so f.2.2.2.1.length f.2.2.2.1.length]
theorem frame_at {Q : Nat → Prop} {fs : List FrmT.D} {fo : Option Addr} (h : AtQ Q m (Ty.slice 64 (Ty.pair (Ty.int .i64) (Ty.pair (Ty.int .i64) (Ty.pair (Ty.slice 3 (Ty.int .i64)) (Ty.pair (Ty.slice 3 (Ty.int .i64)) Ty.unit))))) fs [.slice fo fs.length fs.length]) {i : Nat} (hi : i < fs.length) :
    ∃ (b : Nat) (lo so : Option Addr), fo = some ⟨b, 0, none⟩ ∧ loadRow m ⟨b, i * 4, none⟩ 4 = some (frC fs[i] lo so) ∧ IntsAt Q m lo (fs[i]).2.2.1 ∧ IntsAt Q m so (fs[i]).2.2.2.1 := by
  obtain ⟨vb, c, fam, e, hc, hl, hq, _⟩ := slice_elem h hi
  obtain ⟨_, _, e1, rfl, _, _, e2, rfl, _, _, e3, h3, _, _, e4, h4, h5⟩ := hc
  simp only [AtQ] at h5
  subst h5
  obtain ⟨ao3, f3, rfl, hr3, hqf3⟩ := ints_of h3
  obtain ⟨ao4, f4, rfl, hr4, hqf4⟩ := ints_of h4
  refine ⟨vb, ao3, ao4, e, ?_, ⟨f3, hr3, hqf3⟩, ⟨f4, hr4, hqf4⟩⟩
  rw [e1, e2, e3, e4] at hl
  exact hl
theorem frame_atQ {Q : Nat → Prop} {ws : List Int} {F : FrmT.D} {r5 r6 : Option Addr} {w5 w6 : Nat} (R5 : Rs m r5 (List.length F.2.2.1) (words (rowW ws F.2.2.1)) 45 1 w5) (q5 : List.length F.2.2.1 ≠ 0 → Q w5)
    (R6 : Rs m r6 (List.length F.2.2.2.1) (words (rowW ws F.2.2.2.1)) 45 1 w6) (q6 : List.length F.2.2.2.1 ≠ 0 → Q w6) :
    AtQ Q m AFrT (frW ws F) [.int .i64 F.1, .int .i64 F.2.1, .slice r5 (List.length F.2.2.1) (List.length F.2.2.1), .slice r6 (List.length F.2.2.2.1) (List.length F.2.2.2.1)] := by
  have a5 : AtQ Q m (Ty.slice 45 (Ty.int .u64)) (rowW ws F.2.2.1) [.slice r5 (List.length F.2.2.1) (List.length F.2.2.1)] := by
    have := words_atQ (Q := Q) (m := m) (l := rowW ws F.2.2.1) (ao := r5) (f := w5) (by rw [rowW_len]; exact R5) (by rw [rowW_len]; exact q5)
    rwa [rowW_len] at this
  have a6 : AtQ Q m (Ty.slice 45 (Ty.int .u64)) (rowW ws F.2.2.2.1) [.slice r6 (List.length F.2.2.2.1) (List.length F.2.2.2.1)] := by
    have := words_atQ (Q := Q) (m := m) (l := rowW ws F.2.2.2.1) (ao := r6) (f := w6) (by rw [rowW_len]; exact R6) (by rw [rowW_len]; exact q6)
    rwa [rowW_len] at this
  exact ⟨[_], _, rfl, rfl, [_], _, rfl, rfl, [_], _, rfl, a5, [_], [], rfl, a6, rfl⟩
set_option maxHeartbeats 16000000 in
theorem left_run (hS : S 28 = []) (hR : S 57 = []) {Q : Nat → Prop} {u : UnT.D} {K : Kv} {V : Vv} (h : Ev Q m u K V) (hnu : nv u ≤ 1000000) (hns : ns u ≤ 1000000) {st : Nat} (hst : st < ns u) (val : Int)
    {fs : List FrmT.D} (hfs : (u.2.2.2.2.1[st]).1 = fs) (hfl : fs.length ≤ 1000000) (hf : ∀ f ∈ fs, f.2.2.1.length ≤ 1000000 ∧ f.2.2.2.1.length ≤ 1000000 ∧ (∀ v ∈ (show List Int from f.2.2.1), (0 : Int) ≤ v ∧ v < (nv u : Int)) ∧ (∀ v ∈ (show List Int from f.2.2.2.1), (0 : Int) ≤ v ∧ v < (nv u : Int))) :
    ∃ v m1, callw Tryd.prog TT S 28 [.pointer (some ⟨K.x, 0, none⟩), .int .i64 (st : Int), .int .i64 val] m = some (v, m1) ∧
      (∃ fo, v = .agg #[.int .i64 1, .int .i64 (st : Int), .int .i64 val, .slice fo fs.length fs.length, .int .i64 V.steps] ∧ AtQ (fun f => m.next ≤ f) m1 (Ty.slice 44 (Ty.pair (Ty.int .i64) (Ty.pair (Ty.int .i64) (Ty.pair (Ty.slice 45 (Ty.int .u64)) (Ty.pair (Ty.slice 45 (Ty.int .u64)) Ty.unit))))) (fs.map (frW V.ws)) [.slice fo fs.length fs.length]) ∧ Keeps m m1 [] := by
  obtain ⟨sb, fo, hso, lds, hfo⟩ := state_at h.unit hst
  rw [hfs] at lds hfo
  have o4 := h.own.load1 (off := 4) rfl
  rw [hso] at o4
  have s1 : (st : Int) < ns u := by omega
  have s2 : (st : Int) ≤ 9223372036854775807 := by omega
  refine fn_w 30 [30] k28 hS rfl ?_
  obtain ⟨oP, kP, nP⟩ := new_own (m := m) (cs := [.pointer (some ⟨K.x, 0, none⟩)]) (e := 76) rfl
  obtain ⟨pb, hpb⟩ : ∃ pb, m.next = pb := ⟨_, rfl⟩
  obtain ⟨mA, hmA⟩ : ∃ mA, m.new [.pointer (some ⟨K.x, 0, none⟩)] 76 = mA := ⟨_, rfl⟩
  rw [hmA, hpb] at oP nP
  rw [hmA] at kP
  obtain ⟨oR, kR, nR⟩ := new_own (m := mA) (cs := [.int .i64 0, .int .i64 0, .int .i64 0, .slice none 0 0, .int .i64 0]) (e := 28) rfl
  obtain ⟨rb, hrb⟩ : ∃ rb, mA.next = rb := ⟨_, rfl⟩
  obtain ⟨mB, hmB⟩ : ∃ mB, mA.new [.int .i64 0, .int .i64 0, .int .i64 0, .slice none 0 0, .int .i64 0] 28 = mB := ⟨_, rfl⟩
  rw [hmB, hrb] at oR nR
  rw [hmB] at kR
  obtain ⟨oY, kY, nY⟩ := new_own (m := mB) (cs := [.int .i64 0, .int .i64 0, .int .i64 0, .slice none 0 0, .int .i64 0]) (e := 28) rfl
  obtain ⟨yb, hyb⟩ : ∃ yb, mB.next = yb := ⟨_, rfl⟩
  rw [hyb] at oY nY
  obtain ⟨m4, e4, oX, kX⟩ := store_own (r := _) rfl oY (off := 0) (vs := [.int .i64 1, .int .i64 (st : Int), .int .i64 val, .slice none 0 0, .int .i64 V.steps]) (by simp) (by simp [one_int, one_slice])
  simp [over] at oX
  have kB4 := kY.fresh kX (by simp; omega)
  have kB : Keeps m mB [] := kP.trans kR
  have k4 : Keeps m m4 [] := kB.trans kB4
  have hB := h.keep0 kB
  have h4 := h.keep0 k4
  have x0B := (oP.keep kR (by simp)).load1 (off := 0) rfl
  have oP4 := (oP.keep kR (by simp)).keep kB4 (by simp)
  have oR4 := oR.keep kB4 (by simp)
  have x04 := oP4.load1 (off := 0) rfl
  have w8 := hB.own.load1 (off := 8) rfl
  have o44 := h4.own.load1 (off := 4) rfl
  rw [hso] at o44
  have lds4 := lds m4 [] k4 (by simp)
  have hfoB := hfo.keep kB (by simp)
  have bds : pb < rb ∧ rb < yb ∧ m.next = pb ∧ yb < m4.next := by
    have := oP.flt; have := oR.flt; have := oX.flt; omega
  have nsL : (ns u : Int) ≤ 9223372036854775807 := by omega
  simp [-Int.natCast_add, box_of b76, alloc_of zo28, load_of ld76, fieldAddr_of fa78_4, load_of ld3, build_of bo28, store_of sz28, fieldAddr_of fa78_0, fieldAddr_of fa34_4, load_of ld32, index_slice u32 sz67, fieldAddr_of fa67_0, load_of ld65, len_slice u65, hpb, hmA, hrb, hmB, hyb, x0B, w8, e4, x04, o44, s2, hst, lds4]
  refine wsem_loop 30 [30] (fun d E mF => ∃ (i : Nat) (lo : Option Addr) (lf : Nat) (css : List (List Value)), fs.length - i = d ∧ i ≤ fs.length ∧ Own mF yb [.int .i64 1, .int .i64 (st : Int), .int .i64 val, .slice lo i i, .int .i64 V.steps] 28 yb ∧ css.length = i ∧
    (∀ (k : Nat) d c, ((fs.map (frW V.ws)).take i)[k]? = some d → css[k]? = some c → AtQ (fun f => yb < f ∧ f ≠ lf) mF AFrT d c) ∧ Sl mF lo i css.flatten 44 4 lf ∧ (lo ≠ none → yb < lf ∧ lf < mF.next) ∧ Keeps mB mF [] ∧
    E = [(6, .pointer (some ⟨rb, 0, none⟩)), (7, .pointer (some ⟨yb, 0, none⟩)), (8, .func (.func 57) #[] #[.pointer (some ⟨pb, 0, none⟩)]), (27, .slice fo fs.length fs.length), (28, .int .i64 fs.length), (29, .int .i64 (i : Int))]) _ ⟨_, ⟨0, none, 0, [], rfl, by omega, oX, rfl, fun k d c hk => by simp at hk, Sl.nil _ _ _ _, fun q => absurd rfl q, kB4, rfl⟩, ⟨by rfl, by rfl, by rfl, by rfl, by rfl, by rfl, trivial⟩⟩ ?_
  rintro d E mF ih ⟨i, lo, lf, css, hd, hi, oYF, hcl, hcs, sL, hlf, kF, rfl⟩
  have im : (i : Int) ≤ 9223372036854775807 := by omega
  have hF := hB.keep0 kF
  have ybF := oYF.flt
  by_cases hlt : i < fs.length
  · have i1 : (i : Int) < fs.length := by omega
    have wi : IntKind.i64.wrap ((i : Int) + 1) = ((i + 1 : Nat) : Int) := by rw [wrap_i64 (by omega) (by omega)]; omega
    obtain ⟨fb, la, sa, hfb, ldf, hla, hsa⟩ := frame_at (hfoB.keep kF (by simp)) hlt
    obtain ⟨f1, f2, f3, f4⟩ := hf _ (List.getElem_mem hlt)
    have etk : (fs.map (frW V.ws)).take (i + 1) = (fs.map (frW V.ws)).take i ++ [frW V.ws fs[i]] := by rw [List.take_succ_eq_append_getElem (by simpa using hlt)]; simp
    rw [hfb] at ih ⊢
    generalize fs[i] = F at *
    obtain ⟨oZ, kZ, nZ⟩ := new_own (m := mF) (cs := [.int .i64 0, .int .i64 0, .slice none 0 0, .slice none 0 0]) (e := 64) rfl
    obtain ⟨zb, hzb⟩ : ∃ zb, mF.next = zb := ⟨_, rfl⟩
    obtain ⟨mG, eG, oG, kG'⟩ := store_own (r := _) rfl oZ (off := 0) (vs := frC F la sa) (by simp) (by simp [one_int, one_slice])
    simp [over] at oG
    have kG := kZ.fresh kG' (by simp)
    rw [hzb] at oG nZ eG
    have hG := hF.keep0 kG
    have oPG := ((oP.keep kR (by simp)).keep kF (by simp)).keep kG (by simp)
    have oYG := oYF.keep kG (by simp)
    have y3 := oYG.load1 (off := 3) rfl
    have g0 := oG.load1 (off := 0) rfl
    have g1 := oG.load1 (off := 1) rfl
    have g2 := oG.load1 (off := 2) rfl
    obtain ⟨_, m5, c5, ⟨r5, w5, rfl, R5, q5⟩, k5⟩ := row_run hR hG hnu f1 f3 (hla.keep kG (by simp)) oPG
    have h5 := hG.keep0 k5
    have g3 := (oG.keep k5 (by simp)).load1 (off := 3) rfl
    obtain ⟨_, m6, c6, ⟨r6, w6, rfl, R6, q6⟩, k6⟩ := row_run hR h5 hnu f2 f4 ((hsa.keep kG (by simp)).keep k5 (by simp)) (oPG.keep k5 (by simp))
    have oY5 := oYG.keep k5 (by simp)
    have oY6 := oY5.keep k6 (by simp)
    have oG5 := oG.keep k5 (by simp)
    have oG6 := oG5.keep k6 (by simp)
    have g05 := oG5.load1 (off := 0) rfl
    have g15 := oG5.load1 (off := 1) rfl
    have g06 := oG6.load1 (off := 0) rfl
    have g16 := oG6.load1 (off := 1) rfl
    have y35 := oY5.load1 (off := 3) rfl
    have y36 := oY6.load1 (off := 3) rfl
    have g25 := oG5.load1 (off := 2) rfl
    have g26 := oG6.load1 (off := 2) rfl
    have g36 := oG6.load1 (off := 3) rfl
    have gG3 := oG.load1 (off := 3) rfl
    obtain ⟨oW, kW, nW⟩ := new_own (m := m6) (cs := [.int .i64 F.1, .int .i64 F.2.1, .slice r5 (List.length F.2.2.1) (List.length F.2.2.1), .slice r6 (List.length F.2.2.2.1) (List.length F.2.2.2.1)]) (e := 44) rfl
    have gW0 := (oG6.keep kW (by simp)).load1 (off := 0) rfl
    have gW1 := (oG6.keep kW (by simp)).load1 (off := 1) rfl
    have yW3 := (oY6.keep kW (by simp)).load1 (off := 3) rfl
    simp [-Int.natCast_add, load_of ld3, index_slice u65 sz64, load_agg ld64, alloc_of zo64, store_of sz64, fieldAddr_of fa28_3, load_of ld26, fieldAddr_of fa64_0, fieldAddr_of fa64_1, fieldAddr_of fa64_2, load_of ld36, fieldAddr_of fa64_3, build_of bo44, buildSlice_of u26 bs44 rfl, append_s u26 sz44, i1, im, hlt, ldf, hzb, eG, y3, g0, g1, g2, c5, g3, c6]
    generalize hra : sappend _ _ _ _ _ _ = ra
    obtain ⟨m7, lb7, lf7, rfl, oL7, k7, hlf7, hl7, hz7⟩ := app_slz hra u26 ap44 ((sL.keepz kG (by simp)).keepz (k5.trans k6) (by simp)) (by omega) (by simp) (by simp [one_int, one_slice]) (by omega) (by omega)
    have b5 := k5.1
    have b6 := k6.1
    have bG := kG.1
    have bF := kF.1
    have knew : ∀ f : Nat, f ≤ yb ∨ zb ≤ f → f ∉ (if lo = none then [] else [lf]) := by
      intro f hf'
      split
      · simp
      · rename_i hn
        have := hlf hn
        simp; omega
    have oY7 := oY6.keep k7 (knew _ (by omega))
    have oG7 := oG6.keep k7 (knew _ (by omega))
    have y37 := oY7.load1 (off := 3) rfl
    have g07 := oG7.load1 (off := 0) rfl
    have g17 := oG7.load1 (off := 1) rfl
    obtain ⟨m8, e8, oY8, k8⟩ := store_own (r := _) rfl oY7 (off := 3) (vs := [.slice (some ⟨lb7, 0, none⟩) (i + 1) (i + 1)]) (by simp) (by simp [one_slice])
    simp [over] at oY8
    simp [-Int.natCast_add, load_of ld3, fieldAddr_of fa28_3, load_of ld26, load_of ld36, store_of sz26, y3, g0, g1, g2, g3, g05, g15, g06, g16, y35, y36, yW3, gG3, e8, wi]
    have R57 : Rs m8 r5 (List.length F.2.2.1) (words (rowW V.ws F.2.2.1)) 45 1 w5 := by
      refine ((R5.keep0 k6 (by simp)).keep0 k7 (fun q => ?_)).keep0 k8 (fun q => ?_)
      · split
        · simp
        · rename_i hn
          have := hlf hn; have := q5 q
          simp; omega
      · have := q5 q
        simp; omega
    have R67 : Rs m8 r6 (List.length F.2.2.2.1) (words (rowW V.ws F.2.2.2.1)) 45 1 w6 := by
      refine (R6.keep0 k7 (fun q => ?_)).keep0 k8 (fun q => ?_)
      · split
        · simp
        · rename_i hn
          have := hlf hn; have := q6 q
          simp; omega
      · have := q6 q
        simp; omega
    have lfz : (lo ≠ none ∧ lf7 = lf) ∨ (lo = none ∧ m6.next ≤ lf7) := by
      rcases hlf7 with q | q
      · exact Or.inl q
      · by_cases hn : lo = none
        · exact Or.inr ⟨hn, q⟩
        · exact Or.inl ⟨hn, hz7 hn⟩
    have hl7' : yb < lf7 ∧ (lf7 < mF.next ∨ m6.next ≤ lf7) := by
      rcases lfz with ⟨q, q2⟩ | ⟨_, q⟩
      · have := hlf q; omega
      · omega
    have at8 := frame_atQ (Q := fun f => yb < f ∧ f ≠ lf7) R57 (fun q => by have := q5 q; omega) R67 (fun q => by have := q6 q; omega)
    have K8 : Keeps mB m8 [] := by
      refine (((kF.trans kG).trans (k5.trans k6)).fresh k7 ?_).fresh k8 (by simp; omega)
      intro f hf'
      split at hf'
      · simp at hf'
      · rename_i hn
        simp at hf'
        have := hlf hn
        rw [hf']; omega
    exact ih _ _ _ _ ⟨i + 1, some ⟨lb7, 0, none⟩, lf7, css ++ [[.int .i64 F.1, .int .i64 F.2.1, .slice r5 (List.length F.2.2.1) (List.length F.2.2.1), .slice r6 (List.length F.2.2.2.1) (List.length F.2.2.2.1)]], rfl, by omega, oY8, by simp [hcl], (by
        intro k d c hd' hc'
        rw [etk] at hd'
        have hml : ((fs.map (frW V.ws)).take i).length = i := by rw [List.length_take, List.length_map]; omega
        by_cases hk : k < i
        · rw [List.getElem?_append_left (by omega)] at hd' hc'
          have a1 := hcs k d c hd' hc'
          have hln : lo ≠ none := by
            intro e
            rcases sL.2 with ⟨_, q⟩ | ⟨b, q, _⟩
            · omega
            · rw [e] at q; cases q
          have e7 := hz7 hln
          have a2 := ((a1.keep ((kG.trans k5).trans k6) (by simp)).keep k7 (by
            intro f hf'
            rw [if_neg hln] at hf'
            simp at hf'
            rw [hf']
            exact fun q => q.2 rfl)).keep k8 (by simp)
          rw [e7]; exact a2
        · have hk2 : k = i := by
            have := (List.getElem?_eq_some_iff.1 hc').1
            simp [hcl] at this
            omega
          subst hk2
          rw [List.getElem?_append_right (by omega), hml, Nat.sub_self] at hd'
          rw [List.getElem?_append_right (by omega), hcl, Nat.sub_self] at hc'
          simp only [List.getElem?_cons_zero, Option.some.injEq] at hd' hc'
          subst hd' hc'
          exact at8), by
        have := (oL7.keep k8 (by simp; omega))
        exact Sl.of (by simpa using this) (by have := sL.1; simp [List.length_flatten] at this ⊢; omega), fun _ => ⟨hl7'.1, by have := k8.1; omega⟩, K8, rfl⟩ (by omega) ⟨by rfl, by rfl, by rfl, by rfl, by rfl, by rfl, trivial⟩
  have i1 : ¬ (i : Int) < fs.length := by omega
  have ei : i = fs.length := by omega
  clear ih
  have lY := oYF.load (off := 0) 5 (by simp)
  simp [window] at lY
  obtain ⟨m8, e8, oR8, k8⟩ := store_own (r := _) rfl (oR.keep kF (by simp)) (off := 0) (vs := [.int .i64 1, .int .i64 (st : Int), .int .i64 val, .slice lo i i, .int .i64 V.steps]) (by simp) (by simp [one_int, one_slice])
  simp [over] at oR8
  have lR := oR8.load (off := 0) 5 (by simp)
  simp [window] at lR
  simp [-Int.natCast_add, lres_agg ld28, store_of sz28, load_agg ld28, i1, lY, e8, lR]
  subst ei
  rw [List.take_of_length_le (by simp)] at hcs
  have KR : Keeps m m8 [] := (kB.trans kF).fresh k8 (by simp; omega)
  refine ⟨⟨lo, ⟨rfl, rfl⟩, lo, css, lf, by simp, by simpa using hcl, fun k d c h1 h2 => ((hcs k d c h1 h2).keep k8 (by simp; omega)).mono (fun f q => by omega), ?_, fun q => ?_⟩, KR⟩
  · have := (sL.keepz k8 (fun q => by have := hlf q; simp; omega)).rs
    rw [List.length_map]
    exact this
  · have hln : lo ≠ none := by
      intro e
      simp at q
      rcases sL.2 with ⟨_, z⟩ | ⟨b, z, _⟩
      · exact q (List.length_eq_zero_iff.1 z)
      · rw [e] at z; cases z
    have := hlf hln
    omega
end Go.Proofs.YtlogdohlcdhepaaDoor.base

