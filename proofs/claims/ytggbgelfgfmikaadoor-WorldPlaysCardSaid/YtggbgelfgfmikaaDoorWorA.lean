/-
  This text proves what the law's 'prog' and world.New answer over the abstract run: a world whose heap holds the texts, one behind another.
  Condition: nothing is known of the calls ahead ('S f = []').
-/
import Derived.Test.YtggbgelfgfmikaaDoorWorP
set_option maxRecDepth 100000
set_option linter.unusedSimpArgs false
set_option linter.unusedVariables false
namespace Go.Proofs.YtggbgelfgfmikaaDoor.base
open Go.Sh gen
variable {S : Sums} {m : Mem}
def tyC (k : Int) (nm : List UInt8) (el : Int) (fo : Option Addr) (n : Nat) : List Value := [.int .i64 k, .string ⟨nm.toArray⟩, .int .i64 el, .slice fo n n, .slice none 0 0]
structure TyRow (m : Mem) (c : List Value) : Prop where
  ex : ∃ (k el : Int) (nm : List UInt8) (fo : Option Addr) (n : Nat) (cs : List Value) (f : Nat), c = tyC k nm el fo n ∧ n ≤ 100 ∧ Rs m fo n cs 82 2 f ∧ cs.all one = true
def baseC : List (List Value) := [tyC 0 [] 0 none 0, tyC 1 [105, 110, 116] 0 none 0, tyC 2 [98, 111, 111, 108] 0 none 0, tyC 3 [115, 116, 114, 105, 110, 103] 0 none 0, tyC 4 [110, 105, 108] 0 none 0]
theorem base_run (hS : S 42 = []) : ∃ v m1, callw Tryd.prog TT S 42 [] m = some (v, m1) ∧ ∃ b, v = .slice (some ⟨b, 0, none⟩) 5 5 ∧ Own m1 b baseC.flatten 78 b ∧ m.next ≤ b ∧ Keeps m m1 [] := by
  refine fn_w 1 [] k42 hS rfl ?_
  simp [-BitVec.toNat_or, -BitVec.toNat_ofInt, -BitVec.toNat_and, build_of bo78, buildSlice_of u26 bs78 rfl]
  exact ⟨Own.new _ _ _, keeps_new _ _ _ _⟩
def progC (fb : Nat) : List (List Value) := baseC ++ [tyC 5 [80] 0 (some ⟨fb, 0, none⟩) 2, tyC 6 [] 1 none 0]
def fldC : List Value := [.string ⟨#[120]⟩, .int .i64 1, .string ⟨#[121]⟩, .int .i64 1]
theorem prog_run (hS : S 9 = []) (hB : S 42 = []) {to : Option Addr} {tn : Nat} : ∃ v m1, callw Tryd.prog TT S 9 [.slice to tn tn] m = some (v, m1) ∧ ∃ tb fb f, v = .agg #[.slice (some ⟨tb, 0, none⟩) 7 7, .slice none 0 0, .int .i64 0, .slice to tn tn, .slice none 0 0] ∧ Own m1 tb (progC fb).flatten 78 f ∧ Own m1 fb fldC 82 fb ∧ m.next ≤ f ∧ Keeps m m1 [] := by
  obtain ⟨o0, k0, n0⟩ := new_own (m := m) (cs := [Value.slice none 0 0, Value.slice none 0 0, Value.int IntKind.i64 0, Value.slice none 0 0, Value.slice none 0 0]) (e := 31) rfl
  obtain ⟨rb, hrb⟩ : ∃ rb, m.next = rb := ⟨_, rfl⟩
  rw [hrb] at o0 n0
  obtain ⟨vb, m1, hb, ob, rfl, oO, hob, k1⟩ := base_run (m := m.new [Value.slice none 0 0, Value.slice none 0 0, Value.int IntKind.i64 0, Value.slice none 0 0, Value.slice none 0 0] 31) hB
  have o1 := o0.keep k1 (by simp)
  refine fn_w 3 [] k9 hS rfl ?_
  obtain ⟨oF, kF, nF⟩ := new_own (m := m1) (cs := fldC) (e := 82) rfl
  obtain ⟨fb, hfb⟩ : ∃ fb, m1.next = fb := ⟨_, rfl⟩
  rw [hfb] at oF nF
  simp [-Int.natCast_add, -BitVec.toNat_or, -BitVec.toNat_ofInt, -BitVec.toNat_and, lres_agg ld31, alloc_of zo31, build_of bo82, buildSlice_of u75 bs82 rfl, build_of bo78, buildSlice_of u26 bs78 rfl, append_s u26 sz78, build_of bo31, store_of sz31, hb, hrb, hfb]
  generalize hra : sappend _ _ _ _ _ _ = ra
  obtain ⟨m2, tb, rfl, oT, k2⟩ := app_own_new hra u26 ap78 (oO.keep kF (by simp)) (by rfl) (by rfl) (by simp [one_int, one_str, one_slice]) (by omega) (by omega)
  have o2 := (o1.keep kF (by simp)).keep k2 (by simp; have := k1.1; simp [Mem.new] at hob; omega)
  have k2' := kF.nil.trans k2
  simp [-Int.natCast_add, -BitVec.toNat_or, -BitVec.toNat_ofInt, -BitVec.toNat_and, lres_agg ld31, alloc_of zo31, build_of bo82, buildSlice_of u75 bs82 rfl, build_of bo78, buildSlice_of u26 bs78 rfl, append_s u26 sz78, build_of bo31, store_of sz31]
  generalize hrb2 : storeRow _ _ _ = rb2
  obtain ⟨m3, rfl, o3, k3⟩ := store_own hrb2 o2 (by simp) (by simp [one_int, one_slice])
  simp [over] at o3
  have ld := o3.load (off := 0) 5 (by simp)
  simp [window] at ld
  have hn : rb < ob := by have := k0.1; simp [Mem.new] at hob; omega
  simp [-Int.natCast_add, -BitVec.toNat_or, -BitVec.toNat_ofInt, -BitVec.toNat_and, lres_agg ld31, alloc_of zo31, build_of bo82, buildSlice_of u75 bs82 rfl, build_of bo78, buildSlice_of u26 bs78 rfl, append_s u26 sz78, build_of bo31, store_of sz31, ld, lres_agg]
  have hf1 : ob < fb := by have := oO.flt; omega
  have hrf : rb < m1.next := by have := k1.1; simp [Mem.new] at this; omega
  refine ⟨fb, ob, ?_, ?_, by omega, ?_⟩
  · exact (show Own m2 tb (progC fb).flatten 78 ob from oT).keep k3 (by simp; omega)
  · exact (oF.keep k2 (by simp; omega)).keep k3 (by simp; omega)
  · exact (((k0.trans k1).trans kF.nil).fresh k2 (by simp; omega)).fresh k3 (by simp; omega)
structure WAt (m : Mem) (b f : Nat) (hb hf wb wf : Nat) (ws : List Int) (room : Int) (lo no : Option Addr) (lf nf : Nat) (lits : List Int) (lines : List (List UInt8)) : Prop where
  own : ∃ ty io : Value, eqV ty ty = true ∧ eqV io io = true ∧ Own m b [ty, .pointer (some ⟨hb, 0, none⟩), .slice lo lits.length lits.length, io, .int .i64 0, .slice no lines.length lines.length] 74 f
  heap : HeapAt m hb hf wb wf ws room
  lits : Sl m lo lits.length (words lits) 22 1 lf
  lines : Sl m no lines.length (lines.map fun l => Value.string ⟨l.toArray⟩) 9 1 nf
  d1 : f ≠ hf ∧ f ≠ wf ∧ (lo ≠ none → f ≠ lf ∧ lf ≠ hf ∧ lf ≠ wf) ∧ (no ≠ none → f ≠ nf ∧ nf ≠ hf ∧ nf ≠ wf ∧ (lo ≠ none → nf ≠ lf))
def strC (ts : List (List UInt8)) : List Value := ts.map fun l => Value.string ⟨l.toArray⟩
theorem row_at (fb : Nat) (i : Nat) (h : i < 7) : ∃ k nm el fo n, window (progC fb).flatten (i * 5) 5 = tyC k nm el fo n ∧ ((fo = none ∧ n = 0) ∨ (fo = some ⟨fb, 0, none⟩ ∧ n = 2)) := by
  rcases (by omega : i = 0 ∨ i = 1 ∨ i = 2 ∨ i = 3 ∨ i = 4 ∨ i = 5 ∨ i = 6) with rfl | rfl | rfl | rfl | rfl | rfl | rfl
  · exact ⟨0, [], 0, none, 0, rfl, Or.inl ⟨rfl, rfl⟩⟩
  · exact ⟨1, [105, 110, 116], 0, none, 0, rfl, Or.inl ⟨rfl, rfl⟩⟩
  · exact ⟨2, [98, 111, 111, 108], 0, none, 0, rfl, Or.inl ⟨rfl, rfl⟩⟩
  · exact ⟨3, [115, 116, 114, 105, 110, 103], 0, none, 0, rfl, Or.inl ⟨rfl, rfl⟩⟩
  · exact ⟨4, [110, 105, 108], 0, none, 0, rfl, Or.inl ⟨rfl, rfl⟩⟩
  · exact ⟨5, [80], 0, some ⟨fb, 0, none⟩, 2, rfl, Or.inr ⟨rfl, rfl⟩⟩
  · exact ⟨6, [], 1, none, 0, rfl, Or.inl ⟨rfl, rfl⟩⟩
structure Nh (S : Sums) : Prop where
  new : S 40 = []
  text : S 41 = []
  alloc : S 48 = []
  put : S 63 = []
  set : S 56 = []
  at_ : S 64 = []
  len : S 20 = []
  head : S 47 = []
  word : S 60 = []
  get : S 59 = []
  str : S 46 = []
set_option maxHeartbeats 4000000 in
theorem world_run (hS : S 8 = []) (hN : Nh S) {tb fb f to_f : Nat} {to : Option Addr} {ts : List (List UInt8)} {room : Int} (hT : Rdo m tb (progC fb).flatten 78 f) (hF : Rdo m fb fldC 82 fb) (hX : Rs m to ts.length (strC ts) 9 1 to_f) (hr : 1 ≤ room ∧ room ≤ 65536) (hts : ts.length ≤ 30) (h2k : ∀ l ∈ ts, l.length ≤ 2000) (hfit : ((1 + (ts.map fun l => l.length + 1).sum : Nat) : Int) ≤ room) :
    ∃ v m1, callw Tryd.prog TT S 8 [.agg #[.slice (some ⟨tb, 0, none⟩) 7 7, .slice none 0 0, .int .i64 0, .slice to ts.length ts.length, .slice none 0 0], .int .i64 room, .slice none 0 0] m = some (v, m1) ∧ (∃ xb hb wb wb' lo lf, v = .tuple #[.pointer (some ⟨xb, 0, none⟩), .bool true] ∧ WAt m1 xb xb hb hb wb' wb (0 :: flatT ts) room lo none lf 0 (refsT 1 ts) [] ∧ m.next ≤ xb ∧ m.next ≤ hb ∧ m.next ≤ wb ∧ (lo ≠ none → m.next ≤ lf)) ∧ Keeps m m1 [] := by
  obtain ⟨o0, k0, n0⟩ := new_own (m := m) (cs := [.slice (some ⟨tb, 0, none⟩) 7 7, .slice none 0 0, .int .i64 0, .slice to ts.length ts.length, .slice none 0 0]) (e := 31) rfl
  obtain ⟨pb, hpb⟩ : ∃ pb, m.next = pb := ⟨_, rfl⟩
  rw [hpb] at o0 n0
  obtain ⟨m0, hm0⟩ : ∃ m0, m.new [.slice (some ⟨tb, 0, none⟩) 7 7, .slice none 0 0, .int .i64 0, .slice to ts.length ts.length, .slice none 0 0] 31 = m0 := ⟨_, rfl⟩
  rw [hm0] at o0 k0 n0
  obtain ⟨_, m1, hc, hb, wb, rfl, hA, hhb, hwb, k1⟩ := new_run (m := m0) hN.new room hr.1 hr.2
  have r1 : ¬ room < 1 := by omega
  have r2 : ¬ 65536 < room := by omega
  refine fn_w 60 [60, 70] k8 hS rfl ?_
  simp [-Int.natCast_add, -w8_4, -BitVec.toNat_or, -BitVec.toNat_ofInt, -BitVec.toNat_and, box_of b31, buildSlice_of u29 bs2 rfl, append_s u29 sz2, build_of bo74, box_of b74, fieldAddr_of fa31_0, load_of ld26, len_slice u26, index_slice u26 sz78, load_agg ld78, alloc_of zo78, store_of sz78, fieldAddr_of fa74_0, fieldAddr_of fa78_0, load_of ld3, buildSlice_of u75 bs82 rfl, fieldAddr_of fa78_3, load_of ld75, append_s u75 sz82, build_of bo78, buildSlice_of u26 bs78 rfl, append_s u26 sz78, store_of sz26, fieldAddr_of fa31_3, load_of ld28, len_slice u28, index_slice u28 sz9, load_of ld9, fieldAddr_of fa74_2, load_of ld56, buildSlice_of u56 bs22 rfl, append_s u56 sz22, store_of sz56, hpb, hm0, hc, r1, r2]
  simp [-Int.natCast_add, -w8_5, -BitVec.toNat_or, -BitVec.toNat_ofInt, -BitVec.toNat_and, box_of b31, buildSlice_of u29 bs2 rfl, append_s u29 sz2, build_of bo74, box_of b74, fieldAddr_of fa31_0, load_of ld26, len_slice u26, index_slice u26 sz78, load_agg ld78, alloc_of zo78, store_of sz78, fieldAddr_of fa74_0, fieldAddr_of fa78_0, load_of ld3, buildSlice_of u75 bs82 rfl, fieldAddr_of fa78_3, load_of ld75, append_s u75 sz82, build_of bo78, buildSlice_of u26 bs78 rfl, append_s u26 sz78, store_of sz26, fieldAddr_of fa31_3, load_of ld28, len_slice u28, index_slice u28 sz9, load_of ld9, fieldAddr_of fa74_2, load_of ld56, buildSlice_of u56 bs22 rfl, append_s u56 sz22, store_of sz56]
  obtain ⟨oi0, ki0, ni0⟩ := new_own (m := m1) (cs := []) (e := 2) rfl
  generalize hra : sappend _ _ _ _ _ _ = ra
  obtain ⟨m2, ib, rfl, oI, k2⟩ := app_own hra u29 ap2 oi0 (by simp) (by simp) (by simp) (by omega) (by omega)
  have hm1 : m0.next ≤ m1.next := k1.1
  have kk2 : Keeps m m2 [] := (k0.trans k1).trans (ki0.fresh k2 (by simp))
  have hA2 := hA.keep (ki0.fresh k2 (by simp)) (by simp) (by simp)
  have o02 := (o0.keep k1 (by simp)).keep (ki0.fresh k2 (by simp)) (by simp)
  obtain ⟨ow, kw, nw⟩ := new_own (m := m2) (cs := [.slice none 0 0, .pointer (some ⟨hb, 0, none⟩), .slice none 0 0, .slice (some ⟨ib, 0, none⟩) 0 0, .int .i64 0, .slice none 0 0]) (e := 74) rfl
  obtain ⟨xb, hxb⟩ : ∃ xb, m2.next = xb := ⟨_, rfl⟩
  rw [hxb] at ow nw
  have o0w := (o02.keep kw (by simp)).load1 (off := 0) rfl
  simp [-Int.natCast_add, -BitVec.toNat_or, -BitVec.toNat_ofInt, -BitVec.toNat_and, box_of b31, buildSlice_of u29 bs2 rfl, append_s u29 sz2, build_of bo74, box_of b74, fieldAddr_of fa31_0, load_of ld26, len_slice u26, index_slice u26 sz78, load_agg ld78, alloc_of zo78, store_of sz78, fieldAddr_of fa74_0, fieldAddr_of fa78_0, load_of ld3, buildSlice_of u75 bs82 rfl, fieldAddr_of fa78_3, load_of ld75, append_s u75 sz82, build_of bo78, buildSlice_of u26 bs78 rfl, append_s u26 sz78, store_of sz26, fieldAddr_of fa31_3, load_of ld28, len_slice u28, index_slice u28 sz9, load_of ld9, fieldAddr_of fa74_2, load_of ld56, buildSlice_of u56 bs22 rfl, append_s u56 sz22, store_of sz56, hxb, o0w]
  obtain ⟨m3, hm3⟩ : ∃ m3, m2.new [.slice none 0 0, .pointer (some ⟨hb, 0, none⟩), .slice none 0 0, .slice (some ⟨ib, 0, none⟩) 0 0, .int .i64 0, .slice none 0 0] 74 = m3 := ⟨_, rfl⟩
  rw [hm3] at ow kw nw ⊢
  have kk3 : Keeps m m3 [] := kk2.trans kw
  have o03 := o02.keep kw (by simp)
  have hA3 := hA2.keep kw (by simp) (by simp)
  have hpx : pb < xb ∧ hb < xb ∧ wb < xb := by have h1 := hA2.h.flt; have h2 := hA2.w.flt; have h3 := o02.flt; omega
  have hpm : m0.next ≤ hb ∧ m0.next ≤ wb ∧ pb < m0.next := ⟨hhb, hwb, by omega⟩
  refine wsem_loop 60 [60, 70] (fun d E mC => ∃ (i : Nat) (tyo : Option Addr) (tcs : List Value) (tf : Nat), 7 - i = d ∧ i ≤ 7 ∧ Own mC xb [.slice tyo i i, .pointer (some ⟨hb, 0, none⟩), .slice none 0 0, .slice (some ⟨ib, 0, none⟩) 0 0, .int .i64 0, .slice none 0 0] 74 xb ∧ Sl mC tyo i tcs 78 5 tf ∧ (tyo ≠ none → m3.next ≤ tf) ∧ Keeps m3 mC [xb] ∧
    E = [(3, .pointer (some ⟨pb, 0, none⟩)), (8, .pointer (some ⟨hb, 0, none⟩)), (10, .pointer (some ⟨xb, 0, none⟩)), (33, .slice (some ⟨tb, 0, none⟩) 7 7), (34, .int .i64 7), (35, .int .i64 i)]) _ ⟨_, ⟨0, none, [], 0, rfl, by omega, ow, Sl.nil _ _ _ _, fun h => absurd rfl h, .refl _ _, rfl⟩, ⟨by rfl, by rfl, by rfl, by rfl, by rfl, by rfl, trivial⟩⟩ ?_
  rintro d E mC ih ⟨i, tyo, tcs, tf, hd, hi, oX, sT, htf, kC, rfl⟩
  by_cases h7 : i < 7
  · have i7 : (i : Int) < 7 := by omega
    have em : (i : Int) ≤ 9223372036854775807 := by omega
    have wi : IntKind.i64.wrap ((i : Int) + 1) = ((i + 1 : Nat) : Int) := by rw [wrap_i64 (by omega) (by omega)]; omega
    obtain ⟨k, nm, el, fo, n, hwin, hfo⟩ := row_at fb i h7
    have hTC := (hT.keep kk3 (by simp)).keep kC (by have := hT.flt; have := k0.1; simp; omega)
    have ld := hTC.load (off := i * 5) 5 (by simp [progC, baseC, tyC]; omega)
    rw [hwin] at ld
    simp only [tyC] at ld
    simp [-Int.natCast_add, -w8_8, -BitVec.toNat_or, -BitVec.toNat_ofInt, -BitVec.toNat_and, box_of b31, buildSlice_of u29 bs2 rfl, append_s u29 sz2, build_of bo74, box_of b74, fieldAddr_of fa31_0, load_of ld26, len_slice u26, index_slice u26 sz78, load_agg ld78, alloc_of zo78, store_of sz78, fieldAddr_of fa74_0, fieldAddr_of fa78_0, load_of ld3, buildSlice_of u75 bs82 rfl, fieldAddr_of fa78_3, load_of ld75, append_s u75 sz82, build_of bo78, buildSlice_of u26 bs78 rfl, append_s u26 sz78, store_of sz26, fieldAddr_of fa31_3, load_of ld28, len_slice u28, index_slice u28 sz9, load_of ld9, fieldAddr_of fa74_2, load_of ld56, buildSlice_of u56 bs22 rfl, append_s u56 sz22, store_of sz56, i7, h7, em, ld]
    obtain ⟨oz, kz, nz⟩ := new_own (m := mC) (cs := [Value.int .i64 0, .string ⟨#[]⟩, .int .i64 0, .slice none 0 0, .slice none 0 0]) (e := 78) rfl
    generalize hrz : storeRow _ _ _ = rz
    obtain ⟨m4, rfl, oy, k4⟩ := store_own hrz oz (by simp) (by simp [one_int, one_str, one_slice])
    simp [over] at oy
    have kk4 : Keeps mC m4 [] := kz.mono2 k4 (Nat.le_refl _)
    obtain ⟨yb, hyb⟩ : ∃ yb, mC.next = yb := ⟨_, rfl⟩
    rw [hyb] at oy
    have oX4 := oX.keep kk4 (by simp)
    have ly0 := oy.load1 (off := 0) rfl
    have ly3 := oy.load1 (off := 3) rfl
    have lx0 := oX4.load1 (off := 0) rfl
    have y4 : yb < m4.next := by have := k4.1; omega
    obtain ⟨of0, kf0, nf0⟩ := new_own (m := m4) (cs := []) (e := 82) rfl
    obtain ⟨gb, hgb⟩ : ∃ gb, m4.next = gb := ⟨_, rfl⟩
    rw [hgb] at of0
    have oX5 := oX4.keep kf0 (by simp)
    have oy5 := oy.keep kf0 (by simp)
    have ly0b := oy5.load1 (off := 0) rfl
    have ly3b := oy5.load1 (off := 3) rfl
    have lx0b := oX5.load1 (off := 0) rfl
    have gl : m4.next ≤ gb := by omega
    have xm : xb < mC.next := oX.flt
    rcases hfo with ⟨rfl, rfl⟩ | ⟨rfl, rfl⟩
    case' inl =>
      simp [-Int.natCast_add, -w8_9, -BitVec.toNat_or, -BitVec.toNat_ofInt, -BitVec.toNat_and, box_of b31, buildSlice_of u29 bs2 rfl, append_s u29 sz2, build_of bo74, box_of b74, fieldAddr_of fa31_0, load_of ld26, len_slice u26, index_slice u26 sz78, load_agg ld78, alloc_of zo78, store_of sz78, fieldAddr_of fa74_0, fieldAddr_of fa78_0, load_of ld3, buildSlice_of u75 bs82 rfl, fieldAddr_of fa78_3, load_of ld75, append_s u75 sz82, build_of bo78, buildSlice_of u26 bs78 rfl, append_s u26 sz78, store_of sz26, fieldAddr_of fa31_3, load_of ld28, len_slice u28, index_slice u28 sz9, load_of ld9, fieldAddr_of fa74_2, load_of ld56, buildSlice_of u56 bs22 rfl, append_s u56 sz22, store_of sz56, hyb, ly0, ly3, lx0, hgb]
      generalize hra : sappend _ _ _ _ _ _ = ra
      obtain ⟨m5, g2, rfl, oG, k5⟩ := app_own hra u75 ap82 of0 (by simp) (by simp) (by simp) (by omega) (by omega)
    case' inr =>
      have hFC := ((hF.keep kk3 (by simp)).keep kC (by have := hF.flt; have := k0.1; simp; omega)).keep kk4 (by simp)
      have lf := (hFC.keep kf0 (by simp)).load (off := 0) 4 (by simp [fldC])
      simp [window, fldC] at lf
      simp [-Int.natCast_add, -w8_9, -BitVec.toNat_or, -BitVec.toNat_ofInt, -BitVec.toNat_and, box_of b31, buildSlice_of u29 bs2 rfl, append_s u29 sz2, build_of bo74, box_of b74, fieldAddr_of fa31_0, load_of ld26, len_slice u26, index_slice u26 sz78, load_agg ld78, alloc_of zo78, store_of sz78, fieldAddr_of fa74_0, fieldAddr_of fa78_0, load_of ld3, buildSlice_of u75 bs82 rfl, fieldAddr_of fa78_3, load_of ld75, append_s u75 sz82, build_of bo78, buildSlice_of u26 bs78 rfl, append_s u26 sz78, store_of sz26, fieldAddr_of fa31_3, load_of ld28, len_slice u28, index_slice u28 sz9, load_of ld9, fieldAddr_of fa74_2, load_of ld56, buildSlice_of u56 bs22 rfl, append_s u56 sz22, store_of sz56, hyb, ly0, ly3, lx0, hgb, lf]
      generalize hra : sappend _ _ _ _ _ _ = ra
      obtain ⟨m5, g2, rfl, oG, k5⟩ := app_own hra u75 ap82 of0 (by simp) (by simp) (by simp [one_int, one_str]) (by omega) (by omega)
    all_goals
      have oX6 := oX5.keep k5 (by simp; omega)
      have oy6 := oy5.keep k5 (by simp; omega)
      have ly0c := oy6.load1 (off := 0) rfl
      have ly3c := oy6.load1 (off := 3) rfl
      have lx0c := oX6.load1 (off := 0) rfl
      have K5 := (kk4.trans kf0).fresh k5 (by have := kk4.1; simp; omega)
      have sT5 := sT.keepz K5 (by simp)
      simp [-Int.natCast_add, -w8_9, -BitVec.toNat_or, -BitVec.toNat_ofInt, -BitVec.toNat_and, box_of b31, buildSlice_of u29 bs2 rfl, append_s u29 sz2, build_of bo74, box_of b74, fieldAddr_of fa31_0, load_of ld26, len_slice u26, index_slice u26 sz78, load_agg ld78, alloc_of zo78, store_of sz78, fieldAddr_of fa74_0, fieldAddr_of fa78_0, load_of ld3, buildSlice_of u75 bs82 rfl, fieldAddr_of fa78_3, load_of ld75, append_s u75 sz82, build_of bo78, buildSlice_of u26 bs78 rfl, append_s u26 sz78, store_of sz26, fieldAddr_of fa31_3, load_of ld28, len_slice u28, index_slice u28 sz9, load_of ld9, fieldAddr_of fa74_2, load_of ld56, buildSlice_of u56 bs22 rfl, append_s u56 sz22, store_of sz56, hyb, ly0, ly3, lx0, hgb]
      generalize hrb : sappend _ _ _ _ _ _ = rb
      obtain ⟨m6, tb2, tf2, rfl, oT6, k6, htf2, _⟩ := app_slz hrb u26 ap78 sT5 (by omega) (by simp) (by simp [one_int, one_str, one_slice]) (by omega) (by omega)
      have c5 := K5.1
      have m3C := kC.1
      have knew : ∀ f : Nat, f < m3.next → f ∉ (if tyo = none then [] else [tf]) := by
        intro f hf
        split
        · simp
        · rename_i hn
          have := htf hn
          simp; omega
      have x3 : xb < m3.next := by omega
      have oX7 := oX6.keep k6 (knew xb x3)
      have lx0d := oX7.load1 (off := 0) rfl
      have lcs := fun cs => (oX6.keep (keeps_new m5 cs 78 []) (by simp)).load1 (off := 0) rfl
      have lcy := fun cs => (oy6.keep (keeps_new m5 cs 78 []) (by simp)).load1 (off := 0) rfl
      have lcz := fun cs => (oy6.keep (keeps_new m5 cs 78 []) (by simp)).load1 (off := 3) rfl
      simp [-Int.natCast_add, -w8_9, -BitVec.toNat_or, -BitVec.toNat_ofInt, -BitVec.toNat_and, box_of b31, buildSlice_of u29 bs2 rfl, append_s u29 sz2, build_of bo74, box_of b74, fieldAddr_of fa31_0, load_of ld26, len_slice u26, index_slice u26 sz78, load_agg ld78, alloc_of zo78, store_of sz78, fieldAddr_of fa74_0, fieldAddr_of fa78_0, load_of ld3, buildSlice_of u75 bs82 rfl, fieldAddr_of fa78_3, load_of ld75, append_s u75 sz82, build_of bo78, buildSlice_of u26 bs78 rfl, append_s u26 sz78, store_of sz26, fieldAddr_of fa31_3, load_of ld28, len_slice u28, index_slice u28 sz9, load_of ld9, fieldAddr_of fa74_2, load_of ld56, buildSlice_of u56 bs22 rfl, append_s u56 sz22, store_of sz56]
      generalize hrc : storeRow _ _ _ = rc
      obtain ⟨m7, rfl, oX8, k7⟩ := store_own hrc oX7 (by simp) (by simp [one_slice])
      simp [over] at oX8
      have hgbE : gb = m4.next := hgb.symm
      subst hgbE
      simp [-Int.natCast_add, -BitVec.toNat_or, -BitVec.toNat_ofInt, -BitVec.toNat_and, box_of b31, buildSlice_of u29 bs2 rfl, append_s u29 sz2, build_of bo74, box_of b74, fieldAddr_of fa31_0, load_of ld26, len_slice u26, index_slice u26 sz78, load_agg ld78, alloc_of zo78, store_of sz78, fieldAddr_of fa74_0, fieldAddr_of fa78_0, load_of ld3, buildSlice_of u75 bs82 rfl, fieldAddr_of fa78_3, load_of ld75, append_s u75 sz82, build_of bo78, buildSlice_of u26 bs78 rfl, append_s u26 sz78, store_of sz26, fieldAddr_of fa31_3, load_of ld28, len_slice u28, index_slice u28 sz9, load_of ld9, fieldAddr_of fa74_2, load_of ld56, buildSlice_of u56 bs22 rfl, append_s u56 sz22, store_of sz56, hyb, ly0, ly3, lx0, ly0b, ly3b, lx0b, ly0c, ly3c, lx0c, lcs, lcy, lcz, lx0d, wi]
      have K7 : Keeps m3 m7 [xb] := by
        have e1 : Keeps m3 m5 [xb] := kC.trans K5.nil
        have e2 : Keeps m3 m6 [xb] := ⟨Nat.le_trans e1.1 k6.1, fun l bl hl hg hq hf => k6.2.1 l bl (Nat.lt_of_lt_of_le hl e1.1) (e1.2.1 l bl hl hg hq hf) (Nat.lt_of_lt_of_le hq e1.1) (knew _ hq), fun f hl hf => by rw [k6.2.2.1 f (Nat.lt_of_lt_of_le hl e1.1) (knew _ hl), e1.2.2.1 f hl hf], fun f hl hf => by rw [k6.2.2.2 f (Nat.lt_of_lt_of_le hl e1.1) (knew _ hl), e1.2.2.2 f hl hf]⟩
        exact e2.trans k7
      have tf2' : m3.next ≤ tf2 ∧ tf2 ≠ xb := by
        rcases htf2 with ⟨h, h2⟩ | h
        · have := htf h
          omega
        · omega
      refine ih _ _ _ _ ⟨i + 1, some ⟨tb2, 0, none⟩, _, tf2, rfl, by omega, oX8, Sl.of (oT6.keep k7 (by simpa using tf2'.2)) (by rw [List.length_append, ← sT.1]; simp; omega), fun _ => tf2'.1, K7, rfl⟩ (by omega) ⟨by rfl, by rfl, by rfl, by rfl, by rfl, by simp [lget], trivial⟩
  · clear ih
    have i7 : ¬ (i : Int) < 7 := by omega
    have e7 : i = 7 := by omega
    have oP := o03.keep kC (by simp; omega)
    have lp3 := oP.load1 (off := 3) rfl
    simp [-Int.natCast_add, -BitVec.toNat_or, -BitVec.toNat_ofInt, -BitVec.toNat_and, box_of b31, buildSlice_of u29 bs2 rfl, append_s u29 sz2, build_of bo74, box_of b74, fieldAddr_of fa31_0, load_of ld26, len_slice u26, index_slice u26 sz78, load_agg ld78, alloc_of zo78, store_of sz78, fieldAddr_of fa74_0, fieldAddr_of fa78_0, load_of ld3, buildSlice_of u75 bs82 rfl, fieldAddr_of fa78_3, load_of ld75, append_s u75 sz82, build_of bo78, buildSlice_of u26 bs78 rfl, append_s u26 sz78, store_of sz26, fieldAddr_of fa31_3, load_of ld28, len_slice u28, index_slice u28 sz9, load_of ld9, fieldAddr_of fa74_2, load_of ld56, buildSlice_of u56 bs22 rfl, append_s u56 sz22, store_of sz56, i7, lp3]
    refine wsem_loop 60 [60, 70] (fun d E mD => ∃ (j : Nat) (wb' : Nat) (lo : Option Addr) (lf : Nat), ts.length - j = d ∧ j ≤ ts.length ∧ Own mD xb [.slice tyo i i, .pointer (some ⟨hb, 0, none⟩), .slice lo j j, .slice (some ⟨ib, 0, none⟩) 0 0, .int .i64 0, .slice none 0 0] 74 xb ∧ HeapAt mD hb hb wb' wb (0 :: flatT (ts.take j)) room ∧ Sl mD lo j (words (refsT 1 (ts.take j))) 22 1 lf ∧ (lo ≠ none → mC.next ≤ lf) ∧ mC.next ≤ mD.next ∧ Keeps m3 mD [xb, hb, wb] ∧
      E = [(3, .pointer (some ⟨pb, 0, none⟩)), (8, .pointer (some ⟨hb, 0, none⟩)), (10, .pointer (some ⟨xb, 0, none⟩)), (57, .slice to ts.length ts.length), (58, .int .i64 ts.length), (59, .int .i64 j)]) _ ⟨_, ⟨0, wb, none, 0, rfl, by omega, oX, by simpa [flatT] using hA3.keep kC (by simp; omega) (by simp; omega), Sl.nil _ _ _ _, fun h => absurd rfl h, Nat.le_refl _, kC.mono (by simp), rfl⟩, ⟨by rfl, by rfl, by rfl, by rfl, by rfl, by rfl, trivial⟩⟩ ?_
    rintro d E mD ih ⟨j, wb', lo, lf, hd2, hj, oD, hD, sL, hlf, nCD, kD, rfl⟩
    have hpx3 : m3.next ≤ mC.next := kC.1
    by_cases hlt : j < ts.length
    · have j1 : (j : Int) < ts.length := by omega
      have jm : (j : Int) ≤ 9223372036854775807 := by omega
      have wj : IntKind.i64.wrap ((j : Int) + 1) = ((j + 1 : Nat) : Int) := by rw [wrap_i64 (by omega) (by omega)]; omega
      obtain ⟨tob, rfl, hXb⟩ := hX.rdo (by omega)
      have hXD := (hXb.keep kk3 (by simp)).keep kD (by have := hXb.flt; simp; omega)
      have ldx : loadRow mD ⟨tob, j, none⟩ 1 = some [.string ⟨(ts[j]).toArray⟩] := by
        rw [hXD.load (off := j) 1 (by simp [strC]; omega)]
        simp only [window, strC, ← List.map_drop, ← List.map_take]
        rw [List.drop_eq_getElem_cons hlt]
        rfl
      have hsum := texts_sum hlt
      have h2t : ∀ l ∈ ts.take j, l.length ≤ 2000 := fun l hl => h2k l (List.mem_of_mem_take hl)
      have hwd : Wd ((0 : Int) :: flatT (ts.take j)) := wd_cons.2 ⟨by omega, wd_flatT h2t⟩
      obtain ⟨_, m5, hct, rfl, ⟨wb5, h5⟩, k5⟩ := text_run (l := ts[j]) hN.text hN.alloc hN.put hN.set hN.at_ hN.len hN.head hN.word hD (by omega) (by simp only [List.length_cons]; omega) hwd
      have o5 := oD.keep k5 (by simp; omega)
      have lx2 := o5.load1 (off := 2) rfl
      have er : refsT 1 (ts.take (j + 1)) = refsT 1 (ts.take j) ++ [if ts[j] = [] then 0 else (((0 : Int) :: flatT (ts.take j)).length : Int)] := by
        rw [List.take_succ_eq_append_getElem hlt, refsT_snoc]
        congr 3
        simp only [List.length_cons]
        omega
      have ef : (0 : Int) :: flatT (ts.take (j + 1)) = (0 :: flatT (ts.take j)) ++ txt ts[j] := by
        rw [List.take_succ_eq_append_getElem hlt, flatT_snoc]; rfl
      obtain ⟨rf, hrf⟩ : ∃ rf : Int, (if ts[j] = [] then 0 else (((0 : Int) :: flatT (ts.take j)).length : Int)) = rf := ⟨_, rfl⟩
      rw [hrf] at hct er
      simp [-Int.natCast_add, -BitVec.toNat_or, -BitVec.toNat_ofInt, -BitVec.toNat_and, box_of b31, buildSlice_of u29 bs2 rfl, append_s u29 sz2, build_of bo74, box_of b74, fieldAddr_of fa31_0, load_of ld26, len_slice u26, index_slice u26 sz78, load_agg ld78, alloc_of zo78, store_of sz78, fieldAddr_of fa74_0, fieldAddr_of fa78_0, load_of ld3, buildSlice_of u75 bs82 rfl, fieldAddr_of fa78_3, load_of ld75, append_s u75 sz82, build_of bo78, buildSlice_of u26 bs78 rfl, append_s u26 sz78, store_of sz26, fieldAddr_of fa31_3, load_of ld28, len_slice u28, index_slice u28 sz9, load_of ld9, fieldAddr_of fa74_2, load_of ld56, buildSlice_of u56 bs22 rfl, append_s u56 sz22, store_of sz56, j1, jm, hlt, ldx, hct, lx2]
      generalize hra : sappend _ _ _ _ _ _ = ra
      obtain ⟨m6, lb2, lf2, rfl, oL6, k6, hlf2, _⟩ := app_slz hra u56 ap22 (sL.keepz k5 (fun h => by have := hlf h; simp; omega)) (by omega) (by simp) (by simp [one_int]) (by omega) (by omega)
      have c5 := k5.1
      have d1 := kD.1
      have knew : ∀ f : Nat, f < mC.next → f ∉ (if lo = none then [] else [lf]) := by
        intro f hf
        split
        · simp
        · rename_i hn
          have := hlf hn
          simp; omega
      have x3 : xb < mC.next ∧ hb < mC.next ∧ wb < mC.next := by omega
      have o6 := o5.keep k6 (knew xb x3.1)
      have h6 := h5.keep k6 (knew hb x3.2.1) (knew wb x3.2.2)
      simp [-Int.natCast_add, -BitVec.toNat_or, -BitVec.toNat_ofInt, -BitVec.toNat_and, box_of b31, buildSlice_of u29 bs2 rfl, append_s u29 sz2, build_of bo74, box_of b74, fieldAddr_of fa31_0, load_of ld26, len_slice u26, index_slice u26 sz78, load_agg ld78, alloc_of zo78, store_of sz78, fieldAddr_of fa74_0, fieldAddr_of fa78_0, load_of ld3, buildSlice_of u75 bs82 rfl, fieldAddr_of fa78_3, load_of ld75, append_s u75 sz82, build_of bo78, buildSlice_of u26 bs78 rfl, append_s u26 sz78, store_of sz26, fieldAddr_of fa31_3, load_of ld28, len_slice u28, index_slice u28 sz9, load_of ld9, fieldAddr_of fa74_2, load_of ld56, buildSlice_of u56 bs22 rfl, append_s u56 sz22, store_of sz56]
      generalize hrc : storeRow _ _ _ = rc
      obtain ⟨m7, rfl, o7, k7⟩ := store_own hrc o6 (by simp) (by simp [one_slice])
      simp [over] at o7
      have lf2' : mC.next ≤ lf2 := by
        rcases hlf2 with ⟨h, h2⟩ | h
        · rw [h2]; exact hlf h
        · have := oD.flt
          omega
      simp [-Int.natCast_add, -BitVec.toNat_or, -BitVec.toNat_ofInt, -BitVec.toNat_and, box_of b31, buildSlice_of u29 bs2 rfl, append_s u29 sz2, build_of bo74, box_of b74, fieldAddr_of fa31_0, load_of ld26, len_slice u26, index_slice u26 sz78, load_agg ld78, alloc_of zo78, store_of sz78, fieldAddr_of fa74_0, fieldAddr_of fa78_0, load_of ld3, buildSlice_of u75 bs82 rfl, fieldAddr_of fa78_3, load_of ld75, append_s u75 sz82, build_of bo78, buildSlice_of u26 bs78 rfl, append_s u26 sz78, store_of sz26, fieldAddr_of fa31_3, load_of ld28, len_slice u28, index_slice u28 sz9, load_of ld9, fieldAddr_of fa74_2, load_of ld56, buildSlice_of u56 bs22 rfl, append_s u56 sz22, store_of sz56, wj]
      have K7 : Keeps m3 m7 [xb, hb, wb] := by
        have e1 : Keeps m3 m5 [xb, hb, wb] := kD.trans (k5.mono (by simp))
        have e2 : Keeps m3 m6 [xb, hb, wb] := ⟨Nat.le_trans e1.1 k6.1, fun l bl hl hg hq hf => k6.2.1 l bl (Nat.lt_of_lt_of_le hl e1.1) (e1.2.1 l bl hl hg hq hf) (Nat.lt_of_lt_of_le hq e1.1) (knew _ (by omega)), fun f hl hf => by rw [k6.2.2.1 f (Nat.lt_of_lt_of_le hl e1.1) (knew _ (by omega)), e1.2.2.1 f hl hf], fun f hl hf => by rw [k6.2.2.2 f (Nat.lt_of_lt_of_le hl e1.1) (knew _ (by omega)), e1.2.2.2 f hl hf]⟩
        exact e2.trans (k7.mono (by simp))
      refine ih _ _ _ _ ⟨j + 1, wb5, some ⟨lb2, 0, none⟩, lf2, rfl, by omega, o7, by rw [ef]; exact h6.keep k7 (by simp; omega) (by simp; omega), by rw [er]; exact Sl.of (by simpa [words] using oL6.keep k7 (by simp; omega)) (by simp [words, refsT_len]; omega), fun _ => lf2', by have := k6.1; have := k7.1; omega, K7, rfl⟩ (by omega) ⟨by rfl, by rfl, by rfl, by rfl, by rfl, by simp [lget], trivial⟩
    · have j1 : ¬ (j : Int) < ts.length := by omega
      have ej : j = ts.length := by omega
      simp [-Int.natCast_add, -BitVec.toNat_or, -BitVec.toNat_ofInt, -BitVec.toNat_and, box_of b31, buildSlice_of u29 bs2 rfl, append_s u29 sz2, build_of bo74, box_of b74, fieldAddr_of fa31_0, load_of ld26, len_slice u26, index_slice u26 sz78, load_agg ld78, alloc_of zo78, store_of sz78, fieldAddr_of fa74_0, fieldAddr_of fa78_0, load_of ld3, buildSlice_of u75 bs82 rfl, fieldAddr_of fa78_3, load_of ld75, append_s u75 sz82, build_of bo78, buildSlice_of u26 bs78 rfl, append_s u26 sz78, store_of sz26, fieldAddr_of fa31_3, load_of ld28, len_slice u28, index_slice u28 sz9, load_of ld9, fieldAddr_of fa74_2, load_of ld56, buildSlice_of u56 bs22 rfl, append_s u56 sz22, store_of sz56, j1]
      subst ej
      rw [List.take_length] at hD sL
      refine ⟨⟨hb, wb, wb', lo, lf, ⟨⟨_, _, eqV_slice _ _ _, eqV_slice _ _ _, by simpa [refsT_len] using oD⟩, hD, by simpa [refsT_len] using sL, Sl.nil _ _ _ _, ⟨by omega, by omega, fun h => by have := hlf h; have := kC.1; omega, fun h => absurd rfl h⟩⟩, by omega, by omega, by omega, fun h => by have := hlf h; have := kC.1; omega⟩, ?_⟩
      exact kk3.fresh kD (by simp; omega)
end Go.Proofs.YtggbgelfgfmikaaDoor.base

