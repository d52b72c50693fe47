/-
  This text proves what world.New and the document's NewWorld answer over the abstract run, of any texts, inputs and room, and the hand's Inputs.
  Condition: nothing is known of the calls ahead ('S f = []').
-/
import Derived.Test.YtggbgelfgfmikaaDoorWpB
set_option maxRecDepth 100000
set_option linter.unusedSimpArgs false
set_option linter.unusedVariables false
namespace Go.Proofs.YtggbgelfgfmikaaDoor.base
open Go.Sh gen
variable {S : Sums} {m : Mem}
def stT (room : Int) (ts : List (List UInt8)) : List Int × List Int := ts.foldl (fun p l => (textW p.1 room l, p.2 ++ [textV p.1 room l])) ([0], [])
theorem stT_snoc (room : Int) (ts : List (List UInt8)) (l : List UInt8) : stT room (ts ++ [l]) = (textW (stT room ts).1 room l, (stT room ts).2 ++ [textV (stT room ts).1 room l]) := by simp [stT, List.foldl_append]
def allT (room : Int) (ts : List (List UInt8)) : Prop := ∀ (j : Nat) (h : j < ts.length), textB (stT room (ts.take j)).1 room ts[j] = true
theorem stT_both {room : Int} (hr : 1 ≤ room ∧ room ≤ 65536) : ∀ (n : Nat) (ts : List (List UInt8)), ts.length = n → GoodW (stT room ts).1 room ∧ (stT room ts).2.length = ts.length
  | 0, ts, h => by
    have := List.length_eq_zero_iff.1 h
    subst this
    exact ⟨⟨wd_cons.2 ⟨by omega, by intro w hw; simp at hw⟩, rfl, by simp [stT], by simp [stT]; omega⟩, rfl⟩
  | n + 1, ts, h => by
    have hne : ts ≠ [] := fun e => by rw [e] at h; simp at h
    obtain ⟨ih1, ih2⟩ := stT_both hr n ts.dropLast (by simp [h])
    have e := List.dropLast_concat_getLast hne
    rw [← e, stT_snoc]
    exact ⟨ih1.text hr.2, by simp only [List.length_append, ih2, List.length_cons, List.length_nil]⟩
theorem stT_good {room : Int} (hr : 1 ≤ room ∧ room ≤ 65536) (ts : List (List UInt8)) : GoodW (stT room ts).1 room := (stT_both hr _ ts rfl).1
theorem stT_len (room : Int) (ts : List (List UInt8)) : (stT room ts).2.length = ts.length := by
  have h : ∀ (n : Nat) (ts : List (List UInt8)), ts.length = n → (stT room ts).2.length = ts.length := by
    intro n
    induction n with
    | zero => intro ts h; have := List.length_eq_zero_iff.1 h; subst this; rfl
    | succ n ih =>
      intro ts h
      have hne : ts ≠ [] := fun e => by rw [e] at h; simp at h
      have i2 := ih ts.dropLast (by simp [h])
      have e := List.dropLast_concat_getLast hne
      rw [← e, stT_snoc]
      simp only [List.length_append, i2, List.length_cons, List.length_nil]
  exact h _ ts rfl
theorem words_len' (l : List Int) : (words l).length = l.length := by simp [words]
theorem row_at2 (fb : Nat) (i : Nat) (h : i < 7) : ∃ k nm el fo n, window (progC fb).flatten (i * 5) 5 = tyC k nm el fo n ∧ n = fieldsN i ∧ ((fo = none ∧ n = 0) ∨ (fo = some ⟨fb, 0, none⟩ ∧ n = 2)) := by
  rcases (by omega : i = 0 ∨ i = 1 ∨ i = 2 ∨ i = 3 ∨ i = 4 ∨ i = 5 ∨ i = 6) with rfl | rfl | rfl | rfl | rfl | rfl | rfl
  · exact ⟨0, [], 0, none, 0, rfl, rfl, Or.inl ⟨rfl, rfl⟩⟩
  · exact ⟨1, [105, 110, 116], 0, none, 0, rfl, rfl, Or.inl ⟨rfl, rfl⟩⟩
  · exact ⟨2, [98, 111, 111, 108], 0, none, 0, rfl, rfl, Or.inl ⟨rfl, rfl⟩⟩
  · exact ⟨3, [115, 116, 114, 105, 110, 103], 0, none, 0, rfl, rfl, Or.inl ⟨rfl, rfl⟩⟩
  · exact ⟨4, [110, 105, 108], 0, none, 0, rfl, rfl, Or.inl ⟨rfl, rfl⟩⟩
  · exact ⟨5, [80], 0, some ⟨fb, 0, none⟩, 2, rfl, rfl, Or.inr ⟨rfl, rfl⟩⟩
  · exact ⟨6, [], 1, none, 0, rfl, rfl, Or.inl ⟨rfl, rfl⟩⟩
theorem tyT_prog {tb fb f : Nat} (h : Rdo m tb (progC fb).flatten 78 f) : TyT m tb f (progC fb).flatten := by
  refine ⟨h, rfl, fun i hi => ?_⟩
  rcases (by omega : i = 0 ∨ i = 1 ∨ i = 2 ∨ i = 3 ∨ i = 4 ∨ i = 5 ∨ i = 6) with rfl | rfl | rfl | rfl | rfl | rfl | rfl
  all_goals exact ⟨_, rfl⟩
theorem keeps_app {m m1 m2 : Mem} {fs gs : List Nat} (h : Keeps m m1 fs) (k : Keeps m1 m2 gs) (hg : ∀ g : Nat, g < m.next → g ∉ gs) : Keeps m m2 fs :=
  ⟨Nat.le_trans h.1 k.1, fun l bl hl hb hq hf => k.2.1 l bl (Nat.lt_of_lt_of_le hl h.1) (h.2.1 l bl hl hb hq hf) (Nat.lt_of_lt_of_le hq h.1) (hg _ hq), fun f hl hf => by rw [k.2.2.1 f (Nat.lt_of_lt_of_le hl h.1) (hg _ hl), h.2.2.1 f hl hf], fun f hl hf => by rw [k.2.2.2 f (Nat.lt_of_lt_of_le hl h.1) (hg _ hl), h.2.2.2 f hl hf]⟩
def PNew (m m1 : Mem) (room : Int) (ts : List (List UInt8)) (ins : List Int) (v : Value) : Prop :=
  ¬ allT room ts ∧ v = .tuple #[.pointer none, .bool false] ∨ allT room ts ∧ ∃ xb hb wb wb' lo lf tb2 tf2 tcs ib jf, v = .tuple #[.pointer (some ⟨xb, 0, none⟩), .bool true] ∧ PWat m1 xb xb hb hb wb' wb (stT room ts).1 room (.slice (some ⟨tb2, 0, none⟩) 7 7) (.slice lo ts.length ts.length) (.slice (some ⟨ib, 0, none⟩) ins.length ins.length) 0 none 0 [] ∧ TyT m1 tb2 tf2 tcs ∧ Rs m1 lo ts.length (words (stT room ts).2) 22 1 lf ∧ Rdo m1 ib (int64s ins) 2 jf ∧
        m.next ≤ xb ∧ m.next ≤ hb ∧ m.next ≤ wb ∧ (tf2 ≠ xb ∧ tf2 ≠ hb ∧ tf2 ≠ wb) ∧ (lo ≠ none → lf ≠ xb ∧ lf ≠ hb ∧ lf ≠ wb) ∧ (jf ≠ xb ∧ jf ≠ hb ∧ jf ≠ wb)
set_option maxHeartbeats 4000000 in
theorem pnew_run (hN : Pw S) (hS : S 8 = []) {tb fb f to_f jf0 : Nat} {to jo0 : Option Addr} {ts : List (List UInt8)} {ins : List Int} {room : Int} (hT : Rdo m tb (progC fb).flatten 78 f) (hF : Rdo m fb fldC 82 fb) (hX : Rs m to ts.length (strC ts) 9 1 to_f) (hI : Rs m jo0 ins.length (int64s ins) 2 1 jf0) (hr : 1 ≤ room ∧ room ≤ 65536) (hts : ts.length ≤ 30) (hil : ins.length ≤ 1000) :
    ∃ v m1, callw Tryd.prog TT S 8 [.agg #[.slice (some ⟨tb, 0, none⟩) 7 7, .slice none 0 0, .int .i64 0, .slice to ts.length ts.length, .slice none 0 0], .int .i64 room, .slice jo0 ins.length ins.length] m = some (v, m1) ∧
      PNew m m1 room ts ins v ∧ Keeps m m1 [] := by
  obtain ⟨o0, k0, n0⟩ := new_own (m := m) (cs := [.slice (some ⟨tb, 0, none⟩) 7 7, .slice none 0 0, .int .i64 0, .slice to ts.length ts.length, .slice none 0 0]) (e := 31) rfl
  obtain ⟨pb, hpb⟩ : ∃ pb, m.next = pb := ⟨_, rfl⟩
  rw [hpb] at o0 n0
  obtain ⟨m0, hm0⟩ : ∃ m0, m.new [.slice (some ⟨tb, 0, none⟩) 7 7, .slice none 0 0, .int .i64 0, .slice to ts.length ts.length, .slice none 0 0] 31 = m0 := ⟨_, rfl⟩
  rw [hm0] at o0 k0 n0
  obtain ⟨_, m1, hc, hb, wb, rfl, hA, hhb, hwb, k1⟩ := new_run (m := m0) hN.h.new room hr.1 hr.2
  have r1 : ¬ room < 1 := by omega
  have r2 : ¬ 65536 < room := by omega
  refine fn_w 60 [60, 70] k8 hS rfl ?_
  simp [-Int.natCast_add, -w8_4, -BitVec.toNat_or, -BitVec.toNat_ofInt, -BitVec.toNat_and, box_of b31, buildSlice_of u29 bs2 rfl, append_s u29 sz2, build_of bo74, box_of b74, fieldAddr_of fa31_0, load_of ld26, len_slice u26, index_slice u26 sz78, load_agg ld78, alloc_of zo78, store_of sz78, fieldAddr_of fa74_0, fieldAddr_of fa78_0, load_of ld3, buildSlice_of u75 bs82 rfl, fieldAddr_of fa78_3, load_of ld75, append_s u75 sz82, build_of bo78, buildSlice_of u26 bs78 rfl, append_s u26 sz78, store_of sz26, fieldAddr_of fa31_3, load_of ld28, len_slice u28, index_slice u28 sz9, load_of ld9, fieldAddr_of fa74_2, load_of ld56, buildSlice_of u56 bs22 rfl, append_s u56 sz22, store_of sz56, hpb, hm0, hc, r1, r2]
  obtain ⟨oi0, ki0, ni0⟩ := new_own (m := m1) (cs := []) (e := 2) rfl
  have I1 := ((hI.keep k0 (by simp)).keep k1 (by simp))
  apply cut3_ (fun (m3 : Mem) (xb ib : Nat) => Own m3 xb [.slice none 0 0, .pointer (some ⟨hb, 0, none⟩), .slice none 0 0, .slice (some ⟨ib, 0, none⟩) ins.length ins.length, .int .i64 0, .slice none 0 0] 74 xb ∧ (∃ jf, Own m3 ib (int64s ins) 2 jf ∧ m1.next ≤ jf ∧ jf < xb) ∧ m1.next ≤ xb ∧ Keeps m1 m3 [])
  case main =>
    have go : ∀ (k : Nat) (r : Option (Value × Mem)), k = ins.length → sappend Tryd.prog 29 (m1.new [] 2) (.slice (some ⟨m1.next, 0, none⟩) 0 0) (int64s ins) k = r → ∃ (m2 : Mem) (ib : Nat), r = some (.slice (some ⟨ib, 0, none⟩) k k, m2) ∧ Own m2 ib (int64s ins) 2 m1.next ∧ Keeps m1 m2 [] ∧ m1.next < m2.next := by
      rintro _ r rfl hr
      obtain ⟨m2, ib, h2, oI, k2⟩ := app_own hr u29 ap2 oi0 (by simp) (by simp [int64s]) (by simp [int64s, one_int]) (by omega) (by omega)
      exact ⟨m2, ib, by simpa using h2, by simpa using oI, ki0.fresh k2 (by simp), by have := k2.1; omega⟩
    have fin : ∀ (m2 : Mem) (ib : Nat), Own m2 ib (int64s ins) 2 m1.next → Keeps m1 m2 [] → m1.next < m2.next → ∃ (m3 : Mem) (xb : Nat), m2.new [.slice none 0 0, .pointer (some ⟨hb, 0, none⟩), .slice none 0 0, .slice (some ⟨ib, 0, none⟩) ins.length ins.length, .int .i64 0, .slice none 0 0] 74 = m3 ∧ m2.next = xb ∧ Own m3 xb [.slice none 0 0, .pointer (some ⟨hb, 0, none⟩), .slice none 0 0, .slice (some ⟨ib, 0, none⟩) ins.length ins.length, .int .i64 0, .slice none 0 0] 74 xb ∧ (∃ jf, Own m3 ib (int64s ins) 2 jf ∧ m1.next ≤ jf ∧ jf < xb) ∧ m1.next ≤ xb ∧ Keeps m1 m3 [] := by
      intro m2 ib oI k2 n2
      obtain ⟨ow, kw, nw⟩ := new_own (m := m2) (cs := [.slice none 0 0, .pointer (some ⟨hb, 0, none⟩), .slice none 0 0, .slice (some ⟨ib, 0, none⟩) ins.length ins.length, .int .i64 0, .slice none 0 0]) (e := 74) rfl
      exact ⟨_, _, rfl, rfl, ow, ⟨_, oI.keep kw (by simp), Nat.le_refl _, n2⟩, by omega, k2.trans kw⟩
    by_cases hz : ins.length = 0
    · have hcn : int64s ins = [] := by rw [List.length_eq_zero_iff.1 hz]; rfl
      by_cases hoa : jo0 = none
      · intro meth
        simp [-Int.natCast_add, -w8_5, -BitVec.toNat_or, -BitVec.toNat_ofInt, -BitVec.toNat_and, box_of b31, buildSlice_of u29 bs2 rfl, append_s u29 sz2, build_of bo74, box_of b74, fieldAddr_of fa31_0, load_of ld26, len_slice u26, index_slice u26 sz78, load_agg ld78, alloc_of zo78, store_of sz78, fieldAddr_of fa74_0, fieldAddr_of fa78_0, load_of ld3, buildSlice_of u75 bs82 rfl, fieldAddr_of fa78_3, load_of ld75, append_s u75 sz82, build_of bo78, buildSlice_of u26 bs78 rfl, append_s u26 sz78, store_of sz26, fieldAddr_of fa31_3, load_of ld28, len_slice u28, index_slice u28 sz9, load_of ld9, fieldAddr_of fa74_2, load_of ld56, buildSlice_of u56 bs22 rfl, append_s u56 sz22, store_of sz56, hoa, hz]
        generalize hra : sappend _ _ _ _ _ _ = ra
        obtain ⟨m2, ib, rfl, oI, k2, n2⟩ := go 0 ra hz.symm (by rw [hcn]; exact hra)
        obtain ⟨m3, xb, e3, exb, P⟩ := fin m2 ib oI k2 n2
        rw [hz] at e3
        simp [-Int.natCast_add, -w8_5, -BitVec.toNat_or, -BitVec.toNat_ofInt, -BitVec.toNat_and, box_of b31, buildSlice_of u29 bs2 rfl, append_s u29 sz2, build_of bo74, box_of b74, fieldAddr_of fa31_0, load_of ld26, len_slice u26, index_slice u26 sz78, load_agg ld78, alloc_of zo78, store_of sz78, fieldAddr_of fa74_0, fieldAddr_of fa78_0, load_of ld3, buildSlice_of u75 bs82 rfl, fieldAddr_of fa78_3, load_of ld75, append_s u75 sz82, build_of bo78, buildSlice_of u26 bs78 rfl, append_s u26 sz78, store_of sz26, fieldAddr_of fa31_3, load_of ld28, len_slice u28, index_slice u28 sz9, load_of ld9, fieldAddr_of fa74_2, load_of ld56, buildSlice_of u56 bs22 rfl, append_s u56 sz22, store_of sz56, e3, exb]
        exact w_sub (E := [(3, .pointer (some ⟨pb, 0, none⟩)), (8, .pointer (some ⟨hb, 0, none⟩)), (10, .pointer (some ⟨xb, 0, none⟩))]) (meth m3 xb ib P) ⟨by rfl, by rfl, by rfl, trivial⟩
      · obtain ⟨a, hoa⟩ := Option.ne_none_iff_exists'.1 hoa
        intro meth
        simp [-Int.natCast_add, -w8_5, -BitVec.toNat_or, -BitVec.toNat_ofInt, -BitVec.toNat_and, box_of b31, buildSlice_of u29 bs2 rfl, append_s u29 sz2, build_of bo74, box_of b74, fieldAddr_of fa31_0, load_of ld26, len_slice u26, index_slice u26 sz78, load_agg ld78, alloc_of zo78, store_of sz78, fieldAddr_of fa74_0, fieldAddr_of fa78_0, load_of ld3, buildSlice_of u75 bs82 rfl, fieldAddr_of fa78_3, load_of ld75, append_s u75 sz82, build_of bo78, buildSlice_of u26 bs78 rfl, append_s u26 sz78, store_of sz26, fieldAddr_of fa31_3, load_of ld28, len_slice u28, index_slice u28 sz9, load_of ld9, fieldAddr_of fa74_2, load_of ld56, buildSlice_of u56 bs22 rfl, append_s u56 sz22, store_of sz56, hoa, hz]
        generalize hra : sappend _ _ _ _ _ _ = ra
        obtain ⟨m2, ib, rfl, oI, k2, n2⟩ := go 0 ra hz.symm (by rw [hcn]; exact hra)
        obtain ⟨m3, xb, e3, exb, P⟩ := fin m2 ib oI k2 n2
        rw [hz] at e3
        simp [-Int.natCast_add, -w8_5, -BitVec.toNat_or, -BitVec.toNat_ofInt, -BitVec.toNat_and, box_of b31, buildSlice_of u29 bs2 rfl, append_s u29 sz2, build_of bo74, box_of b74, fieldAddr_of fa31_0, load_of ld26, len_slice u26, index_slice u26 sz78, load_agg ld78, alloc_of zo78, store_of sz78, fieldAddr_of fa74_0, fieldAddr_of fa78_0, load_of ld3, buildSlice_of u75 bs82 rfl, fieldAddr_of fa78_3, load_of ld75, append_s u75 sz82, build_of bo78, buildSlice_of u26 bs78 rfl, append_s u26 sz78, store_of sz26, fieldAddr_of fa31_3, load_of ld28, len_slice u28, index_slice u28 sz9, load_of ld9, fieldAddr_of fa74_2, load_of ld56, buildSlice_of u56 bs22 rfl, append_s u56 sz22, store_of sz56, e3, exb]
        exact w_sub (E := [(3, .pointer (some ⟨pb, 0, none⟩)), (8, .pointer (some ⟨hb, 0, none⟩)), (10, .pointer (some ⟨xb, 0, none⟩))]) (meth m3 xb ib P) ⟨by rfl, by rfl, by rfl, trivial⟩
    · obtain ⟨jb, hoa, oc⟩ := I1.rdo hz
      have lc := ((oc.keep ki0 (by simp)).load (off := 0) (ins.length * 1) (by simp [int64s]))
      have wc : window (int64s ins) 0 (ins.length * 1) = int64s ins := by
        simp only [window, List.drop_zero]
        exact List.take_of_length_le (by simp [int64s])
      rw [wc, Nat.mul_one] at lc
      intro meth
      simp [-Int.natCast_add, -w8_5, -BitVec.toNat_or, -BitVec.toNat_ofInt, -BitVec.toNat_and, box_of b31, buildSlice_of u29 bs2 rfl, append_s u29 sz2, build_of bo74, box_of b74, fieldAddr_of fa31_0, load_of ld26, len_slice u26, index_slice u26 sz78, load_agg ld78, alloc_of zo78, store_of sz78, fieldAddr_of fa74_0, fieldAddr_of fa78_0, load_of ld3, buildSlice_of u75 bs82 rfl, fieldAddr_of fa78_3, load_of ld75, append_s u75 sz82, build_of bo78, buildSlice_of u26 bs78 rfl, append_s u26 sz78, store_of sz26, fieldAddr_of fa31_3, load_of ld28, len_slice u28, index_slice u28 sz9, load_of ld9, fieldAddr_of fa74_2, load_of ld56, buildSlice_of u56 bs22 rfl, append_s u56 sz22, store_of sz56, hoa, hz, lc]
      generalize hra : sappend _ _ _ _ _ _ = ra
      obtain ⟨m2, ib, rfl, oI, k2, n2⟩ := go _ ra rfl hra
      obtain ⟨m3, xb, e3, exb, P⟩ := fin m2 ib oI k2 n2
      simp [-Int.natCast_add, -w8_5, -BitVec.toNat_or, -BitVec.toNat_ofInt, -BitVec.toNat_and, box_of b31, buildSlice_of u29 bs2 rfl, append_s u29 sz2, build_of bo74, box_of b74, fieldAddr_of fa31_0, load_of ld26, len_slice u26, index_slice u26 sz78, load_agg ld78, alloc_of zo78, store_of sz78, fieldAddr_of fa74_0, fieldAddr_of fa78_0, load_of ld3, buildSlice_of u75 bs82 rfl, fieldAddr_of fa78_3, load_of ld75, append_s u75 sz82, build_of bo78, buildSlice_of u26 bs78 rfl, append_s u26 sz78, store_of sz26, fieldAddr_of fa31_3, load_of ld28, len_slice u28, index_slice u28 sz9, load_of ld9, fieldAddr_of fa74_2, load_of ld56, buildSlice_of u56 bs22 rfl, append_s u56 sz22, store_of sz56, e3, exb]
      exact w_sub (E := [(3, .pointer (some ⟨pb, 0, none⟩)), (8, .pointer (some ⟨hb, 0, none⟩)), (10, .pointer (some ⟨xb, 0, none⟩))]) (meth m3 xb ib P) ⟨by rfl, by rfl, by rfl, trivial⟩
  rintro m3 xb ib ⟨ow, ⟨jf, oJ, hjf1, hjf2⟩, hx1, k13⟩
  have hm1 : m0.next ≤ m1.next := k1.1
  have kk3 : Keeps m m3 [] := (k0.trans k1).trans k13
  have o03 := (o0.keep k1 (by simp)).keep k13 (by simp)
  have hA3 := hA.keep k13 (by simp) (by simp)
  have o0w := o03.load1 (off := 0) rfl
  have nx3 := ow.flt
  have hpx : pb < xb ∧ hb < xb ∧ wb < xb := by have h1 := hA.h.flt; have h2 := hA.w.flt; have h3 := (o0.keep k1 (by simp)).flt; omega
  have hpm : m0.next ≤ hb ∧ m0.next ≤ wb ∧ pb < m0.next := ⟨hhb, hwb, by omega⟩
  have hjn : hb < m1.next ∧ wb < m1.next := ⟨hA.h.flt, hA.w.flt⟩
  simp [-Int.natCast_add, -BitVec.toNat_or, -BitVec.toNat_ofInt, -BitVec.toNat_and, box_of b31, buildSlice_of u29 bs2 rfl, append_s u29 sz2, build_of bo74, box_of b74, fieldAddr_of fa31_0, load_of ld26, len_slice u26, index_slice u26 sz78, load_agg ld78, alloc_of zo78, store_of sz78, fieldAddr_of fa74_0, fieldAddr_of fa78_0, load_of ld3, buildSlice_of u75 bs82 rfl, fieldAddr_of fa78_3, load_of ld75, append_s u75 sz82, build_of bo78, buildSlice_of u26 bs78 rfl, append_s u26 sz78, store_of sz26, fieldAddr_of fa31_3, load_of ld28, len_slice u28, index_slice u28 sz9, load_of ld9, fieldAddr_of fa74_2, load_of ld56, buildSlice_of u56 bs22 rfl, append_s u56 sz22, store_of sz56, o0w]
  refine wsem_loop 60 [60, 70] (fun d E mC => ∃ (i : Nat) (tyo : Option Addr) (tcs : List Value) (tf : Nat), 7 - i = d ∧ i ≤ 7 ∧ Own mC xb [.slice tyo i i, .pointer (some ⟨hb, 0, none⟩), .slice none 0 0, .slice (some ⟨ib, 0, none⟩) ins.length ins.length, .int .i64 0, .slice none 0 0] 74 xb ∧ Sl mC tyo i tcs 78 5 tf ∧ (tyo ≠ none → m3.next ≤ tf) ∧ (∀ q : Nat, q < i → ∃ v, tcs[q * 5 + 3]? = some (.slice v (fieldsN q) (fieldsN q))) ∧ Keeps m3 mC [xb] ∧
    E = [(3, .pointer (some ⟨pb, 0, none⟩)), (8, .pointer (some ⟨hb, 0, none⟩)), (10, .pointer (some ⟨xb, 0, none⟩)), (33, .slice (some ⟨tb, 0, none⟩) 7 7), (34, .int .i64 7), (35, .int .i64 i)]) _ ⟨_, ⟨0, none, [], 0, rfl, by omega, ow, Sl.nil _ _ _ _, fun h => absurd rfl h, fun q hq => by omega, .refl _ _, rfl⟩, ⟨by rfl, by rfl, by rfl, by rfl, by rfl, by rfl, trivial⟩⟩ ?_
  rintro d E mC ih ⟨i, tyo, tcs, tf, hd, hi, oX, sT, htf, hTq, kC, rfl⟩
  by_cases h7 : i < 7
  · have i7 : (i : Int) < 7 := by omega
    have em : (i : Int) ≤ 9223372036854775807 := by omega
    have wi : IntKind.i64.wrap ((i : Int) + 1) = ((i + 1 : Nat) : Int) := by rw [wrap_i64 (by omega) (by omega)]; omega
    obtain ⟨k, nm, el, fo, n, hwin, hfn, hfo⟩ := row_at2 fb i h7
    have hTC := (hT.keep kk3 (by simp)).keep kC (by have := hT.flt; have := k0.1; simp; omega)
    have ld := hTC.load (off := i * 5) 5 (by simp [progC, baseC, tyC]; omega)
    rw [hwin] at ld
    simp only [tyC] at ld
    simp [-Int.natCast_add, -w8_8, -BitVec.toNat_or, -BitVec.toNat_ofInt, -BitVec.toNat_and, box_of b31, buildSlice_of u29 bs2 rfl, append_s u29 sz2, build_of bo74, box_of b74, fieldAddr_of fa31_0, load_of ld26, len_slice u26, index_slice u26 sz78, load_agg ld78, alloc_of zo78, store_of sz78, fieldAddr_of fa74_0, fieldAddr_of fa78_0, load_of ld3, buildSlice_of u75 bs82 rfl, fieldAddr_of fa78_3, load_of ld75, append_s u75 sz82, build_of bo78, buildSlice_of u26 bs78 rfl, append_s u26 sz78, store_of sz26, fieldAddr_of fa31_3, load_of ld28, len_slice u28, index_slice u28 sz9, load_of ld9, fieldAddr_of fa74_2, load_of ld56, buildSlice_of u56 bs22 rfl, append_s u56 sz22, store_of sz56, i7, h7, em, ld]
    obtain ⟨oz, kz, nz⟩ := new_own (m := mC) (cs := [Value.int .i64 0, .string ⟨#[]⟩, .int .i64 0, .slice none 0 0, .slice none 0 0]) (e := 78) rfl
    generalize hrz : storeRow _ _ _ = rz
    obtain ⟨m4, rfl, oy, k4⟩ := store_own hrz oz (by simp) (by simp [one_int, one_str, one_slice])
    simp [over] at oy
    have kk4 : Keeps mC m4 [] := kz.mono2 k4 (Nat.le_refl _)
    obtain ⟨yb, hyb⟩ : ∃ yb, mC.next = yb := ⟨_, rfl⟩
    rw [hyb] at oy
    have oX4 := oX.keep kk4 (by simp)
    have ly0 := oy.load1 (off := 0) rfl
    have ly3 := oy.load1 (off := 3) rfl
    have lx0 := oX4.load1 (off := 0) rfl
    have y4 : yb < m4.next := by have := k4.1; omega
    obtain ⟨of0, kf0, nf0⟩ := new_own (m := m4) (cs := []) (e := 82) rfl
    obtain ⟨gb, hgb⟩ : ∃ gb, m4.next = gb := ⟨_, rfl⟩
    rw [hgb] at of0
    have oX5 := oX4.keep kf0 (by simp)
    have oy5 := oy.keep kf0 (by simp)
    have ly0b := oy5.load1 (off := 0) rfl
    have ly3b := oy5.load1 (off := 3) rfl
    have lx0b := oX5.load1 (off := 0) rfl
    have gl : m4.next ≤ gb := by omega
    have xm : xb < mC.next := oX.flt
    rcases hfo with ⟨rfl, rfl⟩ | ⟨rfl, rfl⟩
    case' inl =>
      simp [-Int.natCast_add, -w8_9, -BitVec.toNat_or, -BitVec.toNat_ofInt, -BitVec.toNat_and, box_of b31, buildSlice_of u29 bs2 rfl, append_s u29 sz2, build_of bo74, box_of b74, fieldAddr_of fa31_0, load_of ld26, len_slice u26, index_slice u26 sz78, load_agg ld78, alloc_of zo78, store_of sz78, fieldAddr_of fa74_0, fieldAddr_of fa78_0, load_of ld3, buildSlice_of u75 bs82 rfl, fieldAddr_of fa78_3, load_of ld75, append_s u75 sz82, build_of bo78, buildSlice_of u26 bs78 rfl, append_s u26 sz78, store_of sz26, fieldAddr_of fa31_3, load_of ld28, len_slice u28, index_slice u28 sz9, load_of ld9, fieldAddr_of fa74_2, load_of ld56, buildSlice_of u56 bs22 rfl, append_s u56 sz22, store_of sz56, hyb, ly0, ly3, lx0, hgb]
      generalize hra : sappend _ _ _ _ _ _ = ra
      obtain ⟨m5, g2, rfl, oG, k5⟩ := app_own hra u75 ap82 of0 (by simp) (by simp) (by simp) (by omega) (by omega)
    case' inr =>
      have hFC := ((hF.keep kk3 (by simp)).keep kC (by have := hF.flt; have := k0.1; simp; omega)).keep kk4 (by simp)
      have lf := (hFC.keep kf0 (by simp)).load (off := 0) 4 (by simp [fldC])
      simp [window, fldC] at lf
      simp [-Int.natCast_add, -w8_9, -BitVec.toNat_or, -BitVec.toNat_ofInt, -BitVec.toNat_and, box_of b31, buildSlice_of u29 bs2 rfl, append_s u29 sz2, build_of bo74, box_of b74, fieldAddr_of fa31_0, load_of ld26, len_slice u26, index_slice u26 sz78, load_agg ld78, alloc_of zo78, store_of sz78, fieldAddr_of fa74_0, fieldAddr_of fa78_0, load_of ld3, buildSlice_of u75 bs82 rfl, fieldAddr_of fa78_3, load_of ld75, append_s u75 sz82, build_of bo78, buildSlice_of u26 bs78 rfl, append_s u26 sz78, store_of sz26, fieldAddr_of fa31_3, load_of ld28, len_slice u28, index_slice u28 sz9, load_of ld9, fieldAddr_of fa74_2, load_of ld56, buildSlice_of u56 bs22 rfl, append_s u56 sz22, store_of sz56, hyb, ly0, ly3, lx0, hgb, lf]
      generalize hra : sappend _ _ _ _ _ _ = ra
      obtain ⟨m5, g2, rfl, oG, k5⟩ := app_own hra u75 ap82 of0 (by simp) (by simp) (by simp [one_int, one_str]) (by omega) (by omega)
    all_goals
      have oX6 := oX5.keep k5 (by simp; omega)
      have oy6 := oy5.keep k5 (by simp; omega)
      have ly0c := oy6.load1 (off := 0) rfl
      have ly3c := oy6.load1 (off := 3) rfl
      have lx0c := oX6.load1 (off := 0) rfl
      have K5 := (kk4.trans kf0).fresh k5 (by have := kk4.1; simp; omega)
      have sT5 := sT.keepz K5 (by simp)
      simp [-Int.natCast_add, -w8_9, -BitVec.toNat_or, -BitVec.toNat_ofInt, -BitVec.toNat_and, box_of b31, buildSlice_of u29 bs2 rfl, append_s u29 sz2, build_of bo74, box_of b74, fieldAddr_of fa31_0, load_of ld26, len_slice u26, index_slice u26 sz78, load_agg ld78, alloc_of zo78, store_of sz78, fieldAddr_of fa74_0, fieldAddr_of fa78_0, load_of ld3, buildSlice_of u75 bs82 rfl, fieldAddr_of fa78_3, load_of ld75, append_s u75 sz82, build_of bo78, buildSlice_of u26 bs78 rfl, append_s u26 sz78, store_of sz26, fieldAddr_of fa31_3, load_of ld28, len_slice u28, index_slice u28 sz9, load_of ld9, fieldAddr_of fa74_2, load_of ld56, buildSlice_of u56 bs22 rfl, append_s u56 sz22, store_of sz56, hyb, ly0, ly3, lx0, hgb]
      generalize hrb : sappend _ _ _ _ _ _ = rb
      obtain ⟨m6, tb2, tf2, rfl, oT6, k6, htf2, _⟩ := app_slz hrb u26 ap78 sT5 (by omega) (by simp) (by simp [one_int, one_str, one_slice]) (by omega) (by omega)
      have c5 := K5.1
      have m3C := kC.1
      have knew : ∀ f : Nat, f < m3.next → f ∉ (if tyo = none then [] else [tf]) := by
        intro f hf
        split
        · simp
        · rename_i hn
          have := htf hn
          simp; omega
      have x3 : xb < m3.next := by omega
      have oX7 := oX6.keep k6 (knew xb x3)
      have lx0d := oX7.load1 (off := 0) rfl
      have lcs := fun cs => (oX6.keep (keeps_new m5 cs 78 []) (by simp)).load1 (off := 0) rfl
      have lcy := fun cs => (oy6.keep (keeps_new m5 cs 78 []) (by simp)).load1 (off := 0) rfl
      have lcz := fun cs => (oy6.keep (keeps_new m5 cs 78 []) (by simp)).load1 (off := 3) rfl
      simp [-Int.natCast_add, -w8_9, -BitVec.toNat_or, -BitVec.toNat_ofInt, -BitVec.toNat_and, box_of b31, buildSlice_of u29 bs2 rfl, append_s u29 sz2, build_of bo74, box_of b74, fieldAddr_of fa31_0, load_of ld26, len_slice u26, index_slice u26 sz78, load_agg ld78, alloc_of zo78, store_of sz78, fieldAddr_of fa74_0, fieldAddr_of fa78_0, load_of ld3, buildSlice_of u75 bs82 rfl, fieldAddr_of fa78_3, load_of ld75, append_s u75 sz82, build_of bo78, buildSlice_of u26 bs78 rfl, append_s u26 sz78, store_of sz26, fieldAddr_of fa31_3, load_of ld28, len_slice u28, index_slice u28 sz9, load_of ld9, fieldAddr_of fa74_2, load_of ld56, buildSlice_of u56 bs22 rfl, append_s u56 sz22, store_of sz56]
      generalize hrc : storeRow _ _ _ = rc
      obtain ⟨m7, rfl, oX8, k7⟩ := store_own hrc oX7 (by simp) (by simp [one_slice])
      simp [over] at oX8
      have hgbE : gb = m4.next := hgb.symm
      subst hgbE
      simp [-Int.natCast_add, -BitVec.toNat_or, -BitVec.toNat_ofInt, -BitVec.toNat_and, box_of b31, buildSlice_of u29 bs2 rfl, append_s u29 sz2, build_of bo74, box_of b74, fieldAddr_of fa31_0, load_of ld26, len_slice u26, index_slice u26 sz78, load_agg ld78, alloc_of zo78, store_of sz78, fieldAddr_of fa74_0, fieldAddr_of fa78_0, load_of ld3, buildSlice_of u75 bs82 rfl, fieldAddr_of fa78_3, load_of ld75, append_s u75 sz82, build_of bo78, buildSlice_of u26 bs78 rfl, append_s u26 sz78, store_of sz26, fieldAddr_of fa31_3, load_of ld28, len_slice u28, index_slice u28 sz9, load_of ld9, fieldAddr_of fa74_2, load_of ld56, buildSlice_of u56 bs22 rfl, append_s u56 sz22, store_of sz56, hyb, ly0, ly3, lx0, ly0b, ly3b, lx0b, ly0c, ly3c, lx0c, lcs, lcy, lcz, lx0d, wi]
      have K7 : Keeps m3 m7 [xb] := by
        have e1 : Keeps m3 m5 [xb] := kC.trans K5.nil
        have e2 : Keeps m3 m6 [xb] := ⟨Nat.le_trans e1.1 k6.1, fun l bl hl hg hq hf => k6.2.1 l bl (Nat.lt_of_lt_of_le hl e1.1) (e1.2.1 l bl hl hg hq hf) (Nat.lt_of_lt_of_le hq e1.1) (knew _ hq), fun f hl hf => by rw [k6.2.2.1 f (Nat.lt_of_lt_of_le hl e1.1) (knew _ hl), e1.2.2.1 f hl hf], fun f hl hf => by rw [k6.2.2.2 f (Nat.lt_of_lt_of_le hl e1.1) (knew _ hl), e1.2.2.2 f hl hf]⟩
        exact e2.trans k7
      have tf2' : m3.next ≤ tf2 ∧ tf2 ≠ xb := by
        rcases htf2 with ⟨h, h2⟩ | h
        · have := htf h
          omega
        · omega
      refine ih _ _ _ _ ⟨i + 1, some ⟨tb2, 0, none⟩, _, tf2, rfl, by omega, oX8, Sl.of (oT6.keep k7 (by simpa using tf2'.2)) (by rw [List.length_append, ← sT.1]; simp; omega), fun _ => tf2'.1, (fun q hq => by
        by_cases h : q < i
        · obtain ⟨v, hv⟩ := hTq q h
          exact ⟨v, by rw [List.getElem?_append_left (by rw [← sT.1]; omega)]; exact hv⟩
        · have hqi : q = i := by omega
          subst hqi
          exact ⟨_, by rw [List.getElem?_append_right (by rw [← sT.1]; omega), ← sT.1, show q * 5 + 3 - q * 5 = 3 by omega, ← hfn]; rfl⟩), K7, rfl⟩ (by omega) ⟨by rfl, by rfl, by rfl, by rfl, by rfl, by simp [lget], trivial⟩
  · clear ih
    have i7 : ¬ (i : Int) < 7 := by omega
    have e7 : i = 7 := by omega
    have oP := o03.keep kC (by simp; omega)
    have lp3 := oP.load1 (off := 3) rfl
    simp [-Int.natCast_add, -BitVec.toNat_or, -BitVec.toNat_ofInt, -BitVec.toNat_and, box_of b31, buildSlice_of u29 bs2 rfl, append_s u29 sz2, build_of bo74, box_of b74, fieldAddr_of fa31_0, load_of ld26, len_slice u26, index_slice u26 sz78, load_agg ld78, alloc_of zo78, store_of sz78, fieldAddr_of fa74_0, fieldAddr_of fa78_0, load_of ld3, buildSlice_of u75 bs82 rfl, fieldAddr_of fa78_3, load_of ld75, append_s u75 sz82, build_of bo78, buildSlice_of u26 bs78 rfl, append_s u26 sz78, store_of sz26, fieldAddr_of fa31_3, load_of ld28, len_slice u28, index_slice u28 sz9, load_of ld9, fieldAddr_of fa74_2, load_of ld56, buildSlice_of u56 bs22 rfl, append_s u56 sz22, store_of sz56, i7, lp3]
    refine wsem_loop 60 [60, 70] (fun d E mD => ∃ (j : Nat) (wb' : Nat) (lo : Option Addr) (lf : Nat), ts.length - j = d ∧ j ≤ ts.length ∧ Own mD xb [.slice tyo i i, .pointer (some ⟨hb, 0, none⟩), .slice lo j j, .slice (some ⟨ib, 0, none⟩) ins.length ins.length, .int .i64 0, .slice none 0 0] 74 xb ∧ HeapAt mD hb hb wb' wb (stT room (ts.take j)).1 room ∧ Sl mD lo j (words (stT room (ts.take j)).2) 22 1 lf ∧ (∀ (q : Nat) (hq : q < ts.length), q < j → textB (stT room (ts.take q)).1 room ts[q] = true) ∧ (lo ≠ none → mC.next ≤ lf) ∧ mC.next ≤ mD.next ∧ Keeps mC mD [xb, hb, wb] ∧ Keeps m3 mD [xb, hb, wb] ∧
      E = [(3, .pointer (some ⟨pb, 0, none⟩)), (8, .pointer (some ⟨hb, 0, none⟩)), (10, .pointer (some ⟨xb, 0, none⟩)), (57, .slice to ts.length ts.length), (58, .int .i64 ts.length), (59, .int .i64 j)]) _ ⟨_, ⟨0, wb, none, 0, rfl, by omega, oX, hA3.keep kC (by simp; omega) (by simp; omega), Sl.nil _ _ _ _, fun q _ hq => by omega, fun h => absurd rfl h, Nat.le_refl _, Keeps.refl _ _, kC.mono (by simp), rfl⟩, ⟨by rfl, by rfl, by rfl, by rfl, by rfl, by rfl, trivial⟩⟩ ?_
    rintro d E mD ih ⟨j, wb', lo, lf, hd2, hj, oD, hD, sL, hall, hlf, nCD, kCD, kD, rfl⟩
    have hpx3 : m3.next ≤ mC.next := kC.1
    by_cases hlt : j < ts.length
    · have j1 : (j : Int) < ts.length := by omega
      have jm : (j : Int) ≤ 9223372036854775807 := by omega
      have wj : IntKind.i64.wrap ((j : Int) + 1) = ((j + 1 : Nat) : Int) := by rw [wrap_i64 (by omega) (by omega)]; omega
      obtain ⟨tob, rfl, hXb⟩ := hX.rdo (by omega)
      have hXD := (hXb.keep kk3 (by simp)).keep kD (by have := hXb.flt; simp; omega)
      have ldx : loadRow mD ⟨tob, j, none⟩ 1 = some [.string ⟨(ts[j]).toArray⟩] := by
        rw [hXD.load (off := j) 1 (by simp [strC]; omega)]
        simp only [window, strC, ← List.map_drop, ← List.map_take]
        rw [List.drop_eq_getElem_cons hlt]
        rfl
      have hG := stT_good hr (ts.take j)
      have hGl := hG.le
      obtain ⟨_, m5, hct, rfl, ⟨wb5, h5⟩, k5⟩ := text_any (l := ts[j]) hN.h.text hN.h.alloc hN.h.put hN.h.set hN.h.at_ hN.h.len hN.h.head hN.h.word hD (by omega) (by omega) hG.wd
      have o5 := oD.keep k5 (by simp; omega)
      have lx2 := o5.load1 (off := 2) rfl
      have er : (stT room (ts.take (j + 1))).2 = (stT room (ts.take j)).2 ++ [textV (stT room (ts.take j)).1 room ts[j]] := by
        rw [List.take_succ_eq_append_getElem hlt, stT_snoc]
      have ef : (stT room (ts.take (j + 1))).1 = textW (stT room (ts.take j)).1 room ts[j] := by
        rw [List.take_succ_eq_append_getElem hlt, stT_snoc]
      have el : (stT room (ts.take (j + 1))).2.length = j + 1 := by rw [stT_len, List.length_take]; omega
      by_cases hB : textB (stT room (ts.take j)).1 room ts[j] = true
      case' neg =>
        have hB' : textB (stT room (ts.take j)).1 room ts[j] = false := by simpa using hB
        rw [hB'] at hct
        simp [-Int.natCast_add, -BitVec.toNat_or, -BitVec.toNat_ofInt, -BitVec.toNat_and, box_of b31, buildSlice_of u29 bs2 rfl, append_s u29 sz2, build_of bo74, box_of b74, fieldAddr_of fa31_0, load_of ld26, len_slice u26, index_slice u26 sz78, load_agg ld78, alloc_of zo78, store_of sz78, fieldAddr_of fa74_0, fieldAddr_of fa78_0, load_of ld3, buildSlice_of u75 bs82 rfl, fieldAddr_of fa78_3, load_of ld75, append_s u75 sz82, build_of bo78, buildSlice_of u26 bs78 rfl, append_s u26 sz78, store_of sz26, fieldAddr_of fa31_3, load_of ld28, len_slice u28, index_slice u28 sz9, load_of ld9, fieldAddr_of fa74_2, load_of ld56, buildSlice_of u56 bs22 rfl, append_s u56 sz22, store_of sz56, j1, jm, hlt, ldx, hct, lx2]
        exact ⟨Or.inl ⟨fun h => hB (h j hlt), rfl⟩, kk3.fresh (kD.trans (k5.mono (by simp))) (by simp; omega)⟩
      rw [hB] at hct
      obtain ⟨rf, hrf⟩ : ∃ rf : Int, textV (stT room (ts.take j)).1 room ts[j] = rf := ⟨_, rfl⟩
      rw [hrf] at hct er
      simp [-Int.natCast_add, -BitVec.toNat_or, -BitVec.toNat_ofInt, -BitVec.toNat_and, box_of b31, buildSlice_of u29 bs2 rfl, append_s u29 sz2, build_of bo74, box_of b74, fieldAddr_of fa31_0, load_of ld26, len_slice u26, index_slice u26 sz78, load_agg ld78, alloc_of zo78, store_of sz78, fieldAddr_of fa74_0, fieldAddr_of fa78_0, load_of ld3, buildSlice_of u75 bs82 rfl, fieldAddr_of fa78_3, load_of ld75, append_s u75 sz82, build_of bo78, buildSlice_of u26 bs78 rfl, append_s u26 sz78, store_of sz26, fieldAddr_of fa31_3, load_of ld28, len_slice u28, index_slice u28 sz9, load_of ld9, fieldAddr_of fa74_2, load_of ld56, buildSlice_of u56 bs22 rfl, append_s u56 sz22, store_of sz56, j1, jm, hlt, ldx, hct, lx2]
      generalize hra : sappend _ _ _ _ _ _ = ra
      obtain ⟨m6, lb2, lf2, rfl, oL6, k6, hlf2, _⟩ := app_slz hra u56 ap22 (sL.keepz k5 (fun h => by have := hlf h; simp; omega)) (by omega) (by simp) (by simp [one_int]) (by omega) (by omega)
      have c5 := k5.1
      have d1 := kD.1
      have knew : ∀ f : Nat, f < mC.next → f ∉ (if lo = none then [] else [lf]) := by
        intro f hf
        split
        · simp
        · rename_i hn
          have := hlf hn
          simp; omega
      have x3 : xb < mC.next ∧ hb < mC.next ∧ wb < mC.next := by omega
      have o6 := o5.keep k6 (knew xb x3.1)
      have h6 := h5.keep k6 (knew hb x3.2.1) (knew wb x3.2.2)
      simp [-Int.natCast_add, -BitVec.toNat_or, -BitVec.toNat_ofInt, -BitVec.toNat_and, box_of b31, buildSlice_of u29 bs2 rfl, append_s u29 sz2, build_of bo74, box_of b74, fieldAddr_of fa31_0, load_of ld26, len_slice u26, index_slice u26 sz78, load_agg ld78, alloc_of zo78, store_of sz78, fieldAddr_of fa74_0, fieldAddr_of fa78_0, load_of ld3, buildSlice_of u75 bs82 rfl, fieldAddr_of fa78_3, load_of ld75, append_s u75 sz82, build_of bo78, buildSlice_of u26 bs78 rfl, append_s u26 sz78, store_of sz26, fieldAddr_of fa31_3, load_of ld28, len_slice u28, index_slice u28 sz9, load_of ld9, fieldAddr_of fa74_2, load_of ld56, buildSlice_of u56 bs22 rfl, append_s u56 sz22, store_of sz56]
      generalize hrc : storeRow _ _ _ = rc
      obtain ⟨m7, rfl, o7, k7⟩ := store_own hrc o6 (by simp) (by simp [one_slice])
      simp [over] at o7
      have lf2' : mC.next ≤ lf2 := by
        rcases hlf2 with ⟨h, h2⟩ | h
        · rw [h2]; exact hlf h
        · have := oD.flt
          omega
      simp [-Int.natCast_add, -BitVec.toNat_or, -BitVec.toNat_ofInt, -BitVec.toNat_and, box_of b31, buildSlice_of u29 bs2 rfl, append_s u29 sz2, build_of bo74, box_of b74, fieldAddr_of fa31_0, load_of ld26, len_slice u26, index_slice u26 sz78, load_agg ld78, alloc_of zo78, store_of sz78, fieldAddr_of fa74_0, fieldAddr_of fa78_0, load_of ld3, buildSlice_of u75 bs82 rfl, fieldAddr_of fa78_3, load_of ld75, append_s u75 sz82, build_of bo78, buildSlice_of u26 bs78 rfl, append_s u26 sz78, store_of sz26, fieldAddr_of fa31_3, load_of ld28, len_slice u28, index_slice u28 sz9, load_of ld9, fieldAddr_of fa74_2, load_of ld56, buildSlice_of u56 bs22 rfl, append_s u56 sz22, store_of sz56, wj]
      have K7 : Keeps m3 m7 [xb, hb, wb] := by
        have e1 : Keeps m3 m5 [xb, hb, wb] := kD.trans (k5.mono (by simp))
        have e2 : Keeps m3 m6 [xb, hb, wb] := ⟨Nat.le_trans e1.1 k6.1, fun l bl hl hg hq hf => k6.2.1 l bl (Nat.lt_of_lt_of_le hl e1.1) (e1.2.1 l bl hl hg hq hf) (Nat.lt_of_lt_of_le hq e1.1) (knew _ (by omega)), fun f hl hf => by rw [k6.2.2.1 f (Nat.lt_of_lt_of_le hl e1.1) (knew _ (by omega)), e1.2.2.1 f hl hf], fun f hl hf => by rw [k6.2.2.2 f (Nat.lt_of_lt_of_le hl e1.1) (knew _ (by omega)), e1.2.2.2 f hl hf]⟩
        exact e2.trans (k7.mono (by simp))
      refine ih _ _ _ _ ⟨j + 1, wb5, some ⟨lb2, 0, none⟩, lf2, rfl, by omega, o7, by rw [ef]; exact h6.keep k7 (by simp; omega) (by simp; omega), by rw [er]; exact Sl.of (by simpa [words] using oL6.keep k7 (by simp; omega)) (by rw [words_len', ← er, el]; omega), (fun q hq hqj => by
        by_cases h : q < j
        · exact hall q hq h
        · have hqi : q = j := by omega
          subst hqi
          exact hB), fun _ => lf2', by have := k6.1; have := k7.1; omega, (keeps_app (kCD.trans (k5.mono (by simp))) k6 knew).trans (k7.mono (by simp)), K7, rfl⟩ (by omega) ⟨by rfl, by rfl, by rfl, by rfl, by rfl, by simp [lget], trivial⟩
    · have j1 : ¬ (j : Int) < ts.length := by omega
      have ej : j = ts.length := by omega
      simp [-Int.natCast_add, -BitVec.toNat_or, -BitVec.toNat_ofInt, -BitVec.toNat_and, box_of b31, buildSlice_of u29 bs2 rfl, append_s u29 sz2, build_of bo74, box_of b74, fieldAddr_of fa31_0, load_of ld26, len_slice u26, index_slice u26 sz78, load_agg ld78, alloc_of zo78, store_of sz78, fieldAddr_of fa74_0, fieldAddr_of fa78_0, load_of ld3, buildSlice_of u75 bs82 rfl, fieldAddr_of fa78_3, load_of ld75, append_s u75 sz82, build_of bo78, buildSlice_of u26 bs78 rfl, append_s u26 sz78, store_of sz26, fieldAddr_of fa31_3, load_of ld28, len_slice u28, index_slice u28 sz9, load_of ld9, fieldAddr_of fa74_2, load_of ld56, buildSlice_of u56 bs22 rfl, append_s u56 sz22, store_of sz56, j1]
      subst ej
      rw [List.take_length] at hD sL
      have hAll : allT room ts := fun q hq => hall q hq hq
      have oJD := (oJ.keep kD (by simp; omega)).rdo
      have hTf : tyo ≠ none → tf ≠ xb ∧ tf ≠ hb ∧ tf ≠ wb := fun h => by have := htf h; omega
      have hLf : lo ≠ none → lf ≠ xb ∧ lf ≠ hb ∧ lf ≠ wb := fun h => by have := hlf h; have := kC.1; omega
      rcases sT.2 with ⟨h0, h1⟩ | ⟨tb2, htyo, oT2⟩
      · omega
      have hTf2 := hTf (by rw [htyo]; simp)
      have oT3 := oT2.keep kCD (by simp; exact hTf2)
      have oD' := oD
      rw [htyo, e7] at oD'
      refine ⟨Or.inr ⟨hAll, xb, hb, wb, wb', lo, lf, tb2, tf, tcs, ib, jf, rfl, ⟨oD', hD, Sl.nil _ _ _ _, by omega, by omega, fun h => absurd rfl h⟩, ⟨oT3.rdo, by rw [← sT.1]; omega, fun q hq => hTq q (by omega)⟩, sL.rs, oJD, by omega, by omega, by omega, hTf2, hLf, by omega, by omega, by omega⟩, ?_⟩
      exact kk3.fresh kD (by simp; omega)
end Go.Proofs.YtggbgelfgfmikaaDoor.base

