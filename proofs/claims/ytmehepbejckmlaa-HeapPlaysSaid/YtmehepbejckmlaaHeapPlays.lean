/-
  This text proves 'Rows.HeapPlaysSaid': the law 'HeapPlays' returns true at any room and any steps, in whatever memory and on every tape, and its input reads as it did.
  No condition.
-/
import Derived.Test.YtmehepbejckmlaaRows
import Derived.Test.YtmehepbejckmlaaHeapR
set_option maxRecDepth 100000
set_option linter.unusedSimpArgs false
set_option linter.unusedVariables false
namespace Go.Proofs.Ytmehepbejckmlaa.heapPlays
open Go.Sh gen base
variable {S : Sums} {m : Mem}
/-- what is known of all of its calls -/
structure Nh (S : Sums) : Prop where
  pick : S 9 = []
  new : S 10 = []
  alloc : S 12 = []
  used : S 13 = []
  copy : S 14 = []
  words : S 15 = []
  put : S 17 = []
  set : S 18 = []
  type : S 19 = []
  len : S 20 = []
  get : S 21 = []
  word : S 22 = []
  text : S 23 = []
  string : S 24 = []
  at_ : S 36 = []
  head : S 37 = []
  newR : S 25 = []
  setR : S 26 = []
  putR : S 27 = []
  textR : S 28 = []
  allocR : S 30 = []
  typeR : S 31 = []
  lenR : S 32 = []
  getR : S 33 = []
  wordR : S 34 = []
  stringR : S 35 = []
  same : S 29 = []

theorem same_run (hN : Nh S) {hb hf wb wf rb rf vb vf : Nat} {ws : List Int} {room room2 : Int} (h : HeapAt m hb hf wb wf ws room) (r : RefAt m rb rf vb vf ws room2) (hne : ws ≠ []) (hw : ws.length ≤ 100000) :
    ∃ v m1, callw Try.prog TT S 29 [.pointer (some ⟨hb, 0, none⟩), .pointer (some ⟨rb, 0, none⟩)] m = some (v, m1) ∧ v = .bool true ∧ Keeps m m1 [] := by
  obtain ⟨v1, m1, hc, nb, nf, rfl, o1, hnf, k1⟩ := words_run hN.words h hne (by omega)
  have r1 := r.keep k1 (by simp) (by simp)
  have h1 := h.keep k1 (by simp) (by simp)
  have l1 := r1.h.load1 (off := 1) rfl
  have hu := used_run hN.used h1
  refine fn_w 7 [26, 30, 44] k29 hN.same rfl ?_
  simp [-BitVec.toNat_or, -BitVec.toNat_ofInt, -BitVec.toNat_and, len_slice u34, fieldAddr_of fa62_1, load_of ld34, index_slice u34 sz29, load_of ld29, store_of sz29, hc, l1, hu]
  refine wsem_loop 7 [26, 30, 44] (fun d E m2 => ∃ (i : Nat) (L : List Int), ws.length - i = d ∧ i ≤ ws.length ∧ L.length = ws.length ∧ (∀ j, i ≤ j → L[j]? = ws[j]?) ∧ E = [(1, .pointer (some ⟨rb, 0, none⟩)), (4, .bool false), (5, .slice (some ⟨nb, 0, none⟩) ws.length ws.length), (6, .int .i64 i)] ∧ Own m2 nb (base.words L) 29 nf ∧ Keeps m m2 []) _ ⟨_, ⟨0, ws, rfl, by omega, rfl, fun _ _ => rfl, rfl, o1, k1⟩, ⟨by rfl, by rfl, by rfl, by rfl, trivial⟩⟩ ?_
  rintro d E m2 ih ⟨i, L, hd, hi, hL, hLj, rfl, o2, k2⟩
  have r2 := r.keep k2 (by simp) (by simp)
  have l2 := r2.h.load1 (off := 1) rfl
  by_cases hlt : i < ws.length
  · have e1 : (i : Int) < ws.length := by omega
    have em : (i : Int) ≤ 9223372036854775807 := by omega
    have w1 : IntKind.i64.wrap ((i : Int) + 1) = ((i + 1 : Nat) : Int) := by rw [wrap_i64 (by omega) (by omega)]; omega
    have l3 := r2.w.load1 (off := i) (words_at hlt)
    have l4 := o2.load1 (off := i) (words_at (by omega))
    have e4 : L.getD i 0 = ws.getD i 0 := by simp only [List.getD_eq_getElem?_getD, hLj i (Nat.le_refl _)]
    rw [e4] at l4
    generalize ws.getD i 0 = x at l3 l4
    simp [-BitVec.toNat_or, -BitVec.toNat_ofInt, -BitVec.toNat_and, len_slice u34, fieldAddr_of fa62_1, load_of ld34, index_slice u34 sz29, load_of ld29, store_of sz29, e1, em, hlt, l2, l3, l4]
    generalize hr : storeRow _ _ _ = y
    obtain ⟨m3, rfl, o3, k3⟩ := store_own hr o2 (by simp [base.words]; omega) (by simp [one_int])
    rw [over_words 77 (by omega)] at o3
    simp [-BitVec.toNat_or, -BitVec.toNat_ofInt, -BitVec.toNat_and, len_slice u34, fieldAddr_of fa62_1, load_of ld34, index_slice u34 sz29, load_of ld29, store_of sz29, w1]
    refine ih _ _ _ _ ⟨i + 1, L.set i 77, rfl, by omega, by simp [hL], ?_, rfl, o3, k2.mono2 k3 hnf⟩ (by omega) ⟨by rfl, by rfl, by rfl, by simp [lget], trivial⟩
    intro j hj
    rw [List.getElem?_set_ne (by omega)]
    exact hLj j (by omega)
  · have e1 : ¬ (i : Int) < ws.length := by omega
    simp [-BitVec.toNat_or, -BitVec.toNat_ofInt, -BitVec.toNat_and, len_slice u34, fieldAddr_of fa62_1, load_of ld34, index_slice u34 sz29, load_of ld29, store_of sz29, e1, hlt]
    exact k2

theorem step_cells {x : ((Ty.pair (Ty.int .i64) (Ty.pair (Ty.int .i64) (Ty.pair (Ty.int .i64) (Ty.pair (Ty.int .u64) (Ty.pair (Ty.int .u64) (Ty.pair Ty.str (Ty.pair Ty.bool Ty.unit)))))))).D} {c : List Value} (h : At m (Ty.pair (Ty.int .i64) (Ty.pair (Ty.int .i64) (Ty.pair (Ty.int .i64) (Ty.pair (Ty.int .u64) (Ty.pair (Ty.int .u64) (Ty.pair Ty.str (Ty.pair Ty.bool Ty.unit))))))) x c) (hw : ((Ty.pair (Ty.int .i64) (Ty.pair (Ty.int .i64) (Ty.pair (Ty.int .i64) (Ty.pair (Ty.int .u64) (Ty.pair (Ty.int .u64) (Ty.pair Ty.str (Ty.pair Ty.bool Ty.unit)))))))).wf x) : ∃ (what t n ref v : Int) (s : List UInt8) (wild : Bool), c = [.int .i64 what, .int .i64 t, .int .i64 n, .int .u64 ref, .int .u64 v, .string ⟨s.toArray⟩, .bool wild] ∧
    (-9223372036854775808 ≤ n ∧ n ≤ 9223372036854775807) ∧ (0 ≤ ref ∧ ref ≤ 18446744073709551615) ∧ (0 ≤ v ∧ v ≤ 18446744073709551615) := by
  obtain ⟨_, _, rfl, rfl, _, _, rfl, rfl, _, _, rfl, rfl, _, _, rfl, rfl, _, _, rfl, rfl, _, _, rfl, rfl, _, _, rfl, rfl, rfl⟩ := h
  obtain ⟨hw1, hw2, hw3, hw4, hw5, hw6, _⟩ := hw
  exact ⟨_, _, _, _, _, _, _, rfl, i64_le hw3, u64_le hw4, u64_le hw5⟩

set_option maxHeartbeats 8000000 in
theorem law_run (hN : Nh S) (hK : S 11 = [([], .bool true)]) (hS : S 8 = []) {x0 : Int} (hx0 : (Lit.int .i64 x0).wf = true) {l : List ((Ty.pair (Ty.int .i64) (Ty.pair (Ty.int .i64) (Ty.pair (Ty.int .i64) (Ty.pair (Ty.int .u64) (Ty.pair (Ty.int .u64) (Ty.pair Ty.str (Ty.pair Ty.bool Ty.unit)))))))).D} {cs : List Value} (hl : ((Ty.slice 54 (Ty.pair (Ty.int .i64) (Ty.pair (Ty.int .i64) (Ty.pair (Ty.int .i64) (Ty.pair (Ty.int .u64) (Ty.pair (Ty.int .u64) (Ty.pair Ty.str (Ty.pair Ty.bool Ty.unit))))))))).wf l) (ha : At m (Ty.slice 54 (Ty.pair (Ty.int .i64) (Ty.pair (Ty.int .i64) (Ty.pair (Ty.int .i64) (Ty.pair (Ty.int .u64) (Ty.pair (Ty.int .u64) (Ty.pair Ty.str (Ty.pair Ty.bool Ty.unit)))))))) l cs) :
    ∃ v m', callw Try.prog TT S 8 [.int .i64 x0, tyVal (Ty.slice 54 (Ty.pair (Ty.int .i64) (Ty.pair (Ty.int .i64) (Ty.pair (Ty.int .i64) (Ty.pair (Ty.int .u64) (Ty.pair (Ty.int .u64) (Ty.pair Ty.str (Ty.pair Ty.bool Ty.unit)))))))) cs] m = some (v, m') ∧ v = .bool true := by
  have hkn := fun m' => sum_ok (P := Try.prog) (T := TT) (m := m') hK
  have p0 := fun m' => pick_run (m := m') hN.pick x0 300 (by omega) (by omega)
  obtain ⟨q, hq, hq2⟩ : ∃ q : Nat, x0 % 300 = q ∧ q < 300 := ⟨(x0 % 300).toNat, by omega, by omega⟩
  rw [hq] at p0
  have w0 : IntKind.i64.wrap (1 + (q : Int)) = ((q + 1 : Nat) : Int) := by rw [wrap_i64 (by omega) (by omega)]; omega
  obtain ⟨room, hroom⟩ : ∃ room : Nat, q + 1 = room := ⟨_, rfl⟩
  rw [hroom] at w0
  obtain ⟨v1, m1, h1, hb, wb, rfl, H1, hhb, hwb, k1⟩ := new_run (m := m) hN.new (room : Int) (by omega) (by omega)
  obtain ⟨v2, m2, h2, rb, vb, rfl, R2, hrb, hvb, k2⟩ := newR_run (m := m1) hN.newR (room : Int)
  have k12 := k1.trans k2
  have H2 := H1.keep k2 (by simp) (by simp)
  obtain ⟨ao, css, fam, rfl, hcl, hce, hrs⟩ := ha
  show ∃ v m', callw Try.prog TT S 8 [.int .i64 x0, .slice ao l.length l.length] m = some (v, m') ∧ v = .bool true
  refine fn_w 78 [102, 102, 118, 131, 155, 166, 218, 231] k8 hS rfl ?_
  simp [-BitVec.toNat_or, -BitVec.toNat_ofInt, -BitVec.toNat_and, bin_ptr u24, len_slice u50, index_slice u50 sz54, load_agg ld54, alloc_of zo54, store_of sz54, fieldAddr_of fa54_3, load_of ld29, fieldAddr_of fa54_2, load_of ld3, fieldAddr_of fa54_6, load_of ld4, conv_i u29 u3, conv_i u3 u29, fieldAddr_of fa54_0, fieldAddr_of fa54_4, bin_bool u4 .eql (Or.inl rfl), fieldAddr_of fa54_5, load_of ld9, fieldAddr_of fa54_1, p0, w0, h1, hkn, h2]
  have hr0 : 0 < (room : Int) ∧ (room : Int) ≤ 65536 := by omega
  have g00 : GoodW [0] room := ⟨by intro w hw; simp at hw; omega, rfl, by simp, by simp; omega⟩
  refine wsem_loop 78 [102, 102, 118, 131, 155, 166, 218, 231] (fun d E m3 => ∃ (i wb3 vb3 : Nat) (ws : List Int), 100 - i = d ∧ i ≤ 100 ∧ GoodW ws room ∧ E = [(0, .int .i64 room), (1, .slice ao l.length l.length), (4, .bool false), (5, .pointer (some ⟨hb, 0, none⟩)), (7, .pointer (some ⟨rb, 0, none⟩)), (8, .int .i64 i)] ∧ HeapAt m3 hb hb wb3 wb ws room ∧ RefAt m3 rb rb vb3 vb ws room ∧ Keeps m m3 []) _ ⟨_, ⟨0, wb, vb, [0], rfl, by omega, g00, rfl, H2, R2, k12⟩, ⟨by rfl, by rfl, by rfl, by rfl, by rfl, by rfl, trivial⟩⟩ ?_
  rintro d E m3 ih ⟨i, wb3, vb3, ws, hd, hi, hg, rfl, H3, R3, k3⟩
  have hwl : ws.length ≤ 300 := by have := hg.le; omega
  by_cases hgo : i < l.length ∧ i < 100
  · obtain ⟨g1, g2⟩ := hgo
    have e1 : (i : Int) < l.length := by omega
    have e2 : (i : Int) < 100 := by omega
    have em : (i : Int) ≤ 9223372036854775807 := by omega
    have w1 : IntKind.i64.wrap ((i : Int) + 1) = ((i + 1 : Nat) : Int) := by rw [wrap_i64 (by omega) (by omega)]; omega
    obtain ⟨c, hc, hwin⟩ := At.elem (m := m) hcl hce g1
    have hxw := hl.2 _ (List.getElem_mem g1)
    obtain ⟨what, t, n0, ref0, v, s, wild, hc2, hn0, hrw, hv⟩ := step_cells hc hxw
    subst hc2
    obtain ⟨lb, rfl, hlb⟩ := hrs.rdo (by omega)
    have ld := (hlb.keep k3 (by simp)).load (off := i * 7) 7 (by rw [← hrs.1]; show i * 7 + 7 ≤ l.length * 7; omega)
    rw [show window css.flatten (i * 7) 7 = _ from hwin] at ld
    simp [-Int.natCast_add, -w8_10, -BitVec.toNat_or, -BitVec.toNat_ofInt, -BitVec.toNat_and, bin_ptr u24, len_slice u50, index_slice u50 sz54, load_agg ld54, alloc_of zo54, store_of sz54, fieldAddr_of fa54_3, load_of ld29, fieldAddr_of fa54_2, load_of ld3, fieldAddr_of fa54_6, load_of ld4, conv_i u29 u3, conv_i u3 u29, fieldAddr_of fa54_0, fieldAddr_of fa54_4, bin_bool u4 .eql (Or.inl rfl), fieldAddr_of fa54_5, load_of ld9, fieldAddr_of fa54_1, e1, e2, em, g1, g2, ld]
    obtain ⟨oz, kz, nz⟩ := new_own (m := m3) (cs := [Value.int .i64 0, .int .i64 0, .int .i64 0, .int .u64 0, .int .u64 0, .string ⟨#[]⟩, .bool false]) (e := 54) rfl
    generalize hr4 : storeRow _ _ _ = r4
    obtain ⟨m4, rfl, ox, k4⟩ := store_own hr4 oz (by simp) (by simp [one_int, one_str, one_bool])
    have kk4 : Keeps m3 m4 [] := kz.mono2 k4 (Nat.le_refl _)
    simp only [over, List.take_zero, List.nil_append, List.length_cons, List.length_nil, List.drop_succ_cons, List.drop_zero, List.drop_nil, List.append_nil] at ox
    have H4 := H3.keep kk4 (by simp) (by simp)
    have R4 := R3.keep kk4 (by simp) (by simp)
    have K4 := k3.trans kk4
    have ox0 := ox.load1 (off := 0) rfl
    have ox1 := ox.load1 (off := 1) rfl
    have ox2 := ox.load1 (off := 2) rfl
    have ox3 := ox.load1 (off := 3) rfl
    have ox4 := ox.load1 (off := 4) rfl
    have ox5 := ox.load1 (off := 5) rfl
    have ox6 := ox.load1 (off := 6) rfl
    obtain ⟨q0, hq0, hq9⟩ : ∃ q : Nat, what % 9 = q ∧ q < 9 := ⟨(what % 9).toNat, by omega, by omega⟩
    have pw := fun m' => pick_run (m := m') hN.pick what 9 (by omega) (by omega)
    rw [hq0] at pw
    cases wild
    case' true =>
      obtain ⟨ref, href, hrl⟩ : ∃ ref, ref0 = ref ∧ 0 ≤ ref := ⟨ref0, rfl, by omega⟩
      obtain ⟨n, hn⟩ : ∃ n, n0 = n := ⟨n0, rfl⟩
      rw [href] at ox3
      rw [hn] at ox2
      simp [-Int.natCast_add, -w8_15, -BitVec.toNat_or, -BitVec.toNat_ofInt, -BitVec.toNat_and, bin_ptr u24, len_slice u50, index_slice u50 sz54, load_agg ld54, alloc_of zo54, store_of sz54, fieldAddr_of fa54_3, load_of ld29, fieldAddr_of fa54_2, load_of ld3, fieldAddr_of fa54_6, load_of ld4, conv_i u29 u3, conv_i u3 u29, fieldAddr_of fa54_0, fieldAddr_of fa54_4, bin_bool u4 .eql (Or.inl rfl), fieldAddr_of fa54_5, load_of ld9, fieldAddr_of fa54_1, ox0, ox1, ox2, ox3, ox4, ox5, ox6, href, hn]
    case' false =>
      have wr : IntKind.i64.wrap ((room : Int) + 2) = ((room + 2 : Nat) : Int) := by rw [wrap_i64 (by omega) (by omega)]; omega
      have wt : ref0.tmod 1000 = ref0 % 1000 := Int.tmod_eq_emod_of_nonneg hrw.1
      have wm : IntKind.i64.wrap (ref0 % 1000) = ref0 % 1000 := wrap_i64 (by omega) (by omega)
      have p1 := fun m' => pick_run (m := m') hN.pick (ref0 % 1000) ((room + 2 : Nat) : Int) (by omega) (by omega)
      have p2 := fun m' => pick_run (m := m') hN.pick n0 12 (by omega) (by omega)
      obtain ⟨ref, href, hrl⟩ : ∃ ref : Int, ref0 % 1000 % ((room + 2 : Nat) : Int) = ref ∧ 0 ≤ ref := ⟨_, rfl, Int.emod_nonneg _ (by omega)⟩
      have hrm : ref < ((room + 2 : Nat) : Int) := by rw [← href]; exact Int.emod_lt_of_pos _ (by omega)
      rw [href] at p1
      have wu : IntKind.u64.wrap ref = ref := wrap_u64 (by omega) (by omega)
      obtain ⟨n, hn⟩ : ∃ n : Int, n0 % 12 - 2 = n := ⟨_, rfl⟩
      have wn : IntKind.i64.wrap (n0 % 12 - 2) = n := by rw [← hn]; exact wrap_i64 (by omega) (by omega)
      simp [-Int.natCast_add, -w8_15, -BitVec.toNat_or, -BitVec.toNat_ofInt, -BitVec.toNat_and, bin_ptr u24, len_slice u50, index_slice u50 sz54, load_agg ld54, alloc_of zo54, store_of sz54, fieldAddr_of fa54_3, load_of ld29, fieldAddr_of fa54_2, load_of ld3, fieldAddr_of fa54_6, load_of ld4, conv_i u29 u3, conv_i u3 u29, fieldAddr_of fa54_0, fieldAddr_of fa54_4, bin_bool u4 .eql (Or.inl rfl), fieldAddr_of fa54_5, load_of ld9, fieldAddr_of fa54_1, ox0, ox1, ox2, ox3, ox4, ox5, ox6, wr, wt, wm, p1, p2, wu, wn]
    all_goals
      have f1 : wb ≠ m3.next := by have := H3.w.flt; omega
      have f2 : hb ≠ m3.next := by have := H3.h.flt; omega
      have f3 : vb ≠ m3.next := by have := R3.w.flt; omega
      have f4 : rb ≠ m3.next := by have := R3.h.flt; omega
      have f5 : rb ≠ wb := by have := H1.w.flt; omega
      have f6 : vb ≠ wb := by have := H1.w.flt; omega
      have f7 : rb ≠ hb := by have := H1.h.flt; omega
      have f8 : vb ≠ hb := by have := H1.h.flt; omega
      have g1' := K4.1
      have kn1 := k1.1
      have fk : ∀ {m9 : Mem} {fs : List Nat}, Keeps m4 m9 fs → (∀ f ∈ fs, m.next ≤ f) → Keeps m m9 [] := fun k hf => Keeps.fresh K4 k hf
      by_cases c4 : q0 = 4 ∨ q0 = 5
      case' pos =>
        obtain ⟨u1, m5, hp, rfl, H5, k5⟩ := put_run (v := v) hN.put H4 (atV_nonneg ws ref n) (by omega)
        have hs := set_run hN.set hN.at_ hN.len hN.head hN.word H4 hrl (by omega) hg.wd hp
        have R5 := R4.keep k5 (by simp; omega) (by simp; omega)
        obtain ⟨u2, m6, hs2, rfl, R6, k6⟩ := setR_run (i := n) (v := v) hN.setR hN.putR hN.lenR hN.wordR R5 hrl (by omega) hg.wd hg.zero
        have oy := ox.keep k5 (by simp; omega)
        have oy4 := oy.load1 (off := 4) rfl
        have oz4 := (oy.keep k6 (by simp; omega)).load1 (off := 4) rfl
        have H6 := H5.keep k6 (by simp; omega) (by simp; omega)
        have ow := oy.keep k6 (by simp; omega)
        have K6 := fk (k5.mono (by simp) |>.trans (k6.mono (by simp)) : Keeps m4 m6 [wb, vb]) (by simp; omega)
        have hg6 := hg.put (atV_nonneg ws ref n) hv
        generalize putF ws (atV ws ref n) v = ws6 at *
        have pq : ((q0 : Int) = 4) ∨ ¬ ((q0 : Int) = 4) ∧ (q0 : Int) = 5 := by omega
        rcases pq with pq | ⟨pq, pq2⟩
        case' inl => simp [-Int.natCast_add, -w8_34, -BitVec.toNat_or, -BitVec.toNat_ofInt, -BitVec.toNat_and, bin_ptr u24, len_slice u50, index_slice u50 sz54, load_agg ld54, alloc_of zo54, store_of sz54, fieldAddr_of fa54_3, load_of ld29, fieldAddr_of fa54_2, load_of ld3, fieldAddr_of fa54_6, load_of ld4, conv_i u29 u3, conv_i u3 u29, fieldAddr_of fa54_0, fieldAddr_of fa54_4, bin_bool u4 .eql (Or.inl rfl), fieldAddr_of fa54_5, load_of ld9, fieldAddr_of fa54_1, ox0, ox4, pw, pq, hs, hs2, oy4, oz4]
        case' inr => simp [-Int.natCast_add, -w8_34, -BitVec.toNat_or, -BitVec.toNat_ofInt, -BitVec.toNat_and, bin_ptr u24, len_slice u50, index_slice u50 sz54, load_agg ld54, alloc_of zo54, store_of sz54, fieldAddr_of fa54_3, load_of ld29, fieldAddr_of fa54_2, load_of ld3, fieldAddr_of fa54_6, load_of ld4, conv_i u29 u3, conv_i u3 u29, fieldAddr_of fa54_0, fieldAddr_of fa54_4, bin_bool u4 .eql (Or.inl rfl), fieldAddr_of fa54_5, load_of ld9, fieldAddr_of fa54_1, ox0, ox4, pw, pq, pq2, hs, hs2, oy4, oz4]
      case' neg =>
        have n4 : ¬ (q0 : Int) = 4 := by omega
        have n5 : ¬ (q0 : Int) = 5 := by omega
        by_cases c6 : q0 = 6
        case' pos =>
          have i6 : (q0 : Int) = 6 := by omega
          obtain ⟨u1, m5, hp, rfl, H5, k5⟩ := put_run (v := v) hN.put H4 hrl (by omega)
          have R5 := R4.keep k5 (by simp; omega) (by simp; omega)
          obtain ⟨u2, m6, hp2, rfl, R6, k6⟩ := putR_run (v := v) hN.putR R5 hrl (by omega)
          have oy := ox.keep k5 (by simp; omega)
          have oy4 := oy.load1 (off := 4) rfl
          have oz4 := (oy.keep k6 (by simp; omega)).load1 (off := 4) rfl
          have H6 := H5.keep k6 (by simp; omega) (by simp; omega)
          have ow := oy.keep k6 (by simp; omega)
          have K6 := fk (k5.mono (by simp) |>.trans (k6.mono (by simp)) : Keeps m4 m6 [wb, vb]) (by simp; omega)
          have hg6 := hg.put hrl hv
          generalize putF ws ref v = ws6 at *
          simp [-Int.natCast_add, -w8_34, -BitVec.toNat_or, -BitVec.toNat_ofInt, -BitVec.toNat_and, bin_ptr u24, len_slice u50, index_slice u50 sz54, load_agg ld54, alloc_of zo54, store_of sz54, fieldAddr_of fa54_3, load_of ld29, fieldAddr_of fa54_2, load_of ld3, fieldAddr_of fa54_6, load_of ld4, conv_i u29 u3, conv_i u3 u29, fieldAddr_of fa54_0, fieldAddr_of fa54_4, bin_bool u4 .eql (Or.inl rfl), fieldAddr_of fa54_5, load_of ld9, fieldAddr_of fa54_1, ox0, ox4, pw, n4, n5, i6, hp, hp2, oy4, oz4]
        case' neg =>
          have n6 : ¬ (q0 : Int) = 6 := by omega
          by_cases c7 : q0 = 7
          case' pos =>
            have i7 : (q0 : Int) = 7 := by omega
            obtain ⟨u1, m5, hp, rfl, ⟨wb5, H5⟩, k5⟩ := text_any (l := s) hN.text hN.alloc hN.put hN.set hN.at_ hN.len hN.head hN.word H4 hr0 (by omega) hg.wd
            have R5 := R4.keep k5 (by simp; omega) (by simp; omega)
            obtain ⟨u2, m6, hp2, rfl, ⟨vb6, R6⟩, k6⟩ := textR_any (l := s) hN.textR hN.allocR hN.putR hN.setR hN.lenR hN.wordR R5 hr0 (by omega) hg.wd hg.zero hg.pos
            have oy := ox.keep k5 (by simp; omega)
            have oy5 := oy.load1 (off := 5) rfl
            have H6 := H5.keep k6 (by simp; omega) (by simp; omega)
            have ow := oy.keep k6 (by simp; omega)
            have oz5 := ow.load1 (off := 5) rfl
            have K6 := fk (k5.mono (by simp) |>.trans (k6.mono (by simp)) : Keeps m4 m6 [hb, wb, rb, vb]) (by simp; omega)
            have hg6 := hg.text (l := s) hr0.2
            generalize textW ws room s = ws6 at *
            generalize textV ws room s = tv at *
            simp [-Int.natCast_add, -w8_34, -BitVec.toNat_or, -BitVec.toNat_ofInt, -BitVec.toNat_and, bin_ptr u24, len_slice u50, index_slice u50 sz54, load_agg ld54, alloc_of zo54, store_of sz54, fieldAddr_of fa54_3, load_of ld29, fieldAddr_of fa54_2, load_of ld3, fieldAddr_of fa54_6, load_of ld4, conv_i u29 u3, conv_i u3 u29, fieldAddr_of fa54_0, fieldAddr_of fa54_4, bin_bool u4 .eql (Or.inl rfl), fieldAddr_of fa54_5, load_of ld9, fieldAddr_of fa54_1, ox0, ox5, pw, n4, n5, n6, i7, hp, hp2, oy5, oz5]
          case' neg =>
            have n7 : ¬ (q0 : Int) = 7 := by omega
            by_cases c8 : q0 = 8
            case' pos =>
              have i8 : (q0 : Int) = 8 := by omega
              have hne : ws ≠ [] := by intro h0; have := hg.pos; rw [h0] at this; simp at this
              obtain ⟨u1, m5, hp, cb, cf, xb, xf, rfl, C5, hcf, hxf, k5⟩ := copy_run hN.copy hN.words H4 hne (by omega)
              have R5 := R4.keep k5 (by simp) (by simp)
              obtain ⟨u2, m55, hsm, rfl, k55⟩ := same_run hN C5 R5 hne (by omega)
              have C6 := C5.keep k55 (by simp) (by simp)
              obtain ⟨u3, m56, hp3, rfl, C7, k56⟩ := put_run (a := 1) (v := v) hN.put C6 (by omega) (by omega)
              obtain ⟨u4, m6, hp4, rfl, ⟨xb8, C8⟩, k6⟩ := alloc_any (t := 1) (n := 0) hN.alloc C7 hr0 (by unfold putF; split; omega; rw [List.length_set]; omega)
              have k58 : Keeps m4 m6 [] := (k5.trans k55).fresh (k56.mono (by simp) |>.trans (k6.mono (by simp)) : Keeps m55 m6 [cf, xf]) (by simp; omega)
              have oy4 := (ox.keep (k5.trans k55) (by simp)).load1 (off := 4) rfl
              have H6 := H4.keep k58 (by simp) (by simp)
              have R6 := R4.keep k58 (by simp) (by simp)
              have ow := ox.keep k58 (by simp)
              have K6 := K4.trans k58
              have hg6 := hg
              simp [-Int.natCast_add, -w8_34, -BitVec.toNat_or, -BitVec.toNat_ofInt, -BitVec.toNat_and, bin_ptr u24, len_slice u50, index_slice u50 sz54, load_agg ld54, alloc_of zo54, store_of sz54, fieldAddr_of fa54_3, load_of ld29, fieldAddr_of fa54_2, load_of ld3, fieldAddr_of fa54_6, load_of ld4, conv_i u29 u3, conv_i u3 u29, fieldAddr_of fa54_0, fieldAddr_of fa54_4, bin_bool u4 .eql (Or.inl rfl), fieldAddr_of fa54_5, load_of ld9, fieldAddr_of fa54_1, ox0, ox4, pw, n4, n5, n6, n7, i8, hp, hsm, hp3, hp4, oy4]
              clear hp4 C8 C7 C6 C5 hp3 hp hsm
              generalize ws = ws6 at *
            case' neg =>
              have n8 : ¬ (q0 : Int) = 8 := by omega
              obtain ⟨u1, m5, hp, rfl, ⟨wb5, H5⟩, k5⟩ := alloc_any (t := t) (n := n) hN.alloc H4 hr0 (by omega)
              have R5 := R4.keep k5 (by simp; omega) (by simp; omega)
              obtain ⟨u2, m6, hp2, rfl, ⟨vb6, R6⟩, k6⟩ := allocR_any (t := t) (n := n) hN.allocR R5 hr0 (by omega)
              have oy := ox.keep k5 (by simp; omega)
              have oy1 := oy.load1 (off := 1) rfl
              have H6 := H5.keep k6 (by simp; omega) (by simp; omega)
              have ow := oy.keep k6 (by simp; omega)
              have oz1 := ow.load1 (off := 1) rfl
              have K6 := fk (k5.mono (by simp) |>.trans (k6.mono (by simp)) : Keeps m4 m6 [hb, wb, rb, vb]) (by simp; omega)
              have hg6 := hg.alloc (t := t) (n := n)
              generalize allocW ws room t n = ws6 at *
              generalize allocV ws room t n = tv at *
              simp [-Int.natCast_add, -w8_34, -BitVec.toNat_or, -BitVec.toNat_ofInt, -BitVec.toNat_and, bin_ptr u24, len_slice u50, index_slice u50 sz54, load_agg ld54, alloc_of zo54, store_of sz54, fieldAddr_of fa54_3, load_of ld29, fieldAddr_of fa54_2, load_of ld3, fieldAddr_of fa54_6, load_of ld4, conv_i u29 u3, conv_i u3 u29, fieldAddr_of fa54_0, fieldAddr_of fa54_4, bin_bool u4 .eql (Or.inl rfl), fieldAddr_of fa54_5, load_of ld9, fieldAddr_of fa54_1, ox0, ox1, pw, n4, n5, n6, n7, n8, hp, hp2, oy1, oz1]
      all_goals
        have hl6 : ws6.length ≤ 300 := by have := hg6.le; omega
        have hne6 : ws6 ≠ [] := by intro h0; have := hg6.pos; rw [h0] at this; simp at this
        obtain ⟨u7, m7, hs7, rfl, k7⟩ := same_run hN H6 R6 hne6 (by omega)
        have H7 := H6.keep k7 (by simp) (by simp)
        have R7 := R6.keep k7 (by simp) (by simp)
        have t1 := type_run hN.type hN.head hN.word H7 hrl (by omega) hg6.wd
        have t2 := typeR_run hN.typeR hN.wordR R7 hrl (by omega) hg6.wd
        have t3 := len_run hN.len hN.head hN.word H7 hrl (by omega) hg6.wd
        have t4 := lenR_run hN.lenR hN.wordR R7 hrl (by omega) hg6.wd
        have t5 := get_run (i := n) hN.get hN.at_ hN.len hN.head hN.word H7 hrl (by omega) hg6.wd
        have t6 := getR_run (i := n) hN.getR hN.lenR hN.wordR R7 hrl (by omega) hg6.wd hg6.zero
        have t7 := word_run hN.word H7 hrl (by omega)
        have t8 := wordR_run hN.wordR R7 hrl (by omega)
        obtain ⟨u8, m8, hs8, rfl, k8⟩ := stringG_run hN.string hN.get hN.at_ hN.len hN.head hN.word H7 hrl (by omega) hg6.wd
        have R8 := R7.keep k8 (by simp) (by simp)
        obtain ⟨u9, m9, hs9, rfl, k9⟩ := stringR_run hN.stringR hN.getR hN.lenR hN.wordR R8 hrl (by omega) hg6.wd hg6.zero
        have k69 := (k7.trans k8).trans k9
        generalize ws6.getD (atV ws6 ref n).toNat 0 = y1 at t5 t6
        generalize ws6.getD ref.toNat 0 = y2 at t1 t2 t3 t4 t7 t8
        generalize y2 % 4294967296 = y3 at t3 t4
        generalize y2 / 4294967296 = y4 at t1 t2
        generalize strF ws6 ref = sf at hs8 hs9
        by_cases c400 : y3 < 400
        · simp [-Int.natCast_add, -BitVec.toNat_or, -BitVec.toNat_ofInt, -BitVec.toNat_and, bin_ptr u24, len_slice u50, index_slice u50 sz54, load_agg ld54, alloc_of zo54, store_of sz54, fieldAddr_of fa54_3, load_of ld29, fieldAddr_of fa54_2, load_of ld3, fieldAddr_of fa54_6, load_of ld4, conv_i u29 u3, conv_i u3 u29, fieldAddr_of fa54_0, fieldAddr_of fa54_4, bin_bool u4 .eql (Or.inl rfl), fieldAddr_of fa54_5, load_of ld9, fieldAddr_of fa54_1, hs7, t1, t2, t3, t4, t5, t6, t7, t8, c400, hs8, hs9, w1]
          exact ih _ _ _ _ ⟨i + 1, _, _, ws6, rfl, by omega, hg6, rfl, H6.keep k69 (by simp) (by simp), R6.keep k69 (by simp) (by simp), K6.trans k69⟩ (by omega) ⟨by rfl, by rfl, by rfl, by rfl, by rfl, by simp [lget], trivial⟩
        · simp [-Int.natCast_add, -BitVec.toNat_or, -BitVec.toNat_ofInt, -BitVec.toNat_and, bin_ptr u24, len_slice u50, index_slice u50 sz54, load_agg ld54, alloc_of zo54, store_of sz54, fieldAddr_of fa54_3, load_of ld29, fieldAddr_of fa54_2, load_of ld3, fieldAddr_of fa54_6, load_of ld4, conv_i u29 u3, conv_i u3 u29, fieldAddr_of fa54_0, fieldAddr_of fa54_4, bin_bool u4 .eql (Or.inl rfl), fieldAddr_of fa54_5, load_of ld9, fieldAddr_of fa54_1, hs7, t1, t2, t3, t4, t5, t6, t7, t8, c400, w1]
          exact ih _ _ _ _ ⟨i + 1, _, _, ws6, rfl, by omega, hg6, rfl, H7, R7, K6.trans k7⟩ (by omega) ⟨by rfl, by rfl, by rfl, by rfl, by rfl, by simp [lget], trivial⟩
  · by_cases a1 : i < l.length
    · have e1 : (i : Int) < l.length := by omega
      have e2 : ¬ (i : Int) < 100 := by omega
      simp [-Int.natCast_add, -BitVec.toNat_or, -BitVec.toNat_ofInt, -BitVec.toNat_and, bin_ptr u24, len_slice u50, index_slice u50 sz54, load_agg ld54, alloc_of zo54, store_of sz54, fieldAddr_of fa54_3, load_of ld29, fieldAddr_of fa54_2, load_of ld3, fieldAddr_of fa54_6, load_of ld4, conv_i u29 u3, conv_i u3 u29, fieldAddr_of fa54_0, fieldAddr_of fa54_4, bin_bool u4 .eql (Or.inl rfl), fieldAddr_of fa54_5, load_of ld9, fieldAddr_of fa54_1, e1, e2, a1]
    · have e1 : ¬ (i : Int) < l.length := by omega
      simp [-Int.natCast_add, -BitVec.toNat_or, -BitVec.toNat_ofInt, -BitVec.toNat_and, bin_ptr u24, len_slice u50, index_slice u50 sz54, load_agg ld54, alloc_of zo54, store_of sz54, fieldAddr_of fa54_3, load_of ld29, fieldAddr_of fa54_2, load_of ld3, fieldAddr_of fa54_6, load_of ld4, conv_i u29 u3, conv_i u3 u29, fieldAddr_of fa54_0, fieldAddr_of fa54_4, bin_bool u4 .eql (Or.inl rfl), fieldAddr_of fa54_5, load_of ld9, fieldAddr_of fa54_1, e1, a1]

/- the row -/
open Go.ChangeShapes Go.WideShapes Go.ChangeAt Go.RowKit
theorem own : ownKnob Try.prog.godebug = none := by kernel_rfl
theorem mixed : Try.prog.follows .mixedOrders = true := by kernel_rfl
theorem tab : Sh.tabCheck Try.prog fns = true := by kernel_rfl
theorem known : Sh.isVal (.bool true) (Sh.call Try.prog (Sh.tabOf Try.prog fns) Sh.noSums 100000 11 [] (Sh.memG Try.prog [])) = true := by kernel_rfl
def sums : Sums := fun f => if f = 11 then [([], .bool true)] else []
theorem sumsOk : SumsOk Try.prog sums := by
  intro f p hp
  unfold sums at hp
  split at hp
  · rename_i hf
    subst hf
    simp only [List.mem_cons, List.not_mem_nil, or_false] at hp
    subst hp
    exact ⟨rfl, rfl, ⟨Try.f11, Try.func11, by kernel_rfl, by kernel_rfl⟩, fun w => Sh.closed_val mixed (Sh.tab_ok tab) (Sh.noSums_ok _) 100000 11 Try.func11 (by kernel_rfl) (gs := []) (by kernel_rfl) (by kernel_rfl) known w (fun p hp => by simp at hp)⟩
  · simp at hp

theorem walk (w : World) (x0 : Int) (hx0 : (Lit.int .i64 x0).wf = true) {v1 : Value} (h1 : DatArg Try.prog w (Ty.slice 54 (Ty.pair (Ty.int .i64) (Ty.pair (Ty.int .i64) (Ty.pair (Ty.int .i64) (Ty.pair (Ty.int .u64) (Ty.pair (Ty.int .u64) (Ty.pair Ty.str (Ty.pair Ty.bool Ty.unit)))))))) v1) :
    Calls Try.prog 8 #[.int .i64 x0, v1] w fun e w' => e = .returned (.bool true) ∧ Below w.heap.size w w' := by
  have hM := start_rel Try.prog w
  obtain ⟨rs1, J1, m1, cs1, hw1, le1, hM1, vr1, hr1, hk1⟩ := h1 _ _ hM
  obtain ⟨v', m', h, rfl⟩ := law_run (S := sums) (m := m1) ⟨rfl, rfl, rfl, rfl, rfl, rfl, rfl, rfl, rfl, rfl, rfl, rfl, rfl, rfl, rfl, rfl, rfl, rfl, rfl, rfl, rfl, rfl, rfl, rfl, rfl, rfl, rfl⟩ rfl rfl hx0 hw1 hr1
  exact calls_of mixed (Sh.tab_ok tab) sumsOk Try.func8 (by kernel_rfl) h rfl hM1 (.cons (.clo _ rfl) (.cons vr1 LRel.nil))

theorem laidOut : laidOutB Try.prog = true := by kernel_rfl

theorem lifted (os : Os) (started : os.Started) (H : Type) (enc : TypeId × Value → H) :
    ReturnsInHanded {} Try.checked os 8 .any (Rows.heapPlaysSpec.pre6 enc Try.prog Try.f8 Rows.heapPlaysRow.domain false) (Rows.heapPlaysSpec.post enc Try.prog Try.f8 false true false false) := by
  refine returnsInHanded_of_change (C := Try.checked) own started (by kernel_rfl) Try.func8
    (ChangeSpec.witness6 (enc := enc) (C := Try.checked) false ⟨#[], #[.int .i64 0, (tyVal (Ty.slice 54 (Ty.pair (Ty.int .i64) (Ty.pair (Ty.int .i64) (Ty.pair (Ty.int .i64) (Ty.pair (Ty.int .u64) (Ty.pair (Ty.int .u64) (Ty.pair Ty.str (Ty.pair Ty.bool Ty.unit)))))))) ((Ty.slice 54 (Ty.pair (Ty.int .i64) (Ty.pair (Ty.int .i64) (Ty.pair (Ty.int .i64) (Ty.pair (Ty.int .u64) (Ty.pair (Ty.int .u64) (Ty.pair Ty.str (Ty.pair Ty.bool Ty.unit))))))))).zeros)], []⟩ 8 (by kernel_rfl) (by kernel_rfl) (by kernel_rfl) (by kernel_rfl)) ?_
  intro W base args ds gs before hval0 hW hcnd _
  have hval : ∀ (j : Nat) t v, Try.f8.params[j]? = some t → args[j]? = some v → Value.okWide Try.prog W .any base t v := hval0
  have hW' := hW
  obtain ⟨p, q, hA0, hV, rfl, hfz, hnd⟩ := hW
  have hA : DataW.TrodAll enc Try.prog W 0 (fun _ => true) true Try.f8.params.toList args.toList ds p := hA0
  rw [Try.params8] at hA hval
  obtain ⟨v0, v1, d0, d1, p0, p1, rfl, rfl, rfl, t0, t1⟩ := trodAll_two hA
  obtain ⟨rfl, rfl⟩ := trodVars_none hV
  obtain ⟨x0, rfl, rfl, rfl, hx0⟩ := open_int u3 (hval 0 _ _ rfl rfl) t0
  have hv1 := dat_arg (ty := (Ty.slice 54 (Ty.pair (Ty.int .i64) (Ty.pair (Ty.int .i64) (Ty.pair (Ty.int .i64) (Ty.pair (Ty.int .u64) (Ty.pair (Ty.int .u64) (Ty.pair Ty.str (Ty.pair Ty.bool Ty.unit))))))))) (t := 50) (by kernel_rfl) (hval 1 _ _ rfl rfl) t1
  clear hA0 hval0
  simp only [List.append_nil, List.nil_append] at hW'
  refine (walk W x0 hx0 hv1).mono fun e W' ⟨he, hg⟩ => ?_
  subst he
  have hlt1 : ∀ z ∈ p1, z.block < W.heap.size := fun z hz => hW'.lt z (by simp [hz])
  exact ⟨_, rfl, Sh.law_post (pa := ([] ++ p1)) (pv := []) hW' hg (by simp) (fun sp hsp => trodAll_mk2 (shut_int u3 hx0) (WideElems.Trod_stays laidOut (by kernel_rfl) (of_decide_eq_true (by kernel_rfl)) t1 (fun z hz => hg.same (hlt1 z hz)) (fun z hz => hsp z (by simp [hz])))) (fun _ _ => rfl) (fun _ _ _ => (trodAll_cons_mk (shut_bool u4 _) trodAll_mk0))
    (ok_one (by kernel_rfl) rfl (okWide_bool_mk u4 _))⟩

theorem over : Rows.heapPlaysRow.holds Try.pinned (OpenSpec.ofChange Rows.heapPlaysSpec) :=
  OpenClaim.holds_of_wide 8 Try.f8 rfl rfl rfl rfl rfl rfl rfl ⟨rfl, rfl, rfl, rfl, rfl⟩ rfl rfl rfl rfl rfl (by kernel_rfl) Try.func8 (by kernel_rfl)
    (of_decide_eq_true (by kernel_rfl)) (by unfold Func.isWrapper; first | (rw [if_pos (by decide +kernel)]; kernel_rfl) | (rw [if_neg (by decide +kernel)]; exact ⟨rfl, rfl⟩))
    (fun os started H enc _ => lifted os started H enc)

theorem proved : Rows.HeapPlaysSaid :=
  over
#print axioms proved
end Go.Proofs.Ytmehepbejckmlaa.heapPlays

