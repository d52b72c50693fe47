/-
  This text proves that the law's table of types is a row of types, whatever the raw numbers are.
  Condition: nothing is known of the calls ahead ('S f = []').
-/
import Derived.Test.YtllhpkhbcgfeeaaDoorKinC
set_option maxRecDepth 100000
set_option linter.unusedSimpArgs false
set_option linter.unusedVariables false
namespace Go.Proofs.YtllhpkhbcgfeeaaDoor.base
open Go.Sh gen
variable {S : Sums} {m : Mem}
abbrev RawT : Ty := (Ty.pair (Ty.int .i64) (Ty.pair (Ty.int .i64) (Ty.pair (Ty.int .i64) (Ty.pair (Ty.slice 3 (Ty.int .i64)) (Ty.pair (Ty.slice 36 (Ty.slice 3 (Ty.int .i64))) (Ty.pair (Ty.int .i64) Ty.unit))))))
abbrev RawsT : Ty := (Ty.slice 46 (Ty.pair (Ty.int .i64) (Ty.pair (Ty.int .i64) (Ty.pair (Ty.int .i64) (Ty.pair (Ty.slice 3 (Ty.int .i64)) (Ty.pair (Ty.slice 36 (Ty.slice 3 (Ty.int .i64))) (Ty.pair (Ty.int .i64) Ty.unit)))))))
theorem emod_tmod (x k : Int) (hk : 0 < k) : x % k = if x.tmod k < 0 then x.tmod k + k else x.tmod k := by
  have hx := Int.emod_nonneg x (by omega : k ≠ 0)
  have hx2 := Int.emod_lt_of_pos x hk
  split
  · rename_i h
    have : (x.tmod k + k) % k = x % k := by
      rw [Int.add_emod_right]
      have h3 := Int.tmod_add_mul_tdiv x k
      have : x.tmod k = x - k * x.tdiv k := by omega
      rw [this, Int.sub_mul_emod_self_left]
    rw [← this]
    have := Int.lt_tmod_of_pos x hk
    exact Int.emod_eq_of_lt (by omega) (by omega)
  · rename_i h
    have : (x.tmod k) % k = x % k := by
      have h3 := Int.tmod_add_mul_tdiv x k
      have : x.tmod k = x - k * x.tdiv k := by omega
      rw [this, Int.sub_mul_emod_self_left]
    rw [← this]
    have := Int.tmod_lt_of_pos x hk
    exact Int.emod_eq_of_lt (by omega) (by omega)
theorem pick_run (hS : S 6 = []) (x k : Int) (hk : 0 < k) (hk2 : k < 1000000) : callw Tryd.prog TT S 6 [.int .i64 x, .int .i64 k] m = some (.int .i64 (x % k), m) := by
  have hx := Int.emod_nonneg x (by omega : k ≠ 0)
  have hx2 := Int.emod_lt_of_pos x hk
  have hk0 : k ≠ 0 := by omega
  have hw : IntKind.i64.wrap (x % k) = x % k := wrap_i64 (by omega) (by omega)
  have e := emod_tmod x k hk
  refine fn_eq 5 [9] k6 hS rfl ?_
  by_cases h : x.tmod k < 0
  · rw [if_pos h] at e
    rw [e] at hw ⊢
    simp [-BitVec.toNat_or, -BitVec.toNat_ofInt, -BitVec.toNat_and, id, hk0, h, hw]
  · rw [if_neg h] at e
    rw [e]
    simp [-BitVec.toNat_or, -BitVec.toNat_ofInt, -BitVec.toNat_and, id, hk0, h]

theorem i64_wf {x : Int} (h : -9223372036854775808 ≤ x ∧ x ≤ 9223372036854775807) : (Lit.int .i64 x).wf = true := by
  simp only [Lit.wf, Bool.and_eq_true, decide_eq_true_eq]
  have e1 : IntKind.i64.min = -9223372036854775808 := by decide
  have e2 : IntKind.i64.max = 9223372036854775807 := by decide
  omega
/-- the names that the law's types bear -/
def nmsL : List (List UInt8) := [[80], [81], [82], [83], [120], [121], [109], []]
def nmsC : List Value := nmsL.map fun l => .string ⟨l.toArray⟩
def nmsAt (k : Nat) : List UInt8 := nmsL.getD k []
theorem nmsAt_len (k : Nat) : (nmsAt k).length ≤ 1 := by
  unfold nmsAt
  have h : ∀ l ∈ nmsL, l.length ≤ 1 := by decide
  rw [List.getD_eq_getElem?_getD]
  cases hk : nmsL[k]? with
  | none => simp
  | some l => exact h l (List.mem_of_getElem? hk)
theorem nms_load {e : TypeId} (hg : Rdo m 0 nmsC e 0) (k : Nat) (hk : k < 8) : loadRow m ⟨0, k, none⟩ 1 = some [.string ⟨(nmsAt k).toArray⟩] := by
  have hl : nmsC.length = 8 := by rfl
  have h1 := hg.load (off := k) 1 (by omega)
  rw [h1]
  have hw : nmsL.length = 8 := by rfl
  have hk2 : k < nmsL.length := by omega
  unfold nmsAt
  rw [List.getD_eq_getElem?_getD, List.getElem?_eq_getElem hk2]
  simp only [window, nmsC, ← List.map_drop, ← List.map_take]
  rw [List.drop_eq_getElem_cons hk2]
  rfl
theorem raw_cells {x : RawT.D} {c : List Value} (h : At m RawT x c) (hw : RawT.wf x) : ∃ (kd el nm bad : Int) (fs : List Int) (ms : List (List Int)) (fo mo : Option Addr) (mcss : List (List Value)) (ff mf : Nat), c = [.int .i64 kd, .int .i64 el, .int .i64 nm, .slice fo fs.length fs.length, .slice mo ms.length ms.length, .int .i64 bad] ∧ (Lit.int .i64 el).wf = true ∧
    fs.length ≤ 9223372036854775807 ∧ Rs m fo fs.length (fs.map (Value.int .i64)) 3 1 ff ∧ ms.length ≤ 9223372036854775807 ∧ mcss.length = ms.length ∧ (∀ (i : Nat) (d : ((Ty.slice 3 (Ty.int .i64))).D) c, ms[i]? = some d → mcss[i]? = some c → At m (Ty.slice 3 (Ty.int .i64)) d c) ∧ Rs m mo ms.length mcss.flatten 36 1 mf := by
  obtain ⟨_, _, rfl, rfl, _, _, rfl, rfl, _, _, rfl, rfl, _, _, rfl, ⟨fo, fcss, ff, rfl, h2, h3, h4⟩, _, _, rfl, ⟨mo, mcss, mf, rfl, k2, k3, k4⟩, _, _, rfl, rfl, rfl⟩ := h
  rw [ints_cells (e := 3) h2 h3] at h4
  exact ⟨_, _, _, _, _, _, fo, mo, mcss, ff, mf, rfl, hw.2.1, hw.2.2.2.1.1, h4, hw.2.2.2.2.1.1, k2, k3, k4⟩
theorem ints_of {l : List Int} {c : List Value} (h : At m (Ty.slice 3 (Ty.int .i64)) l c) : ∃ ao f, c = [.slice ao l.length l.length] ∧ Rs m ao l.length (l.map (Value.int .i64)) 3 1 f := by
  obtain ⟨ao, css, f, rfl, h2, h3, h4⟩ := h
  rw [ints_cells (e := 3) h2 h3] at h4
  exact ⟨ao, f, rfl, h4⟩
def fcell (x : FieldT.D) : List Value := [.string ⟨x.1.toArray⟩, .int .i64 x.2.1]
def tyC (k : Int) (nm : List UInt8) : List Value := [.int .i64 k, .string ⟨nm.toArray⟩, .int .i64 0, .slice none 0 0, .slice none 0 0]
def baseL : List TypeT.D := [(0, [], 0, [], [], ()), (1, [105, 110, 116], 0, [], [], ()), (2, [98, 111, 111, 108], 0, [], [], ()), (3, [115, 116, 114, 105, 110, 103], 0, [], [], ()), (4, [110, 105, 108], 0, [], [], ())]
def baseC : List (List Value) := [tyC 0 [], tyC 1 [105, 110, 116], tyC 2 [98, 111, 111, 108], tyC 3 [115, 116, 114, 105, 110, 103], tyC 4 [110, 105, 108]]
theorem tyC_at (Q : Nat → Prop) (m : Mem) (k : Int) (nm : List UInt8) : AtQ Q m TypeT (k, nm, 0, [], [], ()) (tyC k nm) :=
  ⟨[_], _, rfl, rfl, [_], _, rfl, rfl, [_], _, rfl, rfl, [_], _, rfl, ⟨none, [], 0, rfl, rfl, by simp, ⟨by simp, Or.inl rfl⟩, by simp⟩, [_], _, rfl, ⟨none, [], 0, rfl, rfl, by simp, ⟨by simp, Or.inl rfl⟩, by simp⟩, rfl⟩
theorem baseC_at (Q : Nat → Prop) (m : Mem) : ∀ (i : Nat) d c, baseL[i]? = some d → baseC[i]? = some c → AtQ Q m TypeT d c := by
  intro i d c hd hc
  match i with
  | 0 => simp [baseL, baseC] at hd hc; subst hd hc; exact tyC_at _ _ _ _
  | 1 => simp [baseL, baseC] at hd hc; subst hd hc; exact tyC_at _ _ _ _
  | 2 => simp [baseL, baseC] at hd hc; subst hd hc; exact tyC_at _ _ _ _
  | 3 => simp [baseL, baseC] at hd hc; subst hd hc; exact tyC_at _ _ _ _
  | 4 => simp [baseL, baseC] at hd hc; subst hd hc; exact tyC_at _ _ _ _
  | i + 5 => simp [baseL] at hd
theorem baseL_wf : ∀ x ∈ baseL, TypeT.wf x := by
  intro x hx
  simp only [baseL, List.mem_cons, List.not_mem_nil, or_false] at hx
  have e : ∀ l : List FieldT.D, l = [] → l.length ≤ 9223372036854775807 ∧ ∀ y ∈ l, FieldT.wf y := by rintro _ rfl; simp
  have g : ∀ l : List MethT.D, l = [] → l.length ≤ 9223372036854775807 ∧ ∀ y ∈ l, MethT.wf y := by rintro _ rfl; simp
  rcases hx with rfl | rfl | rfl | rfl | rfl
  all_goals exact ⟨i64_wf (by simp only; omega), by simp [Ty.wf], i64_wf (by simp only; omega), e _ rfl, g _ rfl, trivial⟩
theorem base_run (hS : S 13 = []) : ∃ v m1, callw Tryd.prog TT S 13 [] m = some (v, m1) ∧ ∃ b, v = .slice (some ⟨b, 0, none⟩) 5 5 ∧ Own m1 b baseC.flatten 25 b ∧ m.next ≤ b ∧ Keeps m m1 [] := by
  refine fn_w 1 [] k13 hS rfl ?_
  simp [-BitVec.toNat_or, -BitVec.toNat_ofInt, -BitVec.toNat_and, build_of bo25, buildSlice_of u27 bs25 rfl]
  exact ⟨Own.new _ _ _, keeps_new _ _ _ _⟩
theorem one_run (hS : S 14 = []) (hP : S 6 = []) {n : Nat} {nb : Nat} (hn : n ≤ 8) (hld : loadRow m ⟨nb, 0, none⟩ 1 = some [.int .i64 n]) (k : Int) : ∃ v m1, callw Tryd.prog TT S 14 [.int .i64 k, .pointer (some ⟨nb, 0, none⟩)] m = some (v, m1) ∧ (∃ x, v = .int .i64 x ∧ (Lit.int .i64 x).wf = true) ∧ m1 = m := by
  refine fn_w 4 [6] k14 hS rfl ?_
  have p1 := fun m' => pick_run (m := m') hP k 40 (by omega) (by omega)
  obtain ⟨k2, hk2⟩ : ∃ k2, IntKind.i64.wrap (k.tdiv 40) = k2 := ⟨_, rfl⟩
  have p2 := fun m' => pick_run (m := m') hP k2 16 (by omega) (by omega)
  have p3 := fun m' => pick_run (m := m') hP k ((n + 3 : Nat) : Int) (by omega) (by omega)
  have w3 : IntKind.i64.wrap (3 + (n : Int)) = ((n + 3 : Nat) : Int) := by rw [wrap_i64 (by omega) (by omega)]; omega
  have w2 : IntKind.i64.wrap (k2 % 16 - 2) = k2 % 16 - 2 := wrap_i64 (by omega) (by omega)
  by_cases h39 : k % 40 = 39
  · rw [h39] at p1
    simp [-Int.natCast_add, -BitVec.toNat_or, -BitVec.toNat_ofInt, -BitVec.toNat_and, build_arr u42 sz3 zo42, load_of ld3, index_arr u42 sz3, part_one ld3, p1, p2, hk2, w2]
    exact i64_wf (by omega)
  · obtain ⟨q, hq⟩ : ∃ q, k % 40 = q := ⟨_, rfl⟩
    rw [hq] at p1 h39
    obtain ⟨j, hj, hj2⟩ : ∃ j : Nat, k % ((n + 3 : Nat) : Int) = j ∧ j < 11 := by
      have h1 := Int.emod_nonneg k (by omega : ((n + 3 : Nat) : Int) ≠ 0)
      have h2 := Int.emod_lt_of_pos k (by omega : 0 < ((n + 3 : Nat) : Int))
      exact ⟨(k % ((n + 3 : Nat) : Int)).toNat, by omega, by omega⟩
    rw [hj] at p3
    obtain ⟨x, hx, hxw⟩ : ∃ x : Int, (∀ h, [Value.int .i64 1, Value.int .i64 2, Value.int .i64 3, Value.int .i64 5, Value.int .i64 6, Value.int .i64 7, Value.int .i64 8, Value.int .i64 9, Value.int .i64 10, Value.int .i64 11, Value.int .i64 12][j]'h = Value.int .i64 x) ∧ (Lit.int .i64 x).wf = true := by
      rcases (by omega : j = 0 ∨ j = 1 ∨ j = 2 ∨ j = 3 ∨ j = 4 ∨ j = 5 ∨ j = 6 ∨ j = 7 ∨ j = 8 ∨ j = 9 ∨ j = 10) with rfl | rfl | rfl | rfl | rfl | rfl | rfl | rfl | rfl | rfl | rfl
      all_goals exact ⟨_, fun _ => rfl, by decide⟩
    have jj : (j : Int) ≤ 9223372036854775807 := by omega
    simp [-Int.natCast_add, -BitVec.toNat_or, -BitVec.toNat_ofInt, -BitVec.toNat_and, build_arr u42 sz3 zo42, load_of ld3, index_arr u42 sz3, part_one ld3, p1, h39, hld, w3, p3, hj2, jj, hx]
    exact hxw
theorem type_at {Q : Nat → Prop} {kd el : Int} {nm : List UInt8} {fO gO : Option Addr} {FL : List FieldT.D} {ML : List MethT.D} {mcs : List (List Value)} {ff gf : Nat} (sF : Rs m fO FL.length (FL.flatMap fcell) 49 2 ff) (qF : FL.length ≠ 0 → Q ff) (hl : mcs.length = ML.length) (hm : ∀ (i : Nat) d c, ML[i]? = some d → mcs[i]? = some c → AtQ Q m MethT d c) (sG : Rs m gO ML.length mcs.flatten 38 4 gf) (qG : ML.length ≠ 0 → Q gf) :
    AtQ Q m TypeT (kd, nm, el, FL, ML, ()) [.int .i64 kd, .string ⟨nm.toArray⟩, .int .i64 el, .slice fO FL.length FL.length, .slice gO ML.length ML.length] := by
  refine ⟨[_], _, rfl, rfl, [_], _, rfl, rfl, [_], _, rfl, rfl, [_], _, rfl, ⟨fO, FL.map fcell, ff, rfl, by simp, ?_, ?_, qF⟩, [_], _, rfl, ⟨gO, mcs, gf, rfl, hl, hm, sG, qG⟩, rfl⟩
  · intro i d c hd hc
    rw [List.getElem?_map, hd] at hc
    simp at hc
    subst hc
    exact ⟨[_], _, rfl, rfl, [_], _, rfl, rfl, rfl⟩
  · rw [← List.flatMap_def]
    exact sF
theorem At_ones : ∀ {t : Ty} {d : t.D} {cs : List Value}, At m t d cs → cs.all one = true
  | .int _, _, _, h => by cases h; rfl
  | .bool, _, _, h => by cases h; rfl
  | .str, _, _, h => by cases h; rfl
  | .slice e t, l, cs, ⟨ao, css, fam, h1, h2, h3, h4⟩ => by rw [h1]; rfl
  | .unit, _, _, h => by cases h; rfl
  | .pair a b, x, cs, ⟨c1, c2, h1, h2, h3⟩ => by rw [h1, List.all_append, At_ones h2, At_ones h3]; rfl
theorem flat_len {Q : Nat → Prop} {t : Ty} : ∀ {L : List t.D} {css : List (List Value)}, css.length = L.length → (∀ (i : Nat) d c, L[i]? = some d → css[i]? = some c → AtQ Q m t d c) → css.flatten.length = L.length * t.size
  | [], [], _, _ => by simp
  | d :: L, c :: css, hl, h => by
    have h0 := (h 0 d c rfl rfl).at_.len
    have ih := flat_len (L := L) (css := css) (by simpa using hl) (fun i d' c' hd hc => h (i + 1) d' c' hd hc)
    rw [List.flatten_cons, List.length_append, h0, ih, List.length_cons, Nat.add_mul]
    omega
  | [], _ :: _, h, _ => by simp at h
  | _ :: _, [], h, _ => by simp at h
theorem meth_set {Q : Nat → Prop} {v : Int} (hv : (Lit.int .i64 v).wf = true) : ∀ {ML : List MethT.D} {mcs : List (List Value)}, mcs.length = ML.length → ML.length ≠ 0 → (∀ (i : Nat) d c, ML[i]? = some d → mcs[i]? = some c → AtQ Q m MethT d c) → (∀ x ∈ ML, MethT.wf x) →
    ∃ (ML' : List MethT.D) (mcs' : List (List Value)), ML'.length = ML.length ∧ mcs'.length = ML'.length ∧ over mcs.flatten 3 [.int .i64 v] = mcs'.flatten ∧ (∀ (i : Nat) d c, ML'[i]? = some d → mcs'[i]? = some c → AtQ Q m MethT d c) ∧ (∀ x ∈ ML', MethT.wf x) := by
  intro ML mcs hl hn hm hw
  match ML, mcs, hl, hn, hm, hw with
  | (nm, ps, rs, fu, u) :: ML, c0 :: mcs, hl, hn, hm, hw =>
    obtain ⟨_, _, rfl, rfl, _, _, rfl, hp, _, _, rfl, rfl, _, _, rfl, rfl, rfl⟩ := hm 0 _ _ rfl rfl
    have hp2 := hp
    obtain ⟨po, pcss, pf, rfl, q1, q2, q3, q4⟩ := hp2
    refine ⟨(nm, ps, rs, v, u) :: ML, [.string ⟨nm.toArray⟩, .slice po ps.length ps.length, .int .i64 rs, .int .i64 v] :: mcs, rfl, hl, by simp [over], ?_, ?_⟩
    · intro i d c hd hc
      cases i with
      | zero =>
        simp only [List.getElem?_cons_zero, Option.some.injEq] at hd hc
        subst hd hc
        exact ⟨[_], _, rfl, rfl, [_], _, rfl, hp, [_], _, rfl, rfl, [_], _, rfl, rfl, rfl⟩
      | succ i => exact hm (i + 1) d c hd hc
    · intro x hx
      rcases List.mem_cons.1 hx with rfl | h
      · obtain ⟨w1, w2, w3, w4, w5⟩ := hw (nm, ps, rs, fu, u) (List.mem_cons_self ..)
        exact ⟨w1, w2, w3, hv, w5⟩
      · exact hw x (List.mem_cons_of_mem _ h)
/-- a row of types, made anew -/
def TypesOf (m m1 : Mem) (v : Value) : Prop := ∃ (bo ob : Nat) (L : List TypeT.D) (css : List (List Value)), v = .slice (some ⟨bo, 0, none⟩) L.length L.length ∧ 5 ≤ L.length ∧ L.length ≤ 13 ∧ (∀ x ∈ L, TypeT.wf x) ∧ css.length = L.length ∧ (∀ (i : Nat) d c, L[i]? = some d → css[i]? = some c → AtQ (fun f => m.next ≤ f) m1 TypeT d c) ∧ Own m1 bo css.flatten 25 ob ∧ m.next ≤ ob ∧ Keeps m m1 []
set_option maxHeartbeats 8000000 in
theorem types_run (hS : S 5 = []) (hB : S 13 = []) (hO : S 14 = []) (hP : S 6 = []) {eg : TypeId} (hg : Rdo m 0 nmsC eg 0) {l : List RawT.D} {ao : Option Addr} {css0 : List (List Value)} {fam0 : Nat} (hwl : ∀ x ∈ l, RawT.wf x) (hcl : css0.length = l.length) (hce : ∀ (i : Nat) d c, l[i]? = some d → css0[i]? = some c → At m RawT d c) (hrs : Rs m ao l.length css0.flatten 46 6 fam0) : ∃ v m1, callw Tryd.prog TT S 5 [.slice ao l.length l.length] m = some (v, m1) ∧ TypesOf m m1 v := by
  obtain ⟨vb, m1, hb, ob, rfl, oO, hob, k1⟩ := base_run (m := m) hB
  refine fn_w 174 [174, 181, 186, 194, 199] k5 hS rfl ?_
  obtain ⟨n, hn, hn8⟩ : ∃ n : Nat, (if 8 < l.length then 8 else l.length) = n ∧ n ≤ 8 := ⟨_, rfl, by split <;> omega⟩
  have hmin : (if (8 : Int) < (l.length : Int) then (8 : Int) else (l.length : Int)) = n := by rw [← hn]; split <;> split <;> omega
  have hnl : n ≤ l.length := by rw [← hn]; split <;> omega
  simp [-Int.natCast_add, -BitVec.toNat_or, -BitVec.toNat_ofInt, -BitVec.toNat_and, len_slice u26, alloc_of zo3, store_of sz3, load_of ld3, index_slice u26 sz46, load_agg ld46, alloc_of zo46, store_of sz46, fieldAddr_of fa46_0, fieldAddr_of fa46_2, indexAddr_arr u47 sz9, load_of ld9, bin_str u9 .add (Or.inl rfl), build_of bo25, alloc_of zo25, store_of sz25, fieldAddr_of fa25_0, fieldAddr_of fa25_1, store_of sz9, fieldAddr_of fa46_1, fieldAddr_of fa25_2, fieldAddr_of fa46_3, load_of ld36, len_slice u36, fieldAddr_of fa25_3, load_of ld22, index_slice u36 sz3, build_of bo49, buildSlice_of u22 bs49 rfl, append_s u22 sz49, store_of sz22, fieldAddr_of fa46_4, load_of ld44, len_slice u44, build_of bo38, alloc_of zo38, store_of sz38, fieldAddr_of fa38_3, index_slice u44 sz36, build_arr u50 sz3 zo50, index_arr u50 sz3, part_one ld3, fieldAddr_of fa38_2, fieldAddr_of fa38_1, buildSlice_of u36 bs3 rfl, append_s u36 sz3, store_of sz36, fieldAddr_of fa25_4, load_of ld23, load_agg ld38, buildSlice_of u23 bs38 rfl, append_s u23 sz38, store_of sz23, fieldAddr_of fa46_5, len_slice u23, index_slice u23 sz38, load_agg ld25, buildSlice_of u27 bs25 rfl, append_s u27 sz25, hb, hmin]
  obtain ⟨oz, kz, nz⟩ := new_own (m := m1) (cs := [Value.int .i64 0]) (e := 3) rfl
  generalize hr2 : storeRow _ _ _ = r2
  obtain ⟨m2, rfl, o2, k2⟩ := store_own hr2 oz (by simp) (by simp [one_int])
  have kk2 : Keeps m1 m2 [] := kz.mono2 k2 (Nat.le_refl _)
  simp only [over, List.take_zero, List.nil_append, List.length_cons, List.length_nil, List.drop_succ_cons, List.drop_zero, List.drop_nil, List.append_nil] at o2
  have K2 := k1.trans kk2
  have oO2 := oO.keep kk2 (by simp)
  obtain ⟨nb, hnb⟩ : ∃ nb, m1.next = nb := ⟨_, rfl⟩
  rw [hnb] at o2
  have hnb2 : m.next ≤ nb := by have := k1.1; omega
  simp [-Int.natCast_add, -BitVec.toNat_or, -BitVec.toNat_ofInt, -BitVec.toNat_and, len_slice u26, alloc_of zo3, store_of sz3, load_of ld3, index_slice u26 sz46, load_agg ld46, alloc_of zo46, store_of sz46, fieldAddr_of fa46_0, fieldAddr_of fa46_2, indexAddr_arr u47 sz9, load_of ld9, bin_str u9 .add (Or.inl rfl), build_of bo25, alloc_of zo25, store_of sz25, fieldAddr_of fa25_0, fieldAddr_of fa25_1, store_of sz9, fieldAddr_of fa46_1, fieldAddr_of fa25_2, fieldAddr_of fa46_3, load_of ld36, len_slice u36, fieldAddr_of fa25_3, load_of ld22, index_slice u36 sz3, build_of bo49, buildSlice_of u22 bs49 rfl, append_s u22 sz49, store_of sz22, fieldAddr_of fa46_4, load_of ld44, len_slice u44, build_of bo38, alloc_of zo38, store_of sz38, fieldAddr_of fa38_3, index_slice u44 sz36, build_arr u50 sz3 zo50, index_arr u50 sz3, part_one ld3, fieldAddr_of fa38_2, fieldAddr_of fa38_1, buildSlice_of u36 bs3 rfl, append_s u36 sz3, store_of sz36, fieldAddr_of fa25_4, load_of ld23, load_agg ld38, buildSlice_of u23 bs38 rfl, append_s u23 sz38, store_of sz23, fieldAddr_of fa46_5, len_slice u23, index_slice u23 sz38, load_agg ld25, buildSlice_of u27 bs25 rfl, append_s u27 sz25, hnb]
  have nbne : nb ≠ ob := by have := oO.lt; have := k1.1; omega
  refine wsem_loop 174 [174, 181, 186, 194, 199] (fun d E mC => ∃ (i bo : Nat) (L : List TypeT.D) (css : List (List Value)), n - i = d ∧ i ≤ n ∧ L.length = 5 + i ∧ (∀ x ∈ L, TypeT.wf x) ∧ css.length = L.length ∧ (∀ (i : Nat) d c, L[i]? = some d → css[i]? = some c → AtQ (fun f => f ≠ ob ∧ m.next ≤ f) mC TypeT d c) ∧ Own mC bo css.flatten 25 ob ∧ Own mC nb [.int .i64 n] 3 nb ∧ Keeps m mC [] ∧
    E = [(0, .slice ao l.length l.length), (3, .slice (some ⟨bo, 0, none⟩) L.length L.length), (4, .pointer (some ⟨nb, 0, none⟩)), (5, .func (.func 14) #[] #[.pointer (some ⟨nb, 0, none⟩)]), (6, .int .i64 i)]) _ ⟨_, ⟨0, ob, baseL, baseC, rfl, by omega, rfl, baseL_wf, rfl, baseC_at _ _, oO2, o2, K2, rfl⟩, ⟨by rfl, by rfl, by rfl, by rfl, by rfl, trivial⟩⟩ ?_
  rintro d E mC ih ⟨i, bo, L, css, hd, hi, hL, hLw, hcss, hat, oC, oN, KC, rfl⟩
  have ln := oN.load1 (off := 0) rfl
  by_cases hlt : i < n
  · have e1 : (i : Int) < n := by omega
    have em : (i : Int) ≤ 9223372036854775807 := by omega
    have hil : i < l.length := by omega
    have wi : IntKind.i64.wrap ((i : Int) + 1) = ((i + 1 : Nat) : Int) := by rw [wrap_i64 (by omega) (by omega)]; omega
    obtain ⟨c, hc, hwin⟩ := At.elem (m := m) hcl hce hil
    obtain ⟨kd, el, nm, bad, fs, ms, fo, mo, mcss, ff, mf, rfl, hel, hfs, hfr, hms, hmcl, hmce, hmr⟩ := raw_cells hc (hwl _ (List.getElem_mem hil))
    obtain ⟨lb, rfl, hlb⟩ := hrs.rdo (by omega)
    have ld := (hlb.keep KC (by simp)).load (off := i * 6) 6 (by rw [← hrs.1]; omega)
    rw [show window css0.flatten (i * 6) 6 = _ from hwin] at ld
    simp [-Int.natCast_add, -w5_7, -BitVec.toNat_or, -BitVec.toNat_ofInt, -BitVec.toNat_and, len_slice u26, alloc_of zo3, store_of sz3, load_of ld3, index_slice u26 sz46, load_agg ld46, alloc_of zo46, store_of sz46, fieldAddr_of fa46_0, fieldAddr_of fa46_2, indexAddr_arr u47 sz9, load_of ld9, bin_str u9 .add (Or.inl rfl), build_of bo25, alloc_of zo25, store_of sz25, fieldAddr_of fa25_0, fieldAddr_of fa25_1, store_of sz9, fieldAddr_of fa46_1, fieldAddr_of fa25_2, fieldAddr_of fa46_3, load_of ld36, len_slice u36, fieldAddr_of fa25_3, load_of ld22, index_slice u36 sz3, build_of bo49, buildSlice_of u22 bs49 rfl, append_s u22 sz49, store_of sz22, fieldAddr_of fa46_4, load_of ld44, len_slice u44, build_of bo38, alloc_of zo38, store_of sz38, fieldAddr_of fa38_3, index_slice u44 sz36, build_arr u50 sz3 zo50, index_arr u50 sz3, part_one ld3, fieldAddr_of fa38_2, fieldAddr_of fa38_1, buildSlice_of u36 bs3 rfl, append_s u36 sz3, store_of sz36, fieldAddr_of fa25_4, load_of ld23, load_agg ld38, buildSlice_of u23 bs38 rfl, append_s u23 sz38, store_of sz23, fieldAddr_of fa46_5, len_slice u23, index_slice u23 sz38, load_agg ld25, buildSlice_of u27 bs25 rfl, append_s u27 sz25, ln, e1, em, hil, ld]
    obtain ⟨oz3, kz3, nz3⟩ := new_own (m := mC) (cs := [Value.int .i64 0, .int .i64 0, .int .i64 0, .slice none 0 0, .slice none 0 0, .int .i64 0]) (e := 46) rfl
    generalize hr3 : storeRow _ _ _ = r3
    obtain ⟨m3, rfl, ox, k3⟩ := store_own hr3 oz3 (by simp) (by simp [one_int, one_slice])
    have kk3 : Keeps mC m3 [] := kz3.mono2 k3 (Nat.le_refl _)
    simp only [over, List.take_zero, List.nil_append, List.length_cons, List.length_nil, List.drop_succ_cons, List.drop_zero, List.drop_nil, List.append_nil] at ox
    obtain ⟨xb, hxb⟩ : ∃ xb, mC.next = xb := ⟨_, rfl⟩
    rw [hxb] at ox
    have K3 := KC.trans kk3
    have lx0 := ox.load1 (off := 0) rfl
    have lx2 := ox.load1 (off := 2) rfl
    have p1 := fun m' => pick_run (m := m') hP kd 3 (by omega) (by omega)
    have p2 := fun m' => pick_run (m := m') hP nm 3 (by omega) (by omega)
    have p3 := fun m' => pick_run (m := m') hP (i : Int) 4 (by omega) (by omega)
    have gK := hg.keep K3 (by simp)
    obtain ⟨q1, hq1, hq1b⟩ : ∃ q : Nat, kd % 3 = q ∧ q < 3 := ⟨(kd % 3).toNat, by omega, by omega⟩
    obtain ⟨q2, hq2, hq2b⟩ : ∃ q : Nat, nm % 3 = q ∧ q < 3 := ⟨(nm % 3).toNat, by omega, by omega⟩
    obtain ⟨q3, hq3, hq3b⟩ : ∃ q : Nat, (i : Int) % 4 = q ∧ q < 4 := ⟨((i : Int) % 4).toNat, by omega, by omega⟩
    rw [hq1] at p1
    rw [hq2] at p2
    rw [hq3] at p3
    have ls1 := nms_load gK q2 (by omega)
    have ls2 := nms_load gK q3 (by omega)
    have hs1 := nmsAt_len q2
    have hs2 := nmsAt_len q3
    have j2 : q2 < 8 ∧ (q2 : Int) ≤ 9223372036854775807 := by omega
    have j3 : q3 < 8 ∧ (q3 : Int) ≤ 9223372036854775807 := by omega
    obtain ⟨kdv, hkdv⟩ : ∃ kdv : Int, 5 + (q1 : Int) = kdv := ⟨_, rfl⟩
    have wk : IntKind.i64.wrap (5 + (q1 : Int)) = kdv := by rw [wrap_i64 (by omega) (by omega)]; exact hkdv
    have hkw : (Lit.int .i64 kdv).wf = true := i64_wf (by omega)
    have z1 : (((nmsAt q2).length + (nmsAt q3).length : Nat) : Int) ≤ 9223372036854775807 := by omega
    obtain ⟨oz4, kz4, nz4⟩ := new_own (m := m3) (cs := [Value.int .i64 0, .string ⟨#[]⟩, .int .i64 0, .slice none 0 0, .slice none 0 0]) (e := 25) rfl
    have gZ := gK.keep kz4 (by simp)
    have oxZ := ox.keep kz4 (by simp)
    have ls1' := nms_load gZ q2 (by omega)
    have ls2' := nms_load gZ q3 (by omega)
    generalize nmsAt q2 = s1 at *
    generalize nmsAt q3 = s2 at *
    have lx0Z := oxZ.load1 (off := 0) rfl
    have lx2Z := oxZ.load1 (off := 2) rfl
    simp [-Int.natCast_add, -w5_8, -BitVec.toNat_or, -BitVec.toNat_ofInt, -BitVec.toNat_and, len_slice u26, alloc_of zo3, store_of sz3, load_of ld3, index_slice u26 sz46, load_agg ld46, alloc_of zo46, store_of sz46, fieldAddr_of fa46_0, fieldAddr_of fa46_2, indexAddr_arr u47 sz9, load_of ld9, bin_str u9 .add (Or.inl rfl), build_of bo25, alloc_of zo25, store_of sz25, fieldAddr_of fa25_0, fieldAddr_of fa25_1, store_of sz9, fieldAddr_of fa46_1, fieldAddr_of fa25_2, fieldAddr_of fa46_3, load_of ld36, len_slice u36, fieldAddr_of fa25_3, load_of ld22, index_slice u36 sz3, build_of bo49, buildSlice_of u22 bs49 rfl, append_s u22 sz49, store_of sz22, fieldAddr_of fa46_4, load_of ld44, len_slice u44, build_of bo38, alloc_of zo38, store_of sz38, fieldAddr_of fa38_3, index_slice u44 sz36, build_arr u50 sz3 zo50, index_arr u50 sz3, part_one ld3, fieldAddr_of fa38_2, fieldAddr_of fa38_1, buildSlice_of u36 bs3 rfl, append_s u36 sz3, store_of sz36, fieldAddr_of fa25_4, load_of ld23, load_agg ld38, buildSlice_of u23 bs38 rfl, append_s u23 sz38, store_of sz23, fieldAddr_of fa46_5, len_slice u23, index_slice u23 sz38, load_agg ld25, buildSlice_of u27 bs25 rfl, append_s u27 sz25, hxb, lx0, lx2, p1, p2, p3, ls1, ls2, j2, j3, wk, z1]
    generalize hr4 : storeRow _ _ _ = r4
    obtain ⟨m4, rfl, ot, k4⟩ := store_own hr4 oz4 (by simp) (by simp [one_int, one_str, one_slice])
    have kk4 : Keeps m3 m4 [] := kz4.mono2 k4 (Nat.le_refl _)
    simp only [over, List.take_zero, List.nil_append, List.length_cons, List.length_nil, List.drop_succ_cons, List.drop_zero, List.drop_nil, List.append_nil] at ot
    obtain ⟨tb, htb⟩ : ∃ tb, m3.next = tb := ⟨_, rfl⟩
    rw [htb] at ot
    have K4 := K3.trans kk4
    simp [-Int.natCast_add, -w5_8, -BitVec.toNat_or, -BitVec.toNat_ofInt, -BitVec.toNat_and, len_slice u26, alloc_of zo3, store_of sz3, load_of ld3, index_slice u26 sz46, load_agg ld46, alloc_of zo46, store_of sz46, fieldAddr_of fa46_0, fieldAddr_of fa46_2, indexAddr_arr u47 sz9, load_of ld9, bin_str u9 .add (Or.inl rfl), build_of bo25, alloc_of zo25, store_of sz25, fieldAddr_of fa25_0, fieldAddr_of fa25_1, store_of sz9, fieldAddr_of fa46_1, fieldAddr_of fa25_2, fieldAddr_of fa46_3, load_of ld36, len_slice u36, fieldAddr_of fa25_3, load_of ld22, index_slice u36 sz3, build_of bo49, buildSlice_of u22 bs49 rfl, append_s u22 sz49, store_of sz22, fieldAddr_of fa46_4, load_of ld44, len_slice u44, build_of bo38, alloc_of zo38, store_of sz38, fieldAddr_of fa38_3, index_slice u44 sz36, build_arr u50 sz3 zo50, index_arr u50 sz3, part_one ld3, fieldAddr_of fa38_2, fieldAddr_of fa38_1, buildSlice_of u36 bs3 rfl, append_s u36 sz3, store_of sz36, fieldAddr_of fa25_4, load_of ld23, load_agg ld38, buildSlice_of u23 bs38 rfl, append_s u23 sz38, store_of sz23, fieldAddr_of fa46_5, len_slice u23, index_slice u23 sz38, load_agg ld25, buildSlice_of u27 bs25 rfl, append_s u27 sz25, hxb, lx0, lx2, p1, p2, p3, ls1, ls2, j2, j3, wk, z1, lx0Z, lx2Z, ls1', ls2', htb]
    have lt0 := ot.load1 (off := 0) rfl
    have oN4 := (oN.keep kk3 (by simp)).keep kk4 (by simp)
    have oC4 := (oC.keep kk3 (by simp)).keep kk4 (by simp)
    have ox4 := ox.keep kk4 (by simp)
    have nt : tb ≠ nb := by have := oN.flt; have := kk3.1; omega
    have xt : xb ≠ tb := by have := ox.lt; omega
    apply cut3_ (fun (mX : Mem) (eX : Int) (nX : List UInt8) => Keeps m4 mX [tb] ∧ Own mX tb [.int .i64 kdv, .string ⟨nX.toArray⟩, .int .i64 eX, .slice none 0 0, .slice none 0 0] 25 tb ∧ (Lit.int .i64 eX).wf = true ∧ nX.length ≤ 2)
    case main =>
     intro meth
     by_cases cq : kdv = 6
     case pos =>
      simp [-Int.natCast_add, -BitVec.toNat_or, -BitVec.toNat_ofInt, -BitVec.toNat_and, len_slice u26, alloc_of zo3, store_of sz3, load_of ld3, index_slice u26 sz46, load_agg ld46, alloc_of zo46, store_of sz46, fieldAddr_of fa46_0, fieldAddr_of fa46_2, indexAddr_arr u47 sz9, load_of ld9, bin_str u9 .add (Or.inl rfl), build_of bo25, alloc_of zo25, store_of sz25, fieldAddr_of fa25_0, fieldAddr_of fa25_1, store_of sz9, fieldAddr_of fa46_1, fieldAddr_of fa25_2, fieldAddr_of fa46_3, load_of ld36, len_slice u36, fieldAddr_of fa25_3, load_of ld22, index_slice u36 sz3, build_of bo49, buildSlice_of u22 bs49 rfl, append_s u22 sz49, store_of sz22, fieldAddr_of fa46_4, load_of ld44, len_slice u44, build_of bo38, alloc_of zo38, store_of sz38, fieldAddr_of fa38_3, index_slice u44 sz36, build_arr u50 sz3 zo50, index_arr u50 sz3, part_one ld3, fieldAddr_of fa38_2, fieldAddr_of fa38_1, buildSlice_of u36 bs3 rfl, append_s u36 sz3, store_of sz36, fieldAddr_of fa25_4, load_of ld23, load_agg ld38, buildSlice_of u23 bs38 rfl, append_s u23 sz38, store_of sz23, fieldAddr_of fa46_5, len_slice u23, index_slice u23 sz38, load_agg ld25, buildSlice_of u27 bs25 rfl, append_s u27 sz25, lt0, cq]
      generalize hr5 : storeRow _ _ _ = r5
      obtain ⟨m41, rfl, ot1, k41⟩ := store_own hr5 ot (by simp) (by simp [one_str])
      simp [-Int.natCast_add, over] at ot1
      have lx1 := (ox4.keep k41 (by simpa using xt)).load1 (off := 1) rfl
      have oN41 := oN4.keep k41 (by simpa using nt.symm)
      obtain ⟨v1, m42, h1, ⟨elX, rfl, helX⟩, rfl⟩ := one_run (m := m41) hO hP hn8 (oN41.load1 (off := 0) rfl) el
      simp [-Int.natCast_add, -BitVec.toNat_or, -BitVec.toNat_ofInt, -BitVec.toNat_and, len_slice u26, alloc_of zo3, store_of sz3, load_of ld3, index_slice u26 sz46, load_agg ld46, alloc_of zo46, store_of sz46, fieldAddr_of fa46_0, fieldAddr_of fa46_2, indexAddr_arr u47 sz9, load_of ld9, bin_str u9 .add (Or.inl rfl), build_of bo25, alloc_of zo25, store_of sz25, fieldAddr_of fa25_0, fieldAddr_of fa25_1, store_of sz9, fieldAddr_of fa46_1, fieldAddr_of fa25_2, fieldAddr_of fa46_3, load_of ld36, len_slice u36, fieldAddr_of fa25_3, load_of ld22, index_slice u36 sz3, build_of bo49, buildSlice_of u22 bs49 rfl, append_s u22 sz49, store_of sz22, fieldAddr_of fa46_4, load_of ld44, len_slice u44, build_of bo38, alloc_of zo38, store_of sz38, fieldAddr_of fa38_3, index_slice u44 sz36, build_arr u50 sz3 zo50, index_arr u50 sz3, part_one ld3, fieldAddr_of fa38_2, fieldAddr_of fa38_1, buildSlice_of u36 bs3 rfl, append_s u36 sz3, store_of sz36, fieldAddr_of fa25_4, load_of ld23, load_agg ld38, buildSlice_of u23 bs38 rfl, append_s u23 sz38, store_of sz23, fieldAddr_of fa46_5, len_slice u23, index_slice u23 sz38, load_agg ld25, buildSlice_of u27 bs25 rfl, append_s u27 sz25, lx1, h1]
      generalize hr6 : storeRow _ _ _ = r6
      obtain ⟨m5, rfl, ot2, k42⟩ := store_own hr6 ot1 (by simp) (by simp [one_int])
      simp [-Int.natCast_add, over] at ot2
      have k45 : Keeps m4 m5 [tb] := k41.trans k42
      simp [-Int.natCast_add, -w5_12, -BitVec.toNat_or, -BitVec.toNat_ofInt, -BitVec.toNat_and, len_slice u26, alloc_of zo3, store_of sz3, load_of ld3, index_slice u26 sz46, load_agg ld46, alloc_of zo46, store_of sz46, fieldAddr_of fa46_0, fieldAddr_of fa46_2, indexAddr_arr u47 sz9, load_of ld9, bin_str u9 .add (Or.inl rfl), build_of bo25, alloc_of zo25, store_of sz25, fieldAddr_of fa25_0, fieldAddr_of fa25_1, store_of sz9, fieldAddr_of fa46_1, fieldAddr_of fa25_2, fieldAddr_of fa46_3, load_of ld36, len_slice u36, fieldAddr_of fa25_3, load_of ld22, index_slice u36 sz3, build_of bo49, buildSlice_of u22 bs49 rfl, append_s u22 sz49, store_of sz22, fieldAddr_of fa46_4, load_of ld44, len_slice u44, build_of bo38, alloc_of zo38, store_of sz38, fieldAddr_of fa38_3, index_slice u44 sz36, build_arr u50 sz3 zo50, index_arr u50 sz3, part_one ld3, fieldAddr_of fa38_2, fieldAddr_of fa38_1, buildSlice_of u36 bs3 rfl, append_s u36 sz3, store_of sz36, fieldAddr_of fa25_4, load_of ld23, load_agg ld38, buildSlice_of u23 bs38 rfl, append_s u23 sz38, store_of sz23, fieldAddr_of fa46_5, len_slice u23, index_slice u23 sz38, load_agg ld25, buildSlice_of u27 bs25 rfl, append_s u27 sz25]
      obtain ⟨nmX, hnmX, hnm2⟩ : ∃ nmX : List UInt8, (⟨#[]⟩ : ByteArray) = ⟨nmX.toArray⟩ ∧ nmX.length ≤ 2 := ⟨[], rfl, by simp⟩
      rw [hnmX] at ot2
      exact wsem_sub (E := [(0, .slice (some ⟨lb, 0, none⟩) l.length l.length), (3, .slice (some ⟨bo, 0, none⟩) L.length L.length), (4, .pointer (some ⟨nb, 0, none⟩)), (5, .func (.func 14) #[] #[.pointer (some ⟨nb, 0, none⟩)]), (6, .int .i64 i), (7, .pointer (some ⟨xb, 0, none⟩)), (8, .pointer (some ⟨tb, 0, none⟩)), (9, .int .i64 (0 : Nat))]) (meth m5 elX nmX ⟨k45, ot2, helX, hnm2⟩) ⟨by rfl, by rfl, by rfl, by rfl, by rfl, by rfl, by rfl, by rfl, trivial⟩
     case neg =>
      simp [-Int.natCast_add, -w5_12, -BitVec.toNat_or, -BitVec.toNat_ofInt, -BitVec.toNat_and, len_slice u26, alloc_of zo3, store_of sz3, load_of ld3, index_slice u26 sz46, load_agg ld46, alloc_of zo46, store_of sz46, fieldAddr_of fa46_0, fieldAddr_of fa46_2, indexAddr_arr u47 sz9, load_of ld9, bin_str u9 .add (Or.inl rfl), build_of bo25, alloc_of zo25, store_of sz25, fieldAddr_of fa25_0, fieldAddr_of fa25_1, store_of sz9, fieldAddr_of fa46_1, fieldAddr_of fa25_2, fieldAddr_of fa46_3, load_of ld36, len_slice u36, fieldAddr_of fa25_3, load_of ld22, index_slice u36 sz3, build_of bo49, buildSlice_of u22 bs49 rfl, append_s u22 sz49, store_of sz22, fieldAddr_of fa46_4, load_of ld44, len_slice u44, build_of bo38, alloc_of zo38, store_of sz38, fieldAddr_of fa38_3, index_slice u44 sz36, build_arr u50 sz3 zo50, index_arr u50 sz3, part_one ld3, fieldAddr_of fa38_2, fieldAddr_of fa38_1, buildSlice_of u36 bs3 rfl, append_s u36 sz3, store_of sz36, fieldAddr_of fa25_4, load_of ld23, load_agg ld38, buildSlice_of u23 bs38 rfl, append_s u23 sz38, store_of sz23, fieldAddr_of fa46_5, len_slice u23, index_slice u23 sz38, load_agg ld25, buildSlice_of u27 bs25 rfl, append_s u27 sz25, lt0, cq]
      obtain ⟨elX, helX0, helX⟩ : ∃ elX : Int, (0 : Int) = elX ∧ (Lit.int .i64 elX).wf = true := ⟨0, rfl, by decide⟩
      obtain ⟨nmX, hnmX, hnm2⟩ : ∃ nmX : List UInt8, s1 ++ s2 = nmX ∧ nmX.length ≤ 2 := ⟨_, rfl, by simp; omega⟩
      obtain ⟨m5, hm5, k45⟩ : ∃ m5, m4 = m5 ∧ Keeps m4 m5 [tb] := ⟨m4, rfl, (keeps_refl _).mono (by simp)⟩
      have ot2 : Own m5 tb [.int .i64 kdv, .string ⟨nmX.toArray⟩, .int .i64 elX, .slice none 0 0, .slice none 0 0] 25 tb := by rw [← helX0, ← hm5, ← hnmX]; exact ot
      rw [hm5]
      exact wsem_sub (E := [(0, .slice (some ⟨lb, 0, none⟩) l.length l.length), (3, .slice (some ⟨bo, 0, none⟩) L.length L.length), (4, .pointer (some ⟨nb, 0, none⟩)), (5, .func (.func 14) #[] #[.pointer (some ⟨nb, 0, none⟩)]), (6, .int .i64 i), (7, .pointer (some ⟨xb, 0, none⟩)), (8, .pointer (some ⟨tb, 0, none⟩)), (9, .int .i64 (0 : Nat))]) (meth m5 elX nmX ⟨k45, ot2, helX, hnm2⟩) ⟨by rfl, by rfl, by rfl, by rfl, by rfl, by rfl, by rfl, by rfl, trivial⟩
    intro m5 elX nmX ⟨k45, ot2, helX, hnm2⟩
    have hxC : mC.next ≤ xb := by omega
    have htC : mC.next ≤ tb := by have := kk3.1; omega
    have KC4 : Keeps mC m4 [] := kk3.trans kk4
    have KC5 : Keeps mC m5 [] := KC4.fresh k45 (by simpa using htC)
    have ox5 := ox4.keep k45 (by simpa using xt)
    have n5 := k45.1
    refine wsem_loop 174 [174, 181, 186, 194, 199] (fun d E mD => ∃ (k : Nat) (FL : List FieldT.D) (fO : Option Addr) (ff : Nat), 4 - k = d ∧ k ≤ 4 ∧ FL.length = k ∧ (∀ x ∈ FL, FieldT.wf x) ∧ Own mD xb [.int .i64 kd, .int .i64 el, .int .i64 nm, .slice fo fs.length fs.length, .slice mo ms.length ms.length, .int .i64 bad] 46 xb ∧ Own mD tb [.int .i64 kdv, .string ⟨nmX.toArray⟩, .int .i64 elX, .slice fO FL.length FL.length, .slice none 0 0] 25 tb ∧ Sl mD fO FL.length (FL.flatMap fcell) 49 2 ff ∧ (fO ≠ none → ff ≠ xb ∧ ff ≠ tb ∧ mC.next ≤ ff ∧ ff < mD.next) ∧ Keeps mC mD [] ∧ tb < mD.next ∧
      E = [(0, .slice (some ⟨lb, 0, none⟩) l.length l.length), (3, .slice (some ⟨bo, 0, none⟩) L.length L.length), (4, .pointer (some ⟨nb, 0, none⟩)), (5, .func (.func 14) #[] #[.pointer (some ⟨nb, 0, none⟩)]), (6, .int .i64 i), (7, .pointer (some ⟨xb, 0, none⟩)), (8, .pointer (some ⟨tb, 0, none⟩)), (9, .int .i64 k)]) _ ⟨_, ⟨0, [], none, m5.next, rfl, by omega, rfl, by simp, ox5, ot2, Sl.nil _ _ _ _, fun h => absurd rfl h, KC5, by have := ot2.lt; omega, rfl⟩, ⟨by rfl, by rfl, by rfl, by rfl, by rfl, by rfl, by rfl, by rfl, trivial⟩⟩ ?_
    rintro d E mD ihF ⟨k, FL, fO, ff, hdk, hk, hFL, hFw, oxD, otD, sF, hff, KD, tD, rfl⟩
    have lx3 := oxD.load1 (off := 3) rfl
    have lt0D := otD.load1 (off := 0) rfl
    by_cases hgo : (k < fs.length ∧ k < 4) ∧ kdv = 5
    · obtain ⟨⟨g1, g2⟩, g3⟩ := hgo
      have i1 : (k : Int) < fs.length := by omega
      have i2 : (k : Int) < 4 := by omega
      have KmD := KC.trans KD
      obtain ⟨fb, rfl, hfb⟩ := (hfr.keep KmD (by simp)).rdo (by omega)
      have lfk : loadRow mD ⟨fb, k, none⟩ 1 = some [.int .i64 fs[k]] := by
        rw [hfb.load (off := k) 1 (by simp; omega)]
        simp only [window, ← List.map_drop, ← List.map_take]
        rw [List.drop_eq_getElem_cons g1]
        rfl
      have kmm : (k : Int) ≤ 9223372036854775807 := by omega
      obtain ⟨fk, hfk⟩ : ∃ z, fs[k] = z := ⟨_, rfl⟩
      rw [hfk] at lfk
      have pa := fun m' => pick_run (m := m') hP fk 2 (by omega) (by omega)
      have pb := fun m' => pick_run (m := m') hP (k : Int) 4 (by omega) (by omega)
      obtain ⟨qa, hqa, hqab⟩ : ∃ q : Nat, fk % 2 = q ∧ q < 2 := ⟨(fk % 2).toNat, by omega, by omega⟩
      obtain ⟨qb, hqb, hqbb⟩ : ∃ q : Nat, (k : Int) % 4 = q ∧ q < 4 := ⟨((k : Int) % 4).toNat, by omega, by omega⟩
      rw [hqa] at pa
      rw [hqb] at pb
      obtain ⟨qa4, hqa4, hqa4b⟩ : ∃ q : Nat, 4 + (qa : Int) = q ∧ q < 8 := ⟨4 + qa, by omega, by omega⟩
      have wa : IntKind.i64.wrap (4 + (qa : Int)) = (qa4 : Int) := by rw [hqa4]; exact wrap_i64 (by omega) (by omega)
      have gD := hg.keep KmD (by simp)
      have ls1 := nms_load gD qa4 (by omega)
      have ls2 := nms_load gD qb (by omega)
      have hs1 := nmsAt_len qa4
      have hs2 := nmsAt_len qb
      have ja : qa4 < 8 ∧ (qa4 : Int) ≤ 9223372036854775807 := by omega
      have jb : qb < 8 ∧ (qb : Int) ≤ 9223372036854775807 := by omega
      have oND := oN.keep KD (by simp)
      obtain ⟨kh, hkh⟩ : ∃ z, IntKind.i64.wrap (fk.tdiv 2) = z := ⟨_, rfl⟩
      obtain ⟨v1, mD', h1, ⟨ty, rfl, hty⟩, rfl⟩ := one_run (m := mD) hO hP hn8 (oND.load1 (off := 0) rfl) kh
      have lt3D := otD.load1 (off := 3) rfl
      have z1' : (((nmsAt qa4).length + (nmsAt qb).length : Nat) : Int) ≤ 9223372036854775807 := by omega
      simp [-Int.natCast_add, -w5_14, -BitVec.toNat_or, -BitVec.toNat_ofInt, -BitVec.toNat_and, len_slice u26, alloc_of zo3, store_of sz3, load_of ld3, index_slice u26 sz46, load_agg ld46, alloc_of zo46, store_of sz46, fieldAddr_of fa46_0, fieldAddr_of fa46_2, indexAddr_arr u47 sz9, load_of ld9, bin_str u9 .add (Or.inl rfl), build_of bo25, alloc_of zo25, store_of sz25, fieldAddr_of fa25_0, fieldAddr_of fa25_1, store_of sz9, fieldAddr_of fa46_1, fieldAddr_of fa25_2, fieldAddr_of fa46_3, load_of ld36, len_slice u36, fieldAddr_of fa25_3, load_of ld22, index_slice u36 sz3, build_of bo49, buildSlice_of u22 bs49 rfl, append_s u22 sz49, store_of sz22, fieldAddr_of fa46_4, load_of ld44, len_slice u44, build_of bo38, alloc_of zo38, store_of sz38, fieldAddr_of fa38_3, index_slice u44 sz36, build_arr u50 sz3 zo50, index_arr u50 sz3, part_one ld3, fieldAddr_of fa38_2, fieldAddr_of fa38_1, buildSlice_of u36 bs3 rfl, append_s u36 sz3, store_of sz36, fieldAddr_of fa25_4, load_of ld23, load_agg ld38, buildSlice_of u23 bs38 rfl, append_s u23 sz38, store_of sz23, fieldAddr_of fa46_5, len_slice u23, index_slice u23 sz38, load_agg ld25, buildSlice_of u27 bs25 rfl, append_s u27 sz25, lx3, lt0D, i1, i2, g1, g2, g3, lfk, kmm, pa, pb, wa, ls1, ls2, ja, jb, hkh, h1, lt3D, z1']
      generalize hra : sappend _ _ _ _ _ _ = ra
      obtain ⟨mA, fb2, ff2, rfl, oF2, kA, hff2, hff3⟩ := app_slz hra u22 ap49 sF (by omega) (by simp) (by simp [one_int, one_str]) (by omega) (by omega)
      have kAs : ∀ f : Nat, (fO ≠ none → ff ≠ f) → f ∉ (if fO = none then [] else [ff]) := by
        intro f h
        split
        · simp
        · rename_i hn
          simpa using (h hn).symm
      have kz : Keeps mD' (mD'.new [.string ⟨(nmsAt qa4 ++ nmsAt qb).toArray⟩, .int .i64 ty] 49) [] := keeps_new _ _ _ _
      have otN := otD.keep kz (by simp)
      have oxN := oxD.keep kz (by simp)
      have lt3N := otN.load1 (off := 3) rfl
      have lx3N := oxN.load1 (off := 3) rfl
      have hfbN := hfb.keep kz (by simp)
      have lfkN : loadRow (mD'.new [.string ⟨(nmsAt qa4 ++ nmsAt qb).toArray⟩, .int .i64 ty] 49) ⟨fb, k, none⟩ 1 = some [.int .i64 fk] := by
        rw [hfbN.load (off := k) 1 (by simp; omega)]
        rw [hfb.load (off := k) 1 (by simp; omega)] at lfk
        exact lfk
      have ls1N := nms_load (gD.keep kz (by simp)) qa4 (by omega)
      have ls2N := nms_load (gD.keep kz (by simp)) qb (by omega)
      have otA := otD.keep kA (kAs tb (fun h => (hff h).2.1))
      have oxA := oxD.keep kA (kAs xb (fun h => (hff h).1))
      have lt3A := otA.load1 (off := 3) rfl
      simp [-Int.natCast_add, -w5_14, -BitVec.toNat_or, -BitVec.toNat_ofInt, -BitVec.toNat_and, len_slice u26, alloc_of zo3, store_of sz3, load_of ld3, index_slice u26 sz46, load_agg ld46, alloc_of zo46, store_of sz46, fieldAddr_of fa46_0, fieldAddr_of fa46_2, indexAddr_arr u47 sz9, load_of ld9, bin_str u9 .add (Or.inl rfl), build_of bo25, alloc_of zo25, store_of sz25, fieldAddr_of fa25_0, fieldAddr_of fa25_1, store_of sz9, fieldAddr_of fa46_1, fieldAddr_of fa25_2, fieldAddr_of fa46_3, load_of ld36, len_slice u36, fieldAddr_of fa25_3, load_of ld22, index_slice u36 sz3, build_of bo49, buildSlice_of u22 bs49 rfl, append_s u22 sz49, store_of sz22, fieldAddr_of fa46_4, load_of ld44, len_slice u44, build_of bo38, alloc_of zo38, store_of sz38, fieldAddr_of fa38_3, index_slice u44 sz36, build_arr u50 sz3 zo50, index_arr u50 sz3, part_one ld3, fieldAddr_of fa38_2, fieldAddr_of fa38_1, buildSlice_of u36 bs3 rfl, append_s u36 sz3, store_of sz36, fieldAddr_of fa25_4, load_of ld23, load_agg ld38, buildSlice_of u23 bs38 rfl, append_s u23 sz38, store_of sz23, fieldAddr_of fa46_5, len_slice u23, index_slice u23 sz38, load_agg ld25, buildSlice_of u27 bs25 rfl, append_s u27 sz25]
      generalize hrb : storeRow _ _ _ = rb
      obtain ⟨mB, rfl, otB, kB⟩ := store_own hrb otA (by simp) (by simp [one_slice])
      simp [-Int.natCast_add, over] at otB
      have oxB := oxA.keep kB (by simpa using xt)
      have tlt := otD.flt
      have xlt := oxD.flt
      have ff2t : ff2 ≠ tb ∧ ff2 ≠ xb ∧ mC.next ≤ ff2 := by
        have n1 := KD.1
        rcases hff2 with ⟨h, h2⟩ | h
        · rw [h2]; exact ⟨(hff h).2.1, (hff h).1, (hff h).2.2.1⟩
        · omega
      have oFB := oF2.keep kB (by simpa using ff2t.1)
      have wk1 : IntKind.i64.wrap ((k : Int) + 1) = ((k + 1 : Nat) : Int) := by rw [wrap_i64 (by omega) (by omega)]; omega
      simp [-Int.natCast_add, -BitVec.toNat_or, -BitVec.toNat_ofInt, -BitVec.toNat_and, len_slice u26, alloc_of zo3, store_of sz3, load_of ld3, index_slice u26 sz46, load_agg ld46, alloc_of zo46, store_of sz46, fieldAddr_of fa46_0, fieldAddr_of fa46_2, indexAddr_arr u47 sz9, load_of ld9, bin_str u9 .add (Or.inl rfl), build_of bo25, alloc_of zo25, store_of sz25, fieldAddr_of fa25_0, fieldAddr_of fa25_1, store_of sz9, fieldAddr_of fa46_1, fieldAddr_of fa25_2, fieldAddr_of fa46_3, load_of ld36, len_slice u36, fieldAddr_of fa25_3, load_of ld22, index_slice u36 sz3, build_of bo49, buildSlice_of u22 bs49 rfl, append_s u22 sz49, store_of sz22, fieldAddr_of fa46_4, load_of ld44, len_slice u44, build_of bo38, alloc_of zo38, store_of sz38, fieldAddr_of fa38_3, index_slice u44 sz36, build_arr u50 sz3 zo50, index_arr u50 sz3, part_one ld3, fieldAddr_of fa38_2, fieldAddr_of fa38_1, buildSlice_of u36 bs3 rfl, append_s u36 sz3, store_of sz36, fieldAddr_of fa25_4, load_of ld23, load_agg ld38, buildSlice_of u23 bs38 rfl, append_s u23 sz38, store_of sz23, fieldAddr_of fa46_5, len_slice u23, index_slice u23 sz38, load_agg ld25, buildSlice_of u27 bs25 rfl, append_s u27 sz25, lx3, lt0D, i1, i2, g1, g2, g3, lfk, kmm, pa, pb, wa, ls1, ls2, ja, jb, hkh, h1, lt3D, z1', lt3N, lx3N, lfkN, lt3A, ls1N, ls2N, wk1]
      have kAB : Keeps mD' mB ((if fO = none then [] else [ff]) ++ [tb]) := (kA.mono (by intro f hf; simp [hf])).trans (kB.mono (by simp))
      have KB : Keeps mC mB [] := KD.fresh kAB (by
        intro f hf
        rcases List.mem_append.1 hf with h | h
        · split at h
          · simp at h
          · rename_i hn
            rw [List.mem_singleton.1 h]; exact (hff hn).2.2.1
        · rw [List.mem_singleton.1 h]; exact htC)
      have hw2 : ∀ x ∈ FL ++ [((nmsAt qa4 ++ nmsAt qb, ty, ()) : FieldT.D)], FieldT.wf x := by
        intro x hx
        rcases List.mem_append.1 hx with h | h
        · exact hFw x h
        · rw [List.mem_singleton.1 h]
          exact ⟨by show (nmsAt qa4 ++ nmsAt qb).length ≤ _; rw [List.length_append]; omega, hty, trivial⟩
      have eL : (FL ++ [((nmsAt qa4 ++ nmsAt qb, ty, ()) : FieldT.D)]).length = FL.length + 1 := by simp
      have eC : (FL ++ [((nmsAt qa4 ++ nmsAt qb, ty, ()) : FieldT.D)]).flatMap fcell = FL.flatMap fcell ++ [.string ⟨(nmsAt qa4 ++ nmsAt qb).toArray⟩, .int .i64 ty] := by simp [List.flatMap_append, fcell]
      refine ihF _ _ _ _ ⟨k + 1, FL ++ [((nmsAt qa4 ++ nmsAt qb, ty, ()) : FieldT.D)], some ⟨fb2, 0, none⟩, ff2, rfl, by omega, by rw [eL, hFL], hw2, oxB, by rw [eL]; exact otB, by rw [eL, eC]; exact Sl.of oFB (by rw [List.length_append, ← sF.1]; simp; omega), fun _ => ⟨ff2t.2.1, ff2t.1, ff2t.2.2, by have := kB.1; omega⟩, KB, by have := kAB.1; omega, rfl⟩ (by omega) ⟨by rfl, by rfl, by rfl, by rfl, by rfl, by rfl, by rfl, by simp [lget], trivial⟩
    · clear ihF
      have lx4 := oxD.load1 (off := 4) rfl
      have hcase : ¬ k < fs.length ∨ (k < fs.length ∧ ¬ k < 4) ∨ (k < fs.length ∧ k < 4 ∧ ¬ kdv = 5) := by
        by_cases a1 : k < fs.length
        · by_cases a2 : k < 4
          · exact Or.inr (Or.inr ⟨a1, a2, fun h => hgo ⟨⟨a1, a2⟩, h⟩⟩)
          · exact Or.inr (Or.inl ⟨a1, a2⟩)
        · exact Or.inl a1
      apply cut_
      case main =>
        rcases hcase with a1 | ⟨a1, a2⟩ | ⟨a1, a2, a3⟩
        · have i1 : ¬ (k : Int) < fs.length := by omega
          intro meth
          simp [-Int.natCast_add, -w5_16, -BitVec.toNat_or, -BitVec.toNat_ofInt, -BitVec.toNat_and, len_slice u26, alloc_of zo3, store_of sz3, load_of ld3, index_slice u26 sz46, load_agg ld46, alloc_of zo46, store_of sz46, fieldAddr_of fa46_0, fieldAddr_of fa46_2, indexAddr_arr u47 sz9, load_of ld9, bin_str u9 .add (Or.inl rfl), build_of bo25, alloc_of zo25, store_of sz25, fieldAddr_of fa25_0, fieldAddr_of fa25_1, store_of sz9, fieldAddr_of fa46_1, fieldAddr_of fa25_2, fieldAddr_of fa46_3, load_of ld36, len_slice u36, fieldAddr_of fa25_3, load_of ld22, index_slice u36 sz3, build_of bo49, buildSlice_of u22 bs49 rfl, append_s u22 sz49, store_of sz22, fieldAddr_of fa46_4, load_of ld44, len_slice u44, build_of bo38, alloc_of zo38, store_of sz38, fieldAddr_of fa38_3, index_slice u44 sz36, build_arr u50 sz3 zo50, index_arr u50 sz3, part_one ld3, fieldAddr_of fa38_2, fieldAddr_of fa38_1, buildSlice_of u36 bs3 rfl, append_s u36 sz3, store_of sz36, fieldAddr_of fa25_4, load_of ld23, load_agg ld38, buildSlice_of u23 bs38 rfl, append_s u23 sz38, store_of sz23, fieldAddr_of fa46_5, len_slice u23, index_slice u23 sz38, load_agg ld25, buildSlice_of u27 bs25 rfl, append_s u27 sz25, lx3, lt0D, i1, a1]
          exact wsem_sub (E := [(0, .slice (some ⟨lb, 0, none⟩) l.length l.length), (3, .slice (some ⟨bo, 0, none⟩) L.length L.length), (4, .pointer (some ⟨nb, 0, none⟩)), (5, .func (.func 14) #[] #[.pointer (some ⟨nb, 0, none⟩)]), (6, .int .i64 i), (7, .pointer (some ⟨xb, 0, none⟩)), (8, .pointer (some ⟨tb, 0, none⟩)), (10, .int .i64 (0 : Nat))]) meth ⟨by rfl, by rfl, by rfl, by rfl, by rfl, by rfl, by rfl, by rfl, trivial⟩
        · have i1 : (k : Int) < fs.length := by omega
          have i2 : ¬ (k : Int) < 4 := by omega
          intro meth
          simp [-Int.natCast_add, -w5_16, -BitVec.toNat_or, -BitVec.toNat_ofInt, -BitVec.toNat_and, len_slice u26, alloc_of zo3, store_of sz3, load_of ld3, index_slice u26 sz46, load_agg ld46, alloc_of zo46, store_of sz46, fieldAddr_of fa46_0, fieldAddr_of fa46_2, indexAddr_arr u47 sz9, load_of ld9, bin_str u9 .add (Or.inl rfl), build_of bo25, alloc_of zo25, store_of sz25, fieldAddr_of fa25_0, fieldAddr_of fa25_1, store_of sz9, fieldAddr_of fa46_1, fieldAddr_of fa25_2, fieldAddr_of fa46_3, load_of ld36, len_slice u36, fieldAddr_of fa25_3, load_of ld22, index_slice u36 sz3, build_of bo49, buildSlice_of u22 bs49 rfl, append_s u22 sz49, store_of sz22, fieldAddr_of fa46_4, load_of ld44, len_slice u44, build_of bo38, alloc_of zo38, store_of sz38, fieldAddr_of fa38_3, index_slice u44 sz36, build_arr u50 sz3 zo50, index_arr u50 sz3, part_one ld3, fieldAddr_of fa38_2, fieldAddr_of fa38_1, buildSlice_of u36 bs3 rfl, append_s u36 sz3, store_of sz36, fieldAddr_of fa25_4, load_of ld23, load_agg ld38, buildSlice_of u23 bs38 rfl, append_s u23 sz38, store_of sz23, fieldAddr_of fa46_5, len_slice u23, index_slice u23 sz38, load_agg ld25, buildSlice_of u27 bs25 rfl, append_s u27 sz25, lx3, lt0D, i1, i2, a1, a2]
          exact wsem_sub (E := [(0, .slice (some ⟨lb, 0, none⟩) l.length l.length), (3, .slice (some ⟨bo, 0, none⟩) L.length L.length), (4, .pointer (some ⟨nb, 0, none⟩)), (5, .func (.func 14) #[] #[.pointer (some ⟨nb, 0, none⟩)]), (6, .int .i64 i), (7, .pointer (some ⟨xb, 0, none⟩)), (8, .pointer (some ⟨tb, 0, none⟩)), (10, .int .i64 (0 : Nat))]) meth ⟨by rfl, by rfl, by rfl, by rfl, by rfl, by rfl, by rfl, by rfl, trivial⟩
        · have i1 : (k : Int) < fs.length := by omega
          have i2 : (k : Int) < 4 := by omega
          intro meth
          simp [-Int.natCast_add, -w5_16, -BitVec.toNat_or, -BitVec.toNat_ofInt, -BitVec.toNat_and, len_slice u26, alloc_of zo3, store_of sz3, load_of ld3, index_slice u26 sz46, load_agg ld46, alloc_of zo46, store_of sz46, fieldAddr_of fa46_0, fieldAddr_of fa46_2, indexAddr_arr u47 sz9, load_of ld9, bin_str u9 .add (Or.inl rfl), build_of bo25, alloc_of zo25, store_of sz25, fieldAddr_of fa25_0, fieldAddr_of fa25_1, store_of sz9, fieldAddr_of fa46_1, fieldAddr_of fa25_2, fieldAddr_of fa46_3, load_of ld36, len_slice u36, fieldAddr_of fa25_3, load_of ld22, index_slice u36 sz3, build_of bo49, buildSlice_of u22 bs49 rfl, append_s u22 sz49, store_of sz22, fieldAddr_of fa46_4, load_of ld44, len_slice u44, build_of bo38, alloc_of zo38, store_of sz38, fieldAddr_of fa38_3, index_slice u44 sz36, build_arr u50 sz3 zo50, index_arr u50 sz3, part_one ld3, fieldAddr_of fa38_2, fieldAddr_of fa38_1, buildSlice_of u36 bs3 rfl, append_s u36 sz3, store_of sz36, fieldAddr_of fa25_4, load_of ld23, load_agg ld38, buildSlice_of u23 bs38 rfl, append_s u23 sz38, store_of sz23, fieldAddr_of fa46_5, len_slice u23, index_slice u23 sz38, load_agg ld25, buildSlice_of u27 bs25 rfl, append_s u27 sz25, lx3, lt0D, i1, i2, a1, a2, a3]
          exact wsem_sub (E := [(0, .slice (some ⟨lb, 0, none⟩) l.length l.length), (3, .slice (some ⟨bo, 0, none⟩) L.length L.length), (4, .pointer (some ⟨nb, 0, none⟩)), (5, .func (.func 14) #[] #[.pointer (some ⟨nb, 0, none⟩)]), (6, .int .i64 i), (7, .pointer (some ⟨xb, 0, none⟩)), (8, .pointer (some ⟨tb, 0, none⟩)), (10, .int .i64 (0 : Nat))]) meth ⟨by rfl, by rfl, by rfl, by rfl, by rfl, by rfl, by rfl, by rfl, trivial⟩
      have hFk : FL.length ≤ 4 := by omega
      clear hdk hgo hcase
      refine wsem_loop 174 [174, 181, 186, 194, 199] (fun d E mE => ∃ (k : Nat) (ML : List MethT.D) (mcs : List (List Value)) (gO : Option Addr) (gf : Nat), 3 - k = d ∧ k ≤ 3 ∧ ML.length = k ∧ (∀ x ∈ ML, MethT.wf x) ∧ mcs.length = ML.length ∧ (∀ (i : Nat) d c, ML[i]? = some d → mcs[i]? = some c → AtQ (fun f => f ≠ gf ∧ f ≠ tb ∧ f ≠ ob ∧ m.next ≤ f) mE MethT d c) ∧
        Own mE xb [.int .i64 kd, .int .i64 el, .int .i64 nm, .slice fo fs.length fs.length, .slice mo ms.length ms.length, .int .i64 bad] 46 xb ∧ Own mE tb [.int .i64 kdv, .string ⟨nmX.toArray⟩, .int .i64 elX, .slice fO FL.length FL.length, .slice gO ML.length ML.length] 25 tb ∧ Sl mE fO FL.length (FL.flatMap fcell) 49 2 ff ∧ Sl mE gO ML.length mcs.flatten 38 4 gf ∧ (fO ≠ none → ff ≠ xb ∧ ff ≠ tb ∧ mC.next ≤ ff ∧ ff < mE.next) ∧ (gO ≠ none → gf ≠ xb ∧ gf ≠ tb ∧ (fO ≠ none → gf ≠ ff) ∧ mC.next ≤ gf ∧ gf < mE.next) ∧ Keeps mC mE [] ∧ tb < mE.next ∧
        E = [(0, .slice (some ⟨lb, 0, none⟩) l.length l.length), (3, .slice (some ⟨bo, 0, none⟩) L.length L.length), (4, .pointer (some ⟨nb, 0, none⟩)), (5, .func (.func 14) #[] #[.pointer (some ⟨nb, 0, none⟩)]), (6, .int .i64 i), (7, .pointer (some ⟨xb, 0, none⟩)), (8, .pointer (some ⟨tb, 0, none⟩)), (10, .int .i64 k)]) _ ⟨_, ⟨0, [], [], none, mD.next + 1, rfl, by omega, rfl, by simp, rfl, by simp, oxD, otD, sF, Sl.nil _ _ _ _, hff, fun h => absurd rfl h, KD, tD, rfl⟩, ⟨by rfl, by rfl, by rfl, by rfl, by rfl, by rfl, by rfl, by rfl, trivial⟩⟩ ?_
      rintro d E mE ihM ⟨k, ML, mcs, gO, gf, hdk, hk, hML, hMw, hmcs, hmat, oxE, otE, sFE, sGE, hffE, hgf, KE, tE, rfl⟩
      have lx4 := oxE.load1 (off := 4) rfl
      have lt0E := otE.load1 (off := 0) rfl
      by_cases hgoM : (k < ms.length ∧ k < 3) ∧ ¬ kdv = 6
      · obtain ⟨⟨g1, g2⟩, g3⟩ := hgoM
        have i1 : (k : Int) < ms.length := by omega
        have i2 : (k : Int) < 3 := by omega
        have kmm : (k : Int) ≤ 9223372036854775807 := by omega
        have pb := fun m' => pick_run (m := m') hP (k : Int) 4 (by omega) (by omega)
        obtain ⟨qb, hqb, hqbb⟩ : ∃ q : Nat, (k : Int) % 4 = q ∧ q < 4 := ⟨((k : Int) % 4).toNat, by omega, by omega⟩
        rw [hqb] at pb
        have KmE := KC.trans KE
        have gE := hg.keep KmE (by simp)
        have ls2 := nms_load gE qb (by omega)
        have hs2 := nmsAt_len qb
        have jb : qb < 8 ∧ (qb : Int) ≤ 9223372036854775807 := by omega
        have z1' : ((1 + (nmsAt qb).length : Nat) : Int) ≤ 9223372036854775807 := by omega
        have z2' : (((nmsAt qb).length + 1 : Nat) : Int) ≤ 9223372036854775807 := by omega
        obtain ⟨oz6, kz6, nz6⟩ := new_own (m := mE) (cs := [Value.string ⟨#[]⟩, .slice none 0 0, .int .i64 0, .int .i64 0]) (e := 38) rfl
        have ls2Z := nms_load (gE.keep kz6 (by simp)) qb (by omega)
        simp [-Int.natCast_add, -w5_18, -BitVec.toNat_or, -BitVec.toNat_ofInt, -BitVec.toNat_and, len_slice u26, alloc_of zo3, store_of sz3, load_of ld3, index_slice u26 sz46, load_agg ld46, alloc_of zo46, store_of sz46, fieldAddr_of fa46_0, fieldAddr_of fa46_2, indexAddr_arr u47 sz9, load_of ld9, bin_str u9 .add (Or.inl rfl), build_of bo25, alloc_of zo25, store_of sz25, fieldAddr_of fa25_0, fieldAddr_of fa25_1, store_of sz9, fieldAddr_of fa46_1, fieldAddr_of fa25_2, fieldAddr_of fa46_3, load_of ld36, len_slice u36, fieldAddr_of fa25_3, load_of ld22, index_slice u36 sz3, build_of bo49, buildSlice_of u22 bs49 rfl, append_s u22 sz49, store_of sz22, fieldAddr_of fa46_4, load_of ld44, len_slice u44, build_of bo38, alloc_of zo38, store_of sz38, fieldAddr_of fa38_3, index_slice u44 sz36, build_arr u50 sz3 zo50, index_arr u50 sz3, part_one ld3, fieldAddr_of fa38_2, fieldAddr_of fa38_1, buildSlice_of u36 bs3 rfl, append_s u36 sz3, store_of sz36, fieldAddr_of fa25_4, load_of ld23, load_agg ld38, buildSlice_of u23 bs38 rfl, append_s u23 sz38, store_of sz23, fieldAddr_of fa46_5, len_slice u23, index_slice u23 sz38, load_agg ld25, buildSlice_of u27 bs25 rfl, append_s u27 sz25, lx4, lt0E, i1, i2, g1, g2, g3, pb, ls2, jb, z1', z2', ls2Z]
        generalize hrm : storeRow _ _ _ = rm
        obtain ⟨mF, rfl, om, kF⟩ := store_own hrm oz6 (by simp) (by simp [one_int, one_str, one_slice])
        have kkF : Keeps mE mF [] := kz6.mono2 kF (Nat.le_refl _)
        simp only [over, List.take_zero, List.nil_append, List.length_cons, List.length_nil, List.drop_succ_cons, List.drop_zero, List.drop_nil, List.append_nil] at om
        obtain ⟨mb, hmb⟩ : ∃ mb, mE.next = mb := ⟨_, rfl⟩
        rw [hmb] at om
        have otF := otE.keep kkF (by simp)
        have oxF := oxE.keep kkF (by simp)
        have lt0F := otF.load1 (off := 0) rfl
        have mt : tb ≠ mb := by omega
        have mx : xb ≠ mb := by have := oxE.flt; omega
        simp [-Int.natCast_add, -w5_18, -BitVec.toNat_or, -BitVec.toNat_ofInt, -BitVec.toNat_and, len_slice u26, alloc_of zo3, store_of sz3, load_of ld3, index_slice u26 sz46, load_agg ld46, alloc_of zo46, store_of sz46, fieldAddr_of fa46_0, fieldAddr_of fa46_2, indexAddr_arr u47 sz9, load_of ld9, bin_str u9 .add (Or.inl rfl), build_of bo25, alloc_of zo25, store_of sz25, fieldAddr_of fa25_0, fieldAddr_of fa25_1, store_of sz9, fieldAddr_of fa46_1, fieldAddr_of fa25_2, fieldAddr_of fa46_3, load_of ld36, len_slice u36, fieldAddr_of fa25_3, load_of ld22, index_slice u36 sz3, build_of bo49, buildSlice_of u22 bs49 rfl, append_s u22 sz49, store_of sz22, fieldAddr_of fa46_4, load_of ld44, len_slice u44, build_of bo38, alloc_of zo38, store_of sz38, fieldAddr_of fa38_3, index_slice u44 sz36, build_arr u50 sz3 zo50, index_arr u50 sz3, part_one ld3, fieldAddr_of fa38_2, fieldAddr_of fa38_1, buildSlice_of u36 bs3 rfl, append_s u36 sz3, store_of sz36, fieldAddr_of fa25_4, load_of ld23, load_agg ld38, buildSlice_of u23 bs38 rfl, append_s u23 sz38, store_of sz23, fieldAddr_of fa46_5, len_slice u23, index_slice u23 sz38, load_agg ld25, buildSlice_of u27 bs25 rfl, append_s u27 sz25, hmb]
        apply cut2_ (fun (mX : Mem) (fX : Int) => Keeps mF mX [mb] ∧ Own mX mb [.string ⟨(109 :: nmsAt qb).toArray⟩, .slice none 0 0, .int .i64 0, .int .i64 fX] 38 mb ∧ (Lit.int .i64 fX).wf = true)
        case main =>
          intro meth
          by_cases cq : kdv = 5
          case pos =>
            simp [-Int.natCast_add, -BitVec.toNat_or, -BitVec.toNat_ofInt, -BitVec.toNat_and, len_slice u26, alloc_of zo3, store_of sz3, load_of ld3, index_slice u26 sz46, load_agg ld46, alloc_of zo46, store_of sz46, fieldAddr_of fa46_0, fieldAddr_of fa46_2, indexAddr_arr u47 sz9, load_of ld9, bin_str u9 .add (Or.inl rfl), build_of bo25, alloc_of zo25, store_of sz25, fieldAddr_of fa25_0, fieldAddr_of fa25_1, store_of sz9, fieldAddr_of fa46_1, fieldAddr_of fa25_2, fieldAddr_of fa46_3, load_of ld36, len_slice u36, fieldAddr_of fa25_3, load_of ld22, index_slice u36 sz3, build_of bo49, buildSlice_of u22 bs49 rfl, append_s u22 sz49, store_of sz22, fieldAddr_of fa46_4, load_of ld44, len_slice u44, build_of bo38, alloc_of zo38, store_of sz38, fieldAddr_of fa38_3, index_slice u44 sz36, build_arr u50 sz3 zo50, index_arr u50 sz3, part_one ld3, fieldAddr_of fa38_2, fieldAddr_of fa38_1, buildSlice_of u36 bs3 rfl, append_s u36 sz3, store_of sz36, fieldAddr_of fa25_4, load_of ld23, load_agg ld38, buildSlice_of u23 bs38 rfl, append_s u23 sz38, store_of sz23, fieldAddr_of fa46_5, len_slice u23, index_slice u23 sz38, load_agg ld25, buildSlice_of u27 bs25 rfl, append_s u27 sz25, lt0F, cq]
            generalize hrn : storeRow _ _ _ = rn
            obtain ⟨mG, rfl, om2, kG⟩ := store_own hrn om (by simp) (by simp [one_int])
            simp [-Int.natCast_add, over] at om2
            simp [-Int.natCast_add, -w5_21, -BitVec.toNat_or, -BitVec.toNat_ofInt, -BitVec.toNat_and, len_slice u26, alloc_of zo3, store_of sz3, load_of ld3, index_slice u26 sz46, load_agg ld46, alloc_of zo46, store_of sz46, fieldAddr_of fa46_0, fieldAddr_of fa46_2, indexAddr_arr u47 sz9, load_of ld9, bin_str u9 .add (Or.inl rfl), build_of bo25, alloc_of zo25, store_of sz25, fieldAddr_of fa25_0, fieldAddr_of fa25_1, store_of sz9, fieldAddr_of fa46_1, fieldAddr_of fa25_2, fieldAddr_of fa46_3, load_of ld36, len_slice u36, fieldAddr_of fa25_3, load_of ld22, index_slice u36 sz3, build_of bo49, buildSlice_of u22 bs49 rfl, append_s u22 sz49, store_of sz22, fieldAddr_of fa46_4, load_of ld44, len_slice u44, build_of bo38, alloc_of zo38, store_of sz38, fieldAddr_of fa38_3, index_slice u44 sz36, build_arr u50 sz3 zo50, index_arr u50 sz3, part_one ld3, fieldAddr_of fa38_2, fieldAddr_of fa38_1, buildSlice_of u36 bs3 rfl, append_s u36 sz3, store_of sz36, fieldAddr_of fa25_4, load_of ld23, load_agg ld38, buildSlice_of u23 bs38 rfl, append_s u23 sz38, store_of sz23, fieldAddr_of fa46_5, len_slice u23, index_slice u23 sz38, load_agg ld25, buildSlice_of u27 bs25 rfl, append_s u27 sz25]
            obtain ⟨fX, hfX, hfw⟩ : ∃ fX : Int, (k : Int) = fX ∧ (Lit.int .i64 fX).wf = true := ⟨k, rfl, i64_wf (by omega)⟩
            rw [hfX] at om2
            exact wsem_sub (E := [(0, .slice (some ⟨lb, 0, none⟩) l.length l.length), (3, .slice (some ⟨bo, 0, none⟩) L.length L.length), (4, .pointer (some ⟨nb, 0, none⟩)), (5, .func (.func 14) #[] #[.pointer (some ⟨nb, 0, none⟩)]), (6, .int .i64 i), (7, .pointer (some ⟨xb, 0, none⟩)), (8, .pointer (some ⟨tb, 0, none⟩)), (10, .int .i64 k), (11, .pointer (some ⟨mb, 0, none⟩)), (12, .int .i64 (0 : Nat))]) (meth mG fX ⟨kG, om2, hfw⟩) ⟨by rfl, by rfl, by rfl, by rfl, by rfl, by rfl, by rfl, by rfl, by rfl, by rfl, trivial⟩
          case neg =>
            simp [-Int.natCast_add, -w5_21, -BitVec.toNat_or, -BitVec.toNat_ofInt, -BitVec.toNat_and, len_slice u26, alloc_of zo3, store_of sz3, load_of ld3, index_slice u26 sz46, load_agg ld46, alloc_of zo46, store_of sz46, fieldAddr_of fa46_0, fieldAddr_of fa46_2, indexAddr_arr u47 sz9, load_of ld9, bin_str u9 .add (Or.inl rfl), build_of bo25, alloc_of zo25, store_of sz25, fieldAddr_of fa25_0, fieldAddr_of fa25_1, store_of sz9, fieldAddr_of fa46_1, fieldAddr_of fa25_2, fieldAddr_of fa46_3, load_of ld36, len_slice u36, fieldAddr_of fa25_3, load_of ld22, index_slice u36 sz3, build_of bo49, buildSlice_of u22 bs49 rfl, append_s u22 sz49, store_of sz22, fieldAddr_of fa46_4, load_of ld44, len_slice u44, build_of bo38, alloc_of zo38, store_of sz38, fieldAddr_of fa38_3, index_slice u44 sz36, build_arr u50 sz3 zo50, index_arr u50 sz3, part_one ld3, fieldAddr_of fa38_2, fieldAddr_of fa38_1, buildSlice_of u36 bs3 rfl, append_s u36 sz3, store_of sz36, fieldAddr_of fa25_4, load_of ld23, load_agg ld38, buildSlice_of u23 bs38 rfl, append_s u23 sz38, store_of sz23, fieldAddr_of fa46_5, len_slice u23, index_slice u23 sz38, load_agg ld25, buildSlice_of u27 bs25 rfl, append_s u27 sz25, lt0F, cq]
            obtain ⟨fX, hfX, hfw⟩ : ∃ fX : Int, (-1 : Int) = fX ∧ (Lit.int .i64 fX).wf = true := ⟨_, rfl, by decide⟩
            obtain ⟨mG, hmG, kG⟩ : ∃ mG, mF = mG ∧ Keeps mF mG [mb] := ⟨mF, rfl, (keeps_refl _).mono (by simp)⟩
            have om2 : Own mG mb [.string ⟨(109 :: nmsAt qb).toArray⟩, .slice none 0 0, .int .i64 0, .int .i64 fX] 38 mb := by rw [← hfX, ← hmG]; exact om
            rw [hmG]
            exact wsem_sub (E := [(0, .slice (some ⟨lb, 0, none⟩) l.length l.length), (3, .slice (some ⟨bo, 0, none⟩) L.length L.length), (4, .pointer (some ⟨nb, 0, none⟩)), (5, .func (.func 14) #[] #[.pointer (some ⟨nb, 0, none⟩)]), (6, .int .i64 i), (7, .pointer (some ⟨xb, 0, none⟩)), (8, .pointer (some ⟨tb, 0, none⟩)), (10, .int .i64 k), (11, .pointer (some ⟨mb, 0, none⟩)), (12, .int .i64 (0 : Nat))]) (meth mG fX ⟨kG, om2, hfw⟩) ⟨by rfl, by rfl, by rfl, by rfl, by rfl, by rfl, by rfl, by rfl, by rfl, by rfl, trivial⟩
        intro mG fX ⟨kG, om2, hfw⟩
        have KEG : Keeps mE mG [] := kkF.fresh kG (by intro f hf; rw [List.mem_singleton.1 hf]; omega)
        obtain ⟨ck, hck, hwk⟩ := At.elem (m := m) hmcl hmce g1
        obtain ⟨qo, qf, rfl, hqr⟩ := ints_of hck
        obtain ⟨qs, hqs⟩ : ∃ qs : List Int, ms[k] = qs := ⟨_, rfl⟩
        rw [hqs] at hqr hwk
        obtain ⟨mlb, rfl, hmlb⟩ := hmr.rdo (by omega)
        have hmlbE := hmlb.keep KmE (by simp)
        have nMG := kG.1
        refine wsem_loop 174 [174, 181, 186, 194, 199] (fun d E mH => ∃ (j : Nat) (PL : List Int) (res : Int) (pO : Option Addr) (pf : Nat), 3 - j = d ∧ j ≤ 3 ∧ PL.length ≤ j ∧ (∀ x ∈ PL, (Lit.int .i64 x).wf = true) ∧ (Lit.int .i64 res).wf = true ∧ Own mH mb [.string ⟨(109 :: nmsAt qb).toArray⟩, .slice pO PL.length PL.length, .int .i64 res, .int .i64 fX] 38 mb ∧ Sl mH pO PL.length (PL.map (Value.int .i64)) 3 1 pf ∧ (pO ≠ none → pf ≠ mb ∧ mE.next ≤ pf ∧ pf < mH.next) ∧ Keeps mE mH [] ∧
          E = [(0, .slice (some ⟨lb, 0, none⟩) l.length l.length), (3, .slice (some ⟨bo, 0, none⟩) L.length L.length), (4, .pointer (some ⟨nb, 0, none⟩)), (5, .func (.func 14) #[] #[.pointer (some ⟨nb, 0, none⟩)]), (6, .int .i64 i), (7, .pointer (some ⟨xb, 0, none⟩)), (8, .pointer (some ⟨tb, 0, none⟩)), (10, .int .i64 k), (11, .pointer (some ⟨mb, 0, none⟩)), (12, .int .i64 j)]) _ ⟨_, ⟨0, [], 0, none, 0, rfl, by omega, by simp, by simp, by decide, om2, Sl.nil _ _ _ _, fun h => absurd rfl h, KEG, rfl⟩, ⟨by rfl, by rfl, by rfl, by rfl, by rfl, by rfl, by rfl, by rfl, by rfl, by rfl, trivial⟩⟩ ?_
        rintro d E mH ihP ⟨j, PL, res, pO, pf, hdj, hj, hPL, hPw, hres, omH, sP, hpf, KH, rfl⟩
        have KmH := KmE.trans KH
        have oxH := oxE.keep KH (by simp)
        have lx4H := oxH.load1 (off := 4) rfl
        have lmk : loadRow mH ⟨mlb, k, none⟩ 1 = some [.slice qo qs.length qs.length] := by
          have := (hmlbE.keep KH (by simp)).load (off := k * 1) 1 (by rw [← hmr.1]; omega)
          rw [show window mcss.flatten (k * 1) 1 = _ from hwk] at this
          simpa using this
        by_cases hgoP : j < qs.length ∧ j < 3
        · obtain ⟨h1, h2⟩ := hgoP
          have j1 : (j : Int) < qs.length := by omega
          have j2 : (j : Int) < 3 := by omega
          simp [-Int.natCast_add, -w5_22, -BitVec.toNat_or, -BitVec.toNat_ofInt, -BitVec.toNat_and, len_slice u26, alloc_of zo3, store_of sz3, load_of ld3, index_slice u26 sz46, load_agg ld46, alloc_of zo46, store_of sz46, fieldAddr_of fa46_0, fieldAddr_of fa46_2, indexAddr_arr u47 sz9, load_of ld9, bin_str u9 .add (Or.inl rfl), build_of bo25, alloc_of zo25, store_of sz25, fieldAddr_of fa25_0, fieldAddr_of fa25_1, store_of sz9, fieldAddr_of fa46_1, fieldAddr_of fa25_2, fieldAddr_of fa46_3, load_of ld36, len_slice u36, fieldAddr_of fa25_3, load_of ld22, index_slice u36 sz3, build_of bo49, buildSlice_of u22 bs49 rfl, append_s u22 sz49, store_of sz22, fieldAddr_of fa46_4, load_of ld44, len_slice u44, build_of bo38, alloc_of zo38, store_of sz38, fieldAddr_of fa38_3, index_slice u44 sz36, build_arr u50 sz3 zo50, index_arr u50 sz3, part_one ld3, fieldAddr_of fa38_2, fieldAddr_of fa38_1, buildSlice_of u36 bs3 rfl, append_s u36 sz3, store_of sz36, fieldAddr_of fa25_4, load_of ld23, load_agg ld38, buildSlice_of u23 bs38 rfl, append_s u23 sz38, store_of sz23, fieldAddr_of fa46_5, len_slice u23, index_slice u23 sz38, load_agg ld25, buildSlice_of u27 bs25 rfl, append_s u27 sz25, lx4H, lmk, g1, kmm, j1, j2, h1, h2]
          have jmm : (j : Int) ≤ 9223372036854775807 := by omega
          obtain ⟨qb2, rfl, hqb2⟩ := (hqr.keep KmH (by simp)).rdo (by omega)
          have lqj : loadRow mH ⟨qb2, j, none⟩ 1 = some [.int .i64 qs[j]] := by
            rw [hqb2.load (off := j) 1 (by simp; omega)]
            simp only [window, ← List.map_drop, ← List.map_take]
            rw [List.drop_eq_getElem_cons h1]
            rfl
          obtain ⟨qv, hqv⟩ : ∃ z, qs[j] = z := ⟨_, rfl⟩
          rw [hqv] at lqj
          have wj : IntKind.i64.wrap ((j : Int) + 1) = ((j + 1 : Nat) : Int) := by rw [wrap_i64 (by omega) (by omega)]; omega
          by_cases j0 : j = 0
          · have j0' : (j : Int) = 0 := by omega
            have pq := fun m' => pick_run (m := m') hP qv 2 (by omega) (by omega)
            obtain ⟨z, hz, hz2⟩ : ∃ z : Nat, qv % 2 = z ∧ z < 2 := ⟨(qv % 2).toNat, by omega, by omega⟩
            rw [hz] at pq
            obtain ⟨rx, hrx, hrw⟩ : ∃ rx : Int, (∀ h, [Value.int .i64 0, Value.int .i64 1][z]'h = Value.int .i64 rx) ∧ (Lit.int .i64 rx).wf = true := by
              rcases (by omega : z = 0 ∨ z = 1) with rfl | rfl
              · exact ⟨0, fun _ => rfl, by decide⟩
              · exact ⟨1, fun _ => rfl, by decide⟩
            have zz : (z : Int) ≤ 9223372036854775807 := by omega
            subst j0
            simp [-Int.natCast_add, -w5_25, -BitVec.toNat_or, -BitVec.toNat_ofInt, -BitVec.toNat_and, len_slice u26, alloc_of zo3, store_of sz3, load_of ld3, index_slice u26 sz46, load_agg ld46, alloc_of zo46, store_of sz46, fieldAddr_of fa46_0, fieldAddr_of fa46_2, indexAddr_arr u47 sz9, load_of ld9, bin_str u9 .add (Or.inl rfl), build_of bo25, alloc_of zo25, store_of sz25, fieldAddr_of fa25_0, fieldAddr_of fa25_1, store_of sz9, fieldAddr_of fa46_1, fieldAddr_of fa25_2, fieldAddr_of fa46_3, load_of ld36, len_slice u36, fieldAddr_of fa25_3, load_of ld22, index_slice u36 sz3, build_of bo49, buildSlice_of u22 bs49 rfl, append_s u22 sz49, store_of sz22, fieldAddr_of fa46_4, load_of ld44, len_slice u44, build_of bo38, alloc_of zo38, store_of sz38, fieldAddr_of fa38_3, index_slice u44 sz36, build_arr u50 sz3 zo50, index_arr u50 sz3, part_one ld3, fieldAddr_of fa38_2, fieldAddr_of fa38_1, buildSlice_of u36 bs3 rfl, append_s u36 sz3, store_of sz36, fieldAddr_of fa25_4, load_of ld23, load_agg ld38, buildSlice_of u23 bs38 rfl, append_s u23 sz38, store_of sz23, fieldAddr_of fa46_5, len_slice u23, index_slice u23 sz38, load_agg ld25, buildSlice_of u27 bs25 rfl, append_s u27 sz25, lx4H, lmk, g1, kmm, h1, lqj, pq, zz, hz2, hrx]
            generalize hrp : storeRow _ _ _ = rp
            obtain ⟨mI, rfl, omI, kI⟩ := store_own hrp omH (by simp) (by simp [one_int])
            simp [-Int.natCast_add, over] at omI
            have w1' : IntKind.i64.wrap 1 = 1 := wrap_i64 (by omega) (by omega)
            have KI : Keeps mE mI [] := KH.fresh kI (by intro f hf; rw [List.mem_singleton.1 hf]; omega)
            simp [-Int.natCast_add, -BitVec.toNat_or, -BitVec.toNat_ofInt, -BitVec.toNat_and, len_slice u26, alloc_of zo3, store_of sz3, load_of ld3, index_slice u26 sz46, load_agg ld46, alloc_of zo46, store_of sz46, fieldAddr_of fa46_0, fieldAddr_of fa46_2, indexAddr_arr u47 sz9, load_of ld9, bin_str u9 .add (Or.inl rfl), build_of bo25, alloc_of zo25, store_of sz25, fieldAddr_of fa25_0, fieldAddr_of fa25_1, store_of sz9, fieldAddr_of fa46_1, fieldAddr_of fa25_2, fieldAddr_of fa46_3, load_of ld36, len_slice u36, fieldAddr_of fa25_3, load_of ld22, index_slice u36 sz3, build_of bo49, buildSlice_of u22 bs49 rfl, append_s u22 sz49, store_of sz22, fieldAddr_of fa46_4, load_of ld44, len_slice u44, build_of bo38, alloc_of zo38, store_of sz38, fieldAddr_of fa38_3, index_slice u44 sz36, build_arr u50 sz3 zo50, index_arr u50 sz3, part_one ld3, fieldAddr_of fa38_2, fieldAddr_of fa38_1, buildSlice_of u36 bs3 rfl, append_s u36 sz3, store_of sz36, fieldAddr_of fa25_4, load_of ld23, load_agg ld38, buildSlice_of u23 bs38 rfl, append_s u23 sz38, store_of sz23, fieldAddr_of fa46_5, len_slice u23, index_slice u23 sz38, load_agg ld25, buildSlice_of u27 bs25 rfl, append_s u27 sz25, wj, w1']
            refine ihP _ _ _ _ ⟨1, PL, rx, pO, pf, rfl, by omega, by omega, hPw, hrw, omI, sP.keepz kI (fun h => by simpa using (hpf h).1), fun h => ⟨(hpf h).1, (hpf h).2.1, by have := (hpf h).2.2; have := kI.1; omega⟩, KI, rfl⟩ (by omega) ⟨by rfl, by rfl, by rfl, by rfl, by rfl, by rfl, by rfl, by rfl, by rfl, by simp [lget], trivial⟩
          · have j0' : ¬ (j : Int) = 0 := by omega
            have oNH := (oN.keep KE (by simp)).keep KH (by simp)
            obtain ⟨v1, mH', h3, ⟨ty, rfl, hty⟩, rfl⟩ := one_run (m := mH) hO hP hn8 (oNH.load1 (off := 0) rfl) qv
            have lm1 := omH.load1 (off := 1) rfl
            simp [-Int.natCast_add, -w5_25, -BitVec.toNat_or, -BitVec.toNat_ofInt, -BitVec.toNat_and, len_slice u26, alloc_of zo3, store_of sz3, load_of ld3, index_slice u26 sz46, load_agg ld46, alloc_of zo46, store_of sz46, fieldAddr_of fa46_0, fieldAddr_of fa46_2, indexAddr_arr u47 sz9, load_of ld9, bin_str u9 .add (Or.inl rfl), build_of bo25, alloc_of zo25, store_of sz25, fieldAddr_of fa25_0, fieldAddr_of fa25_1, store_of sz9, fieldAddr_of fa46_1, fieldAddr_of fa25_2, fieldAddr_of fa46_3, load_of ld36, len_slice u36, fieldAddr_of fa25_3, load_of ld22, index_slice u36 sz3, build_of bo49, buildSlice_of u22 bs49 rfl, append_s u22 sz49, store_of sz22, fieldAddr_of fa46_4, load_of ld44, len_slice u44, build_of bo38, alloc_of zo38, store_of sz38, fieldAddr_of fa38_3, index_slice u44 sz36, build_arr u50 sz3 zo50, index_arr u50 sz3, part_one ld3, fieldAddr_of fa38_2, fieldAddr_of fa38_1, buildSlice_of u36 bs3 rfl, append_s u36 sz3, store_of sz36, fieldAddr_of fa25_4, load_of ld23, load_agg ld38, buildSlice_of u23 bs38 rfl, append_s u23 sz38, store_of sz23, fieldAddr_of fa46_5, len_slice u23, index_slice u23 sz38, load_agg ld25, buildSlice_of u27 bs25 rfl, append_s u27 sz25, lx4H, lmk, g1, kmm, j0, j0', h1, jmm, lqj, h3, lm1]
            generalize hra : sappend _ _ _ _ _ _ = ra
            obtain ⟨mI, pb2, pf2, rfl, oPI, kI, hpf2, hpf3⟩ := app_slz hra u36 ap3 sP (by omega) (by simp) (by simp [one_int]) (by omega) (by omega)
            have kIs : ∀ f : Nat, (pO ≠ none → pf ≠ f) → f ∉ (if pO = none then [] else [pf]) := by
              intro f h
              split
              · simp
              · rename_i hn
                simpa using (h hn).symm
            have kz : Keeps mH' (mH'.new [.int .i64 ty] 3) [] := keeps_new _ _ _ _
            have omN := omH.keep kz (by simp)
            have lm1N := omN.load1 (off := 1) rfl
            have lx4N := (oxH.keep kz (by simp)).load1 (off := 4) rfl
            have lmkN : loadRow (mH'.new [.int .i64 ty] 3) ⟨mlb, k, none⟩ 1 = some [.slice (some ⟨qb2, 0, none⟩) qs.length qs.length] := by
              have := ((hmlbE.keep KH (by simp)).keep kz (by simp)).load (off := k * 1) 1 (by rw [← hmr.1]; omega)
              rw [show window mcss.flatten (k * 1) 1 = _ from hwk] at this
              simpa using this
            have lqjN : loadRow (mH'.new [.int .i64 ty] 3) ⟨qb2, j, none⟩ 1 = some [.int .i64 qv] := by
              rw [(hqb2.keep kz (by simp)).load (off := j) 1 (by simp; omega)]
              rw [hqb2.load (off := j) 1 (by simp; omega)] at lqj
              exact lqj
            have omI := omH.keep kI (kIs mb (fun h => (hpf h).1))
            have lm1I := omI.load1 (off := 1) rfl
            simp [-Int.natCast_add, -w5_25, -BitVec.toNat_or, -BitVec.toNat_ofInt, -BitVec.toNat_and, len_slice u26, alloc_of zo3, store_of sz3, load_of ld3, index_slice u26 sz46, load_agg ld46, alloc_of zo46, store_of sz46, fieldAddr_of fa46_0, fieldAddr_of fa46_2, indexAddr_arr u47 sz9, load_of ld9, bin_str u9 .add (Or.inl rfl), build_of bo25, alloc_of zo25, store_of sz25, fieldAddr_of fa25_0, fieldAddr_of fa25_1, store_of sz9, fieldAddr_of fa46_1, fieldAddr_of fa25_2, fieldAddr_of fa46_3, load_of ld36, len_slice u36, fieldAddr_of fa25_3, load_of ld22, index_slice u36 sz3, build_of bo49, buildSlice_of u22 bs49 rfl, append_s u22 sz49, store_of sz22, fieldAddr_of fa46_4, load_of ld44, len_slice u44, build_of bo38, alloc_of zo38, store_of sz38, fieldAddr_of fa38_3, index_slice u44 sz36, build_arr u50 sz3 zo50, index_arr u50 sz3, part_one ld3, fieldAddr_of fa38_2, fieldAddr_of fa38_1, buildSlice_of u36 bs3 rfl, append_s u36 sz3, store_of sz36, fieldAddr_of fa25_4, load_of ld23, load_agg ld38, buildSlice_of u23 bs38 rfl, append_s u23 sz38, store_of sz23, fieldAddr_of fa46_5, len_slice u23, index_slice u23 sz38, load_agg ld25, buildSlice_of u27 bs25 rfl, append_s u27 sz25]
            generalize hrb : storeRow _ _ _ = rb
            obtain ⟨mJ, rfl, omJ, kJ⟩ := store_own hrb omI (by simp) (by simp [one_slice])
            simp [-Int.natCast_add, over] at omJ
            have hpf2' : pf2 ≠ mb ∧ mE.next ≤ pf2 := by
              have n1 := KH.1
              have n2 := omH.flt
              rcases hpf2 with ⟨h, h2⟩ | h
              · rw [h2]; exact ⟨(hpf h).1, (hpf h).2.1⟩
              · omega
            have oPJ := oPI.keep kJ (by simpa using hpf2'.1)
            have kIJ : Keeps mH' mJ ((if pO = none then [] else [pf]) ++ [mb]) := (kI.mono (by intro f hf; simp [hf])).trans (kJ.mono (by simp))
            have KJ : Keeps mE mJ [] := KH.fresh kIJ (by
              intro f hf
              rcases List.mem_append.1 hf with h | h
              · split at h
                · simp at h
                · rename_i hn
                  rw [List.mem_singleton.1 h]; exact (hpf hn).2.1
              · rw [List.mem_singleton.1 h]; omega)
            have eL : (PL ++ [ty]).length = PL.length + 1 := by simp
            have hPw2 : ∀ x ∈ PL ++ [ty], (Lit.int .i64 x).wf = true := by
              intro x hx
              rcases List.mem_append.1 hx with h | h
              · exact hPw x h
              · rw [List.mem_singleton.1 h]; exact hty
            simp [-Int.natCast_add, -BitVec.toNat_or, -BitVec.toNat_ofInt, -BitVec.toNat_and, len_slice u26, alloc_of zo3, store_of sz3, load_of ld3, index_slice u26 sz46, load_agg ld46, alloc_of zo46, store_of sz46, fieldAddr_of fa46_0, fieldAddr_of fa46_2, indexAddr_arr u47 sz9, load_of ld9, bin_str u9 .add (Or.inl rfl), build_of bo25, alloc_of zo25, store_of sz25, fieldAddr_of fa25_0, fieldAddr_of fa25_1, store_of sz9, fieldAddr_of fa46_1, fieldAddr_of fa25_2, fieldAddr_of fa46_3, load_of ld36, len_slice u36, fieldAddr_of fa25_3, load_of ld22, index_slice u36 sz3, build_of bo49, buildSlice_of u22 bs49 rfl, append_s u22 sz49, store_of sz22, fieldAddr_of fa46_4, load_of ld44, len_slice u44, build_of bo38, alloc_of zo38, store_of sz38, fieldAddr_of fa38_3, index_slice u44 sz36, build_arr u50 sz3 zo50, index_arr u50 sz3, part_one ld3, fieldAddr_of fa38_2, fieldAddr_of fa38_1, buildSlice_of u36 bs3 rfl, append_s u36 sz3, store_of sz36, fieldAddr_of fa25_4, load_of ld23, load_agg ld38, buildSlice_of u23 bs38 rfl, append_s u23 sz38, store_of sz23, fieldAddr_of fa46_5, len_slice u23, index_slice u23 sz38, load_agg ld25, buildSlice_of u27 bs25 rfl, append_s u27 sz25, lx4H, lmk, g1, kmm, j0, j0', h1, jmm, lqj, h3, lm1, lm1N, lx4N, lmkN, lqjN, lm1I, wj]
            refine ihP _ _ _ _ ⟨j + 1, PL ++ [ty], res, some ⟨pb2, 0, none⟩, pf2, rfl, by omega, by rw [eL]; omega, hPw2, hres, by rw [eL]; exact omJ, by rw [eL, List.map_append]; exact Sl.of oPJ (by simp), fun _ => ⟨hpf2'.1, hpf2'.2, by have := kJ.1; omega⟩, KJ, rfl⟩ (by omega) ⟨by rfl, by rfl, by rfl, by rfl, by rfl, by rfl, by rfl, by rfl, by rfl, by simp [lget], trivial⟩
        · clear ihP
          have lm4 := omH.load (off := 0) 4 (by simp)
          simp [window] at lm4
          have otH := otE.keep KH (by simp)
          have lt4H := otH.load1 (off := 4) rfl
          have wk1 : IntKind.i64.wrap ((k : Int) + 1) = ((k + 1 : Nat) : Int) := by rw [wrap_i64 (by omega) (by omega)]; omega
          have hcase : ¬ j < qs.length ∨ (j < qs.length ∧ ¬ j < 3) := by
            by_cases a1 : j < qs.length
            · exact Or.inr ⟨a1, fun h => hgoP ⟨a1, h⟩⟩
            · exact Or.inl a1
          rcases hcase with a1 | ⟨a1, a2⟩
          case' inl =>
            have j1 : ¬ (j : Int) < qs.length := by omega
            simp [-Int.natCast_add, -w5_27, -BitVec.toNat_or, -BitVec.toNat_ofInt, -BitVec.toNat_and, len_slice u26, alloc_of zo3, store_of sz3, load_of ld3, index_slice u26 sz46, load_agg ld46, alloc_of zo46, store_of sz46, fieldAddr_of fa46_0, fieldAddr_of fa46_2, indexAddr_arr u47 sz9, load_of ld9, bin_str u9 .add (Or.inl rfl), build_of bo25, alloc_of zo25, store_of sz25, fieldAddr_of fa25_0, fieldAddr_of fa25_1, store_of sz9, fieldAddr_of fa46_1, fieldAddr_of fa25_2, fieldAddr_of fa46_3, load_of ld36, len_slice u36, fieldAddr_of fa25_3, load_of ld22, index_slice u36 sz3, build_of bo49, buildSlice_of u22 bs49 rfl, append_s u22 sz49, store_of sz22, fieldAddr_of fa46_4, load_of ld44, len_slice u44, build_of bo38, alloc_of zo38, store_of sz38, fieldAddr_of fa38_3, index_slice u44 sz36, build_arr u50 sz3 zo50, index_arr u50 sz3, part_one ld3, fieldAddr_of fa38_2, fieldAddr_of fa38_1, buildSlice_of u36 bs3 rfl, append_s u36 sz3, store_of sz36, fieldAddr_of fa25_4, load_of ld23, load_agg ld38, buildSlice_of u23 bs38 rfl, append_s u23 sz38, store_of sz23, fieldAddr_of fa46_5, len_slice u23, index_slice u23 sz38, load_agg ld25, buildSlice_of u27 bs25 rfl, append_s u27 sz25, lx4H, lmk, g1, kmm, j1, a1, lm4, lt4H]
          case' inr =>
            have j1 : (j : Int) < qs.length := by omega
            have j2 : ¬ (j : Int) < 3 := by omega
            simp [-Int.natCast_add, -w5_27, -BitVec.toNat_or, -BitVec.toNat_ofInt, -BitVec.toNat_and, len_slice u26, alloc_of zo3, store_of sz3, load_of ld3, index_slice u26 sz46, load_agg ld46, alloc_of zo46, store_of sz46, fieldAddr_of fa46_0, fieldAddr_of fa46_2, indexAddr_arr u47 sz9, load_of ld9, bin_str u9 .add (Or.inl rfl), build_of bo25, alloc_of zo25, store_of sz25, fieldAddr_of fa25_0, fieldAddr_of fa25_1, store_of sz9, fieldAddr_of fa46_1, fieldAddr_of fa25_2, fieldAddr_of fa46_3, load_of ld36, len_slice u36, fieldAddr_of fa25_3, load_of ld22, index_slice u36 sz3, build_of bo49, buildSlice_of u22 bs49 rfl, append_s u22 sz49, store_of sz22, fieldAddr_of fa46_4, load_of ld44, len_slice u44, build_of bo38, alloc_of zo38, store_of sz38, fieldAddr_of fa38_3, index_slice u44 sz36, build_arr u50 sz3 zo50, index_arr u50 sz3, part_one ld3, fieldAddr_of fa38_2, fieldAddr_of fa38_1, buildSlice_of u36 bs3 rfl, append_s u36 sz3, store_of sz36, fieldAddr_of fa25_4, load_of ld23, load_agg ld38, buildSlice_of u23 bs38 rfl, append_s u23 sz38, store_of sz23, fieldAddr_of fa46_5, len_slice u23, index_slice u23 sz38, load_agg ld25, buildSlice_of u27 bs25 rfl, append_s u27 sz25, lx4H, lmk, g1, kmm, j1, j2, a1, a2, lm4, lt4H]
          all_goals
            generalize hra : sappend _ _ _ _ _ _ = ra
            obtain ⟨mI, gb2, gf2, rfl, oGI, kI, hgf2, hgf3⟩ := app_slz hra u23 ap38 (sGE.keepz KH (by simp)) (by omega) (by simp) (by simp [one_int, one_str, one_slice]) (by omega) (by omega)
            have kIs : ∀ f : Nat, (gO ≠ none → gf ≠ f) → f ∉ (if gO = none then [] else [gf]) := by
              intro f h
              split
              · simp
              · rename_i hn
                simpa using (h hn).symm
            have otI := otH.keep kI (kIs tb (fun h => (hgf h).2.1))
            have oxI := oxH.keep kI (kIs xb (fun h => (hgf h).1))
            have sFI := (sFE.keepz KH (by simp)).keepz kI (fun hf => kIs ff (fun h => (hgf h).2.2.1 hf))
            simp [-Int.natCast_add, -w5_27, -BitVec.toNat_or, -BitVec.toNat_ofInt, -BitVec.toNat_and, len_slice u26, alloc_of zo3, store_of sz3, load_of ld3, index_slice u26 sz46, load_agg ld46, alloc_of zo46, store_of sz46, fieldAddr_of fa46_0, fieldAddr_of fa46_2, indexAddr_arr u47 sz9, load_of ld9, bin_str u9 .add (Or.inl rfl), build_of bo25, alloc_of zo25, store_of sz25, fieldAddr_of fa25_0, fieldAddr_of fa25_1, store_of sz9, fieldAddr_of fa46_1, fieldAddr_of fa25_2, fieldAddr_of fa46_3, load_of ld36, len_slice u36, fieldAddr_of fa25_3, load_of ld22, index_slice u36 sz3, build_of bo49, buildSlice_of u22 bs49 rfl, append_s u22 sz49, store_of sz22, fieldAddr_of fa46_4, load_of ld44, len_slice u44, build_of bo38, alloc_of zo38, store_of sz38, fieldAddr_of fa38_3, index_slice u44 sz36, build_arr u50 sz3 zo50, index_arr u50 sz3, part_one ld3, fieldAddr_of fa38_2, fieldAddr_of fa38_1, buildSlice_of u36 bs3 rfl, append_s u36 sz3, store_of sz36, fieldAddr_of fa25_4, load_of ld23, load_agg ld38, buildSlice_of u23 bs38 rfl, append_s u23 sz38, store_of sz23, fieldAddr_of fa46_5, len_slice u23, index_slice u23 sz38, load_agg ld25, buildSlice_of u27 bs25 rfl, append_s u27 sz25]
            generalize hrb : storeRow _ _ _ = rb
            obtain ⟨mJ, rfl, otJ, kJ⟩ := store_own hrb otI (by simp) (by simp [one_slice])
            simp [-Int.natCast_add, over] at otJ
            have n1 := KH.1
            have n2 := KE.1
            have hgf2' : gf2 ≠ tb ∧ gf2 ≠ xb ∧ (fO ≠ none → gf2 ≠ ff) ∧ mC.next ≤ gf2 := by
              rcases hgf2 with ⟨h, h2⟩ | h
              · rw [h2]; exact ⟨(hgf h).2.1, (hgf h).1, (hgf h).2.2.1, (hgf h).2.2.2.1⟩
              · have := oxE.flt
                exact ⟨by omega, by omega, fun hf => by have := (hffE hf).2.2.2; omega, by omega⟩
            have oGJ := oGI.keep kJ (by simpa using hgf2'.1)
            simp [-Int.natCast_add, -BitVec.toNat_or, -BitVec.toNat_ofInt, -BitVec.toNat_and, len_slice u26, alloc_of zo3, store_of sz3, load_of ld3, index_slice u26 sz46, load_agg ld46, alloc_of zo46, store_of sz46, fieldAddr_of fa46_0, fieldAddr_of fa46_2, indexAddr_arr u47 sz9, load_of ld9, bin_str u9 .add (Or.inl rfl), build_of bo25, alloc_of zo25, store_of sz25, fieldAddr_of fa25_0, fieldAddr_of fa25_1, store_of sz9, fieldAddr_of fa46_1, fieldAddr_of fa25_2, fieldAddr_of fa46_3, load_of ld36, len_slice u36, fieldAddr_of fa25_3, load_of ld22, index_slice u36 sz3, build_of bo49, buildSlice_of u22 bs49 rfl, append_s u22 sz49, store_of sz22, fieldAddr_of fa46_4, load_of ld44, len_slice u44, build_of bo38, alloc_of zo38, store_of sz38, fieldAddr_of fa38_3, index_slice u44 sz36, build_arr u50 sz3 zo50, index_arr u50 sz3, part_one ld3, fieldAddr_of fa38_2, fieldAddr_of fa38_1, buildSlice_of u36 bs3 rfl, append_s u36 sz3, store_of sz36, fieldAddr_of fa25_4, load_of ld23, load_agg ld38, buildSlice_of u23 bs38 rfl, append_s u23 sz38, store_of sz23, fieldAddr_of fa46_5, len_slice u23, index_slice u23 sz38, load_agg ld25, buildSlice_of u27 bs25 rfl, append_s u27 sz25, wk1]
            have kIJ : Keeps mH mJ ((if gO = none then [] else [gf]) ++ [tb]) := (kI.mono (by intro f hf; simp [hf])).trans (kJ.mono (by simp))
            have KHJ : Keeps mC mJ [] := (KE.trans KH).fresh kIJ (by
              intro f hf
              rcases List.mem_append.1 hf with h | h
              · split at h
                · simp at h
                · rename_i hn
                  rw [List.mem_singleton.1 h]; exact (hgf hn).2.2.2.1
              · rw [List.mem_singleton.1 h]; exact htC)
            have eL : (ML ++ [((109 :: nmsAt qb, PL, res, fX, ()) : MethT.D)]).length = ML.length + 1 := by simp
            have eM : (mcs ++ [[Value.string ⟨(109 :: nmsAt qb).toArray⟩, .slice pO PL.length PL.length, .int .i64 res, .int .i64 fX]]).flatten = mcs.flatten ++ [Value.string ⟨(109 :: nmsAt qb).toArray⟩, .slice pO PL.length PL.length, .int .i64 res, .int .i64 fX] := by simp
            have hMw2 : ∀ x ∈ ML ++ [((109 :: nmsAt qb, PL, res, fX, ()) : MethT.D)], MethT.wf x := by
              intro x hx
              rcases List.mem_append.1 hx with h | h
              · exact hMw x h
              · rw [List.mem_singleton.1 h]
                exact ⟨by show (109 :: nmsAt qb).length ≤ _; rw [List.length_cons]; omega, ⟨by show PL.length ≤ _; omega, hPw⟩, hres, hfw, trivial⟩
            have kEJ : Keeps mE mJ ((if gO = none then [] else [gf]) ++ [tb]) := (KH.mono (by simp)).trans kIJ
            have gsome : ML.length ≠ 0 → gO ≠ none := fun h0 => by obtain ⟨b, h, _⟩ := sGE.own h0; rw [h]; simp
            have psome : PL.length ≠ 0 → pO ≠ none := fun h0 => by obtain ⟨b, h, _⟩ := sP.own h0; rw [h]; simp
            have obC := oC.flt
            have sPJ := sP.keepz kIJ (fun hp h => by
              obtain ⟨q1, q2, q3⟩ := hpf hp
              rcases List.mem_append.1 h with h | h
              · split at h
                · simp at h
                · rename_i hn
                  have := List.mem_singleton.1 h
                  have := (hgf hn).2.2.2.2
                  omega
              · have := List.mem_singleton.1 h
                omega)
            have newAt : AtQ (fun f => f ≠ gf2 ∧ f ≠ tb ∧ f ≠ ob ∧ m.next ≤ f) mJ MethT (109 :: nmsAt qb, PL, res, fX, ()) [Value.string ⟨(109 :: nmsAt qb).toArray⟩, .slice pO PL.length PL.length, .int .i64 res, .int .i64 fX] := by
              refine ⟨[_], _, rfl, rfl, [_], _, rfl, ⟨pO, PL.map (fun x => [Value.int .i64 x]), pf, rfl, by simp, ?_, ?_, ?_⟩, [_], _, rfl, rfl, [_], _, rfl, rfl, rfl⟩
              · intro i d c hd hc
                rw [List.getElem?_map, hd] at hc
                simp at hc
                exact hc.symm
              · rw [← List.flatMap_def, ← List.map_eq_flatMap]
                exact sPJ.rs
              · intro h0
                obtain ⟨q1, q2, q3⟩ := hpf (psome h0)
                refine ⟨?_, by omega, by omega, by have := KmE.1; omega⟩
                rcases hgf2 with ⟨h, h2⟩ | h
                · rw [h2]; have := (hgf h).2.2.2.2; omega
                · omega
            have hmat2 : ∀ (i : Nat) d c, (ML ++ [((109 :: nmsAt qb, PL, res, fX, ()) : MethT.D)])[i]? = some d → (mcs ++ [[Value.string ⟨(109 :: nmsAt qb).toArray⟩, .slice pO PL.length PL.length, .int .i64 res, .int .i64 fX]])[i]? = some c → AtQ (fun f => f ≠ gf2 ∧ f ≠ tb ∧ f ≠ ob ∧ m.next ≤ f) mJ MethT d c := by
              intro i d c hd hc
              rw [List.getElem?_append] at hd hc
              rw [hmcs] at hc
              split at hd
              · rename_i hi
                rw [if_pos hi] at hc
                have g0 := gsome (by omega)
                have e2 := hgf3.2 g0
                rw [e2]
                refine (hmat i d c hd hc).keep kEJ ?_
                intro f hf
                rw [if_neg g0] at hf
                simp at hf
                rcases hf with rfl | rfl
                · exact fun h => h.1 rfl
                · exact fun h => h.2.1 rfl
              · rename_i hi
                rw [if_neg hi] at hc
                have : i - ML.length = 0 := by
                  have := (List.getElem?_eq_some_iff.1 hc).1
                  simp at this
                  omega
                rw [this] at hd hc
                simp at hd hc
                subst hd hc
                exact newAt
            refine ihM _ _ _ _ ⟨k + 1, ML ++ [((109 :: nmsAt qb, PL, res, fX, ()) : MethT.D)], mcs ++ [[Value.string ⟨(109 :: nmsAt qb).toArray⟩, .slice pO PL.length PL.length, .int .i64 res, .int .i64 fX]], some ⟨gb2, 0, none⟩, gf2, rfl, by omega, by rw [eL, hML], hMw2, by simp [hmcs], hmat2, oxI.keep kJ (by simpa using xt), by rw [eL]; exact otJ, sFI.keepz kJ (fun hf => by simpa using (hffE hf).2.1), by rw [eL, eM]; exact Sl.of oGJ (by rw [List.length_append, ← sGE.1]; simp; omega), fun hf => ⟨(hffE hf).1, (hffE hf).2.1, (hffE hf).2.2.1, by have := (hffE hf).2.2.2; have := kIJ.1; omega⟩, fun _ => ⟨hgf2'.2.1, hgf2'.1, hgf2'.2.2.1, hgf2'.2.2.2, by have := kJ.1; have := hgf3.1; omega⟩, KHJ, by have := kIJ.1; omega, rfl⟩ (by omega) ⟨by rfl, by rfl, by rfl, by rfl, by rfl, by rfl, by rfl, by simp [lget], trivial⟩
      · clear ihM
        have lx5 := oxE.load1 (off := 5) rfl
        have pbad := fun m' => pick_run (m := m') hP bad 30 (by omega) (by omega)
        obtain ⟨qz, hqz, hqzb⟩ : ∃ q : Nat, bad % 30 = q ∧ q < 30 := ⟨(bad % 30).toNat, by omega, by omega⟩
        rw [hqz] at pbad
        have hcase : ¬ k < ms.length ∨ (k < ms.length ∧ ¬ k < 3) ∨ (k < ms.length ∧ k < 3 ∧ kdv = 6) := by
          by_cases a1 : k < ms.length
          · by_cases a2 : k < 3
            · exact Or.inr (Or.inr ⟨a1, a2, by by_cases h : kdv = 6; exact h; exact absurd ⟨⟨a1, a2⟩, h⟩ hgoM⟩)
            · exact Or.inr (Or.inl ⟨a1, a2⟩)
          · exact Or.inl a1
        apply cut_
        case main =>
          rcases hcase with a1 | ⟨a1, a2⟩ | ⟨a1, a2, a3⟩
          · have i1 : ¬ (k : Int) < ms.length := by omega
            intro meth
            simp [-Int.natCast_add, -w5_29, -BitVec.toNat_or, -BitVec.toNat_ofInt, -BitVec.toNat_and, len_slice u26, alloc_of zo3, store_of sz3, load_of ld3, index_slice u26 sz46, load_agg ld46, alloc_of zo46, store_of sz46, fieldAddr_of fa46_0, fieldAddr_of fa46_2, indexAddr_arr u47 sz9, load_of ld9, bin_str u9 .add (Or.inl rfl), build_of bo25, alloc_of zo25, store_of sz25, fieldAddr_of fa25_0, fieldAddr_of fa25_1, store_of sz9, fieldAddr_of fa46_1, fieldAddr_of fa25_2, fieldAddr_of fa46_3, load_of ld36, len_slice u36, fieldAddr_of fa25_3, load_of ld22, index_slice u36 sz3, build_of bo49, buildSlice_of u22 bs49 rfl, append_s u22 sz49, store_of sz22, fieldAddr_of fa46_4, load_of ld44, len_slice u44, build_of bo38, alloc_of zo38, store_of sz38, fieldAddr_of fa38_3, index_slice u44 sz36, build_arr u50 sz3 zo50, index_arr u50 sz3, part_one ld3, fieldAddr_of fa38_2, fieldAddr_of fa38_1, buildSlice_of u36 bs3 rfl, append_s u36 sz3, store_of sz36, fieldAddr_of fa25_4, load_of ld23, load_agg ld38, buildSlice_of u23 bs38 rfl, append_s u23 sz38, store_of sz23, fieldAddr_of fa46_5, len_slice u23, index_slice u23 sz38, load_agg ld25, buildSlice_of u27 bs25 rfl, append_s u27 sz25, lx4, lt0E, i1, a1, lx5, pbad]
            exact w_sub (E := [(0, .slice (some ⟨lb, 0, none⟩) l.length l.length), (3, .slice (some ⟨bo, 0, none⟩) L.length L.length), (4, .pointer (some ⟨nb, 0, none⟩)), (5, .func (.func 14) #[] #[.pointer (some ⟨nb, 0, none⟩)]), (6, .int .i64 i), (7, .pointer (some ⟨xb, 0, none⟩)), (8, .pointer (some ⟨tb, 0, none⟩)), (173, .int .i64 qz)]) meth ⟨by rfl, by rfl, by rfl, by rfl, by rfl, by rfl, by rfl, by rfl, trivial⟩
          · have i1 : (k : Int) < ms.length := by omega
            have i2 : ¬ (k : Int) < 3 := by omega
            intro meth
            simp [-Int.natCast_add, -w5_29, -BitVec.toNat_or, -BitVec.toNat_ofInt, -BitVec.toNat_and, len_slice u26, alloc_of zo3, store_of sz3, load_of ld3, index_slice u26 sz46, load_agg ld46, alloc_of zo46, store_of sz46, fieldAddr_of fa46_0, fieldAddr_of fa46_2, indexAddr_arr u47 sz9, load_of ld9, bin_str u9 .add (Or.inl rfl), build_of bo25, alloc_of zo25, store_of sz25, fieldAddr_of fa25_0, fieldAddr_of fa25_1, store_of sz9, fieldAddr_of fa46_1, fieldAddr_of fa25_2, fieldAddr_of fa46_3, load_of ld36, len_slice u36, fieldAddr_of fa25_3, load_of ld22, index_slice u36 sz3, build_of bo49, buildSlice_of u22 bs49 rfl, append_s u22 sz49, store_of sz22, fieldAddr_of fa46_4, load_of ld44, len_slice u44, build_of bo38, alloc_of zo38, store_of sz38, fieldAddr_of fa38_3, index_slice u44 sz36, build_arr u50 sz3 zo50, index_arr u50 sz3, part_one ld3, fieldAddr_of fa38_2, fieldAddr_of fa38_1, buildSlice_of u36 bs3 rfl, append_s u36 sz3, store_of sz36, fieldAddr_of fa25_4, load_of ld23, load_agg ld38, buildSlice_of u23 bs38 rfl, append_s u23 sz38, store_of sz23, fieldAddr_of fa46_5, len_slice u23, index_slice u23 sz38, load_agg ld25, buildSlice_of u27 bs25 rfl, append_s u27 sz25, lx4, lt0E, i1, i2, a1, a2, lx5, pbad]
            exact w_sub (E := [(0, .slice (some ⟨lb, 0, none⟩) l.length l.length), (3, .slice (some ⟨bo, 0, none⟩) L.length L.length), (4, .pointer (some ⟨nb, 0, none⟩)), (5, .func (.func 14) #[] #[.pointer (some ⟨nb, 0, none⟩)]), (6, .int .i64 i), (7, .pointer (some ⟨xb, 0, none⟩)), (8, .pointer (some ⟨tb, 0, none⟩)), (173, .int .i64 qz)]) meth ⟨by rfl, by rfl, by rfl, by rfl, by rfl, by rfl, by rfl, by rfl, trivial⟩
          · have i1 : (k : Int) < ms.length := by omega
            have i2 : (k : Int) < 3 := by omega
            intro meth
            simp [-Int.natCast_add, -w5_29, -BitVec.toNat_or, -BitVec.toNat_ofInt, -BitVec.toNat_and, len_slice u26, alloc_of zo3, store_of sz3, load_of ld3, index_slice u26 sz46, load_agg ld46, alloc_of zo46, store_of sz46, fieldAddr_of fa46_0, fieldAddr_of fa46_2, indexAddr_arr u47 sz9, load_of ld9, bin_str u9 .add (Or.inl rfl), build_of bo25, alloc_of zo25, store_of sz25, fieldAddr_of fa25_0, fieldAddr_of fa25_1, store_of sz9, fieldAddr_of fa46_1, fieldAddr_of fa25_2, fieldAddr_of fa46_3, load_of ld36, len_slice u36, fieldAddr_of fa25_3, load_of ld22, index_slice u36 sz3, build_of bo49, buildSlice_of u22 bs49 rfl, append_s u22 sz49, store_of sz22, fieldAddr_of fa46_4, load_of ld44, len_slice u44, build_of bo38, alloc_of zo38, store_of sz38, fieldAddr_of fa38_3, index_slice u44 sz36, build_arr u50 sz3 zo50, index_arr u50 sz3, part_one ld3, fieldAddr_of fa38_2, fieldAddr_of fa38_1, buildSlice_of u36 bs3 rfl, append_s u36 sz3, store_of sz36, fieldAddr_of fa25_4, load_of ld23, load_agg ld38, buildSlice_of u23 bs38 rfl, append_s u23 sz38, store_of sz23, fieldAddr_of fa46_5, len_slice u23, index_slice u23 sz38, load_agg ld25, buildSlice_of u27 bs25 rfl, append_s u27 sz25, lx4, lt0E, i1, i2, a1, a2, a3, lx5, pbad]
            exact w_sub (E := [(0, .slice (some ⟨lb, 0, none⟩) l.length l.length), (3, .slice (some ⟨bo, 0, none⟩) L.length L.length), (4, .pointer (some ⟨nb, 0, none⟩)), (5, .func (.func 14) #[] #[.pointer (some ⟨nb, 0, none⟩)]), (6, .int .i64 i), (7, .pointer (some ⟨xb, 0, none⟩)), (8, .pointer (some ⟨tb, 0, none⟩)), (173, .int .i64 qz)]) meth ⟨by rfl, by rfl, by rfl, by rfl, by rfl, by rfl, by rfl, by rfl, trivial⟩
        clear hcase hgoM hdk
        have obC := oC.flt
        have fsome : FL.length ≠ 0 → fO ≠ none := fun h0 => by obtain ⟨b, h, _⟩ := sFE.own h0; rw [h]; simp
        have gsome : ML.length ≠ 0 → gO ≠ none := fun h0 => by obtain ⟨b, h, _⟩ := sGE.own h0; rw [h]; simp
        have qF : FL.length ≠ 0 → ff ≠ ob ∧ m.next ≤ ff := fun h0 => by have := (hffE (fsome h0)).2.2.1; have := KC.1; omega
        have qG : ML.length ≠ 0 → gf ≠ ob ∧ m.next ≤ gf := fun h0 => by have := (hgf (gsome h0)).2.2.2.1; have := KC.1; omega
        have lx1 := oxE.load1 (off := 1) rfl
        apply cut1_ (fun (mX : Mem) => ∃ (D : TypeT.D) (c : List Value), (c.length = 5 ∧ loadRow mX ⟨tb, 0, none⟩ 5 = some c) ∧ AtQ (fun f => f ≠ ob ∧ m.next ≤ f) mX TypeT D c ∧ TypeT.wf D ∧ Keeps mC mX [] ∧ Keeps mE mX (tb :: if gO = none then [] else [gf]))
        case main =>
          -- t's cells, turned or not
          have fin : ∀ (mX : Mem) (kd' el' : Int) (nm' : List UInt8), Own mX tb [.int .i64 kd', .string ⟨nm'.toArray⟩, .int .i64 el', .slice fO FL.length FL.length, .slice gO ML.length ML.length] 25 tb → Keeps mE mX [tb] → (Lit.int .i64 kd').wf = true → (Lit.int .i64 el').wf = true → nm'.length ≤ 100 → (([.int .i64 kd', .string ⟨nm'.toArray⟩, .int .i64 el', .slice fO FL.length FL.length, .slice gO ML.length ML.length] : List Value).length = 5 ∧ loadRow mX ⟨tb, 0, none⟩ 5 = some [.int .i64 kd', .string ⟨nm'.toArray⟩, .int .i64 el', .slice fO FL.length FL.length, .slice gO ML.length ML.length]) ∧ AtQ (fun f => f ≠ ob ∧ m.next ≤ f) mX TypeT (kd', nm', el', FL, ML, ()) [.int .i64 kd', .string ⟨nm'.toArray⟩, .int .i64 el', .slice fO FL.length FL.length, .slice gO ML.length ML.length] ∧ TypeT.wf (kd', nm', el', FL, ML, ()) ∧ Keeps mC mX [] ∧ Keeps mE mX (tb :: if gO = none then [] else [gf]) := by
            intro mX kd' el' nm' o' k' h1 h2 h3
            refine ⟨⟨rfl, by rw [o'.load (off := 0) 5 (by simp)]; simp [window]⟩, type_at (sFE.keepz k' (fun hf => by simpa using (hffE hf).2.1)).rs qF hmcs (fun i d c hd hc => ((hmat i d c hd hc).keep k' (by intro f hf; simp at hf; subst hf; exact fun h => h.2.1 rfl)).mono (fun f h => h.2.2)) (sGE.keepz k' (fun hf => by simpa using (hgf hf).2.1)).rs qG, ?_, KE.fresh k' (by intro f hf; rw [List.mem_singleton.1 hf]; exact htC), k'.mono (by simp)⟩
            exact ⟨h1, by show nm'.length ≤ _; omega, h2, ⟨by show FL.length ≤ _; omega, hFw⟩, ⟨by show ML.length ≤ _; omega, hMw⟩, trivial⟩
          have lel := hel
          have pk := fun (k : Int) (h : 0 < k) (h2 : k < 1000000) m' => pick_run (m := m') hP el k h h2
          by_cases z0 : qz = 0
          · have z0' : (qz : Int) = 0 := by omega
            have p10 := pk 10 (by omega) (by omega)
            obtain ⟨u, hu, hub⟩ : ∃ u : Nat, el % 10 = u ∧ u < 10 := ⟨(el % 10).toNat, by omega, by omega⟩
            rw [hu] at p10
            have wu : IntKind.i64.wrap ((u : Int) - 1) = (u : Int) - 1 := wrap_i64 (by omega) (by omega)
            intro meth
            simp [-Int.natCast_add, -w5_38, -BitVec.toNat_or, -BitVec.toNat_ofInt, -BitVec.toNat_and, len_slice u26, alloc_of zo3, store_of sz3, load_of ld3, index_slice u26 sz46, load_agg ld46, alloc_of zo46, store_of sz46, fieldAddr_of fa46_0, fieldAddr_of fa46_2, indexAddr_arr u47 sz9, load_of ld9, bin_str u9 .add (Or.inl rfl), build_of bo25, alloc_of zo25, store_of sz25, fieldAddr_of fa25_0, fieldAddr_of fa25_1, store_of sz9, fieldAddr_of fa46_1, fieldAddr_of fa25_2, fieldAddr_of fa46_3, load_of ld36, len_slice u36, fieldAddr_of fa25_3, load_of ld22, index_slice u36 sz3, build_of bo49, buildSlice_of u22 bs49 rfl, append_s u22 sz49, store_of sz22, fieldAddr_of fa46_4, load_of ld44, len_slice u44, build_of bo38, alloc_of zo38, store_of sz38, fieldAddr_of fa38_3, index_slice u44 sz36, build_arr u50 sz3 zo50, index_arr u50 sz3, part_one ld3, fieldAddr_of fa38_2, fieldAddr_of fa38_1, buildSlice_of u36 bs3 rfl, append_s u36 sz3, store_of sz36, fieldAddr_of fa25_4, load_of ld23, load_agg ld38, buildSlice_of u23 bs38 rfl, append_s u23 sz38, store_of sz23, fieldAddr_of fa46_5, len_slice u23, index_slice u23 sz38, load_agg ld25, buildSlice_of u27 bs25 rfl, append_s u27 sz25, lx1, p10, wu, z0, z0']
            generalize hrb : storeRow _ _ _ = rb
            obtain ⟨mJ, rfl, otJ, kJ⟩ := store_own hrb otE (by simp) (by simp [one_int])
            simp [-Int.natCast_add, over] at otJ
            simp [-Int.natCast_add, -w5_38, -BitVec.toNat_or, -BitVec.toNat_ofInt, -BitVec.toNat_and, len_slice u26, alloc_of zo3, store_of sz3, load_of ld3, index_slice u26 sz46, load_agg ld46, alloc_of zo46, store_of sz46, fieldAddr_of fa46_0, fieldAddr_of fa46_2, indexAddr_arr u47 sz9, load_of ld9, bin_str u9 .add (Or.inl rfl), build_of bo25, alloc_of zo25, store_of sz25, fieldAddr_of fa25_0, fieldAddr_of fa25_1, store_of sz9, fieldAddr_of fa46_1, fieldAddr_of fa25_2, fieldAddr_of fa46_3, load_of ld36, len_slice u36, fieldAddr_of fa25_3, load_of ld22, index_slice u36 sz3, build_of bo49, buildSlice_of u22 bs49 rfl, append_s u22 sz49, store_of sz22, fieldAddr_of fa46_4, load_of ld44, len_slice u44, build_of bo38, alloc_of zo38, store_of sz38, fieldAddr_of fa38_3, index_slice u44 sz36, build_arr u50 sz3 zo50, index_arr u50 sz3, part_one ld3, fieldAddr_of fa38_2, fieldAddr_of fa38_1, buildSlice_of u36 bs3 rfl, append_s u36 sz3, store_of sz36, fieldAddr_of fa25_4, load_of ld23, load_agg ld38, buildSlice_of u23 bs38 rfl, append_s u23 sz38, store_of sz23, fieldAddr_of fa46_5, len_slice u23, index_slice u23 sz38, load_agg ld25, buildSlice_of u27 bs25 rfl, append_s u27 sz25]
            exact w_sub (E := [(0, .slice (some ⟨lb, 0, none⟩) l.length l.length), (3, .slice (some ⟨bo, 0, none⟩) L.length L.length), (4, .pointer (some ⟨nb, 0, none⟩)), (5, .func (.func 14) #[] #[.pointer (some ⟨nb, 0, none⟩)]), (6, .int .i64 i), (7, .pointer (some ⟨xb, 0, none⟩)), (8, .pointer (some ⟨tb, 0, none⟩))]) (meth mJ ⟨_, _, fin mJ _ _ _ otJ kJ (i64_wf (by omega)) helX (by omega)⟩) ⟨by rfl, by rfl, by rfl, by rfl, by rfl, by rfl, by rfl, trivial⟩
          by_cases z1 : qz = 1
          · have z1' : (qz : Int) = 1 := by omega
            intro meth
            simp [-Int.natCast_add, -w5_38, -BitVec.toNat_or, -BitVec.toNat_ofInt, -BitVec.toNat_and, len_slice u26, alloc_of zo3, store_of sz3, load_of ld3, index_slice u26 sz46, load_agg ld46, alloc_of zo46, store_of sz46, fieldAddr_of fa46_0, fieldAddr_of fa46_2, indexAddr_arr u47 sz9, load_of ld9, bin_str u9 .add (Or.inl rfl), build_of bo25, alloc_of zo25, store_of sz25, fieldAddr_of fa25_0, fieldAddr_of fa25_1, store_of sz9, fieldAddr_of fa46_1, fieldAddr_of fa25_2, fieldAddr_of fa46_3, load_of ld36, len_slice u36, fieldAddr_of fa25_3, load_of ld22, index_slice u36 sz3, build_of bo49, buildSlice_of u22 bs49 rfl, append_s u22 sz49, store_of sz22, fieldAddr_of fa46_4, load_of ld44, len_slice u44, build_of bo38, alloc_of zo38, store_of sz38, fieldAddr_of fa38_3, index_slice u44 sz36, build_arr u50 sz3 zo50, index_arr u50 sz3, part_one ld3, fieldAddr_of fa38_2, fieldAddr_of fa38_1, buildSlice_of u36 bs3 rfl, append_s u36 sz3, store_of sz36, fieldAddr_of fa25_4, load_of ld23, load_agg ld38, buildSlice_of u23 bs38 rfl, append_s u23 sz38, store_of sz23, fieldAddr_of fa46_5, len_slice u23, index_slice u23 sz38, load_agg ld25, buildSlice_of u27 bs25 rfl, append_s u27 sz25, lx1, z1, z1']
            generalize hrb : storeRow _ _ _ = rb
            obtain ⟨mJ, rfl, otJ, kJ⟩ := store_own hrb otE (by simp) (by simp [one_int])
            simp [-Int.natCast_add, over] at otJ
            simp [-Int.natCast_add, -w5_38, -BitVec.toNat_or, -BitVec.toNat_ofInt, -BitVec.toNat_and, len_slice u26, alloc_of zo3, store_of sz3, load_of ld3, index_slice u26 sz46, load_agg ld46, alloc_of zo46, store_of sz46, fieldAddr_of fa46_0, fieldAddr_of fa46_2, indexAddr_arr u47 sz9, load_of ld9, bin_str u9 .add (Or.inl rfl), build_of bo25, alloc_of zo25, store_of sz25, fieldAddr_of fa25_0, fieldAddr_of fa25_1, store_of sz9, fieldAddr_of fa46_1, fieldAddr_of fa25_2, fieldAddr_of fa46_3, load_of ld36, len_slice u36, fieldAddr_of fa25_3, load_of ld22, index_slice u36 sz3, build_of bo49, buildSlice_of u22 bs49 rfl, append_s u22 sz49, store_of sz22, fieldAddr_of fa46_4, load_of ld44, len_slice u44, build_of bo38, alloc_of zo38, store_of sz38, fieldAddr_of fa38_3, index_slice u44 sz36, build_arr u50 sz3 zo50, index_arr u50 sz3, part_one ld3, fieldAddr_of fa38_2, fieldAddr_of fa38_1, buildSlice_of u36 bs3 rfl, append_s u36 sz3, store_of sz36, fieldAddr_of fa25_4, load_of ld23, load_agg ld38, buildSlice_of u23 bs38 rfl, append_s u23 sz38, store_of sz23, fieldAddr_of fa46_5, len_slice u23, index_slice u23 sz38, load_agg ld25, buildSlice_of u27 bs25 rfl, append_s u27 sz25]
            exact w_sub (E := [(0, .slice (some ⟨lb, 0, none⟩) l.length l.length), (3, .slice (some ⟨bo, 0, none⟩) L.length L.length), (4, .pointer (some ⟨nb, 0, none⟩)), (5, .func (.func 14) #[] #[.pointer (some ⟨nb, 0, none⟩)]), (6, .int .i64 i), (7, .pointer (some ⟨xb, 0, none⟩)), (8, .pointer (some ⟨tb, 0, none⟩))]) (meth mJ ⟨_, _, fin mJ _ _ _ otJ kJ (i64_wf (by omega)) hel (by omega)⟩) ⟨by rfl, by rfl, by rfl, by rfl, by rfl, by rfl, by rfl, trivial⟩
          by_cases z2 : qz = 2
          · have z2' : (qz : Int) = 2 := by omega
            have p8 := pk 8 (by omega) (by omega)
            obtain ⟨u, hu, hub⟩ : ∃ u : Nat, el % 8 = u ∧ u < 8 := ⟨(el % 8).toNat, by omega, by omega⟩
            rw [hu] at p8
            have ju : u < 8 ∧ (u : Int) ≤ 9223372036854775807 := by omega
            have lsu := nms_load (hg.keep (KC.trans KE) (by simp)) u (by omega)
            have hsu := nmsAt_len u
            intro meth
            simp [-Int.natCast_add, -w5_38, -BitVec.toNat_or, -BitVec.toNat_ofInt, -BitVec.toNat_and, len_slice u26, alloc_of zo3, store_of sz3, load_of ld3, index_slice u26 sz46, load_agg ld46, alloc_of zo46, store_of sz46, fieldAddr_of fa46_0, fieldAddr_of fa46_2, indexAddr_arr u47 sz9, load_of ld9, bin_str u9 .add (Or.inl rfl), build_of bo25, alloc_of zo25, store_of sz25, fieldAddr_of fa25_0, fieldAddr_of fa25_1, store_of sz9, fieldAddr_of fa46_1, fieldAddr_of fa25_2, fieldAddr_of fa46_3, load_of ld36, len_slice u36, fieldAddr_of fa25_3, load_of ld22, index_slice u36 sz3, build_of bo49, buildSlice_of u22 bs49 rfl, append_s u22 sz49, store_of sz22, fieldAddr_of fa46_4, load_of ld44, len_slice u44, build_of bo38, alloc_of zo38, store_of sz38, fieldAddr_of fa38_3, index_slice u44 sz36, build_arr u50 sz3 zo50, index_arr u50 sz3, part_one ld3, fieldAddr_of fa38_2, fieldAddr_of fa38_1, buildSlice_of u36 bs3 rfl, append_s u36 sz3, store_of sz36, fieldAddr_of fa25_4, load_of ld23, load_agg ld38, buildSlice_of u23 bs38 rfl, append_s u23 sz38, store_of sz23, fieldAddr_of fa46_5, len_slice u23, index_slice u23 sz38, load_agg ld25, buildSlice_of u27 bs25 rfl, append_s u27 sz25, lx1, p8, lsu, ju, z2, z2']
            generalize hrb : storeRow _ _ _ = rb
            obtain ⟨mJ, rfl, otJ, kJ⟩ := store_own hrb otE (by simp) (by simp [one_str])
            simp [-Int.natCast_add, over] at otJ
            simp [-Int.natCast_add, -w5_38, -BitVec.toNat_or, -BitVec.toNat_ofInt, -BitVec.toNat_and, len_slice u26, alloc_of zo3, store_of sz3, load_of ld3, index_slice u26 sz46, load_agg ld46, alloc_of zo46, store_of sz46, fieldAddr_of fa46_0, fieldAddr_of fa46_2, indexAddr_arr u47 sz9, load_of ld9, bin_str u9 .add (Or.inl rfl), build_of bo25, alloc_of zo25, store_of sz25, fieldAddr_of fa25_0, fieldAddr_of fa25_1, store_of sz9, fieldAddr_of fa46_1, fieldAddr_of fa25_2, fieldAddr_of fa46_3, load_of ld36, len_slice u36, fieldAddr_of fa25_3, load_of ld22, index_slice u36 sz3, build_of bo49, buildSlice_of u22 bs49 rfl, append_s u22 sz49, store_of sz22, fieldAddr_of fa46_4, load_of ld44, len_slice u44, build_of bo38, alloc_of zo38, store_of sz38, fieldAddr_of fa38_3, index_slice u44 sz36, build_arr u50 sz3 zo50, index_arr u50 sz3, part_one ld3, fieldAddr_of fa38_2, fieldAddr_of fa38_1, buildSlice_of u36 bs3 rfl, append_s u36 sz3, store_of sz36, fieldAddr_of fa25_4, load_of ld23, load_agg ld38, buildSlice_of u23 bs38 rfl, append_s u23 sz38, store_of sz23, fieldAddr_of fa46_5, len_slice u23, index_slice u23 sz38, load_agg ld25, buildSlice_of u27 bs25 rfl, append_s u27 sz25]
            exact w_sub (E := [(0, .slice (some ⟨lb, 0, none⟩) l.length l.length), (3, .slice (some ⟨bo, 0, none⟩) L.length L.length), (4, .pointer (some ⟨nb, 0, none⟩)), (5, .func (.func 14) #[] #[.pointer (some ⟨nb, 0, none⟩)]), (6, .int .i64 i), (7, .pointer (some ⟨xb, 0, none⟩)), (8, .pointer (some ⟨tb, 0, none⟩))]) (meth mJ ⟨_, _, fin mJ _ _ _ otJ kJ (i64_wf (by omega)) helX (by omega)⟩) ⟨by rfl, by rfl, by rfl, by rfl, by rfl, by rfl, by rfl, trivial⟩
          have z0' : ¬ (qz : Int) = 0 := by omega
          have z1' : ¬ (qz : Int) = 1 := by omega
          have z2' : ¬ (qz : Int) = 2 := by omega
          have lt4 := otE.load1 (off := 4) rfl
          by_cases z3 : qz = 3
          · have z3' : (qz : Int) = 3 := by omega
            by_cases hM0 : ML.length = 0
            · have m0 : (ML.length : Int) = 0 := by omega
              intro meth
              simp [-Int.natCast_add, -w5_38, -BitVec.toNat_or, -BitVec.toNat_ofInt, -BitVec.toNat_and, len_slice u26, alloc_of zo3, store_of sz3, load_of ld3, index_slice u26 sz46, load_agg ld46, alloc_of zo46, store_of sz46, fieldAddr_of fa46_0, fieldAddr_of fa46_2, indexAddr_arr u47 sz9, load_of ld9, bin_str u9 .add (Or.inl rfl), build_of bo25, alloc_of zo25, store_of sz25, fieldAddr_of fa25_0, fieldAddr_of fa25_1, store_of sz9, fieldAddr_of fa46_1, fieldAddr_of fa25_2, fieldAddr_of fa46_3, load_of ld36, len_slice u36, fieldAddr_of fa25_3, load_of ld22, index_slice u36 sz3, build_of bo49, buildSlice_of u22 bs49 rfl, append_s u22 sz49, store_of sz22, fieldAddr_of fa46_4, load_of ld44, len_slice u44, build_of bo38, alloc_of zo38, store_of sz38, fieldAddr_of fa38_3, index_slice u44 sz36, build_arr u50 sz3 zo50, index_arr u50 sz3, part_one ld3, fieldAddr_of fa38_2, fieldAddr_of fa38_1, buildSlice_of u36 bs3 rfl, append_s u36 sz3, store_of sz36, fieldAddr_of fa25_4, load_of ld23, load_agg ld38, buildSlice_of u23 bs38 rfl, append_s u23 sz38, store_of sz23, fieldAddr_of fa46_5, len_slice u23, index_slice u23 sz38, load_agg ld25, buildSlice_of u27 bs25 rfl, append_s u27 sz25, z0', z1', z2', z3', z0, z1, z2, z3, lt4, hM0, m0]
              exact w_sub (E := [(0, .slice (some ⟨lb, 0, none⟩) l.length l.length), (3, .slice (some ⟨bo, 0, none⟩) L.length L.length), (4, .pointer (some ⟨nb, 0, none⟩)), (5, .func (.func 14) #[] #[.pointer (some ⟨nb, 0, none⟩)]), (6, .int .i64 i), (7, .pointer (some ⟨xb, 0, none⟩)), (8, .pointer (some ⟨tb, 0, none⟩))]) (meth mE ⟨_, _, fin mE _ _ _ otE (Keeps.refl _ _) (i64_wf (by omega)) helX (by omega)⟩) ⟨by rfl, by rfl, by rfl, by rfl, by rfl, by rfl, by rfl, trivial⟩
            · have m0 : (0 : Int) < ML.length := by omega
              have m0' : 0 < ML.length := by omega
              obtain ⟨gb, rfl, oG⟩ := sGE.own hM0
              obtain ⟨h1, h2, h3, h4, h5⟩ := hgf (by simp)
              have p3 := pk 3 (by omega) (by omega)
              obtain ⟨u, hu, hub⟩ : ∃ u : Nat, el % 3 = u ∧ u < 3 := ⟨(el % 3).toNat, by omega, by omega⟩
              rw [hu] at p3
              have wu : IntKind.i64.wrap ((u : Int) - 1) = (u : Int) - 1 := wrap_i64 (by omega) (by omega)
              intro meth
              simp [-Int.natCast_add, -w5_38, -BitVec.toNat_or, -BitVec.toNat_ofInt, -BitVec.toNat_and, len_slice u26, alloc_of zo3, store_of sz3, load_of ld3, index_slice u26 sz46, load_agg ld46, alloc_of zo46, store_of sz46, fieldAddr_of fa46_0, fieldAddr_of fa46_2, indexAddr_arr u47 sz9, load_of ld9, bin_str u9 .add (Or.inl rfl), build_of bo25, alloc_of zo25, store_of sz25, fieldAddr_of fa25_0, fieldAddr_of fa25_1, store_of sz9, fieldAddr_of fa46_1, fieldAddr_of fa25_2, fieldAddr_of fa46_3, load_of ld36, len_slice u36, fieldAddr_of fa25_3, load_of ld22, index_slice u36 sz3, build_of bo49, buildSlice_of u22 bs49 rfl, append_s u22 sz49, store_of sz22, fieldAddr_of fa46_4, load_of ld44, len_slice u44, build_of bo38, alloc_of zo38, store_of sz38, fieldAddr_of fa38_3, index_slice u44 sz36, build_arr u50 sz3 zo50, index_arr u50 sz3, part_one ld3, fieldAddr_of fa38_2, fieldAddr_of fa38_1, buildSlice_of u36 bs3 rfl, append_s u36 sz3, store_of sz36, fieldAddr_of fa25_4, load_of ld23, load_agg ld38, buildSlice_of u23 bs38 rfl, append_s u23 sz38, store_of sz23, fieldAddr_of fa46_5, len_slice u23, index_slice u23 sz38, load_agg ld25, buildSlice_of u27 bs25 rfl, append_s u27 sz25, z0', z1', z2', z3', z0, z1, z2, z3, lt4, hM0, m0, m0', lx1, p3, wu]
              generalize hrb : storeRow _ _ _ = rb
              have gl : 4 ≤ mcs.flatten.length := by rw [← sGE.1]; omega
              obtain ⟨mJ, rfl, oJ, kJ⟩ := store_own hrb oG (by simp only [List.length_cons, List.length_nil]; omega) (by simp [one_int])
              have otJ := otE.keep kJ (by simpa using h2.symm)
              have lt4J := otJ.load1 (off := 4) rfl
              have lx1J := (oxE.keep kJ (by simpa using h1.symm)).load1 (off := 1) rfl
              simp [-Int.natCast_add, -w5_38, -BitVec.toNat_or, -BitVec.toNat_ofInt, -BitVec.toNat_and, len_slice u26, alloc_of zo3, store_of sz3, load_of ld3, index_slice u26 sz46, load_agg ld46, alloc_of zo46, store_of sz46, fieldAddr_of fa46_0, fieldAddr_of fa46_2, indexAddr_arr u47 sz9, load_of ld9, bin_str u9 .add (Or.inl rfl), build_of bo25, alloc_of zo25, store_of sz25, fieldAddr_of fa25_0, fieldAddr_of fa25_1, store_of sz9, fieldAddr_of fa46_1, fieldAddr_of fa25_2, fieldAddr_of fa46_3, load_of ld36, len_slice u36, fieldAddr_of fa25_3, load_of ld22, index_slice u36 sz3, build_of bo49, buildSlice_of u22 bs49 rfl, append_s u22 sz49, store_of sz22, fieldAddr_of fa46_4, load_of ld44, len_slice u44, build_of bo38, alloc_of zo38, store_of sz38, fieldAddr_of fa38_3, index_slice u44 sz36, build_arr u50 sz3 zo50, index_arr u50 sz3, part_one ld3, fieldAddr_of fa38_2, fieldAddr_of fa38_1, buildSlice_of u36 bs3 rfl, append_s u36 sz3, store_of sz36, fieldAddr_of fa25_4, load_of ld23, load_agg ld38, buildSlice_of u23 bs38 rfl, append_s u23 sz38, store_of sz23, fieldAddr_of fa46_5, len_slice u23, index_slice u23 sz38, load_agg ld25, buildSlice_of u27 bs25 rfl, append_s u27 sz25, lt4, lx1, p3, wu, lt4J, lx1J, m0, m0']
              obtain ⟨ML', mcs', e1', e2', e3', e4', e5'⟩ := meth_set (v := (u : Int) - 1) (i64_wf (by omega)) hmcs hM0 hmat hMw
              rw [e3'] at oJ
              exact w_sub (E := [(0, .slice (some ⟨lb, 0, none⟩) l.length l.length), (3, .slice (some ⟨bo, 0, none⟩) L.length L.length), (4, .pointer (some ⟨nb, 0, none⟩)), (5, .func (.func 14) #[] #[.pointer (some ⟨nb, 0, none⟩)]), (6, .int .i64 i), (7, .pointer (some ⟨xb, 0, none⟩)), (8, .pointer (some ⟨tb, 0, none⟩))]) (meth mJ ⟨(kdv, nmX, elX, FL, ML', ()), [.int .i64 kdv, .string ⟨nmX.toArray⟩, .int .i64 elX, .slice fO FL.length FL.length, .slice (some ⟨gb, 0, none⟩) ML.length ML.length], ⟨rfl, by rw [otJ.load (off := 0) 5 (by simp)]; simp [window]⟩, by
                rw [← e1']
                exact type_at (sFE.keepz kJ (fun hf => by simpa using (h3 hf).symm)).rs qF e2' (fun i d c hd hc => ((e4' i d c hd hc).keep kJ (by intro f hf; simp at hf; subst hf; exact fun h => h.1 rfl)).mono (fun f h => h.2.2)) (Sl.of oJ (by rw [e1', ← e3', over_length (by simp only [List.length_cons, List.length_nil]; omega), ← sGE.1])).rs (fun _ => qG hM0), ⟨i64_wf (by omega), by show nmX.length ≤ _; omega, helX, ⟨by show FL.length ≤ _; omega, hFw⟩, ⟨by show ML'.length ≤ _; omega, e5'⟩, trivial⟩, KE.fresh kJ (by intro f hf; rw [List.mem_singleton.1 hf]; omega), kJ.mono (by simp)⟩) ⟨by rfl, by rfl, by rfl, by rfl, by rfl, by rfl, by rfl, trivial⟩
          · have z3' : ¬ (qz : Int) = 3 := by omega
            intro meth
            simp [-Int.natCast_add, -w5_38, -BitVec.toNat_or, -BitVec.toNat_ofInt, -BitVec.toNat_and, len_slice u26, alloc_of zo3, store_of sz3, load_of ld3, index_slice u26 sz46, load_agg ld46, alloc_of zo46, store_of sz46, fieldAddr_of fa46_0, fieldAddr_of fa46_2, indexAddr_arr u47 sz9, load_of ld9, bin_str u9 .add (Or.inl rfl), build_of bo25, alloc_of zo25, store_of sz25, fieldAddr_of fa25_0, fieldAddr_of fa25_1, store_of sz9, fieldAddr_of fa46_1, fieldAddr_of fa25_2, fieldAddr_of fa46_3, load_of ld36, len_slice u36, fieldAddr_of fa25_3, load_of ld22, index_slice u36 sz3, build_of bo49, buildSlice_of u22 bs49 rfl, append_s u22 sz49, store_of sz22, fieldAddr_of fa46_4, load_of ld44, len_slice u44, build_of bo38, alloc_of zo38, store_of sz38, fieldAddr_of fa38_3, index_slice u44 sz36, build_arr u50 sz3 zo50, index_arr u50 sz3, part_one ld3, fieldAddr_of fa38_2, fieldAddr_of fa38_1, buildSlice_of u36 bs3 rfl, append_s u36 sz3, store_of sz36, fieldAddr_of fa25_4, load_of ld23, load_agg ld38, buildSlice_of u23 bs38 rfl, append_s u23 sz38, store_of sz23, fieldAddr_of fa46_5, len_slice u23, index_slice u23 sz38, load_agg ld25, buildSlice_of u27 bs25 rfl, append_s u27 sz25, z0', z1', z2', z3', z0, z1, z2, z3]
            exact w_sub (E := [(0, .slice (some ⟨lb, 0, none⟩) l.length l.length), (3, .slice (some ⟨bo, 0, none⟩) L.length L.length), (4, .pointer (some ⟨nb, 0, none⟩)), (5, .func (.func 14) #[] #[.pointer (some ⟨nb, 0, none⟩)]), (6, .int .i64 i), (7, .pointer (some ⟨xb, 0, none⟩)), (8, .pointer (some ⟨tb, 0, none⟩))]) (meth mE ⟨_, _, fin mE _ _ _ otE (Keeps.refl _ _) (i64_wf (by omega)) helX (by omega)⟩) ⟨by rfl, by rfl, by rfl, by rfl, by rfl, by rfl, by rfl, trivial⟩
        intro mX ⟨D, c, ⟨hc5, ldT⟩, hD, hDw, KX, KEX⟩
        clear hMw hmat sFE sGE hffE hgf fsome gsome qF qG hFw
        obtain ⟨c0, c1, c2, c3, c4, rfl⟩ : ∃ c0 c1 c2 c3 c4, c = [c0, c1, c2, c3, c4] := by
          match c, hc5 with
          | [c0, c1, c2, c3, c4], _ => exact ⟨c0, c1, c2, c3, c4, rfl⟩
        have oCX := oC.keep KX (by simp)
        have wk1 : IntKind.i64.wrap ((i : Int) + 1) = ((i + 1 : Nat) : Int) := by rw [wrap_i64 (by omega) (by omega)]; omega
        simp [-Int.natCast_add, -BitVec.toNat_or, -BitVec.toNat_ofInt, -BitVec.toNat_and, len_slice u26, alloc_of zo3, store_of sz3, load_of ld3, index_slice u26 sz46, load_agg ld46, alloc_of zo46, store_of sz46, fieldAddr_of fa46_0, fieldAddr_of fa46_2, indexAddr_arr u47 sz9, load_of ld9, bin_str u9 .add (Or.inl rfl), build_of bo25, alloc_of zo25, store_of sz25, fieldAddr_of fa25_0, fieldAddr_of fa25_1, store_of sz9, fieldAddr_of fa46_1, fieldAddr_of fa25_2, fieldAddr_of fa46_3, load_of ld36, len_slice u36, fieldAddr_of fa25_3, load_of ld22, index_slice u36 sz3, build_of bo49, buildSlice_of u22 bs49 rfl, append_s u22 sz49, store_of sz22, fieldAddr_of fa46_4, load_of ld44, len_slice u44, build_of bo38, alloc_of zo38, store_of sz38, fieldAddr_of fa38_3, index_slice u44 sz36, build_arr u50 sz3 zo50, index_arr u50 sz3, part_one ld3, fieldAddr_of fa38_2, fieldAddr_of fa38_1, buildSlice_of u36 bs3 rfl, append_s u36 sz3, store_of sz36, fieldAddr_of fa25_4, load_of ld23, load_agg ld38, buildSlice_of u23 bs38 rfl, append_s u23 sz38, store_of sz23, fieldAddr_of fa46_5, len_slice u23, index_slice u23 sz38, load_agg ld25, buildSlice_of u27 bs25 rfl, append_s u27 sz25, ldT]
        generalize hra : sappend _ _ _ _ _ _ = ra
        have hflat := flat_len hcss hat
        have e5 : TypeT.size = 5 := rfl
        rw [e5] at hflat
        obtain ⟨mA, bo2, rfl, oA, kA⟩ := app_own_new hra u27 ap25 oCX hflat.symm (by simp) (At_ones hD.at_) (by omega) (by omega)
        simp [-Int.natCast_add, -BitVec.toNat_or, -BitVec.toNat_ofInt, -BitVec.toNat_and, len_slice u26, alloc_of zo3, store_of sz3, load_of ld3, index_slice u26 sz46, load_agg ld46, alloc_of zo46, store_of sz46, fieldAddr_of fa46_0, fieldAddr_of fa46_2, indexAddr_arr u47 sz9, load_of ld9, bin_str u9 .add (Or.inl rfl), build_of bo25, alloc_of zo25, store_of sz25, fieldAddr_of fa25_0, fieldAddr_of fa25_1, store_of sz9, fieldAddr_of fa46_1, fieldAddr_of fa25_2, fieldAddr_of fa46_3, load_of ld36, len_slice u36, fieldAddr_of fa25_3, load_of ld22, index_slice u36 sz3, build_of bo49, buildSlice_of u22 bs49 rfl, append_s u22 sz49, store_of sz22, fieldAddr_of fa46_4, load_of ld44, len_slice u44, build_of bo38, alloc_of zo38, store_of sz38, fieldAddr_of fa38_3, index_slice u44 sz36, build_arr u50 sz3 zo50, index_arr u50 sz3, part_one ld3, fieldAddr_of fa38_2, fieldAddr_of fa38_1, buildSlice_of u36 bs3 rfl, append_s u36 sz3, store_of sz36, fieldAddr_of fa25_4, load_of ld23, load_agg ld38, buildSlice_of u23 bs38 rfl, append_s u23 sz38, store_of sz23, fieldAddr_of fa46_5, len_slice u23, index_slice u23 sz38, load_agg ld25, buildSlice_of u27 bs25 rfl, append_s u27 sz25, wk1]
        have hX : ∀ (i : Nat) d c', (L ++ [D])[i]? = some d → (css ++ [[c0, c1, c2, c3, c4]])[i]? = some c' → AtQ (fun f => f ≠ ob ∧ m.next ≤ f) mA TypeT d c' := by
          intro i d c' hd hc
          rw [List.getElem?_append] at hd hc
          rw [hcss] at hc
          split at hd
          · rename_i hi
            rw [if_pos hi] at hc
            exact ((hat i d c' hd hc).keep KX (by simp)).keep kA (by simp)
          · rename_i hi
            rw [if_neg hi] at hc
            have : i - L.length = 0 := by
              have := (List.getElem?_eq_some_iff.1 hc).1
              simp at this
              omega
            rw [this] at hd hc
            simp at hd hc
            subst hd hc
            exact hD.keep kA (by simp)
        refine ih _ _ _ _ ⟨i + 1, bo2, L ++ [D], css ++ [[c0, c1, c2, c3, c4]], rfl, by omega, by simp; omega, ?_, by simp [hcss], hX, by simpa using oA, (oN.keep KX (by simp)).keep kA (by simpa using nbne), (KC.trans KX).fresh kA (by simpa using hob), rfl⟩ (by omega) ⟨by rfl, by simp [lget], by rfl, by rfl, by simp [lget], trivial⟩
        intro x hx
        rcases List.mem_append.1 hx with h | h
        · exact hLw x h
        · rw [List.mem_singleton.1 h]; exact hDw
  · have e1 : ¬ (i : Int) < n := by omega
    simp [-Int.natCast_add, -BitVec.toNat_or, -BitVec.toNat_ofInt, -BitVec.toNat_and, len_slice u26, alloc_of zo3, store_of sz3, load_of ld3, index_slice u26 sz46, load_agg ld46, alloc_of zo46, store_of sz46, fieldAddr_of fa46_0, fieldAddr_of fa46_2, indexAddr_arr u47 sz9, load_of ld9, bin_str u9 .add (Or.inl rfl), build_of bo25, alloc_of zo25, store_of sz25, fieldAddr_of fa25_0, fieldAddr_of fa25_1, store_of sz9, fieldAddr_of fa46_1, fieldAddr_of fa25_2, fieldAddr_of fa46_3, load_of ld36, len_slice u36, fieldAddr_of fa25_3, load_of ld22, index_slice u36 sz3, build_of bo49, buildSlice_of u22 bs49 rfl, append_s u22 sz49, store_of sz22, fieldAddr_of fa46_4, load_of ld44, len_slice u44, build_of bo38, alloc_of zo38, store_of sz38, fieldAddr_of fa38_3, index_slice u44 sz36, build_arr u50 sz3 zo50, index_arr u50 sz3, part_one ld3, fieldAddr_of fa38_2, fieldAddr_of fa38_1, buildSlice_of u36 bs3 rfl, append_s u36 sz3, store_of sz36, fieldAddr_of fa25_4, load_of ld23, load_agg ld38, buildSlice_of u23 bs38 rfl, append_s u23 sz38, store_of sz23, fieldAddr_of fa46_5, len_slice u23, index_slice u23 sz38, load_agg ld25, buildSlice_of u27 bs25 rfl, append_s u27 sz25, ln, e1]
    exact ⟨bo, ob, L, css, rfl, by omega, by omega, hLw, hcss, fun i d c h1 h2 => (hat i d c h1 h2).mono (fun f h => h.2), oC, hob, KC⟩
end Go.Proofs.YtllhpkhbcgfeeaaDoor.base

