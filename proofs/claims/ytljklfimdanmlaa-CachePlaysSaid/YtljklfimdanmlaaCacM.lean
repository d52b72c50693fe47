/-
  This text proves what the document's cache does, over the abstract run: Drop, Keys, Get.
  Condition: nothing is known of the calls ahead ('S f = []').
-/
import Derived.Test.YtljklfimdanmlaaCacL
set_option maxRecDepth 100000
set_option linter.unusedSimpArgs false
set_option linter.unusedVariables false
namespace Go.Proofs.Ytljklfimdanmlaa.base
open Go.Sh gen
variable {S : Sums} {m : Mem} {R : Nat → Prop} {rb room r0 lf : Nat} {la : Option Addr} {L : List Rx}
/-- no two of them have one key -/
abbrev KD (L : List Rx) : Prop := L.Pairwise (fun x y => ¬ (x.f = y.f ∧ x.pc = y.pc))
/-- all but that key's -/
def wor (f pc : Int) (L : List Rx) : List Rx := L.filter fun x => !mtr f pc x
theorem mtr_iff {f pc : Int} {x : Rx} : mtr f pc x = true ↔ x.f = f ∧ x.pc = pc := by simp [mtr]
theorem wor_none {f pc : Int} (h : ∀ x ∈ L, mtr f pc x = false) : wor f pc L = L := by
  unfold wor
  rw [List.filter_eq_self]
  intro x hx
  rw [h x hx]; rfl
theorem wor_erase {f pc : Int} {i : Nat} (hk : KD L) (hi : i < L.length) (hm : mtr f pc L[i] = true) : L.eraseIdx i = wor f pc L := by
  have e : L = L.take i ++ L[i] :: L.drop (i + 1) := by rw [← List.drop_eq_getElem_cons hi, List.take_append_drop]
  have hk2 : KD (L.take i ++ L[i] :: L.drop (i + 1)) := by rw [← List.drop_eq_getElem_cons hi, List.take_append_drop]; exact hk
  rw [KD, List.pairwise_append] at hk2
  obtain ⟨_, h2, h3⟩ := hk2
  have h2 := (List.pairwise_cons.1 h2).1
  have hx := mtr_iff.1 hm
  have n1 : ∀ y ∈ L.take i, mtr f pc y = false := fun y hy => by
    rw [← Bool.not_eq_true, mtr_iff]
    intro g
    exact h3 y hy L[i] List.mem_cons_self ⟨g.1.trans hx.1.symm, g.2.trans hx.2.symm⟩
  have n2 : ∀ y ∈ L.drop (i + 1), mtr f pc y = false := fun y hy => by
    rw [← Bool.not_eq_true, mtr_iff]
    intro g
    exact h2 y hy ⟨hx.1.trans g.1.symm, hx.2.trans g.2.symm⟩
  have e2 : wor f pc L = wor f pc (L.take i) ++ wor f pc (L.drop (i + 1)) := by
    conv => lhs; rw [e]
    simp only [wor, List.filter_append, List.filter_cons, hm, Bool.not_true, Bool.false_eq_true, if_false]
  rw [e2, wor_none n1, wor_none n2, List.eraseIdx_eq_take_drop_succ]
theorem rDrop_run (hN : Nr S) (h : RA R m rb room L r0 la lf) (hk : KD L) (f pc : Int) :
    ∃ v m1, callw Try.prog TT S 19 [.pointer (some ⟨rb, 0, none⟩), .int .i64 f, .int .i64 pc] m = some (v, m1) ∧ v = .bool (L.any (mtr f pc)) ∧ (∃ la1 lf1, RA (Qn R m m1) m1 rb room (wor f pc L) r0 la1 lf1) ∧ Keeps m m1 [r0] := by
  obtain ⟨v1, c1, ⟨r, rfl, hr⟩⟩ := rfind_run hN h f pc
  refine fn_w 8 [13] k19 hN.Drop rfl ?_
  rcases hr with ⟨rfl, hr⟩ | ⟨i, rfl, hi, hr, _⟩
  · have e : L.any (mtr f pc) = false := by simpa using hr
    rw [e, wor_none hr]
    simp [-Int.natCast_add, -BitVec.toNat_or, -BitVec.toNat_ofInt, -BitVec.toNat_and, id, c1]
    exact ⟨⟨_, _, h.mono (fun f hf => Or.inl hf)⟩, .refl _ _⟩
  · have e : L.any (mtr f pc) = true := List.any_eq_true.2 ⟨_, List.getElem_mem hi, hr⟩
    rw [e, ← wor_erase hk hi hr]
    obtain ⟨v2, m2, c2, ⟨la1, lf1, h2, _⟩, k2⟩ := rdrop_run hN h hi
    have n0 : 0 ≤ (i : Int) := by omega
    simp [-Int.natCast_add, -BitVec.toNat_or, -BitVec.toNat_ofInt, -BitVec.toNat_and, id, c1, n0, c2]
    exact ⟨⟨_, _, h2⟩, k2⟩
/-- the keys of entries -/
def kyr (l : List Rx) : List Mv := l.map fun x => (x.f, x.pc)
theorem kyr_take {i : Nat} (hi : i < L.length) : kyr (L.take (i + 1)) = kyr (L.take i) ++ [(L[i].f, L[i].pc)] := by
  rw [List.take_succ_eq_append_getElem hi]; simp only [kyr, List.map_append, List.map_cons, List.map_nil]
theorem kyr_len : (kyr L).length = L.length := by simp [kyr]
set_option maxHeartbeats 1000000 in
theorem rkeys_run (hN : Nr S) (h : RA R m rb room L r0 la lf) :
    ∃ v m1, callw Try.prog TT S 24 [.pointer (some ⟨rb, 0, none⟩)] m = some (v, m1) ∧ KysR m m1 v (kyr L) ∧ Keeps m m1 [] := by
  have l8 := h.len
  refine fn_w 5 [11] k24 hN.keys rfl ?_
  simp [-Int.natCast_add, -BitVec.toNat_or, -BitVec.toNat_ofInt, -BitVec.toNat_and, fieldAddr_of fa56_1, load_of ld54, len_slice u54, index_slice u54 sz41, load_agg ld41, buildSlice_of u32 bs50 rfl, append_s u32 sz50]
  refine wsem_loop 5 [11] (fun d E mF => ∃ (i : Nat) (ka : Option Addr) (kf : Nat), L.length - i = d ∧ i ≤ L.length ∧ Keeps m mF [] ∧ Sl mF ka i (mvc (kyr (L.take i))) 50 2 kf ∧ (ka ≠ none → m.next ≤ kf) ∧
    E = [(0, .pointer (some ⟨rb, 0, none⟩)), (3, .slice ka i i), (4, .int .i64 (i : Int))]) _ ⟨_, ⟨0, none, 0, rfl, by omega, .refl _ _, Sl.nil _ _ _ _, by simp, rfl⟩, ⟨by rfl, by rfl, by rfl, trivial⟩⟩ ?_
  rintro d E mF ih ⟨i, ka, kf, hd, hi, kF, sF, hb, rfl⟩
  have im : (i : Int) ≤ 9223372036854775807 := by omega
  have hF := h.keep0 kF
  have ld := hF.own.load1 (off := 1) rfl
  by_cases hlt : i < L.length
  · have hlt' : (i : Int) < L.length := by omega
    have wi : IntKind.i64.wrap ((i : Int) + 1) = ((i + 1 : Nat) : Int) := by rw [wrap_i64 (by omega) (by omega)]; omega
    obtain ⟨b, hbb, o⟩ := hF.sl.own (by omega)
    have g1 := o.load (off := i * 7) 7 (by rw [rrows_len]; omega)
    rw [rrows_win hlt] at g1
    obtain ⟨m2, c2, k2⟩ := rkey_run (m := mF) hN L[i]
    simp [-Int.natCast_add, -BitVec.toNat_or, -BitVec.toNat_ofInt, -BitVec.toNat_and, fieldAddr_of fa56_1, load_of ld54, len_slice u54, index_slice u54 sz41, load_agg ld41, buildSlice_of u32 bs50 rfl, append_s u32 sz50, ld, hlt, hlt', hbb, g1, im, c2]
    generalize hra : sappend _ _ _ _ _ _ = ra
    obtain ⟨m3, nb, nf, rfl, o3, k3, hf3, _, _⟩ := app_slz hra u32 ap50 (sF.keep k2 (by simp)) (by omega) (by simp) (by simp [one_int]) (by omega) (by omega)
    simp [-Int.natCast_add, -BitVec.toNat_or, -BitVec.toNat_ofInt, -BitVec.toNat_and, fieldAddr_of fa56_1, load_of ld54, len_slice u54, index_slice u54 sz41, load_agg ld41, buildSlice_of u32 bs50 rfl, append_s u32 sz50, wi]
    have s3 : Sl m3 (some ⟨nb, 0, none⟩) (i + 1) (mvc (kyr (L.take (i + 1)))) 50 2 nf := by
      rw [kyr_take hlt]
      exact Sl.of (by simpa [mvc] using o3) (by rw [mvc_len, List.length_append, kyr_len, List.length_take]; simp; omega)
    have kb : ∀ f ∈ (if ka = none then [] else [kf]), m.next ≤ f := by
      intro f hf
      split at hf
      · simp at hf
      · rename_i hn
        simp at hf; rw [hf]; exact hb hn
    have n2 := kF.1
    have n3 := k2.1
    refine ih _ _ _ _ ⟨i + 1, _, nf, rfl, by omega, (kF.trans k2).fresh k3 kb, s3, fun _ => ?_, rfl⟩ (by omega) ⟨by rfl, by rfl, by rfl, trivial⟩
    rcases hf3 with ⟨h, h'⟩ | h
    · rw [h']; exact hb h
    · omega
  · have hlt' : ¬ (i : Int) < L.length := by omega
    have e : i = L.length := by omega
    rw [e, List.take_length] at sF
    simp [-Int.natCast_add, -BitVec.toNat_or, -BitVec.toNat_ofInt, -BitVec.toNat_and, fieldAddr_of fa56_1, load_of ld54, len_slice u54, index_slice u54 sz41, load_agg ld41, buildSlice_of u32 bs50 rfl, append_s u32 sz50, ld, hlt, hlt']
    exact ⟨⟨ka, kf, by rw [kyr_len, e], by rw [kyr_len]; exact sF, hb⟩, kF⟩
set_option maxHeartbeats 1000000 in
theorem same_run (hN : Nr S) {ka kb : Option Addr} {K : List Mv} {fa fb : Nat} (h1 : Sl m ka K.length (mvc K) 50 2 fa) (h2 : Sl m kb K.length (mvc K) 50 2 fb) (hl : K.length ≤ 1000) :
    callw Try.prog TT S 20 [.slice ka K.length K.length, .slice kb K.length K.length] m = some (.bool true, m) := by
  refine fn_eq 6 [10, 14, 25] k20 hN.same rfl ?_
  simp [-Int.natCast_add, -BitVec.toNat_or, -BitVec.toNat_ofInt, -BitVec.toNat_and, len_slice u32, index_slice u32 sz50, load_agg ld50, bin_agg ag50 .neq (Or.inr rfl), scal_int u3]
  refine wsem_loop 6 [10, 14, 25] (fun d E mF => ∃ (i : Nat), K.length - i = d ∧ i ≤ K.length ∧ mF = m ∧
    E = [(0, .slice ka K.length K.length), (1, .slice kb K.length K.length), (5, .int .i64 (i : Int))]) _ ⟨_, ⟨0, rfl, by omega, rfl, rfl⟩, ⟨by rfl, by rfl, by rfl, trivial⟩⟩ ?_
  rintro d E mF ih ⟨i, hd, hi, hm, rfl⟩
  rw [hm]
  have im : (i : Int) ≤ 9223372036854775807 := by omega
  by_cases hlt : i < K.length
  · have hlt' : (i : Int) < K.length := by omega
    have wi : IntKind.i64.wrap ((i : Int) + 1) = ((i + 1 : Nat) : Int) := by rw [wrap_i64 (by omega) (by omega)]; omega
    obtain ⟨b1, hb1, o1⟩ := h1.own (by omega)
    obtain ⟨b2, hb2, o2⟩ := h2.own (by omega)
    have g1 := o1.load (off := i * 2) 2 (by rw [mvc_len]; omega)
    have g2 := o2.load (off := i * 2) 2 (by rw [mvc_len]; omega)
    rw [mvc_win hlt] at g1 g2
    obtain ⟨u1, hu1⟩ : ∃ u, K[i].1 = u := ⟨_, rfl⟩
    obtain ⟨u2, hu2⟩ : ∃ u, K[i].2 = u := ⟨_, rfl⟩
    rw [hu1, hu2] at g1 g2
    simp [-Int.natCast_add, -BitVec.toNat_or, -BitVec.toNat_ofInt, -BitVec.toNat_and, len_slice u32, index_slice u32 sz50, load_agg ld50, bin_agg ag50 .neq (Or.inr rfl), scal_int u3, hlt, hlt', im, hb1, hb2, g1, g2, wi]
    rw [← hb1, ← hb2]
    exact ih _ _ _ _ ⟨i + 1, rfl, by omega, rfl, rfl⟩ (by omega) ⟨by rfl, by rfl, by rfl, trivial⟩
  · have hlt' : ¬ (i : Int) < K.length := by omega
    simp [-Int.natCast_add, -BitVec.toNat_or, -BitVec.toNat_ofInt, -BitVec.toNat_and, len_slice u32, index_slice u32 sz50, load_agg ld50, bin_agg ag50 .neq (Or.inr rfl), scal_int u3, hlt, hlt']
set_option maxHeartbeats 1000000 in
theorem hask_run (hN : Nr S) {ka : Option Addr} {K : List Mv} {fa : Nat} (h1 : Sl m ka K.length (mvc K) 50 2 fa) (hl : K.length ≤ 1000) (f pc : Int) :
    callw Try.prog TT S 25 [.slice ka K.length K.length, .int .i64 f, .int .i64 pc] m = some (.bool (K.any fun p => decide (p.1 = f) && decide (p.2 = pc)), m) := by
  obtain ⟨B, hB⟩ : ∃ B, (K.any fun p => decide (p.1 = f) && decide (p.2 = pc)) = B := ⟨_, rfl⟩
  rw [hB]
  refine fn_eq 8 [11, 29] k25 hN.hask rfl ?_
  simp [-Int.natCast_add, -BitVec.toNat_or, -BitVec.toNat_ofInt, -BitVec.toNat_and, len_slice u32, index_slice u32 sz50, fieldAddr_of fa50_0, load_of ld3, fieldAddr_of fa50_1]
  refine wsem_loop 8 [11, 29] (fun d E mF => ∃ (i : Nat), K.length - i = d ∧ i ≤ K.length ∧ mF = m ∧ ((K.drop i).any fun p => decide (p.1 = f) && decide (p.2 = pc)) = B ∧
    E = [(0, .slice ka K.length K.length), (1, .int .i64 f), (2, .int .i64 pc), (7, .int .i64 (i : Int))]) _ ⟨_, ⟨0, rfl, by omega, rfl, by rw [List.drop_zero]; exact hB, rfl⟩, ⟨by rfl, by rfl, by rfl, by rfl, trivial⟩⟩ ?_
  rintro d E mF ih ⟨i, hd, hi, hm, ha, rfl⟩
  rw [hm]
  have im : (i : Int) ≤ 9223372036854775807 := by omega
  by_cases hlt : i < K.length
  · have hlt' : (i : Int) < K.length := by omega
    have wi : IntKind.i64.wrap ((i : Int) + 1) = ((i + 1 : Nat) : Int) := by rw [wrap_i64 (by omega) (by omega)]; omega
    obtain ⟨b1, hb1, o1⟩ := h1.own (by omega)
    have g0 := o1.load1 (mvc_at0 hlt)
    have g1 := o1.load1 (mvc_at1 hlt)
    rw [List.drop_eq_getElem_cons hlt, List.any_cons] at ha
    by_cases h1 : K[i].1 = f
    · by_cases h2 : K[i].2 = pc
      · rw [decide_eq_true h1, decide_eq_true h2] at ha
        simp only [Bool.and_self, Bool.true_or] at ha
        simp [-Int.natCast_add, -BitVec.toNat_or, -BitVec.toNat_ofInt, -BitVec.toNat_and, len_slice u32, index_slice u32 sz50, fieldAddr_of fa50_0, load_of ld3, fieldAddr_of fa50_1, hlt, hlt', im, hb1, g0, g1, h1, h2]
        exact ha.symm
      · rw [decide_eq_false h2, Bool.and_false, Bool.false_or] at ha
        simp [-Int.natCast_add, -BitVec.toNat_or, -BitVec.toNat_ofInt, -BitVec.toNat_and, len_slice u32, index_slice u32 sz50, fieldAddr_of fa50_0, load_of ld3, fieldAddr_of fa50_1, hlt, hlt', im, hb1, g0, g1, h1, h2, wi]
        rw [← hb1]
        exact ih _ _ _ _ ⟨i + 1, rfl, by omega, rfl, ha, rfl⟩ (by omega) ⟨by rfl, by rfl, by rfl, by rfl, trivial⟩
    · rw [decide_eq_false h1, Bool.false_and, Bool.false_or] at ha
      simp [-Int.natCast_add, -BitVec.toNat_or, -BitVec.toNat_ofInt, -BitVec.toNat_and, len_slice u32, index_slice u32 sz50, fieldAddr_of fa50_0, load_of ld3, fieldAddr_of fa50_1, hlt, hlt', im, hb1, g0, g1, h1, wi]
      rw [← hb1]
      exact ih _ _ _ _ ⟨i + 1, rfl, by omega, rfl, ha, rfl⟩ (by omega) ⟨by rfl, by rfl, by rfl, by rfl, trivial⟩
  · have hlt' : ¬ (i : Int) < K.length := by omega
    have e : i = K.length := by omega
    rw [e, List.drop_length] at ha
    simp [-Int.natCast_add, -BitVec.toNat_or, -BitVec.toNat_ofInt, -BitVec.toNat_and, len_slice u32, index_slice u32 sz50, fieldAddr_of fa50_0, load_of ld3, fieldAddr_of fa50_1, hlt, hlt']
    rw [← ha]; rfl
/-- what 'Get' answers and leaves -/
def GetX (R : Nat → Prop) (m m1 : Mem) (rb room : Nat) (L : List Rx) (f pc : Int) (v : Value) : Prop :=
  ((∀ x ∈ L, mtr f pc x = false) ∧ RAt (Qn R m m1) m1 rb room L ∧ v = .tuple #[ent 0 0 0 0 none none none none, .bool false]) ∨
  ∃ x, x ∈ L ∧ mtr f pc x = true ∧ RAt (Qn R m m1) m1 rb room (wor f pc L ++ [x]) ∧ v = .tuple #[ent x.f x.pc x.sz x.needs.length x.ca none x.na none, .bool true]
theorem rrows_app (l : List Rx) (x : Rx) : rrows (l ++ [x]) = rrows l ++ x.row := by simp [rrows]
theorem row_len (x : Rx) : x.row.length = 7 := rfl
theorem row_fold (x : Rx) : (List.foldl (fun (cs : Array Value) (x : Value × Nat) => cs.setIfInBounds x.snd x.fst) #[Value.int .i64 0, .int .i64 0, .slice none 0 0, .slice none 0 0, .slice none 0 0, .slice none 0 0, .slice none 0 0] x.row.zipIdx).toList = x.row := rfl
theorem row_load (x : Rx) (e : TypeId) : loadRow (m.new x.row e) ⟨m.next, 0, none⟩ 7 = some x.row := (Own.new m x.row e).load (off := 0) 7 (by rw [row_len]; omega)
theorem row_eq (x : Rx) : eqL x.row x.row = true := by simp [Rx.row]
theorem row_one (x : Rx) : x.row.all one = true := rfl
set_option maxHeartbeats 4000000 in
theorem rget_run (hN : Nr S) (h : RA R m rb room L r0 la lf) (hR : ∀ f, R f → f < m.next) (hk : KD L) (f pc : Int) :
    ∃ v m1, callw Try.prog TT S 18 [.pointer (some ⟨rb, 0, none⟩), .int .i64 f, .int .i64 pc] m = some (v, m1) ∧ GetX R m m1 rb room L f pc v ∧ KQ R m m1 := by
  obtain ⟨oZ, kZ, nZ⟩ := new_own (m := m) (cs := [.int .i64 0, .int .i64 0, .slice none 0 0, .slice none 0 0, .slice none 0 0, .slice none 0 0, .slice none 0 0]) (e := 41) rfl
  have hZ := h.keep0 kZ
  obtain ⟨v1, c1, ⟨r, rfl, hr⟩⟩ := rfind_run hN hZ f pc
  have l9 := h.len
  refine fn_w 10 [15] k18 hN.get rfl ?_
  rcases hr with ⟨rfl, hr⟩ | ⟨i, rfl, hi, hr, _⟩
  · simp [-Int.natCast_add, -BitVec.toNat_or, -BitVec.toNat_ofInt, -BitVec.toNat_and, lres_agg ld41, alloc_of zo41, build_of bo41, store_of sz41, fieldAddr_of fa56_1, load_of ld54, index_slice u54 sz41, load_agg ld41, buildSlice_of u54 bs41 rfl, append_s u54 sz41, store_of sz54, c1]
    generalize hra : storeRow _ _ _ = ra
    obtain ⟨m2, rfl, o2, k2⟩ := store_own hra oZ (by simp) (by simp [one_int, one_slice])
    simp [over] at o2
    have rl : loadRow m2 ⟨m.next, 0, none⟩ 7 = _ := o2.load 7 (by simp)
    simp only [window, List.drop_zero, List.take_succ_cons, List.take_zero] at rl
    simp [-Int.natCast_add, -BitVec.toNat_or, -BitVec.toNat_ofInt, -BitVec.toNat_and, lres_agg ld41, alloc_of zo41, build_of bo41, store_of sz41, fieldAddr_of fa56_1, load_of ld54, index_slice u54 sz41, load_agg ld41, buildSlice_of u54 bs41 rfl, append_s u54 sz41, store_of sz54, rl]
    have kk : Keeps m m2 [] := kZ.fresh k2 (by simp)
    exact ⟨Or.inl ⟨hr, ⟨_, _, _, (h.keep0 kk).mono (fun f hf => Or.inl hf)⟩, rfl⟩, [], kk, by simp⟩
  · have n0 : ¬ (i : Int) < 0 := by omega
    have ld := hZ.own.load1 (off := 1) rfl
    obtain ⟨b, hb, o⟩ := hZ.sl.own (by omega)
    have g1 := o.load (off := i * 7) 7 (by rw [rrows_len]; omega)
    rw [rrows_win hi] at g1
    have im : (i : Int) ≤ 9223372036854775807 := by omega
    have hi' : (i : Int) < L.length := by omega
    obtain ⟨x, hx⟩ : ∃ x, L[i] = x := ⟨_, rfl⟩
    rw [hx] at g1 hr
    simp [-Int.natCast_add, -w18_5, -BitVec.toNat_or, -BitVec.toNat_ofInt, -BitVec.toNat_and, lres_agg ld41, alloc_of zo41, build_of bo41, store_of sz41, fieldAddr_of fa56_1, load_of ld54, index_slice u54 sz41, load_agg ld41, buildSlice_of u54 bs41 rfl, append_s u54 sz41, store_of sz54, c1, n0, ld, hb, g1, im, hi, hi']
    generalize hm1 : m.new _ _ = m1 at *
    obtain ⟨oE, kE, nE⟩ := new_own (m := m1) (cs := [.int .i64 0, .int .i64 0, .slice none 0 0, .slice none 0 0, .slice none 0 0, .slice none 0 0, .slice none 0 0]) (e := 41) rfl
    generalize m1.new _ _ = m2 at *
    generalize hra : storeRow _ _ _ = ra
    obtain ⟨m3, rfl, oE, k3⟩ := store_own hra oE (by simp [Rx.row]) (row_one x)
    have eo : over [Value.int .i64 0, .int .i64 0, .slice none 0 0, .slice none 0 0, .slice none 0 0, .slice none 0 0, .slice none 0 0] 0 x.row = x.row := by simp [over, Rx.row]
    rw [eo] at oE
    simp [-Int.natCast_add, -w18_5, -BitVec.toNat_or, -BitVec.toNat_ofInt, -BitVec.toNat_and, lres_agg ld41, alloc_of zo41, build_of bo41, store_of sz41, fieldAddr_of fa56_1, load_of ld54, index_slice u54 sz41, load_agg ld41, buildSlice_of u54 bs41 rfl, append_s u54 sz41, store_of sz54, row_len]
    have k13 : Keeps m1 m3 [] := kE.fresh k3 (by simp)
    have h3 := hZ.keep0 k13
    obtain ⟨v4, m4, c4, ⟨la4, lf4, h4, hlf4⟩, kk4⟩ := rdrop_run hN h3 hi
    have hxL : x ∈ L := by rw [← hx]; exact List.getElem_mem hi
    rw [wor_erase hk hi (by rw [hx]; exact hr)] at h4
    have k13n := k13.1
    have k4n := kk4.1
    have hm1n : m.next < m1.next := nZ
    have nR : ∀ q, m.next ≤ q → ¬ R q := fun q hq hr => by have := hR q hr; omega
    have k3n := k3.1
    have r0n := h.own.flt
    have oE4 := oE.keep kk4 (by simp; omega)
    have oZ4 := (oZ.keep k13 (by simp)).keep kk4 (by simp; omega)
    simp [-Int.natCast_add, -w18_6, -BitVec.toNat_or, -BitVec.toNat_ofInt, -BitVec.toNat_and, lres_agg ld41, alloc_of zo41, build_of bo41, store_of sz41, fieldAddr_of fa56_1, load_of ld54, index_slice u54 sz41, load_agg ld41, buildSlice_of u54 bs41 rfl, append_s u54 sz41, store_of sz54, c4]
    have l4 := h4.own.load1 (off := 1) rfl
    have e4 := oE4.load (off := 0) 7 (by rw [row_len]; omega)
    have ew : window x.row 0 7 = x.row := rfl
    rw [ew] at e4
    have oE4n := oE4.keep (keeps_new m4 x.row 41 []) (by simp)
    have l4n := (h4.own.keep (keeps_new m4 x.row 41 []) (by simp)).load1 (off := 1) rfl
    simp [-Int.natCast_add, -w18_7, -BitVec.toNat_or, -BitVec.toNat_ofInt, -BitVec.toNat_and, lres_agg ld41, alloc_of zo41, build_of bo41, store_of sz41, fieldAddr_of fa56_1, load_of ld54, index_slice u54 sz41, load_agg ld41, buildSlice_of u54 bs41 rfl, append_s u54 sz41, store_of sz54, l4, e4, l4n, row_len, row_fold, row_eq, row_load]
    generalize hrb : sappend _ _ _ _ _ _ = rb'
    have lw : (wor f pc L).length ≤ L.length := (List.filter_sublist).length_le
    obtain ⟨m5, b5, lf5, rfl, o5, k5, hf5, _, hfe5⟩ := app_slz hrb u54 ap41 h4.sl (by omega) (by rw [row_len]) (row_one x) (by omega) (by omega)
    clear hrb
    have h4n := h4.own.flt
    have k5n := k5.1
    have own5 := h4.own.keep k5 (by
      split
      · simp
      · rename_i ha; simp; exact (h4.ne ha).symm)
    have l5 := own5.load1 (off := 1) rfl
    simp [-Int.natCast_add, -w18_7, -BitVec.toNat_or, -BitVec.toNat_ofInt, -BitVec.toNat_and, lres_agg ld41, alloc_of zo41, build_of bo41, store_of sz41, fieldAddr_of fa56_1, load_of ld54, index_slice u54 sz41, load_agg ld41, buildSlice_of u54 bs41 rfl, append_s u54 sz41, store_of sz54, l4, e4, l4n, row_len, row_fold, row_eq, row_load]
    generalize hrc : storeRow _ _ _ = rc
    obtain ⟨m6, rfl, o6, k6⟩ := store_own hrc own5 (by simp) (by simp [one_slice])
    simp [over] at o6
    have k6n := k6.1
    have la5 : ∀ q, q < m3.next → q ∉ (if la4 = none then [] else [lf4]) := fun q hq hm => by
      split at hm
      · simp at hm
      · simp at hm; omega
    have oE6 := (oE4.keep k5 (la5 _ (by omega))).keep k6 (by simp; omega)
    have oZ6 := (oZ4.keep k5 (la5 _ (by omega))).keep k6 (by simp; omega)
    have e6 := oE6.load (off := 0) 7 (by rw [row_len]; omega)
    rw [ew] at e6
    simp [-Int.natCast_add, -BitVec.toNat_or, -BitVec.toNat_ofInt, -BitVec.toNat_and, lres_agg ld41, alloc_of zo41, build_of bo41, store_of sz41, fieldAddr_of fa56_1, load_of ld54, index_slice u54 sz41, load_agg ld41, buildSlice_of u54 bs41 rfl, append_s u54 sz41, store_of sz54, l4, e4, l4n, row_len, row_fold, row_eq, row_load, e6]
    generalize hrd : storeRow _ _ _ = rd
    obtain ⟨m7, rfl, o7, k7⟩ := store_own hrd oZ6 (by simp [Rx.row]) (row_one x)
    rw [eo] at o7
    have e7 := o7.load (off := 0) 7 (by rw [row_len]; omega)
    rw [ew] at e7
    simp [-Int.natCast_add, -BitVec.toNat_or, -BitVec.toNat_ofInt, -BitVec.toNat_and, lres_agg ld41, alloc_of zo41, build_of bo41, store_of sz41, fieldAddr_of fa56_1, load_of ld54, index_slice u54 sz41, load_agg ld41, buildSlice_of u54 bs41 rfl, append_s u54 sz41, store_of sz54, row_len, e7]
    have lf5n := o5.flt
    have hne5 : lf5 ≠ r0 := by
      rcases hf5 with ⟨ha, e⟩ | e
      · rw [e]; exact h4.ne ha
      · omega
    have k46 : Keeps m4 m6 ((if la4 = none then [] else [lf4]) ++ [r0]) := (k5.mono (fun q hq => List.mem_append_left _ hq)).trans (k6.mono (fun q hq => List.mem_append_right _ hq))
    have ef : ∀ q ∈ (if la4 = none then [] else [lf4]) ++ [r0], q = r0 ∨ (q = lf4 ∧ la4 ≠ none) := by
      intro q hq
      rcases List.mem_append.1 hq with hq | hq
      · split at hq
        · simp at hq
        · rename_i ha; simp at hq; exact Or.inr ⟨hq, ha⟩
      · simp at hq; exact Or.inl hq
    have H6 := h4.set (R' := fun f => Qn R m3 m4 f ∨ (m4.next ≤ f ∧ f < m6.next)) (L1 := wor f pc L ++ [x]) k46 (fun q hq => by
        rcases ef q hq with h | h
        · exact Or.inl h
        · exact Or.inr (Or.inl h.1)) (by simpa using o6) (by rw [rrows_app]; exact o5.keep k6 (by simpa using hne5)) (fun f hf => Or.inl hf) hne5 (hf5.imp (·.2) id) (by
        rcases hf5 with ⟨ha, e⟩ | e
        · rw [e]; exact Or.inl (h4.ql ha)
        · exact Or.inr ⟨e, by omega⟩) (by
        have := wor_erase hk hi (by rw [hx]; exact hr)
        have e2 := congrArg List.length this
        rw [List.length_eraseIdx_of_lt hi] at e2
        simp; omega) (fun y hy => by
        rcases List.mem_append.1 hy with hy | hy
        · exact Or.inl hy
        · rw [List.mem_singleton.1 hy]
          have nlt : x.needs ≠ [] → x.nf < m.next := fun hz => by
            obtain ⟨_, _, r⟩ := (h.nd x hxL).rdo (by simpa using hz)
            exact r.flt
          refine Or.inr ⟨?_, fun hz => ?_, h.sz x hxL⟩
          · refine (((h.nd x hxL).keep (kZ.trans k13) (by simp)).keep0 kk4 (fun z => ?_)).keep0 k46 (fun z hm => ?_)
            · have := h.nn x hxL (by simpa using z)
              simp; omega
            · have hz : x.needs ≠ [] := by simpa using z
              have := h.nn x hxL hz
              have := nlt hz
              rcases ef _ hm with h | h
              · omega
              · omega
          · have hnn := h.nn x hxL hz
            have := nlt hz
            refine ⟨hnn.1, ?_, Or.inl (Or.inl (h.qn x hxL hz))⟩
            rcases hf5 with ⟨ha, e⟩ | e
            · omega
            · omega)
    have H7 := H6.keep k7 (fun q hq => by
      simp at hq
      subst hq
      rintro ((h | h) | h)
      · exact nR _ (Nat.le_refl _) h
      · omega
      · omega)
    have k7n := k7.1
    have kA : Keeps m m4 [r0] := (kZ.trans k13).nil.trans kk4
    have kB : Keeps m m6 [r0] := kmix kA k46 (fun q hq => by
      rcases ef q hq with h | h
      · exact Or.inr (by simp [h])
      · exact Or.inl (by omega))
    refine ⟨Or.inr ⟨x, hxL, hr, ⟨_, _, _, H7.mono (fun q hq => ?_)⟩, rfl⟩, [r0], kmix kB k7 (by simp), by simp; exact Or.inl h.q0⟩
    rcases hq with (h | h) | h
    · exact Or.inl h
    · exact Or.inr ⟨by omega, by omega⟩
    · exact Or.inr ⟨by omega, by omega⟩
end Go.Proofs.Ytljklfimdanmlaa.base

