/-
  This text proves what eval's 'params' does, over the abstract run.
  Condition: nothing is known of the calls ahead ('S f = []').
-/
import Derived.Test.YtlogdohlcdhepaaDoorEvO
set_option maxRecDepth 100000
set_option linter.unusedSimpArgs false
set_option linter.unusedVariables false
namespace Go.Proofs.YtlogdohlcdhepaaDoor.base
open Go.Sh gen
variable {S : Sums} {m : Mem}
abbrev nb (u : UnT.D) : Nat := u.2.2.2.1.length
abbrev blkC (x : BlkT.D) (vo no po : Option Addr) : List Value := [.slice vo x.1.length x.1.length, .int .i64 x.2.1, .int .i64 x.2.2.1, .slice no x.2.2.2.1.length x.2.2.2.1.length, .slice po x.2.2.2.2.1.length x.2.2.2.2.1.length, .int .i64 x.2.2.2.2.2.1]
abbrev IntsAt (Q : Nat → Prop) (m : Mem) (ao : Option Addr) (l : List Int) : Prop := ∃ f, Rs m ao l.length (l.map (Value.int .i64)) 3 1 f ∧ (l.length ≠ 0 → Q f)
theorem IntsAt.keep {Q : Nat → Prop} {m1 : Mem} {ao : Option Addr} {l : List Int} {fs : List Nat} (h : IntsAt Q m ao l) (k : Keeps m m1 fs) (hf : ∀ f ∈ fs, ¬ Q f) : IntsAt Q m1 ao l := by
  obtain ⟨f, h1, h2⟩ := h
  by_cases hl : l.length = 0
  · exact ⟨f, ⟨h1.1, Or.inl ⟨hl, h1.spot⟩⟩, h2⟩
  · exact ⟨f, h1.keep k (fun hm => hf f hm (h2 hl)), h2⟩
theorem IntsAt.get {Q : Nat → Prop} {ao : Option Addr} {l : List Int} (h : IntsAt Q m ao l) {i : Nat} (hi : i < l.length) : ∃ b, ao = some ⟨b, 0, none⟩ ∧ loadRow m ⟨b, i, none⟩ 1 = some [.int .i64 (l.getD i 0)] := by
  obtain ⟨f, h1, h2⟩ := h
  obtain ⟨b, rfl, o⟩ := h1.rdo (by omega)
  exact ⟨b, rfl, o.load1 (off := i) (ints_at hi)⟩
theorem blk_at {Q : Nat → Prop} {u : UnT.D} {vo bo so : Option Addr} (h : UAt Q m u vo bo so) {i : Nat} (hi : i < nb u) :
    ∃ (b : Nat) (vo no po : Option Addr), bo = some ⟨b, 0, none⟩ ∧ loadRow m ⟨b, i * 6, none⟩ 6 = some (blkC (u.2.2.2.1[i]) vo no po) ∧ IntsAt Q m vo (u.2.2.2.1[i]).1 ∧ IntsAt Q m no (u.2.2.2.1[i]).2.2.2.1 ∧ IntsAt Q m po (u.2.2.2.1[i]).2.2.2.2.1 := by
  obtain ⟨vb, c, fam, e, hc, hl, hq, _⟩ := slice_elem h.b hi
  obtain ⟨_, _, e1, h1, _, _, e2, rfl, _, _, e3, rfl, _, _, e4, h4, _, _, e5, h5, _, _, e6, rfl, h7⟩ := hc
  simp only [AtQ] at h7
  subst h7
  obtain ⟨ao1, f1, rfl, hr1, hqf1⟩ := ints_of h1
  obtain ⟨ao4, f4, rfl, hr4, hqf4⟩ := ints_of h4
  obtain ⟨ao5, f5, rfl, hr5, hqf5⟩ := ints_of h5
  refine ⟨vb, ao1, ao4, ao5, e, ?_, ⟨f1, hr1, hqf1⟩, ⟨f4, hr4, hqf4⟩, ⟨f5, hr5, hqf5⟩⟩
  rw [e1, e2, e3, e4, e5, e6] at hl
  exact hl
def valD (u : UnT.D) (v : Int) : ValT.D := (show List ValT.D from u.2.2.1).getD v.toNat ((0 : Int), (0 : Int), (0 : Int), (0 : Int), ([] : List Int), (0 : Int), ())
theorem valD_eq {u : UnT.D} {v : Nat} (h : v < nv u) : valD u (v : Int) = u.2.2.1[v] := by
  unfold valD
  rw [Int.toNat_natCast, List.getD_eq_getElem?_getD, List.getElem?_eq_getElem h]; rfl
def parS (u : UnT.D) (loc : List Int) (p : List Int × Int) (v : Int) : List Int × Int :=
  if (valD u v).1 = 1 then (if (show Int from (valD u v).2.2.2.1) < loc.length then p.1.set v.toNat (loc.getD (show Int from (valD u v).2.2.2.1).toNat 0) else p.1, p.2 + 1) else p
def parF (u : UnT.D) (loc : List Int) (l : List Int) (p : List Int × Int) : List Int × Int := l.foldl (parS u loc) p
theorem parF_take {u : UnT.D} {loc l : List Int} {p : List Int × Int} {j : Nat} (h : j < l.length) : parF u loc (l.take (j + 1)) p = parS u loc (parF u loc (l.take j) p) (l.getD j 0) := by
  unfold parF
  rw [List.take_succ_eq_append_getElem h, List.foldl_append, List.getD_eq_getElem?_getD, List.getElem?_eq_getElem h]
  rfl
set_option maxHeartbeats 4000000 in
theorem params_run (hS : S 25 = []) {Q : Nat → Prop} {u : UnT.D} {K : Kv} {V : Vv} (h : Ev Q m u K V) (hnu : nv u ≤ 1000000) (hb : 0 < nb u)
    (hl : (u.2.2.2.1[0]).1.length ≤ 1000000) (hv : ∀ v ∈ (show List Int from (u.2.2.2.1[0]).1), (0 : Int) ≤ v ∧ v < (nv u : Int)) (hn : ∀ x ∈ u.2.2.1, x.1 = 1 → (0 : Int) ≤ x.2.2.2.1 ∧ x.2.2.2.1 ≤ 9223372036854775807)
    (hs : 0 ≤ V.steps ∧ V.steps ≤ 1000000) {lo : Option Addr} {loc : List Int} {c lf : Nat} (hlo : Rs m lo loc.length (words loc) 45 1 lf) (hlq : loc.length ≠ 0 → lf ≠ K.f ∧ lf ≠ K.wf) (hlw : Wd loc) (hlc : loc.length ≤ c ∧ c ≤ 1000000) :
    ∃ v m1, callw Tryd.prog TT S 25 [.pointer (some ⟨K.x, 0, none⟩), .slice lo loc.length c] m = some (v, m1) ∧
      Ev Q m1 u K { V with ws := (parF u loc (u.2.2.2.1[0]).1 (V.ws, V.steps)).1, steps := (parF u loc (u.2.2.2.1[0]).1 (V.ws, V.steps)).2 } ∧ Keeps m m1 [K.f, K.wf] := by
  obtain ⟨bb, vo, no, po, hbo, ldb, hvo, _, _⟩ := blk_at h.unit hb
  generalize hlx : (show List Int from (u.2.2.2.1[0]).1) = l at *
  have hlx' : (u.2.2.2.1[0]).1 = l := hlx
  rw [hlx'] at hl ⊢
  rw [hlx'] at hvo
  have l00 := load_sub (k := 0) ldb rfl
  rw [hlx'] at l00
  have o3 := h.own.load1 (off := 3) rfl
  rw [hbo] at o3
  have hb1 : (0 : Int) < nb u := by omega
  simp only [Nat.zero_mul, Nat.add_zero] at l00
  refine fn_w 17 [17, 30, 35] k25 hS rfl ?_
  simp [-Int.natCast_add, fieldAddr_of fa78_0, fieldAddr_of fa34_3, load_of ld31, index_slice u31 sz40, fieldAddr_of fa40_0, load_of ld36, len_slice u36, o3, hb, l00]
  have hnq : ∀ f ∈ [K.f, K.wf], ¬ Q f := by
    intro f hf
    simp at hf
    rcases hf with rfl | rfl
    · exact h.nq.1
    · exact h.nq.2.1
  obtain ⟨p0, hp0⟩ : ∃ p0, (V.ws, V.steps) = p0 := ⟨_, rfl⟩
  have p01 : p0.1 = V.ws := by rw [← hp0]
  have p02 : p0.2 = V.steps := by rw [← hp0]
  rw [hp0]
  refine wsem_loop 17 [17, 30, 35] (fun d E mE => ∃ (j : Nat), l.length - j = d ∧ j ≤ l.length ∧ Ev Q mE u K { V with ws := (parF u loc (l.take j) p0).1, steps := (parF u loc (l.take j) p0).2 } ∧ 0 ≤ (parF u loc (l.take j) p0).2 ∧ (parF u loc (l.take j) p0).2 ≤ V.steps + j ∧ Keeps m mE [K.f, K.wf] ∧
    E = [(0, .pointer (some ⟨K.x, 0, none⟩)), (1, .slice lo loc.length c), (14, .slice vo l.length l.length), (15, .int .i64 l.length), (16, .int .i64 (j : Int))]) _ ⟨_, ⟨0, rfl, by omega, by rw [List.take_zero]; unfold parF; rw [List.foldl_nil, p01, p02]; exact h, by rw [List.take_zero]; unfold parF; rw [List.foldl_nil, p02]; exact hs.1, by rw [List.take_zero]; unfold parF; rw [List.foldl_nil, p02]; omega, .refl _ _, rfl⟩, ⟨by rfl, by rfl, by rfl, by rfl, by rfl, trivial⟩⟩ ?_
  rintro d E mE ih ⟨j, hd, hj, hE, s0, s1, kE, rfl⟩
  have jm : (j : Int) ≤ 9223372036854775807 := by omega
  by_cases hlt : j < l.length
  · have j1 : (j : Int) < l.length := by omega
    have wj : IntKind.i64.wrap ((j : Int) + 1) = ((j + 1 : Nat) : Int) := by rw [wrap_i64 (by omega) (by omega)]; omega
    have ep := parF_take (u := u) (loc := loc) (p := p0) hlt
    obtain ⟨p, hp⟩ : ∃ p, parF u loc (l.take j) p0 = p := ⟨_, rfl⟩
    rw [hp] at ep hE s0 s1
    obtain ⟨vb, rfl, lj⟩ := (hvo.keep kE hnq).get hlt
    obtain ⟨v, ev⟩ : ∃ v : Nat, l.getD j 0 = (v : Int) := ⟨(l.getD j 0).toNat, by have := hv _ (getD_mem hlt); omega⟩
    have hvn : v < nv u := by have := hv _ (getD_mem hlt); omega
    rw [ev] at lj ep
    obtain ⟨xb, ao, fa, hvo', ldx, hra, hqa⟩ := val_at hE.unit hvn
    have o2 := hE.own.load1 (off := 2) rfl
    rw [hvo'] at o2
    have v1 : (v : Int) < nv u := by omega
    have v2 : (v : Int) ≤ 9223372036854775807 := by omega
    have nL1 : (nv u : Int) ≤ 9223372036854775807 := by omega
    have hxn := hn (u.2.2.1[v]) (List.getElem_mem hvn)
    have eps : parS u loc p (v : Int) = (if (u.2.2.1[v]).1 = 1 then (if (show Int from (u.2.2.1[v]).2.2.2.1) < loc.length then p.1.set v (loc.getD (show Int from (u.2.2.1[v]).2.2.2.1).toNat 0) else p.1, p.2 + 1) else p) := by
      unfold parS
      rw [valD_eq hvn, Int.toNat_natCast]
    rw [eps] at ep
    generalize u.2.2.1[v] = x at *
    obtain ⟨oZ, kZ, nZ⟩ := new_own (m := mE) (cs := [.int .i64 0, .int .i64 0, .int .i64 0, .int .i64 0, .slice none 0 0, .int .i64 0]) (e := 38) rfl
    obtain ⟨bx, hbx⟩ : ∃ bx, mE.next = bx := ⟨_, rfl⟩
    obtain ⟨m3, e3, oX, kX⟩ := store_own (r := _) rfl oZ (off := 0) (vs := valC x ao) (by simp) (by simp [one_int, one_slice])
    simp [over] at oX
    have k3 := kZ.fresh kX (by simp)
    rw [hbx] at oX nZ e3
    have h3 := hE.keep0 k3
    have k3f : Keeps m m3 [K.f, K.wf] := kE.trans (k3.mono (by simp))
    have b0 := oX.load1 (off := 0) rfl
    have b3 := oX.load1 (off := 3) rfl
    have w6 := h3.own.load1 (off := 6) rfl
    have w8 := h3.own.load1 (off := 8) rfl
    dsimp only at w8
    obtain ⟨o, ho⟩ : ∃ o : Int, x.1 = o := ⟨_, rfl⟩
    obtain ⟨n, hn'⟩ : ∃ n : Int, x.2.2.2.1 = n := ⟨_, rfl⟩
    rw [ho] at b0 ep
    rw [hn'] at b3
    rw [show (show Int from x.2.2.2.1) = n from hn'] at ep
    have hxn' : o = 1 → (0 : Int) ≤ n ∧ n ≤ 9223372036854775807 := by rw [← ho, ← hn']; exact hxn
    have wp : IntKind.i64.wrap (p.2 + 1) = p.2 + 1 := wrap_i64 (by omega) (by omega)
    by_cases c1 : o = 1
    · rw [if_pos c1] at ep
      obtain ⟨q1, q2⟩ := hxn' c1
      obtain ⟨n', rfl⟩ : ∃ n' : Nat, n = (n' : Int) := ⟨n.toNat, by omega⟩
      by_cases c2 : (n' : Int) < loc.length
      · rw [if_pos c2, Int.toNat_natCast] at ep
        have c2' : n' < loc.length := by omega
        have q5 : (n' : Int) ≤ 9223372036854775807 := by omega
        obtain ⟨lb, rfl, ol⟩ := ((hlo.keep kE (by have := hlq (by omega); simp; omega)).keep k3 (by simp)).rdo (by omega)
        have ll := ol.load1 (off := n') (words_at c2')
        obtain ⟨m4, e4, v4, k4⟩ := h3.setw (i := v) hvn (hlw.at_ n')
        dsimp only at v4
        have w8' := v4.own.load1 (off := 8) rfl
        obtain ⟨m5, e5, v5, k5⟩ := ev_steps v4 (p.2 + 1)
        simp [-Int.natCast_add, -List.getD_eq_getElem?_getD, fieldAddr_of fa78_0, index_slice u36 sz3, load_of ld3, fieldAddr_of fa34_2, load_of ld30, index_slice u30 sz38, load_agg ld38, alloc_of zo38, store_of sz38, fieldAddr_of fa38_0, fieldAddr_of fa38_3, load_of ld2, len_slice u42, fieldAddr_of fa78_2, load_of ld42, index_slice u42 sz45, load_of ld45, store_of sz45, fieldAddr_of fa78_4, store_of sz3, j1, jm, hlt, lj, o2, v2, hvn, ldx, hbx, e3, b0, b3, c1, c2, c2', q5, w6, ll, e4, w8', wp, e5, wj]
        have kk : Keeps m m5 [K.f, K.wf] := (k3f.trans (k4.mono (by simp))).trans (k5.mono (by simp))
        exact ih _ _ _ _ ⟨j + 1, rfl, by omega, by rw [ep]; exact v5, by rw [ep]; dsimp only; omega, by rw [ep]; dsimp only; omega, kk, rfl⟩ (by omega) ⟨by rfl, by rfl, by rfl, by rfl, by rfl, trivial⟩
      · rw [if_neg c2] at ep
        obtain ⟨m5, e5, v5, k5⟩ := ev_steps h3 (p.2 + 1)
        simp [-Int.natCast_add, -List.getD_eq_getElem?_getD, fieldAddr_of fa78_0, index_slice u36 sz3, load_of ld3, fieldAddr_of fa34_2, load_of ld30, index_slice u30 sz38, load_agg ld38, alloc_of zo38, store_of sz38, fieldAddr_of fa38_0, fieldAddr_of fa38_3, load_of ld2, len_slice u42, fieldAddr_of fa78_4, store_of sz3, j1, jm, hlt, lj, o2, v2, hvn, ldx, hbx, e3, b0, b3, c1, c2, w8, wp, e5, wj]
        exact ih _ _ _ _ ⟨j + 1, rfl, by omega, by rw [ep]; exact v5, by rw [ep]; dsimp only; omega, by rw [ep]; dsimp only; omega, k3f.trans (k5.mono (by simp)), rfl⟩ (by omega) ⟨by rfl, by rfl, by rfl, by rfl, by rfl, trivial⟩
    · rw [if_neg c1] at ep
      simp [-Int.natCast_add, -List.getD_eq_getElem?_getD, fieldAddr_of fa78_0, index_slice u36 sz3, load_of ld3, fieldAddr_of fa34_2, load_of ld30, index_slice u30 sz38, load_agg ld38, alloc_of zo38, store_of sz38, fieldAddr_of fa38_0, j1, jm, hlt, lj, o2, v2, hvn, ldx, hbx, e3, b0, c1, wj]
      exact ih _ _ _ _ ⟨j + 1, rfl, by omega, by rw [ep]; exact h3, by rw [ep]; omega, by rw [ep]; omega, k3f, rfl⟩ (by omega) ⟨by rfl, by rfl, by rfl, by rfl, by rfl, trivial⟩
  · have j1 : ¬ (j : Int) < l.length := by omega
    have et : l.take j = l := List.take_of_length_le (by omega)
    rw [et] at hE
    simp [-Int.natCast_add, j1]
    exact ⟨hE, kE⟩
end Go.Proofs.YtlogdohlcdhepaaDoor.base

