/-
  This text proves what eval's 'come' does, over the abstract run.
  Condition: nothing is known of the calls ahead ('S f = []').
-/
import Derived.Test.YtlogdohlcdhepaaDoorEvP
set_option maxRecDepth 100000
set_option linter.unusedSimpArgs false
set_option linter.unusedVariables false
namespace Go.Proofs.YtlogdohlcdhepaaDoor.base
open Go.Sh gen
variable {S : Sums} {m : Mem}
def idxF : List Int → Int → Nat
  | [], _ => 0
  | [_], _ => 0
  | a :: b :: r, f => if a = f then 0 else idxF (b :: r) f + 1
theorem idxF_eq {l : List Int} {f : Int} {i : Nat} (h1 : ∀ k, k < i → l.getD k 0 ≠ f) (h2 : i ≤ l.length - 1) (h3 : l.length - 1 ≤ i ∨ l.getD i 0 = f) : idxF l f = i := by
  induction l generalizing i with
  | nil => simp at h2; subst h2; rfl
  | cons a t ih =>
    cases t with
    | nil => simp at h2; subst h2; rfl
    | cons b r =>
      unfold idxF
      by_cases ha : a = f
      · rw [if_pos ha]
        cases i with
        | zero => rfl
        | succ i => exact absurd (by simpa using ha) (h1 0 (by omega))
      · rw [if_neg ha]
        cases i with
        | zero => rcases h3 with h3 | h3
                  · simp at h3
                  · exact absurd (by simpa using h3) ha
        | succ i =>
          rw [ih (i := i) (fun k hk => by have := h1 (k + 1) (by omega); simpa using this) (by simp at h2 ⊢; omega) (by
            rcases h3 with h3 | h3
            · left; simp at h3 ⊢; omega
            · right; simpa using h3)]
theorem idxF_lt {l : List Int} {f : Int} (h : l ≠ []) : idxF l f < l.length := by
  induction l with
  | nil => exact absurd rfl h
  | cons a t ih =>
    cases t with
    | nil => simp [idxF]
    | cons b r =>
      unfold idxF
      split
      · simp
      · have := ih (by simp)
        simp at this ⊢; omega
def phiL (u : UnT.D) (l : List Int) (i : Nat) (ws : List Int) : List Int := l.flatMap fun v => if (valD u v).1 = 21 then [ws.getD ((show List Int from (valD u v).2.2.2.2.1).getD i 0).toNat 0] else []
theorem phiL_take {u : UnT.D} {l : List Int} {i j : Nat} {ws : List Int} (h : j < l.length) : phiL u (l.take (j + 1)) i ws = phiL u (l.take j) i ws ++ (if (valD u (l.getD j 0)).1 = 21 then [ws.getD ((show List Int from (valD u (l.getD j 0)).2.2.2.2.1).getD i 0).toNat 0] else []) := by
  unfold phiL
  rw [List.take_succ_eq_append_getElem h, List.flatMap_append, List.getD_eq_getElem?_getD, List.getElem?_eq_getElem h]
  simp
theorem phiL_len (u : UnT.D) (l : List Int) (i : Nat) (ws : List Int) : (phiL u l i ws).length ≤ l.length := by
  induction l with
  | nil => simp [phiL]
  | cons a r ih =>
    have : phiL u (a :: r) i ws = (if (valD u a).1 = 21 then [ws.getD ((show List Int from (valD u a).2.2.2.2.1).getD i 0).toNat 0] else []) ++ phiL u r i ws := by simp [phiL]
    rw [this, List.length_append, List.length_cons]
    split
    · simp; omega
    · simp; omega
theorem phiL_wd {u : UnT.D} {l : List Int} {i : Nat} {ws : List Int} (h : Wd ws) : Wd (phiL u l i ws) := by
  intro w hw
  unfold phiL at hw
  rw [List.mem_flatMap] at hw
  obtain ⟨v, _, hv⟩ := hw
  split at hv
  · simp only [List.mem_singleton] at hv
    rw [hv]; exact h.at_ _
  · simp at hv
def setN (l p : List Int) : Nat → List Int → List Int
  | 0, ws => ws
  | j + 1, ws => (setN l p j ws).set (l.getD j 0).toNat (p.getD j 0)
set_option maxHeartbeats 16000000 in
theorem come_run (hS : S 30 = []) {Q : Nat → Prop} {u : UnT.D} {K : Kv} {V : Vv} (h : Ev Q m u K V) (hnu : nv u ≤ 1000000) (hnb : nb u ≤ 1000000) {from_ : Int} {to : Nat} (hto : to < nb u)
    {l pr : List Int} (el : (u.2.2.2.1[to]).1 = l) (ep : (u.2.2.2.1[to]).2.2.2.2.1 = pr) (hl : l.length ≤ 1000000) (hpl : pr.length ≤ 1000000) (hp0 : pr ≠ [])
    (hv : ∀ v ∈ l, (0 : Int) ≤ v ∧ v < (nv u : Int)) (hph : ∀ v ∈ l, (valD u v).1 = 21 → idxF pr from_ < (valD u v).2.2.2.2.1.length ∧ (valD u v).2.2.2.2.1.length ≤ 1000000 ∧ (0 : Int) ≤ (show List Int from (valD u v).2.2.2.2.1).getD (idxF pr from_) 0 ∧ (show List Int from (valD u v).2.2.2.2.1).getD (idxF pr from_) 0 < (nv u : Int))
    (hs : 0 ≤ V.steps ∧ V.steps ≤ 1000000000) :
    ∃ v m1, callw Tryd.prog TT S 30 [.pointer (some ⟨K.x, 0, none⟩), .int .i64 from_, .int .i64 (to : Int)] m = some (v, m1) ∧
      Ev Q m1 u K { V with ws := setN l (phiL u l (idxF pr from_) V.ws) (phiL u l (idxF pr from_) V.ws).length V.ws, steps := V.steps + (phiL u l (idxF pr from_) V.ws).length } ∧ Keeps m m1 [K.f, K.wf] := by
  obtain ⟨bb, vo, no, po, hbo, ldb, hvo, hno, hpo⟩ := blk_at h.unit hto
  rw [el] at hvo
  rw [ep] at hpo
  generalize u.2.2.2.1[to] = x at *
  have o3 := h.own.load1 (off := 3) rfl
  rw [hbo] at o3
  have t1 : (to : Int) < nb u := by omega
  have t2 : (to : Int) ≤ 9223372036854775807 := by omega
  have hnq : ∀ f ∈ [K.f, K.wf], ¬ Q f := by
    intro f hf
    simp at hf
    rcases hf with rfl | rfl
    · exact h.nq.1
    · exact h.nq.2.1
  obtain ⟨oZ, kZ, nZ⟩ := new_own (m := m) (cs := [.slice none 0 0, .int .i64 0, .int .i64 0, .slice none 0 0, .slice none 0 0, .int .i64 0]) (e := 40) rfl
  obtain ⟨bx, hbx⟩ : ∃ bx, m.next = bx := ⟨_, rfl⟩
  obtain ⟨m3, e3, oX, kX⟩ := store_own (r := _) rfl oZ (off := 0) (vs := blkC x vo no po) (by simp) (by simp [one_int, one_slice])
  simp [over] at oX
  unfold blkC at oX
  rw [el, ep] at oX
  have k3 := kZ.fresh kX (by simp)
  rw [hbx] at oX nZ e3
  have nb3 : bx < m3.next := oX.flt
  have h3 := h.keep0 k3
  refine fn_w 75 [75] k30 hS rfl ?_
  simp [-Int.natCast_add, fieldAddr_of fa78_0, fieldAddr_of fa34_3, load_of ld31, index_slice u31 sz40, load_agg ld40, alloc_of zo40, store_of sz40, o3, t2, hto, ldb, hbx, e3]
  have b4 := oX.load1 (off := 4) rfl
  have b0 := oX.load1 (off := 0) rfl
  have hpo3 := hpo.keep k3 (by simp)
  have hvo3 := hvo.keep k3 (by simp)
  have hpp : 0 < pr.length := List.length_pos_iff.2 hp0
  refine wsem_loop 75 [75] (fun d E mE => ∃ (j : Nat), pr.length - j = d ∧ j ≤ pr.length - 1 ∧ (∀ k, k < j → pr.getD k 0 ≠ from_) ∧ mE = m3 ∧
    E = [(0, .pointer (some ⟨K.x, 0, none⟩)), (1, .int .i64 from_), (6, .pointer (some ⟨bx, 0, none⟩)), (7, .int .i64 (j : Int))]) _ ⟨_, ⟨0, rfl, by omega, fun k hk => by omega, rfl, rfl⟩, ⟨by rfl, by rfl, by rfl, by rfl, trivial⟩⟩ ?_
  rintro d E mE ih ⟨j, hd, hj, hne, rfl, rfl⟩
  have w1 : IntKind.i64.wrap ((pr.length : Int) - 1) = ((pr.length : Int) - 1) := wrap_i64 (by omega) (by omega)
  have jm : (j : Int) ≤ 9223372036854775807 := by omega
  have wj : IntKind.i64.wrap ((j : Int) + 1) = ((j + 1 : Nat) : Int) := by rw [wrap_i64 (by omega) (by omega)]; omega
  have jl : (j : Int) < pr.length := by omega
  have jl' : j < pr.length := by omega
  obtain ⟨pb, hpb, lj⟩ := hpo3.get jl'
  rw [hpb] at b4
  by_cases hgo : j < pr.length - 1 ∧ pr.getD j 0 ≠ from_
  · obtain ⟨g1, g2⟩ := hgo
    have g3 : (j : Int) < (pr.length : Int) - 1 := by omega
    simp [-Int.natCast_add, -List.getD_eq_getElem?_getD, fieldAddr_of fa40_4, load_of ld36, len_slice u36, index_slice u36 sz3, load_of ld3, b4, w1, g3, jm, jl', lj, g2, wj]
    exact ih _ _ _ _ ⟨j + 1, rfl, by omega, fun k hk => by
      by_cases hkj : k = j
      · rw [hkj]; exact g2
      · exact hne k (by omega), rfl, rfl⟩ (by omega) ⟨by rfl, by rfl, by rfl, by rfl, trivial⟩
  have hidx : idxF pr from_ = j := idxF_eq hne hj (by
    by_cases hq : j < pr.length - 1
    · right; exact Classical.byContradiction fun hc => hgo ⟨hq, hc⟩
    · left; omega)
  rw [hidx] at hph ⊢
  clear ih
  apply cut_
  case main =>
    by_cases g1 : j < pr.length - 1
    case' pos =>
      have g2 : pr.getD j 0 = from_ := Classical.byContradiction fun hc => hgo ⟨g1, hc⟩
      have g3 : (j : Int) < (pr.length : Int) - 1 := by omega
      intro meth
      simp [-Int.natCast_add, -List.getD_eq_getElem?_getD, -w30_4, fieldAddr_of fa40_4, load_of ld36, len_slice u36, index_slice u36 sz3, load_of ld3, b4, w1, g3, jm, jl', lj, g2]
    case' neg =>
      have g3 : ¬ (j : Int) < (pr.length : Int) - 1 := by omega
      intro meth
      simp [-Int.natCast_add, -List.getD_eq_getElem?_getD, -w30_4, fieldAddr_of fa40_4, load_of ld36, len_slice u36, index_slice u36 sz3, load_of ld3, b4, w1, g3]
    all_goals
      exact w_sub (E := [(0, .pointer (some ⟨K.x, 0, none⟩)), (6, .pointer (some ⟨bx, 0, none⟩)), (7, .int .i64 (j : Int))]) meth ⟨by rfl, by rfl, by rfl, trivial⟩
  simp [-Int.natCast_add, load_of ld36, len_slice u36, fieldAddr_of fa40_0, b0]
  refine wsem_loop 75 [75] (fun d E mF => ∃ (i : Nat) (lo : Option Addr) (lf : Nat), l.length - i = d ∧ i ≤ l.length ∧ Sl mF lo (phiL u (l.take i) j V.ws).length (words (phiL u (l.take i) j V.ws)) 45 1 lf ∧ (lo ≠ none → mE.next ≤ lf) ∧ Keeps mE mF [] ∧
    E = [(0, .pointer (some ⟨K.x, 0, none⟩)), (6, .pointer (some ⟨bx, 0, none⟩)), (7, .int .i64 (j : Int)), (8, .slice lo (phiL u (l.take i) j V.ws).length (phiL u (l.take i) j V.ws).length), (40, .slice vo l.length l.length), (41, .int .i64 l.length), (42, .int .i64 (i : Int))]) _ ⟨_, ⟨0, none, 0, rfl, by omega, Sl.nil _ _ _ _, fun q => absurd rfl q, .refl _ _, rfl⟩, ⟨by rfl, by rfl, by rfl, by rfl, by rfl, by rfl, by rfl, trivial⟩⟩ ?_
  rintro d E mF ih ⟨i, lo, lf, hd, hi, sL, hlf, kF, rfl⟩
  have im : (i : Int) ≤ 9223372036854775807 := by omega
  have hF := h3.keep0 kF
  have oXF := oX.keep kF (by simp)
  by_cases hlt : i < l.length
  · have i1 : (i : Int) < l.length := by omega
    have wi : IntKind.i64.wrap ((i : Int) + 1) = ((i + 1 : Nat) : Int) := by rw [wrap_i64 (by omega) (by omega)]; omega
    have et := phiL_take (u := u) (i := j) (ws := V.ws) hlt
    obtain ⟨vb, hvb, li⟩ := (hvo3.keep kF (by simp)).get hlt
    rw [hvb] at ih ⊢
    obtain ⟨v, ev⟩ : ∃ v : Nat, l.getD i 0 = (v : Int) := ⟨(l.getD i 0).toNat, by have := hv _ (getD_mem hlt); omega⟩
    have hvn : v < nv u := by have := hv _ (getD_mem hlt); omega
    have hphv := hph _ (getD_mem hlt)
    rw [ev] at li et hphv
    rw [valD_eq hvn] at et hphv
    obtain ⟨xb, ao, fa, hvo', ldx, hra, hqa⟩ := val_at hF.unit hvn
    have o2 := hF.own.load1 (off := 2) rfl
    rw [hvo'] at o2
    have v1 : (v : Int) < nv u := by omega
    have v2 : (v : Int) ≤ 9223372036854775807 := by omega
    have nL1 : (nv u : Int) ≤ 9223372036854775807 := by omega
    generalize u.2.2.1[v] = y at *
    obtain ⟨oY, kY, nY⟩ := new_own (m := mF) (cs := [.int .i64 0, .int .i64 0, .int .i64 0, .int .i64 0, .slice none 0 0, .int .i64 0]) (e := 38) rfl
    obtain ⟨bv, hbv⟩ : ∃ bv, mF.next = bv := ⟨_, rfl⟩
    obtain ⟨m4, e4, oV, kV⟩ := store_own (r := _) rfl oY (off := 0) (vs := valC y ao) (by simp) (by simp [one_int, one_slice])
    simp [over] at oV
    have k4 := kY.fresh kV (by simp)
    rw [hbv] at oV nY e4
    have h4 := hF.keep0 k4
    have c0 := oV.load1 (off := 0) rfl
    have c4 := oV.load1 (off := 4) rfl
    have w6 := h4.own.load1 (off := 6) rfl
    have lb0 := phiL_len u (l.take i) j V.ws
    have lb1 : (l.take i).length = i := by rw [List.length_take]; omega
    rw [lb1] at lb0
    obtain ⟨p, hp⟩ : ∃ p, phiL u (l.take i) j V.ws = p := ⟨_, rfl⟩
    rw [hp] at et sL lb0 ⊢
    by_cases c1 : y.1 = 21
    · rw [if_pos c1] at et
      obtain ⟨q1, q2, q3, q4⟩ := hphv c1
      obtain ⟨w, ew⟩ : ∃ w : Nat, (show List Int from y.2.2.2.2.1).getD j 0 = (w : Int) := ⟨_, (Int.toNat_of_nonneg q3).symm⟩
      rw [ew] at q4 et
      rw [Int.toNat_natCast] at et
      have w1' : w < nv u := by omega
      have w2' : (w : Int) ≤ 9223372036854775807 := by omega
      obtain ⟨ab, rfl, oA⟩ := (hra.keep k4 (by simp)).rdo (by omega)
      have la := oA.load1 (off := j) (ints_at q1)
      rw [ew] at la
      have lw := h4.wds.load1 (off := w) (words_at (by rw [h.len]; exact w1'))
      have q5 : (j : Int) < y.2.2.2.2.1.length := by omega
      have q6 : (y.2.2.2.2.1.length : Int) ≤ 9223372036854775807 := by omega
      simp [-Int.natCast_add, -List.getD_eq_getElem?_getD, fieldAddr_of fa78_0, load_of ld36, index_slice u36 sz3, load_of ld3, fieldAddr_of fa34_2, load_of ld30, index_slice u30 sz38, load_agg ld38, alloc_of zo38, store_of sz38, fieldAddr_of fa38_0, fieldAddr_of fa78_2, load_of ld42, fieldAddr_of fa38_4, index_slice u42 sz45, load_of ld45, buildSlice_of u42 bs45 rfl, append_s u42 sz45, i1, im, hlt, li, o2, v2, hvn, ldx, hbv, e4, c0, c1, c4, w6, jm, q1, la, w1', w2', lw]
      generalize hra : sappend _ _ _ _ _ _ = ra
      obtain ⟨m5, lb5, lf5, rfl, oL5, k5, hlf5, _⟩ := app_slz hra u42 ap45 (sL.keepz k4 (by simp)) (by omega) (by simp) (by simp [one_int]) (by omega) (by omega)
      simp [-Int.natCast_add, -List.getD_eq_getElem?_getD, load_of ld36, load_of ld3, load_of ld42, load_of ld45, w6, c4, la, lw, wi]
      have kn1 := kF.1
      have kn4 := k4.1
      have K5 : Keeps mE m5 [] := (kF.trans k4).fresh k5 (by
        intro f hf
        split at hf
        · simp at hf
        · rename_i hn
          simp at hf
          rw [hf]; exact hlf hn)
      have lf5' : mE.next ≤ lf5 := by
        rcases hlf5 with ⟨q, q2⟩ | q
        · rw [q2]; exact hlf q
        · omega
      have elen : (p ++ [V.ws.getD w 0]).length = p.length + 1 := by simp
      exact ih _ _ _ _ ⟨i + 1, some ⟨lb5, 0, none⟩, lf5, rfl, by omega, by rw [et]; exact Sl.of (by simpa [words] using oL5) (by rw [words_len]; simp), fun _ => lf5', K5, rfl⟩ (by omega) ⟨by rfl, by rfl, by rfl, by rw [et, elen]; rfl, by rfl, by rfl, by rfl, trivial⟩
    · rw [if_neg c1, List.append_nil] at et
      simp [-Int.natCast_add, -List.getD_eq_getElem?_getD, fieldAddr_of fa78_0, index_slice u36 sz3, load_of ld3, fieldAddr_of fa34_2, load_of ld30, index_slice u30 sz38, load_agg ld38, alloc_of zo38, store_of sz38, fieldAddr_of fa38_0, i1, im, hlt, li, o2, v2, hvn, ldx, hbv, e4, c0, c1, wi]
      exact ih _ _ _ _ ⟨i + 1, lo, lf, rfl, by omega, by rw [et]; exact sL.keepz k4 (by simp), hlf, kF.trans k4, rfl⟩ (by omega) ⟨by rfl, by rfl, by rfl, by rw [et]; rfl, by rfl, by rfl, by rfl, trivial⟩
  have i1 : ¬ (i : Int) < l.length := by omega
  rw [List.take_of_length_le (by omega)] at sL ⊢
  clear ih
  simp [-Int.natCast_add, len_slice u42, i1]
  have pl := phiL_len u l j V.ws
  have pw := phiL_wd (u := u) (l := l) (i := j) h.wd
  obtain ⟨P, hP⟩ : ∃ P, phiL u l j V.ws = P := ⟨_, rfl⟩
  rw [hP] at pl pw sL ⊢
  have ff : K.f < mF.next ∧ K.wf < mF.next ∧ K.f < mE.next ∧ K.wf < mE.next := ⟨hF.own.flt, hF.wds.flt, h3.own.flt, h3.wds.flt⟩
  have fb := nb3
  have fbm : m.next ≤ bx := by omega
  have ffm : K.f < m.next ∧ K.wf < m.next := ⟨h.own.flt, h.wds.flt⟩
  have KF : Keeps m mF [K.f, K.wf] := (k3.trans kF).mono (by simp)
  refine wsem_loop 75 [75] (fun d E mG => ∃ (k : Nat), P.length - k = d ∧ k ≤ P.length ∧ Ev Q mG u K { V with ws := setN l P k V.ws, steps := V.steps + k } ∧ Keeps mF mG [K.f, K.wf] ∧
    E = [(0, .pointer (some ⟨K.x, 0, none⟩)), (6, .pointer (some ⟨bx, 0, none⟩)), (72, .slice lo P.length P.length), (73, .int .i64 P.length), (74, .int .i64 (k : Int))]) _ ⟨_, ⟨0, rfl, by omega, by simpa [setN] using hF, .refl _ _, rfl⟩, ⟨by rfl, by rfl, by rfl, by rfl, by rfl, trivial⟩⟩ ?_
  rintro d E mG ih ⟨k, hd, hk, hG, kG, rfl⟩
  have km : (k : Int) ≤ 9223372036854775807 := by omega
  by_cases hlt : k < P.length
  · have k1 : (k : Int) < P.length := by omega
    have wk : IntKind.i64.wrap ((k : Int) + 1) = ((k + 1 : Nat) : Int) := by rw [wrap_i64 (by omega) (by omega)]; omega
    obtain ⟨lb, rfl, oL⟩ := (sL.keepz kG (fun q => by have := hlf q; simp; omega)).own (by omega)
    have lk := oL.load1 (off := k) (words_at hlt)
    have oXG := oXF.keep kG (by simp; omega)
    have b0G := oXG.load1 (off := 0) rfl
    have kl : k < l.length := by omega
    have kl' : (k : Int) < l.length := by omega
    obtain ⟨vb, hvb, lv⟩ := ((hvo3.keep kF (by simp)).keep kG hnq).get kl
    rw [hvb] at b0G
    obtain ⟨v, ev⟩ : ∃ v : Nat, l.getD k 0 = (v : Int) := ⟨(l.getD k 0).toNat, by have := hv _ (getD_mem kl); omega⟩
    have hvn : v < nv u := by have := hv _ (getD_mem kl); omega
    rw [ev] at lv
    have v1 : (v : Int) < nv u := by omega
    have v2 : (v : Int) ≤ 9223372036854775807 := by omega
    have w6 := hG.own.load1 (off := 6) rfl
    obtain ⟨m5, e5, v5, k5⟩ := hG.setw (i := v) hvn (pw.at_ k)
    dsimp only at v5
    have w8 := v5.own.load1 (off := 8) rfl
    obtain ⟨m6, e6, v6, k6⟩ := ev_steps v5 (V.steps + k + 1)
    have ws1 : IntKind.i64.wrap (V.steps + (k : Int) + 1) = V.steps + k + 1 := wrap_i64 (by omega) (by omega)
    simp [-Int.natCast_add, -List.getD_eq_getElem?_getD, load_of ld36, index_slice u36 sz3, load_of ld3, fieldAddr_of fa40_0, fieldAddr_of fa78_2, load_of ld42, index_slice u42 sz45, load_of ld45, store_of sz45, fieldAddr_of fa78_4, store_of sz3, k1, km, hlt, lk, b0G, kl, lv, v2, hvn, w6, e5, w8, ws1, e6, wk]
    have kk : Keeps mF m6 [K.f, K.wf] := (kG.trans (k5.mono (by simp))).trans (k6.mono (by simp))
    have es : setN l P (k + 1) V.ws = (setN l P k V.ws).set v (P.getD k 0) := by
      show (setN l P k V.ws).set (l.getD k 0).toNat (P.getD k 0) = _
      rw [ev, Int.toNat_natCast]
    have et : V.steps + ((k + 1 : Nat) : Int) = V.steps + k + 1 := by omega
    exact ih _ _ _ _ ⟨k + 1, rfl, by omega, by rw [es, et]; exact v6, kk, rfl⟩ (by omega) ⟨by rfl, by rfl, by rfl, by rfl, by rfl, trivial⟩
  have k1 : ¬ (k : Int) < P.length := by omega
  have ek : k = P.length := by omega
  simp [-Int.natCast_add, k1]
  rw [ek] at hG
  exact ⟨hG, KF.trans kG⟩
end Go.Proofs.YtlogdohlcdhepaaDoor.base

