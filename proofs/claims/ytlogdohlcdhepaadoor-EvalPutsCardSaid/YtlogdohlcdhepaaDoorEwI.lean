/-
  This text proves what ssa.Order answers, over the abstract run.
  Condition: nothing is known of the calls ahead ('S f = []').
-/
import Derived.Test.YtlogdohlcdhepaaDoorEwH
set_option maxRecDepth 100000
set_option linter.unusedSimpArgs false
set_option linter.unusedVariables false
namespace Go.Proofs.YtlogdohlcdhepaaDoor.base
open Go.Sh gen
variable {S : Sums} {m : Mem}
def ord0 (u : UnT.D) : OSt := ((List.replicate (nb u) false).set 0 true, [], [(0, 0)])
theorem OAt.open {m0 : Mem} {u : UnT.D} {vo bo so : Option Addr} {ub sb : Nat} {sn : List Bool} (h : OAt m0 m u vo bo so ub sb none none 0 0 (sn, [], [])) (hb0 : 0 < nb u) (hs : sn.getD 0 false = false) (r : Option (Value × Mem))
    (hr : sappend Tryd.prog 122 (m.new [.int .i64 0, .int .i64 0] 124) (.slice none 0 0) [.int .i64 0, .int .i64 0] 1 = r) :
    ∃ m1 to' tf' m2, r = some (.slice to' 1 1, m1) ∧ storeRow m1 ⟨sb, 0, none⟩ [.bool true] = some m2 ∧ OAt m0 m2 u vo bo so ub sb none to' 0 tf' (sn.set 0 true, [], [(0, 0)]) := by
  have hc := h.cnt
  have hsl := h.sl
  simp only [List.length_nil] at hc hsl
  obtain ⟨m1, to', tf', rfl, s2, k2, c1, c2, c3⟩ := app_sr_new hr u122 ap124 h.st (by omega) (by simp) (by simp [one_int]) (by simp) (by simp)
  have c4 : m.next ≤ tf' := by
    rcases c1 with ⟨hn, _⟩ | c1
    · exact absurd rfl hn
    · exact c1
  rw [if_pos rfl] at k2
  obtain ⟨m2, e2, o2, k3⟩ := own_setb (h.sn.keep k2 (by simp)) (i := 0) (by simp only; omega) true
  obtain ⟨f1, f2, f3, f4, f5, f6⟩ := h.fr
  obtain ⟨n1, n2, n3, n4⟩ := h.ne
  have m1n : m.next ≤ m1.next := k2.1
  have m2n : m1.next ≤ m2.next := k3.1
  have k0 : m0.next ≤ m.next := h.k.1
  refine ⟨m1, to', tf', m2, rfl, e2, ⟨(h.own.keep k2 (by simp)).keep k3 (by simpa using n1), o2, Sl.nil _ _ _ _, s2.keep k3 (fun hn => by simp; omega), (h.k.trans k2).fresh k3 (by simpa using f2), ⟨f1, f2, by omega, by omega, fun hn => absurd rfl hn, fun hn => ⟨by omega, by have := s2.flt hn; omega⟩⟩, ⟨n1, n2, fun _ => ⟨by omega, by omega⟩, fun hn => absurd rfl hn⟩, by simpa using hsl, ?_, ?_⟩⟩
  · simp only [List.length_cons, List.length_nil]
    rw [count_set (by omega) hs]; omega
  · intro p hp
    simp at hp
    subst hp
    exact ⟨hb0, by dsimp only; omega⟩
def OrdP (m m1 : Mem) (l : List Int) (v : Value) : Prop := ∃ po pf, v = .slice po l.length l.length ∧ Sl m1 po l.length (ints l) 3 1 pf ∧ (po ≠ none → m.next ≤ pf)
set_option maxHeartbeats 8000000 in
theorem order_run (hS : S 72 = []) (hB : S 65 = []) (hR : S 82 = []) {Q : Nat → Prop} {u : UnT.D} {vo bo so : Option Addr} (hU : UAt Q m u vo bo so) (hQ : ∀ f, Q f → f < m.next) (hb0 : 0 < nb u) (hnb : nb u ≤ 1000) (hnx : NxOk u)
    {D : Nat} {O : List Int} (hO : ordIt u D (ord0 u) = some O) :
    ∃ v m1, callw Tryd.prog TT S 72 [.agg (uCells u vo bo so).toArray] m = some (v, m1) ∧ OrdP m m1 O.reverse v ∧ Keeps m m1 [] := by
  obtain ⟨oU, kU, nU⟩ := new_own (m := m) (cs := uCells u vo bo so) (e := 34) rfl
  obtain ⟨mB, hmB⟩ : ∃ mB, m.new (uCells u vo bo so) 34 = mB := ⟨_, rfl⟩
  obtain ⟨ub, hub⟩ : ∃ ub, m.next = ub := ⟨_, rfl⟩
  rw [hmB, hub] at oU nU
  rw [hmB] at kU
  have u3 := oU.load1 (off := 3) rfl
  have hz := zeros_bool (nb u) (by omega)
  rw [bools_zero] at hz
  have n1 : (nb u : Int) ≤ 9223372036854775807 := by omega
  have n2 : nb u * 1 ≤ 281474976710656 := by omega
  have n3 : nb u ≤ 281474976710656 := by omega
  have n4 : (0 : Int) < nb u := by omega
  obtain ⟨oW, kW, nW⟩ := new_own (m := mB) (cs := bools (List.replicate (nb u) false)) (e := 4) rfl
  obtain ⟨sb, hsb⟩ : ∃ ob, mB.next = ob := ⟨_, rfl⟩
  obtain ⟨mD, hmD⟩ : ∃ mD, mB.new (bools (List.replicate (nb u) false)) 4 = mD := ⟨_, rfl⟩
  rw [hmD, hsb] at oW nW
  rw [hmD] at kW
  have u3D := (oU.keep kW (by simp)).load1 (off := 3) rfl
  have A0 : OAt m mD u vo bo so ub sb none none 0 0 (List.replicate (nb u) false, [], []) := ⟨oU.keep kW (by simp), oW, Sl.nil _ _ _ _, Sr.nil _ _ _ _, kU.trans kW, ⟨by omega, by omega, by omega, by omega, fun h => absurd rfl h, fun h => absurd rfl h⟩, ⟨by omega, fun h => absurd rfl h, fun h => absurd rfl h, fun h => absurd rfl h⟩, by simp, by simp [List.count_replicate], fun p hp => by simp at hp⟩
  have hop := A0.open hb0 (by simp [List.getD_eq_getElem?_getD, hb0])
  refine fn_w 9 [16, 25, 46, 83] k72 hS rfl ?_
  simp [-Int.natCast_add, -List.map_replicate, box_of b34, fieldAddr_of fa34_3, load_of ld31, len_slice u31, make_of u121 ap4, build_of bo124, buildSlice_of u122 bs124 rfl, append_s u122 sz124, hmB, hub, u3, hz, n1, n3, hmD, hsb, u3D, hb0]
  generalize hra : sappend _ _ _ _ _ _ = ra
  obtain ⟨mE, to0, tf0, mF0, rfl, eF, A1⟩ := hop ra hra
  simp [-Int.natCast_add, -List.map_replicate, index_slice u121 sz4, store_of sz4, hb0, eF]
  refine wsem_loop 9 [16, 25, 46, 83] (fun d E mF => ∃ (sn : List Bool) (pl : List Int) (st : List (Nat × Nat)) (po to : Option Addr) (pf tf : Nat), OAt m mF u vo bo so ub sb po to pf tf (sn, pl, st) ∧ ordIt u d (sn, pl, st) = some O ∧
    E = [(1, .pointer (some ⟨ub, 0, none⟩)), (3, .slice (some ⟨sb, 0, none⟩) (nb u) (nb u)), (4, .slice po pl.length pl.length), (5, .slice to st.length st.length)]) D ⟨_, ⟨_, _, _, _, _, _, _, A1, hO, rfl⟩, ⟨by rfl, by rfl, by rfl, by rfl, trivial⟩⟩ ?_
  clear A0 A1 hop hra eF
  rintro d E mF ih ⟨sn, pl, st, po, to, pf, tf, A, hd, rfl⟩
  match st, d, A, hd with
  | [], d, A, hd =>
    clear ih
    have hd' : O = pl := by
      cases d with
      | zero => simp only [ordIt, Option.some.injEq] at hd; exact hd.symm
      | succ d => simp only [ordIt] at hd; cases hd
    subst hd'
    have hcl := count_le sn
    have hc := A.cnt
    have hsl := A.sl
    simp only [List.length_nil] at hc hsl
    obtain ⟨v, mR, cR, sR, kR⟩ := rev_run hR A.pl (by dsimp only; omega)
    dsimp only at cR sR kR
    simp [-Int.natCast_add, -List.map_reverse, len_slice u122, cR]
    refine ⟨⟨po, pf, by simp, by simpa using sR, fun hn => (A.fr.2.2.2.2.1 hn).1⟩, A.k.fresh kR fun f hf => ?_⟩
    split at hf
    · simp at hf
    · rename_i hn; simp at hf; rw [hf]; exact (A.fr.2.2.2.2.1 hn).1
  | (b, i) :: st, 0, A, hd => simp only [ordIt] at hd; cases hd
  | (b, i) :: st, d + 1, A, hd =>
    have hbi := A.ok (b, i) (by simp)
    simp only at hbi
    have hcl := count_le sn
    have hc := A.cnt
    have hsl := A.sl
    simp only [List.length_cons] at hc hsl
    have s1 : ((st.length : Int) + 1 > 0) := by omega
    have s2 : (0 : Int) < ((st.length + 1 : Nat) : Int) := by omega
    have ws : IntKind.i64.wrap (((st.length + 1 : Nat) : Int) - 1) = (st.length : Int) := by rw [wrap_i64 (by omega) (by omega)]; omega
    have s3 : (st.length : Int) < ((st.length + 1 : Nat) : Int) := by omega
    have s4 : (st.length : Int) ≤ 9223372036854775807 := by omega
    have s5 : st.length < st.length + 1 := by omega
    obtain ⟨tb, rest, hto, oT⟩ := A.st.own (by simp)
    subst hto
    simp only [List.length_cons] at ih oT ⊢
    have hl := stC_len st
    have a0 : (stC ((b, i) :: st) ++ rest)[st.length * 2]? = some (.int .i64 (b : Int)) := by rw [stC_cons, ← hl]; simp
    have a1 : (stC ((b, i) :: st) ++ rest)[st.length * 2 + 1]? = some (.int .i64 (i : Int)) := by rw [stC_cons, ← hl]; simp
    have t0 := oT.load1 a0
    have t1 := oT.load1 a1
    obtain ⟨bb, vo', no', po', hbo, ldb, _, hno', _⟩ := blk_at (hU.keep A.k (by simp)) hbi.1
    have ldn := load_sub (k := 3) ldb rfl
    have hbx := hnx _ (List.getElem_mem hbi.1)
    have eb : nxD u b = (u.2.2.2.1[b]'hbi.1).2.2.2.1 := congrArg (fun x : BlkT.D => x.2.2.2.1) (blkD_eq hbi.1)
    have hbx2 : (nxD u b).length ≤ 2 ∧ ∀ k ∈ nxD u b, (0 : Int) ≤ k ∧ k < (nb u : Int) := by rw [eb]; exact hbx
    rw [← eb] at ldn hno'
    have u3F := A.own.load1 (off := 3) rfl
    have b1 : (b : Int) < nb u := by omega
    have b2 : (b : Int) ≤ 9223372036854775807 := by omega
    have hst : ordStep u (sn, pl, (b, i) :: st) = if i = (nxD u b).length then (sn, pl ++ [(b : Int)], st) else
      if sn.getD ((nxD u b).getD i 0).toNat false = true then (sn, pl, (b, i + 1) :: st) else
      (sn.set ((nxD u b).getD i 0).toNat true, pl, (((nxD u b).getD i 0).toNat, 0) :: (b, i + 1) :: st) := rfl
    rw [ordIt, hst] at hd
    obtain ⟨l, hll⟩ : ∃ l, nxD u b = l := ⟨_, rfl⟩
    rw [hll] at ldn hno' hbx2 hd
    rw [hbo] at u3F
    have hpop := fun r => A.pop hnb (r := r)
    by_cases hil : i = l.length
    · have hil' : (i : Int) = l.length := by omega
      rw [if_pos hil] at hd
      simp [-Int.natCast_add, fieldAddr_of fa34_3, load_of ld31, len_slice u122, index_slice u122 sz124, fieldAddr_of fa124_0, load_of ld3, index_slice u31 sz40, fieldAddr_of fa40_3, load_of ld36, fieldAddr_of fa124_1, len_slice u36, buildSlice_of u36 bs3 rfl, append_s u36 sz3, ws, s4, s5, t0, t1, u3F, b2, hbi.1, ldn, hil']
      generalize hra : sappend _ _ _ _ _ _ = ra
      obtain ⟨mG, b', pf', rfl, A2, _⟩ := hpop ra hra
      simp [-Int.natCast_add, len_slice u122, slice_sl u122 sz124, ws, s4]
      exact ih _ _ _ _ ⟨sn, _, st, some ⟨b', 0, none⟩, _, pf', tf, A2, hd, rfl⟩ (by omega) ⟨by rfl, by rfl, by simp [lget], by rfl, trivial⟩
    · have hil' : ¬ (i : Int) = l.length := by omega
      have hlt : i < l.length := by have := hbi.2; rw [hll] at this; omega
      have hlt1 : (i : Int) < l.length := by omega
      have i3 : (i : Int) ≤ 9223372036854775807 := by omega
      have wi : IntKind.i64.wrap ((i : Int) + 1) = ((i + 1 : Nat) : Int) := by rw [wrap_i64 (by omega) (by omega)]; omega
      rw [if_neg hil] at hd
      obtain ⟨xb, rfl, li⟩ := hno'.get hlt
      have hkb := hbx2.2 _ (getD_mem hlt)
      obtain ⟨k, hk⟩ : ∃ k : Nat, l.getD i 0 = (k : Int) := ⟨(l.getD i 0).toNat, by omega⟩
      rw [hk, Int.toNat_natCast] at hd
      rw [hk] at li hkb
      have hkn : k < nb u := by omega
      have k1 : (k : Int) < nb u := by omega
      have k2 : (k : Int) ≤ 9223372036854775807 := by omega
      have hbt : belowF (k : Int) (nb u) = true := by unfold belowF; simp; omega
      obtain ⟨tb', mG, hto', _, _, eG, A2, _⟩ := A.inc (by rw [hll]; exact hlt)
      have htb : tb' = tb := by simpa using hto'.symm
      rw [htb] at eG
      have br := below_run (m := mG) hB k (nb u)
      rw [hbt] at br
      have lsn := A2.sn.load1 (off := k) (bools_at (by rw [A2.sl]; exact hkn))
      dsimp only at lsn
      obtain ⟨q, hq⟩ : ∃ q, sn.getD k false = q := ⟨_, rfl⟩
      rw [hq] at lsn hd
      cases q
      · rw [if_neg (by simp)] at hd
        obtain ⟨mH, eH, hpush⟩ := A2.push hnb hkn hq
        simp only [List.length_cons] at hpush
        simp [-Int.natCast_add, -List.getD_eq_getElem?_getD, fieldAddr_of fa34_3, load_of ld31, build_of bo124, buildSlice_of u122 bs124 rfl, append_s u122 sz124, index_slice u121 sz4, store_of sz4, len_slice u122, index_slice u122 sz124, fieldAddr_of fa124_0, load_of ld3, index_slice u31 sz40, fieldAddr_of fa40_3, load_of ld36, fieldAddr_of fa124_1, len_slice u36, index_slice u36 sz3, store_of sz3, len_slice u121, load_of ld4, ws, s4, s5, t0, t1, u3F, b2, hbi.1, ldn, hil', li, hlt, i3, wi, eG, br, lsn, k2, hkn, eH]
        generalize hra : sappend _ _ _ _ _ _ = ra
        obtain ⟨mI, to', tf', rfl, A3, _⟩ := hpush ra hra
        simp [-Int.natCast_add]
        exact ih _ _ _ _ ⟨_, pl, _, po, to', pf, tf', A3, hd, rfl⟩ (by omega) ⟨by rfl, by rfl, by rfl, by rfl, trivial⟩
      · rw [if_pos rfl] at hd
        simp [-Int.natCast_add, -List.getD_eq_getElem?_getD, fieldAddr_of fa34_3, load_of ld31, index_slice u121 sz4, len_slice u122, index_slice u122 sz124, fieldAddr_of fa124_0, load_of ld3, index_slice u31 sz40, fieldAddr_of fa40_3, load_of ld36, fieldAddr_of fa124_1, len_slice u36, index_slice u36 sz3, store_of sz3, len_slice u121, load_of ld4, ws, s4, s5, t0, t1, u3F, b2, hbi.1, ldn, hil', li, hlt, i3, wi, eG, br, lsn, k2, hkn]
        exact ih _ _ _ _ ⟨sn, pl, _, po, _, pf, tf, A2, hd, rfl⟩ (by omega) ⟨by rfl, by rfl, by rfl, by rfl, trivial⟩
end Go.Proofs.YtlogdohlcdhepaaDoor.base

