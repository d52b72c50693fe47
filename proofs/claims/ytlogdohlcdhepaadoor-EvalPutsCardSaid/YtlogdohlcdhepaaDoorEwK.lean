/-
  This text proves what ssa.Dominators answers, over the abstract run, where its rounds come to an end.
  Condition: nothing is known of the calls ahead ('S f = []').
-/
import Derived.Test.YtlogdohlcdhepaaDoorEwJ
set_option maxRecDepth 100000
set_option linter.unusedSimpArgs false
set_option linter.unusedVariables false
namespace Go.Proofs.YtlogdohlcdhepaaDoor.base
open Go.Sh gen
variable {S : Sums} {m : Mem}
theorem aheadS_mem {i n : Nat} {k : Int} {L : List (List Int)} (hi : i < n) (h : ∀ j, ∀ a ∈ L.getD j [], (0 : Int) ≤ a ∧ a < n) (j : Nat) : ∀ a ∈ (aheadS i L k).getD j [], (0 : Int) ≤ a ∧ a < n := by
  unfold aheadS
  by_cases e : j = k.toNat
  · subst e
    by_cases hj : k.toNat < L.length
    · rw [getD_set_eq hj]
      intro a ha
      rcases List.mem_append.1 ha with ha | ha
      · exact h _ a ha
      · simp at ha; omega
    · rw [List.set_eq_of_length_le (by omega)]; exact h _
  · rw [getD_set_ne e]; exact h _
theorem aheadR_mem {i n : Nat} (l : List Int) {L : List (List Int)} (hi : i < n) (h : ∀ j, ∀ a ∈ L.getD j [], (0 : Int) ≤ a ∧ a < n) : ∀ j, ∀ a ∈ (l.foldl (aheadS i) L).getD j [], (0 : Int) ≤ a ∧ a < n := by
  induction l generalizing L with
  | nil => exact h
  | cons k r ih => rw [List.foldl_cons]; exact ih (aheadS_mem (k := k) hi h)
theorem aheadB_mem {n : Nat} (bs : List BlkT.D) {i : Nat} {L : List (List Int)} (hi : i + bs.length ≤ n) (h : ∀ j, ∀ a ∈ L.getD j [], (0 : Int) ≤ a ∧ a < n) : ∀ j, ∀ a ∈ (aheadB i bs L).getD j [], (0 : Int) ≤ a ∧ a < n := by
  induction bs generalizing i L with
  | nil => exact h
  | cons b r ih =>
    rw [List.length_cons] at hi
    rw [aheadB]
    exact ih (by omega) (aheadR_mem (show List Int from b.2.2.2.1) (by omega) h)
theorem aheadF_mem (u : UnT.D) : ∀ j, ∀ a ∈ (aheadF u).getD j [], (0 : Int) ≤ a ∧ a < nb u := by
  unfold aheadF
  refine aheadB_mem u.2.2.2.1 (by have : nb u = List.length u.2.2.2.1 := rfl; omega) fun j a ha => ?_
  rw [List.getD_eq_getElem?_getD, List.getElem?_replicate] at ha
  split at ha <;> simp at ha
def meetGo (P I : List Int) : Nat → Nat → Nat → Nat
  | 0, a, _ => a
  | k + 1, a, b => if a = b then a else if P.getD b 0 < P.getD a 0 then meetGo P I k (I.getD a 0).toNat b else meetGo P I k a (I.getD b 0).toNat
theorem meetGo_eq {P I : List Int} {D a b c : Nat} (h : meetIt P I D a b = some c) {N : Nat} (hN : D ≤ N) : meetGo P I N a b = c := by
  induction D generalizing N a b with
  | zero =>
    rw [meetIt] at h
    split at h
    · rename_i e
      simp only [Option.some.injEq] at h
      subst e
      cases N with
      | zero => exact h
      | succ N => rw [meetGo, if_pos rfl]; exact h
    · cases h
  | succ D ih =>
    rw [meetIt] at h
    split at h
    · cases h
    · rename_i e
      obtain ⟨M, rfl⟩ : ∃ M, N = M + 1 := ⟨N - 1, by omega⟩
      rw [meetGo, if_neg e]
      split at h
      · rename_i e2; rw [if_pos e2]; exact ih h (by omega)
      · rename_i e2; rw [if_neg e2]; exact ih h (by omega)
theorem meetIt_up {P I : List Int} {n : Nat} (hI : UpOk n I) {D a b c : Nat} (ha : a < n) (hb : b < n) (ha0 : 0 ≤ I.getD a 0) (hb0 : 0 ≤ I.getD b 0) (h : meetIt P I D a b = some c) : c < n ∧ 0 ≤ I.getD c 0 := by
  induction D generalizing a b with
  | zero =>
    rw [meetIt] at h
    split at h
    · simp only [Option.some.injEq] at h; subst h; exact ⟨ha, ha0⟩
    · cases h
  | succ D ih =>
    rw [meetIt] at h
    split at h
    · cases h
    · split at h
      · exact ih (by have := (hI a ha ha0).1; omega) hb (hI a ha ha0).2 hb0 h
      · exact ih ha (by have := (hI b hb hb0).1; omega) ha0 (hI b hb hb0).2 h
def domS (P I : List Int) (d a : Int) : Int := if I.getD a.toNat 0 < 0 then d else if d < 0 then a else (meetGo P I (2 * I.length + 2) d.toNat a.toNat : Nat)
def domD (u : UnT.D) (P I : List Int) (b : Nat) : Int := ((aheadF u).getD b []).foldl (domS P I) (-1)
def domB (u : UnT.D) (P : List Int) (s : List Int × Bool) (b : Int) : List Int × Bool := (s.1.set b.toNat (domD u P s.1 b.toNat), s.2 || !decide (s.1.getD b.toNat 0 = domD u P s.1 b.toNat))
def domR (u : UnT.D) (P T : List Int) (s : List Int × Bool) : List Int × Bool := T.foldl (domB u P) s
def domIt (u : UnT.D) (P T : List Int) : Nat → List Int × Bool → Option (List Int)
  | 0, (I, ch) => if ch = true then none else some I
  | d + 1, (I, ch) => if ch = true then domIt u P T d (domR u P T (I, false)) else none
def placeG : Nat → List Int → List Int → List Int
  | _, [], P => P
  | i, b :: r, P => placeG (i + 1) r (P.set b.toNat (i : Int))
def placeF (n : Nat) (O : List Int) : List Int := placeG 0 O (List.replicate n 0)
structure DomJ (u : UnT.D) (P T : List Int) (J : Nat → List Int → Prop) : Prop where
  len : ∀ j I, J j I → I.length = nb u
  up : ∀ j I, J j I → UpOk (nb u) I
  meet : ∀ j I, J j I → ∀ a b, a < nb u → b < nb u → 0 ≤ I.getD a 0 → 0 ≤ I.getD b 0 → ∃ D c, D ≤ 2 * I.length + 2 ∧ meetIt P I D a b = some c
  step : ∀ j I, J j I → j < T.length → J (j + 1) (I.set (T.getD j 0).toNat (domD u P I (T.getD j 0).toNat))
  next : ∀ I, J T.length I → J 0 I
def DomP (m m1 : Mem) (n : Nat) (I : List Int) (v : Value) : Prop := ∃ ix, v = .slice (some ⟨ix, 0, none⟩) n n ∧ Own m1 ix (ints I) 3 ix ∧ m.next ≤ ix
structure Nd (S : Sums) : Prop where
  dom : S 53 = []
  meet : S 73 = []
  order : S 72 = []
  ahead : S 70 = []
  below : S 65 = []
  rev : S 82 = []
set_option maxHeartbeats 8000000 in
theorem dom_run (hN : Nd S) {Q : Nat → Prop} {u : UnT.D} {vo bo so : Option Addr} (hU : UAt Q m u vo bo so) (hQ : ∀ f, Q f → f < m.next) (hb0 : 0 < nb u) (hnb : nb u ≤ 1000) (hnx : NxOk u)
    {D : Nat} {O' : List Int} (hO' : ordIt u D (ord0 u) = some O') {O : List Int} (hO : O'.reverse = O) (hOn : ∀ x ∈ O, (0 : Int) ≤ x ∧ x < nb u) (hO0 : O ≠ []) (hOl : O.length ≤ 1000)
    {P : List Int} (hP : placeF (nb u) O = P) {J : Nat → List Int → Prop} (hJ : DomJ u P (O.drop 1) J) (hJ0 : J 0 ((List.replicate (nb u) (-1)).set 0 0)) {D2 : Nat} {I' : List Int} (hD : domIt u P (O.drop 1) D2 ((List.replicate (nb u) (-1)).set 0 0, true) = some I') :
    ∃ v m1, callw Tryd.prog TT S 53 [.agg (uCells u vo bo so).toArray] m = some (v, m1) ∧ DomP m m1 (nb u) (I'.set 0 (-1)) v ∧ Keeps m m1 [] := by
  obtain ⟨oU, kU, nU⟩ := new_own (m := m) (cs := uCells u vo bo so) (e := 34) rfl
  obtain ⟨mB, hmB⟩ : ∃ mB, m.new (uCells u vo bo so) 34 = mB := ⟨_, rfl⟩
  obtain ⟨ub, hub⟩ : ∃ ub, m.next = ub := ⟨_, rfl⟩
  rw [hmB, hub] at oU nU
  rw [hmB] at kU
  have hcu : (uCells u vo bo so).toArray = #[.int .i64 u.1, .int .i64 u.2.1, .slice vo (nv u) (nv u), .slice bo (nb u) (nb u), .slice so (ns u) (ns u)] := rfl
  have lu := oU.load (off := 0) 5 (by simp)
  simp [window] at lu
  have hQ1 : ∀ f, Q f → f < mB.next := fun f hf => by have := hQ f hf; omega
  obtain ⟨vO, mC, cO, ⟨po, pf, rfl, sO, fO⟩, kO⟩ := order_run hN.order hN.below hN.rev (hU.keep kU (by simp)) hQ1 hb0 hnb hnx hO'
  rw [hO] at cO sO
  have lu2 := (oU.keep kO (by simp)).load (off := 0) 5 (by simp)
  simp [window] at lu2
  have hQ2 : ∀ f, Q f → f < mC.next := fun f hf => by have := hQ1 f hf; have := kO.1; omega
  obtain ⟨vA, mD, cA, ⟨ob, of, ao, fm, rfl, hA⟩, kA⟩ := ahead_run hN.ahead hN.below ((hU.keep kU (by simp)).keep kO (by simp)) hQ2 hnb hnx
  rw [hcu] at cO cA
  rw [aheadF_len] at cA
  have oUD := (oU.keep kO (by simp)).keep kA (by simp)
  have sOD := sO.keep kA (by simp)
  have lu3 := oUD.load (off := 0) 5 (by simp)
  simp [window] at lu3
  have u3D := oUD.load1 (off := 3) rfl
  have z1 := zeros_i64 (nb u) (by omega)
  rw [ints_zero] at z1
  have z2 : (nb u : Int) ≤ 9223372036854775807 := by omega
  have z3 : nb u * 8 ≤ 281474976710656 := by omega
  obtain ⟨oE, kE, nE⟩ := new_own (m := mD) (cs := ints (List.replicate (nb u) 0)) (e := 3) rfl
  obtain ⟨ix, hixe⟩ : ∃ b1, mD.next = b1 := ⟨_, rfl⟩
  obtain ⟨mE, hmE⟩ : ∃ mA, mD.new (ints (List.replicate (nb u) 0)) 3 = mA := ⟨_, rfl⟩
  rw [hmE, hixe] at oE nE
  rw [hmE] at kE
  obtain ⟨oF, kF, nF⟩ := new_own (m := mE) (cs := [.slice none 0 0]) (e := 36) rfl
  obtain ⟨ib, hib⟩ : ∃ b1, mE.next = b1 := ⟨_, rfl⟩
  obtain ⟨mF, hmF⟩ : ∃ mA, mE.new [.slice none 0 0] 36 = mA := ⟨_, rfl⟩
  rw [hmF, hib] at oF nF
  rw [hmF] at kF
  obtain ⟨oG, kG, nG⟩ := new_own (m := mF) (cs := [.slice none 0 0]) (e := 36) rfl
  obtain ⟨pb, hpb⟩ : ∃ b1, mF.next = b1 := ⟨_, rfl⟩
  obtain ⟨mG, hmG⟩ : ∃ mA, mF.new [.slice none 0 0] 36 = mA := ⟨_, rfl⟩
  rw [hmG, hpb] at oG nG
  rw [hmG] at kG
  obtain ⟨mH, eH, oH, kH⟩ := store_own (r := _) rfl (oF.keep kG (by simp)) (off := 0) (vs := [.slice (some ⟨ix, 0, none⟩) (nb u) (nb u)]) (by simp) (by simp [one_slice])
  simp [over] at oH
  obtain ⟨oI, kI, nI⟩ := new_own (m := mH) (cs := ints (List.replicate (nb u) 0)) (e := 3) rfl
  obtain ⟨px, hpx⟩ : ∃ b1, mH.next = b1 := ⟨_, rfl⟩
  obtain ⟨mI, hmI⟩ : ∃ mA, mH.new (ints (List.replicate (nb u) 0)) 3 = mA := ⟨_, rfl⟩
  rw [hmI, hpx] at oI nI
  rw [hmI] at kI
  have hmH : mG.next ≤ mH.next := kH.1
  obtain ⟨mJ, eJ, oJ, kJ⟩ := store_own (r := _) rfl (((oG.keep kH (by simp; omega)).keep kI (by simp))) (off := 0) (vs := [.slice (some ⟨px, 0, none⟩) (nb u) (nb u)]) (by simp) (by simp [one_slice])
  simp [over] at oJ
  have hmJ : mI.next ≤ mJ.next := kJ.1
  have ubD : ub < mD.next := oUD.flt
  have oUE := oUD.keep kE (by simp)
  have oUF := oUE.keep kF (by simp)
  have oUG := oUF.keep kG (by simp)
  have oUH := oUG.keep kH (by simp; omega)
  have oUI := oUH.keep kI (by simp)
  have uE := oUE.load1 (off := 3) rfl
  have uF := oUF.load1 (off := 3) rfl
  have uG := oUG.load1 (off := 3) rfl
  have uH := oUH.load1 (off := 3) rfl
  have uI := oUI.load1 (off := 3) rfl
  have iJ := (oH.keep kI (by simp)).keep kJ (by simp; omega)
  have i0 := iJ.load1 (off := 0) rfl
  have KDJ : Keeps mD mJ [] := keeps_mix (keeps_mix (keeps_mix (keeps_mix (keeps_mix kE kF (by simp)) kG (by simp)) kH (by simp; omega)) kI (by simp)) kJ (by simp; omega)
  have KJ : Keeps m mJ [] := ((kU.trans kO).trans kA).trans KDJ
  have A0 : DAt mJ (nb u) ib pb ix px (List.replicate (nb u) 0) (List.replicate (nb u) 0) :=
    ⟨iJ, oJ, ((((oE.keep kF (by simp)).keep kG (by simp)).keep kH (by simp; omega)).keep kI (by simp)).keep kJ (by simp; omega), oI.keep kJ (by simp; omega), by simp, by simp, by omega, by omega, by omega, by omega, by omega, by omega⟩
  have hOJ : IntsAt (fun f => f < ix) mJ po O := by
    refine IntsAt.keep ⟨pf, sOD.rs, fun hl => ?_⟩ KDJ (by simp)
    obtain ⟨b, _, o⟩ := sOD.own hl
    have := o.flt; omega
  have hAJ : ∀ k < nb u, IntsAt (fun f => f < ix) mJ (ao k) ((aheadF u).getD k []) := by
    intro k hk
    have hk' : k < (aheadF u).length := by rw [aheadF_len]; exact hk
    refine IntsAt.keep ⟨fm k, (hA.row k hk').rs, fun hl => ?_⟩ KDJ (by simp)
    obtain ⟨b, _, o⟩ := (hA.row k hk').own hl
    have := o.flt; omega
  have hAo := hA.own.keep KDJ (by simp)
  have ofx : of < ix := by have := hA.own.flt; omega
  have hAc : ∀ k < nb u, (rowsC ao (aheadF u))[k]? = some (.slice (ao k) ((aheadF u).getD k []).length ((aheadF u).getD k []).length) := fun k hk => rowsC_at _ (by rw [aheadF_len]; exact hk)
  have hix : m.next ≤ ix := by have := (kU.trans kO).1; have := kA.1; omega
  have hpx' : m.next ≤ px := by omega
  have ixpx : ix < px := by omega
  have hK : ∀ (mX mY : Mem) (f : Nat), f = ix ∨ f = px → Keeps m mX [] → Keeps mX mY [f] → Keeps m mY [] := fun mX mY f hf k1 k2 => k1.fresh k2 (by simp; omega)
  have hKJ : ∀ (mX mY : Mem) (f : Nat), f = ix ∨ f = px → Keeps mJ mX [ix, px] → Keeps mX mY [f] → Keeps mJ mY [ix, px] := fun mX mY f hf k1 k2 => k1.trans (k2.mono (by simp; omega))
  refine fn_w 71 [71, 78, 84, 94] k53 hN.dom rfl ?_
  simp [-Int.natCast_add, -List.map_replicate, box_of b34, load_agg ld34, fieldAddr_of fa34_3, load_of ld31, len_slice u31, make_of u36 ap3, alloc_of zo36, store_of sz36, load_of ld36, len_slice u36, hmB, hub, lu, cO, lu2, cA, u3D, z1, z2, z3, hixe, hmE, hib, hmF, hpb, hmG, eH, hpx, hmI, eJ, uE, uF, uG, uH, i0]
  clear i0 uE uF uG uH uI oUE oUF oUG oUH oUI eJ oJ oI kI nI eH oH kH oG kG nG oF kF nF oE kE nE lu lu2 lu3 u3D cO cA sOD sO hA oUD oU iJ kJ hmJ hmI
  refine wsem_loop 71 [71, 78, 84, 94] (fun d E mX => ∃ (i : Nat), nb u - i = d ∧ i ≤ nb u ∧ DAt mX (nb u) ib pb ix px (List.replicate i (-1) ++ List.replicate (nb u - i) 0) (List.replicate (nb u) 0) ∧ Keeps m mX [] ∧ Keeps mJ mX [ix, px] ∧
    E = [(3, .slice po O.length O.length), (4, .slice (some ⟨ob, 0, none⟩) (nb u) (nb u)), (5, .pointer (some ⟨ib, 0, none⟩)), (6, .pointer (some ⟨pb, 0, none⟩)), (30, .int .i64 (nb u)), (31, .int .i64 (i : Int))]) _ ⟨_, ⟨0, rfl, by omega, by simpa using A0, KJ, .refl _ _, rfl⟩, ⟨by rfl, by rfl, by rfl, by rfl, by rfl, by rfl, trivial⟩⟩ ?_
  clear A0
  rintro d E mX ih ⟨i, hd, hi, hX, kX, kJX, rfl⟩
  have im : (i : Int) ≤ 9223372036854775807 := by omega
  have l5 := hX.vi.load1 (off := 0) rfl
  by_cases hlt : i < nb u
  · have i1 : (i : Int) < nb u := by omega
    have wi : IntKind.i64.wrap ((i : Int) + 1) = ((i + 1 : Nat) : Int) := by rw [wrap_i64 (by omega) (by omega)]; omega
    obtain ⟨mG, eG, hG, kG⟩ := hX.seti hlt (-1)
    rw [fill_set _ _ _ _ hlt] at hG
    simp [-Int.natCast_add, load_of ld36, index_slice u36 sz3, store_of sz3, i1, im, hlt, l5, eG, wi]
    exact ih _ _ _ _ ⟨i + 1, rfl, by omega, hG, hK _ _ _ (Or.inl rfl) kX kG, hKJ _ _ _ (Or.inl rfl) kJX kG, rfl⟩ (by omega) ⟨by rfl, by rfl, by rfl, by rfl, by rfl, by rfl, trivial⟩
  clear ih
  have i1 : ¬ (i : Int) < nb u := by omega
  have ei : i = nb u := by omega
  rw [ei, Nat.sub_self, List.replicate_zero, List.append_nil] at hX
  have hP0 : placeG 0 O (List.replicate (nb u) 0) = P := hP
  simp [-Int.natCast_add, -List.map_replicate, len_slice u36, i1]
  refine wsem_loop 71 [71, 78, 84, 94] (fun d E mX => ∃ (i : Nat) (P1 : List Int), O.length - i = d ∧ i ≤ O.length ∧ DAt mX (nb u) ib pb ix px (List.replicate (nb u) (-1)) P1 ∧ Keeps m mX [] ∧ Keeps mJ mX [ix, px] ∧ placeG i (O.drop i) P1 = P ∧
    E = [(3, .slice po O.length O.length), (4, .slice (some ⟨ob, 0, none⟩) (nb u) (nb u)), (5, .pointer (some ⟨ib, 0, none⟩)), (6, .pointer (some ⟨pb, 0, none⟩)), (38, .slice po O.length O.length), (39, .int .i64 O.length), (40, .int .i64 (i : Int))]) _ ⟨_, ⟨0, _, rfl, by omega, hX, kX, kJX, by rw [List.drop_zero]; exact hP0, rfl⟩, ⟨by rfl, by rfl, by rfl, by rfl, by rfl, by rfl, by rfl, trivial⟩⟩ ?_
  clear hX kX kJX l5 im hi i1 ei hP0
  rintro d E mX ih ⟨i, P1, hd, hi, hX, kX, kJX, hp, rfl⟩
  have im : (i : Int) ≤ 9223372036854775807 := by omega
  have l5 := hX.vi.load1 (off := 0) rfl
  have l6 := hX.vp.load1 (off := 0) rfl
  by_cases hlt : i < O.length
  · have i1 : (i : Int) < O.length := by omega
    have wi : IntKind.i64.wrap ((i : Int) + 1) = ((i + 1 : Nat) : Int) := by rw [wrap_i64 (by omega) (by omega)]; omega
    obtain ⟨xb, rfl, li⟩ := (hOJ.keep kJX (by simp; omega)).get hlt
    rw [drop_getD hlt, placeG] at hp
    have hkb := hOn _ (getD_mem hlt)
    obtain ⟨k, hk⟩ : ∃ k : Nat, O.getD i 0 = (k : Int) := ⟨(O.getD i 0).toNat, by omega⟩
    rw [hk] at li hkb hp
    rw [Int.toNat_natCast] at hp
    have hkn : k < nb u := by omega
    have k1 : (k : Int) < nb u := by omega
    have k2 : (k : Int) ≤ 9223372036854775807 := by omega
    obtain ⟨mG, eG, hG, kG⟩ := hX.setp hkn (i : Int)
    simp [-Int.natCast_add, -List.getD_eq_getElem?_getD, load_of ld36, index_slice u36 sz3, store_of sz3, load_of ld3, i1, im, hlt, l6, li, k2, hkn, eG, wi]
    exact ih _ _ _ _ ⟨i + 1, _, rfl, by omega, hG, hK _ _ _ (Or.inr rfl) kX kG, hKJ _ _ _ (Or.inr rfl) kJX kG, hp, rfl⟩ (by omega) ⟨by rfl, by rfl, by rfl, by rfl, by rfl, by rfl, by rfl, trivial⟩
  clear ih
  have i1 : ¬ (i : Int) < O.length := by omega
  rw [List.drop_of_length_le (by omega), placeG] at hp
  subst hp
  have hOl0 : O.length ≠ 0 := fun e => hO0 (List.length_eq_zero_iff.1 e)
  obtain ⟨mY, eY, hY, kY⟩ := hX.seti hb0 0
  have n0 : (0 : Int) < nb u := by omega
  have hOl1 : ¬ (O.length : Int) = 0 := by omega
  simp [-Int.natCast_add, -List.map_replicate, load_of ld36, len_slice u36, index_slice u36 sz3, store_of sz3, i1, hOl0, l5, hb0, eY]
  have kY1 := hK _ _ _ (Or.inl rfl) kX kY
  have kY2 := hKJ _ _ _ (Or.inl rfl) kJX kY
  clear hX kX kJX l5 l6 im hi i1 eY kY
  refine wsem_loop 71 [71, 78, 84, 94] (fun d E mX => ∃ (I : List Int) (ch : Bool), DAt mX (nb u) ib pb ix px I P1 ∧ Keeps m mX [] ∧ Keeps mJ mX [ix, px] ∧ J 0 I ∧ domIt u P1 (O.drop 1) d (I, ch) = some I' ∧
    E = [(3, .slice po O.length O.length), (4, .slice (some ⟨ob, 0, none⟩) (nb u) (nb u)), (5, .pointer (some ⟨ib, 0, none⟩)), (6, .pointer (some ⟨pb, 0, none⟩)), (10, .func (.func 73) #[] #[.pointer (some ⟨pb, 0, none⟩), .pointer (some ⟨ib, 0, none⟩)]), (11, .bool ch)]) D2 ⟨_, ⟨_, true, hY, kY1, kY2, hJ0, hD, rfl⟩, ⟨by rfl, by rfl, by rfl, by rfl, by rfl, by rfl, trivial⟩⟩ ?_
  clear hY kY1 kY2 hJ0 hD
  rintro d E mX ih ⟨I, ch, hX, kX, kJX, hj, hd, rfl⟩
  cases ch
  case false =>
    clear ih
    have hI : I = I' := by
      cases d with
      | zero => simp [domIt] at hd; exact hd
      | succ d => simp [domIt] at hd
    subst hI
    have l5 := hX.vi.load1 (off := 0) rfl
    obtain ⟨mZ, eZ, hZ, kZ⟩ := hX.seti hb0 (-1)
    have l5' := hZ.vi.load1 (off := 0) rfl
    simp [-Int.natCast_add, -List.map_set, load_of ld36, index_slice u36 sz3, store_of sz3, l5, hb0, eZ, l5']
    exact ⟨⟨ix, rfl, hZ.oi, by omega⟩, hK _ _ _ (Or.inl rfl) kX kZ⟩
  cases d with
  | zero => simp [domIt] at hd
  | succ d =>
    have hd' : domIt u P1 (O.drop 1) d (domR u P1 (O.drop 1) (I, false)) = some I' := by simpa [domIt] using hd
    clear hd
    obtain ⟨fO', hRs, hqO⟩ := hOJ
    obtain ⟨xb, hpo, hRd⟩ := hRs.rdo hOl0
    have hfO : fO' ∉ [ix, px] := by have := hqO hOl0; simp; omega
    subst hpo
    have o1 : (1 : Int) ≤ O.length := by omega
    have o2 : 1 ≤ O.length := by omega
    have o3 : (O.length : Int) ≤ 9223372036854775807 := by omega
    have el : elemIs mX xb 3 = true := by unfold elemIs; rw [(hRd.keep kJX hfO).blk]; simp
    have hTl : (O.drop 1).length = O.length - 1 := by simp
    obtain ⟨n1, hn1⟩ : ∃ n1, O.length - 1 = n1 := ⟨_, rfl⟩
    rw [hn1] at hTl
    simp [-Int.natCast_add, len_slice u36, slice_sl u36 sz3, o2, el, hn1]
    have hTO : ∀ j, (O.drop 1).getD j 0 = O.getD (j + 1) 0 := fun j => by
      rw [List.getD_eq_getElem?_getD, List.getD_eq_getElem?_getD, List.getElem?_drop, Nat.add_comm]
    obtain ⟨T, hT⟩ : ∃ T, O.drop 1 = T := ⟨_, rfl⟩
    rw [hT] at hTl hTO hJ hd'
    refine wsem_loop 71 [71, 78, 84, 94] (fun d4 E mX => ∃ (i : Nat) (I : List Int) (ch : Bool), n1 - i = d4 ∧ i ≤ n1 ∧ DAt mX (nb u) ib pb ix px I P1 ∧ Keeps m mX [] ∧ Keeps mJ mX [ix, px] ∧ J i I ∧ domIt u P1 T d ((T.drop i).foldl (domB u P1) (I, ch)) = some I' ∧
      E = [(3, .slice (some ⟨xb, 0, none⟩) O.length O.length), (4, .slice (some ⟨ob, 0, none⟩) (nb u) (nb u)), (5, .pointer (some ⟨ib, 0, none⟩)), (6, .pointer (some ⟨pb, 0, none⟩)), (10, .func (.func 73) #[] #[.pointer (some ⟨pb, 0, none⟩), .pointer (some ⟨ib, 0, none⟩)]), (11, .bool ch), (59, .slice (some ⟨xb, 1, none⟩) n1 n1), (60, .int .i64 (n1 : Int)), (61, .int .i64 (i : Int))]) _ ⟨_, ⟨0, I, false, rfl, by omega, hX, kX, kJX, hj, by rw [List.drop_zero]; exact hd', rfl⟩, ⟨by rfl, by rfl, by rfl, by rfl, by rfl, by rfl, by rfl, by rfl, by rfl, trivial⟩⟩ ?_
    clear hX kX kJX hj hd' el I
    rintro d4 E mX ih4 ⟨i, I, ch, hd4, hi, hX, kX, kJX, hj, hd', rfl⟩
    have im : (i : Int) ≤ 9223372036854775807 := by omega
    by_cases hit : i < n1
    · have i1 : (i : Int) < n1 := by omega
      have wi : IntKind.i64.wrap ((i : Int) + 1) = ((i + 1 : Nat) : Int) := by rw [wrap_i64 (by omega) (by omega)]; omega
      have lO := (hRd.keep kJX hfO).load1 (off := i + 1) (ints_at (by omega))
      rw [← hTO i] at lO
      have lO' := lO
      rw [Nat.add_comm] at lO'
      rw [drop_getD (show i < T.length by omega), List.foldl_cons] at hd'
      have hstep := hJ.step i I hj (by omega)
      have hTm : T.getD i 0 ∈ O := by rw [hTO]; exact getD_mem (by omega)
      have hkb := hOn _ hTm
      obtain ⟨b, hb⟩ : ∃ k : Nat, T.getD i 0 = (k : Int) := ⟨(T.getD i 0).toNat, by omega⟩
      rw [hb] at lO lO' hkb hd' hstep
      rw [Int.toNat_natCast] at hstep
      have eB : domB u P1 (I, ch) (b : Int) = (I.set b (domD u P1 I b), ch || !decide (I.getD b 0 = domD u P1 I b)) := by unfold domB; rw [Int.toNat_natCast]
      rw [eB] at hd'
      have hbn : b < nb u := by omega
      have b1 : (b : Int) < nb u := by omega
      have b2 : (b : Int) ≤ 9223372036854775807 := by omega
      have hIl := hJ.len i I hj
      have hIu := hJ.up i I hj
      have hIm := hJ.meet i I hj
      have lrow := (hAo.keep kJX (by simp; omega)).load1 (off := b) (hAc b hbn)
      have hrow := (hAJ b hbn).keep kJX (by simp; omega)
      have hrl : ((aheadF u).getD b []).length ≤ 1000000 := aheadF_row hnx hnb b
      have hrb : ∀ a ∈ (aheadF u).getD b [], (0 : Int) ≤ a ∧ a < nb u := aheadF_mem u b
      have hDD : ((aheadF u).getD b []).foldl (domS P1 I) (-1) = domD u P1 I b := rfl
      obtain ⟨l, hl⟩ : ∃ l, (aheadF u).getD b [] = l := ⟨_, rfl⟩
      rw [hl] at lrow hrow hrl hrb hDD
      obtain ⟨DD, hDe⟩ : ∃ DD, domD u P1 I b = DD := ⟨_, rfl⟩
      rw [hDe] at hDD hd' hstep
      simp [-Int.natCast_add, -List.getD_eq_getElem?_getD, load_of ld36, len_slice u36, index_slice u36 sz3, load_of ld3, index_slice u112 sz36, i1, im, hit, lO', b2, hbn, lrow]
      refine wsem_loop 71 [71, 78, 84, 94] (fun d5 E mY => ∃ (j : Nat) (dd : Int), l.length - j = d5 ∧ j ≤ l.length ∧ mY = mX ∧ (-1 : Int) ≤ dd ∧ dd < nb u ∧ (0 ≤ dd → 0 ≤ I.getD dd.toNat 0) ∧ (l.drop j).foldl (domS P1 I) dd = DD ∧
        E = [(3, .slice (some ⟨xb, 0, none⟩) O.length O.length), (4, .slice (some ⟨ob, 0, none⟩) (nb u) (nb u)), (5, .pointer (some ⟨ib, 0, none⟩)), (6, .pointer (some ⟨pb, 0, none⟩)), (10, .func (.func 73) #[] #[.pointer (some ⟨pb, 0, none⟩), .pointer (some ⟨ib, 0, none⟩)]), (11, .bool ch), (13, .int .i64 (b : Int)), (14, .int .i64 dd), (59, .slice (some ⟨xb, 1, none⟩) n1 n1), (60, .int .i64 (n1 : Int)), (61, .int .i64 (i : Int)), (68, .slice (ao b) l.length l.length), (69, .int .i64 l.length), (70, .int .i64 (j : Int))]) _ ⟨_, ⟨0, -1, rfl, by omega, rfl, by omega, by omega, by omega, by rw [List.drop_zero]; exact hDD, rfl⟩, ⟨by rfl, by rfl, by rfl, by rfl, by rfl, by rfl, by rfl, by rfl, by rfl, by rfl, by rfl, by rfl, by rfl, by rfl, trivial⟩⟩ ?_
      rintro d5 E mY ih5 ⟨j, dd, hd5, hj5, rfl, hd1, hd2, hd3, hfo, rfl⟩
      have jm : (j : Int) ≤ 9223372036854775807 := by omega
      have l5 := hX.vi.load1 (off := 0) rfl
      by_cases hjt : j < l.length
      · have j1 : (j : Int) < l.length := by omega
        have wj : IntKind.i64.wrap ((j : Int) + 1) = ((j + 1 : Nat) : Int) := by rw [wrap_i64 (by omega) (by omega)]; omega
        obtain ⟨yb, hyb, lj⟩ := hrow.get hjt
        rw [hyb] at ih5 ⊢
        rw [drop_getD hjt, List.foldl_cons] at hfo
        have hab := hrb _ (getD_mem hjt)
        obtain ⟨a, ha⟩ : ∃ k : Nat, l.getD j 0 = (k : Int) := ⟨(l.getD j 0).toNat, by omega⟩
        rw [ha] at lj hab hfo
        have han : a < nb u := by omega
        have a1 : (a : Int) < nb u := by omega
        have a2 : (a : Int) ≤ 9223372036854775807 := by omega
        have la := hX.oi.load1 (off := a) (ints_at (by omega))
        have eS : domS P1 I dd (a : Int) = if I.getD a 0 < 0 then dd else if dd < 0 then (a : Int) else (meetGo P1 I (2 * I.length + 2) dd.toNat a : Nat) := by unfold domS; rw [Int.toNat_natCast]
        rw [eS] at hfo
        by_cases hia : I.getD a 0 < 0
        · rw [if_pos hia] at hfo
          simp [-Int.natCast_add, -List.getD_eq_getElem?_getD, load_of ld36, index_slice u36 sz3, load_of ld3, j1, jm, hjt, lj, a2, han, l5, la, hia, wj]
          exact ih5 _ _ _ _ ⟨j + 1, dd, rfl, by omega, rfl, hd1, hd2, hd3, hfo, rfl⟩ (by omega) ⟨by rfl, by rfl, by rfl, by rfl, by rfl, by rfl, by rfl, by rfl, by rfl, by rfl, by rfl, by rfl, by rfl, by rfl, trivial⟩
        rw [if_neg hia] at hfo
        by_cases hdd : dd < 0
        · rw [if_pos hdd] at hfo
          simp [-Int.natCast_add, -List.getD_eq_getElem?_getD, load_of ld36, index_slice u36 sz3, load_of ld3, j1, jm, hjt, lj, a2, han, l5, la, hia, hdd, wj]
          exact ih5 _ _ _ _ ⟨j + 1, (a : Int), rfl, by omega, rfl, by omega, by omega, fun _ => by rw [Int.toNat_natCast]; omega, hfo, rfl⟩ (by omega) ⟨by rfl, by rfl, by rfl, by rfl, by rfl, by rfl, by rfl, by rfl, by rfl, by rfl, by rfl, by rfl, by rfl, by rfl, trivial⟩
        rw [if_neg hdd] at hfo
        obtain ⟨q, rfl⟩ : ∃ q : Nat, dd = (q : Int) := ⟨dd.toNat, by omega⟩
        rw [Int.toNat_natCast] at hfo hd3
        have hqn : q < nb u := by omega
        obtain ⟨DM, c, hDM, hme⟩ := hIm q a hqn han (hd3 (by omega)) (by omega)
        have hgo := meetGo_eq hme hDM
        rw [hgo] at hfo
        have hcu := meetIt_up hIu hqn han (hd3 (by omega)) (by omega) hme
        have cm := meet_run hN.meet hX (by omega) hIu hqn han (hd3 (by omega)) (by omega) hme
        simp [-Int.natCast_add, -List.getD_eq_getElem?_getD, load_of ld36, index_slice u36 sz3, load_of ld3, j1, jm, hjt, lj, a2, han, l5, la, hia, hdd, cm, wj]
        exact ih5 _ _ _ _ ⟨j + 1, (c : Int), rfl, by omega, rfl, by omega, by omega, fun _ => by rw [Int.toNat_natCast]; exact hcu.2, hfo, rfl⟩ (by omega) ⟨by rfl, by rfl, by rfl, by rfl, by rfl, by rfl, by rfl, by rfl, by rfl, by rfl, by rfl, by rfl, by rfl, by rfl, trivial⟩
      clear ih5
      have j1 : ¬ (j : Int) < l.length := by omega
      rw [List.drop_of_length_le (show l.length ≤ j by omega), List.foldl_nil] at hfo
      subst hfo
      have lb := hX.oi.load1 (off := b) (ints_at (by omega))
      obtain ⟨mW, eW, hW, kW⟩ := hX.seti hbn dd
      obtain ⟨wv, hwv⟩ : ∃ w, I.getD b 0 = w := ⟨_, rfl⟩
      rw [hwv] at lb hd'
      by_cases hbd : wv = dd
      · have hset : I.set b dd = I := by
          rw [← hbd, ← hwv]
          apply ext_getD (by simp)
          intro k hk
          rw [getD_set _ _ _ _ (by omega)]
          split
          · rename_i e; rw [e]
          · rfl
        have : (!decide (wv = dd)) = false := by simp [hbd]
        rw [this, Bool.or_false, hset] at hd'
        rw [hset] at hstep
        simp [-Int.natCast_add, -List.getD_eq_getElem?_getD, load_of ld36, index_slice u36 sz3, load_of ld3, j1, l5, b2, hbn, lb, hbd, wi]
        exact ih4 _ _ _ _ ⟨i + 1, I, ch, rfl, by omega, hX, kX, kJX, hstep, hd', rfl⟩ (by omega) ⟨by rfl, by rfl, by rfl, by rfl, by rfl, by rfl, by rfl, by rfl, by rfl, trivial⟩
      · have : (!decide (wv = dd)) = true := by simp [hbd]
        rw [this, Bool.or_true] at hd'
        simp [-Int.natCast_add, -List.getD_eq_getElem?_getD, load_of ld36, index_slice u36 sz3, store_of sz3, load_of ld3, j1, l5, b2, hbn, lb, hbd, eW, wi]
        exact ih4 _ _ _ _ ⟨i + 1, _, true, rfl, by omega, hW, hK _ _ _ (Or.inl rfl) kX kW, hKJ _ _ _ (Or.inl rfl) kJX kW, hstep, hd', rfl⟩ (by omega) ⟨by rfl, by rfl, by rfl, by rfl, by rfl, by rfl, by rfl, by rfl, by rfl, trivial⟩
    · clear ih4
      have i1 : ¬ (i : Int) < n1 := by omega
      have ei : i = T.length := by omega
      rw [ei] at hj
      rw [List.drop_of_length_le (by omega), List.foldl_nil] at hd'
      simp [-Int.natCast_add, -List.getD_eq_getElem?_getD, i1]
      exact ih _ _ _ _ ⟨I, ch, hX, kX, kJX, hJ.next I hj, by rw [hT]; exact hd', rfl⟩ (by omega) ⟨by rfl, by rfl, by rfl, by rfl, by rfl, by rfl, trivial⟩
end Go.Proofs.YtlogdohlcdhepaaDoor.base

