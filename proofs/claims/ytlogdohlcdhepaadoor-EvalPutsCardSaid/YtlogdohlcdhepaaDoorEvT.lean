/-
  This text proves what eval.Run answers, over the abstract run, where ssa.Check says yes.
  Condition: nothing is known of the calls ahead ('S f = []').
-/
import Derived.Test.YtlogdohlcdhepaaDoorEvB
set_option maxRecDepth 100000
set_option linter.unusedSimpArgs false
set_option linter.unusedVariables false
namespace Go.Proofs.YtlogdohlcdhepaaDoor.base
open Go.Sh gen
variable {S : Sums} {m : Mem}
inductive Ro where
  | go (V : Vv)
  | tired (V : Vv)
  | left (V : Vv) (st : Nat) (val : Int)
def valsF (u : UnT.D) (fuel : Int) : List Int → Vv → Ro
  | [], V => .go V
  | v :: r, V =>
    let x := valD u v
    if x.1 = 21 ∨ x.1 = 1 then valsF u fuel r V else
    if fuel ≤ V.steps then .tired V else
    if leavesB x V.ws V.wish = true then .left { V with steps := V.steps + 1, wish := leavesW x V.wish } (show Int from x.2.2.2.2.2.1).toNat v else
    valsF u fuel r { V with steps := V.steps + 1, wish := leavesW x V.wish, hw := doesH x V.hw V.ws, ws := doesW x v.toNat V.hw V.ws }
def whichF (b : BlkT.D) (ws : List Int) : Nat := if b.2.1 = 2 ∧ ws.getD (show Int from b.2.2.1).toNat 0 = 0 then 1 else 0
def runF (u : UnT.D) (fuel : Int) : Nat → Nat → Vv → Ro
  | 0, _, V => .tired V
  | k + 1, at_, V =>
    let b := blkD u at_
    match valsF u fuel b.1 V with
    | .go V1 =>
      if fuel ≤ V1.steps then .tired V1 else
      if b.2.1 = 3 then .left { V1 with steps := V1.steps + 1 } (show Int from b.2.2.2.2.2.1).toNat (-1) else
      let to := ((show List Int from b.2.2.2.1).getD (whichF b V1.ws) 0).toNat
      let t := blkD u to
      let p := phiL u t.1 (idxF t.2.2.2.2.1 (at_ : Int)) V1.ws
      runF u fuel k to { V1 with ws := setN t.1 p p.length V1.ws, steps := V1.steps + 1 + p.length }
    | r => r
structure BOk (u : UnT.D) (at_ : Nat) (b : BlkT.D) : Prop where
  vl : List.length b.1 ≤ 1000000
  vin : ∀ v ∈ (show List Int from b.1), (0 : Int) ≤ v ∧ v < (nv u : Int)
  ed : b.2.1 = 3 → (0 : Int) ≤ (show Int from b.2.2.2.2.2.1) ∧ (show Int from b.2.2.2.2.2.1) < (ns u : Int)
  cd : b.2.1 = 2 → (0 : Int) ≤ (show Int from b.2.2.1) ∧ (show Int from b.2.2.1) < (nv u : Int)
  nl : List.length b.2.2.2.1 ≤ 1000000 ∧ List.length b.2.2.2.2.1 ≤ 1000000
  n2 : b.2.1 ≠ 3 → (if b.2.1 = 2 then 1 else 0) < List.length b.2.2.2.1
  nx : ∀ t ∈ (show List Int from b.2.2.2.1), (0 : Int) ≤ t ∧ t < (nb u : Int) ∧ (blkD u t.toNat).2.2.2.2.1 ≠ ([] : List Int) ∧
    ∀ v ∈ (show List Int from (blkD u t.toNat).1), (valD u v).1 = 21 → idxF (blkD u t.toNat).2.2.2.2.1 (at_ : Int) < (valD u v).2.2.2.2.1.length ∧ (valD u v).2.2.2.2.1.length ≤ 1000000 ∧ (0 : Int) ≤ (show List Int from (valD u v).2.2.2.2.1).getD (idxF (blkD u t.toNat).2.2.2.2.1 (at_ : Int)) 0 ∧ (show List Int from (valD u v).2.2.2.2.1).getD (idxF (blkD u t.toNat).2.2.2.2.1 (at_ : Int)) 0 < (nv u : Int)
structure UOk (u : UnT.D) : Prop where
  n : 0 < nv u ∧ nv u ≤ 1000000
  b : 0 < nb u ∧ nb u ≤ 1000000
  s : ns u ≤ 1000000
  bl : ∀ i, i < nb u → BOk u i (blkD u i)
  vl : ∀ x ∈ u.2.2.1, x.1 ≠ 1 → x.1 ≠ 21 → VOk u x
  pa : ∀ x ∈ u.2.2.1, x.1 = 1 → (0 : Int) ≤ x.2.2.2.1 ∧ x.2.2.2.1 ≤ 9223372036854775807
  gd : ∀ x ∈ u.2.2.1, x.1 = 22 → (0 : Int) ≤ x.2.1 ∧ x.2.1 < (nv u : Int)
  lv : ∀ x ∈ u.2.2.1, x.1 = 22 ∨ x.1 = 23 → (0 : Int) ≤ x.2.2.2.2.2.1 ∧ x.2.2.2.2.2.1 < (ns u : Int)
  fr : ∀ st, (h : st < ns u) → (u.2.2.2.2.1[st]).1.length ≤ 1000000 ∧ ∀ f ∈ (u.2.2.2.2.1[st]).1, f.2.2.1.length ≤ 1000000 ∧ f.2.2.2.1.length ≤ 1000000 ∧ (∀ v ∈ (show List Int from f.2.2.1), (0 : Int) ≤ v ∧ v < (nv u : Int)) ∧ (∀ v ∈ (show List Int from f.2.2.2.1), (0 : Int) ≤ v ∧ v < (nv u : Int))
def ExitV (Q : Nat → Prop) (m0 m1 : Mem) (u : UnT.D) (K : Kv) (v : Value) : Ro → Prop
  | .go _ => False
  | .tired V => v = .agg #[.int .i64 0, .int .i64 (-1), .int .i64 (-1), .slice none 0 0, .int .i64 V.steps] ∧ Ev Q m1 u K V
  | .left V st val => (∃ fo, v = .agg #[.int .i64 1, .int .i64 (st : Int), .int .i64 val, .slice fo (stD u st).length (stD u st).length, .int .i64 V.steps] ∧ AtQ (fun f => m0.next ≤ f) m1 (Ty.slice 44 (Ty.pair (Ty.int .i64) (Ty.pair (Ty.int .i64) (Ty.pair (Ty.slice 45 (Ty.int .u64)) (Ty.pair (Ty.slice 45 (Ty.int .u64)) Ty.unit))))) ((stD u st).map (frW V.ws)) [.slice fo (stD u st).length (stD u st).length]) ∧ Ev Q m1 u K V
structure Nu (S : Sums) : Prop where
  nv : Nv S
  run : S 10 = []
  tired : S 26 = []
  leaves : S 27 = []
  params : S 25 = []
  come : S 30 = []
  left : S 28 = []
  left1 : S 57 = []
theorem words_zero (n : Nat) : List.replicate n (Value.int .u64 0) = words (List.replicate n 0) := by simp [words]
theorem leavesW_in {x : ValT.D} {w : Int} (h : -9223372036854775808 ≤ w ∧ w ≤ 9223372036854775807) : -9223372036854775808 ≤ leavesW x w ∧ leavesW x w ≤ 9223372036854775807 := by
  unfold leavesW; split <;> omega
theorem parF_steps (u : UnT.D) (loc l : List Int) (p : List Int × Int) : p.2 ≤ (parF u loc l p).2 ∧ (parF u loc l p).2 ≤ p.2 + l.length := by
  induction l generalizing p with
  | nil => simp [parF]
  | cons a r ih =>
    have e : parF u loc (a :: r) p = parF u loc r (parS u loc p a) := rfl
    rw [e]
    have := ih (parS u loc p a)
    have h2 : p.2 ≤ (parS u loc p a).2 ∧ (parS u loc p a).2 ≤ p.2 + 1 := by
      unfold parS
      split
      · dsimp only; omega
      · omega
    rw [List.length_cons]
    omega
theorem leavesB_op {x : ValT.D} {ws : List Int} {w : Int} (h : leavesB x ws w = true) : x.1 = 22 ∨ x.1 = 23 := by
  unfold leavesB at h
  by_cases h1 : x.1 = 22
  · exact Or.inl h1
  · rw [if_neg h1] at h
    by_cases h2 : x.1 = 23
    · exact Or.inr h2
    · rw [if_neg h2] at h; cases h
theorem zeros_u64 (k : Nat) (hk : k ≤ 1000000) : zerosOf Tryd.prog 45 k = some (List.replicate k (Value.int .u64 0)) := zeros_of (bt := 8) (by kernel_rfl) k (by omega)
set_option maxHeartbeats 32000000 in
theorem run_run (hN : Nu S) {Q : Nat → Prop} {u : UnT.D} {vo bo so : Option Addr} (hU : UAt Q m u vo bo so) (hQ : ∀ f, Q f → f < m.next) (hok : UOk u)
    (hck : ∀ m1, Keeps m m1 [] → ∃ m2, callw Tryd.prog TT S 22 [.agg (uCells u vo bo so).toArray] m1 = some (.bool true, m2) ∧ Keeps m1 m2 [])
    {hb hf hwb hwf : Nat} {hw : List Int} {room : Int} (hH : HeapAt m hb hf hwb hwf hw room) (hhq : ¬ Q hf ∧ ¬ Q hwf) (hhw : Wd hw) (hhl : hw.length ≤ 65536)
    {lo : Option Addr} {loc : List Int} {c lf : Nat} (hlo : Rs m lo loc.length (words loc) 45 1 lf) (hlq : loc.length ≠ 0 → lf < m.next) (hlw : Wd loc) (hlc : loc.length ≤ c ∧ c ≤ 1000000)
    {wish fuel : Int} (hwi : -9223372036854775808 ≤ wish ∧ wish ≤ 9223372036854775807) (hfu : 0 ≤ fuel ∧ fuel ≤ 1000000) :
    ∃ v m1, callw Tryd.prog TT S 10 [.agg (uCells u vo bo so).toArray, .pointer (some ⟨hb, 0, none⟩), .slice lo loc.length c, .int .i64 wish, .int .i64 fuel] m = some (v, m1) ∧
      (∃ K : Kv, K.hb = hb ∧ K.hf = hf ∧ K.hwf = hwf ∧ K.room = room ∧ ExitV Q m m1 u K v (runF u fuel (fuel.toNat + 1) 0 ⟨hwb, hw, (parF u loc (blkD u 0).1 (List.replicate (nv u) 0, 0)).1, wish, (parF u loc (blkD u 0).1 (List.replicate (nv u) 0, 0)).2⟩)) ∧ Keeps m m1 [hf, hwf] := by
  obtain ⟨oU, kU, nU⟩ := new_own (m := m) (cs := uCells u vo bo so) (e := 34) rfl
  obtain ⟨pb, hpb⟩ : ∃ pb, m.next = pb := ⟨_, rfl⟩
  obtain ⟨mA, hmA⟩ : ∃ mA, m.new (uCells u vo bo so) 34 = mA := ⟨_, rfl⟩
  rw [hmA, hpb] at oU nU
  rw [hmA] at kU
  obtain ⟨oR, kR, nR⟩ := new_own (m := mA) (cs := [.int .i64 0, .int .i64 0, .int .i64 0, .slice none 0 0, .int .i64 0]) (e := 28) rfl
  obtain ⟨rb, hrb⟩ : ∃ rb, mA.next = rb := ⟨_, rfl⟩
  obtain ⟨mB, hmB⟩ : ∃ mB, mA.new [.int .i64 0, .int .i64 0, .int .i64 0, .slice none 0 0, .int .i64 0] 28 = mB := ⟨_, rfl⟩
  rw [hmB, hrb] at oR nR
  rw [hmB] at kR
  have lU := (oU.keep kR (by simp)).load (off := 0) 5 (by simp)
  simp [window] at lU
  obtain ⟨mC, cC, kC⟩ := hck mB (kU.trans kR)
  have oUC := (oU.keep kR (by simp)).keep kC (by simp)
  have lUC := oUC.load (off := 0) 5 (by simp)
  simp [window] at lUC
  have u2C := oUC.load1 (off := 2) rfl
  have hz := zeros_u64 (nv u) hok.n.2
  rw [words_zero] at hz
  have n1 : (nv u : Int) ≤ 9223372036854775807 := by have := hok.n; omega
  have n2 : nv u * 8 ≤ 281474976710656 := by have := hok.n; omega
  obtain ⟨oW, kW, nW⟩ := new_own (m := mC) (cs := words (List.replicate (nv u) 0)) (e := 45) rfl
  obtain ⟨wb, hwb'⟩ : ∃ wb, mC.next = wb := ⟨_, rfl⟩
  obtain ⟨mD, hmD⟩ : ∃ mD, mC.new (words (List.replicate (nv u) 0)) 45 = mD := ⟨_, rfl⟩
  rw [hmD, hwb'] at oW nW
  rw [hmD] at kW
  obtain ⟨oM, kM, nM⟩ := new_own (m := mD) (cs := [.int .i64 u.1, .int .i64 u.2.1, .slice vo (nv u) (nv u), .slice bo (nb u) (nb u), .slice so (ns u) (ns u), .pointer (some ⟨hb, 0, none⟩), .slice (some ⟨wb, 0, none⟩) (nv u) (nv u), .int .i64 wish, .int .i64 0]) (e := 78) rfl
  obtain ⟨xb, hxb⟩ : ∃ xb, mD.next = xb := ⟨_, rfl⟩
  obtain ⟨mE, hmE⟩ : ∃ mE, mD.new [.int .i64 u.1, .int .i64 u.2.1, .slice vo (nv u) (nv u), .slice bo (nb u) (nb u), .slice so (ns u) (ns u), .pointer (some ⟨hb, 0, none⟩), .slice (some ⟨wb, 0, none⟩) (nv u) (nv u), .int .i64 wish, .int .i64 0] 78 = mE := ⟨_, rfl⟩
  rw [hmE, hxb] at oM nM
  rw [hmE] at kM
  have lUD := (oUC.keep kW (by simp)).load (off := 0) 5 (by simp)
  simp [window] at lUD
  have KC : Keeps m mC [] := (kU.trans kR).trans kC
  have KE : Keeps m mE [] := (KC.trans kW).trans kM
  have c1 := (kU.trans kR).1
  have c2 := kC.1
  have c3 := hH.h.flt
  have c4 := hH.w.flt
  have mnx : m.next ≤ wb ∧ wb < xb ∧ pb = m.next ∧ pb < rb ∧ rb < wb := by
    have := oU.flt; have := oR.flt; have := oW.flt; omega
  obtain ⟨K, hK⟩ : ∃ K : Kv, K = ⟨xb, xb, hb, hf, hwf, wb, wb, room, vo, bo, so⟩ := ⟨_, rfl⟩
  have ev0 : Ev Q mE u K ⟨hwb, hw, List.replicate (nv u) 0, wish, 0⟩ := by
    subst hK
    refine ⟨oM, oW.keep kM (by simp), by simp, ?_, hhw, hhl, hH.keep KE (by simp) (by simp), hU.keep KE (by simp), ⟨fun q => ?_, fun q => ?_, hhq.1, hhq.2⟩, ?_⟩
    · intro w hw'
      rw [List.mem_replicate] at hw'
      rw [hw'.2]; omega
    · have := hQ _ q; dsimp only at this; omega
    · have := hQ _ q; dsimp only at this; omega
    · have := hH.ne
      dsimp only
      omega
  have hb0 := hok.b
  have eb0 : blkD u 0 = u.2.2.2.1[0]'hb0.1 := blkD_eq hb0.1
  have B0 := hok.bl 0 hb0.1
  rw [eb0] at B0 ⊢
  obtain ⟨_, mF, cF, ev1, kF⟩ := params_run hN.params ev0 hok.n.2 hb0.1 B0.vl B0.vin hok.pa (by dsimp only; omega) (lo := lo) (loc := loc) (c := c) (lf := lf) (by exact hlo.keep0 KE (by simp)) (fun q => by have := hlq q; subst hK; dsimp only; omega) hlw hlc
  have eKx : K.x = xb := by rw [hK]
  rw [eKx] at cF
  refine fn_w 112 [112, 118, 128] k10 hN.run rfl ?_
  simp [-Int.natCast_add, box_of b34, alloc_of zo28, bin_ptr u22, load_agg ld34, fieldAddr_of fa34_2, load_of ld30, len_slice u30, build_of bo78, box_of b78, hpb, hmA, hrb, hmB, lU, cC, lUC, u2C, make_of u42 ap45, hz, n1, n2, hwb', hmD, hxb, hmE, lUD, cF]
  have kF' : Keeps m mF [hf, hwf] := keeps_mix (KE.mono (by simp)) kF (by subst hK; intro g hg hm; simp at hm; omega)
  have oUF := ((oUC.keep kW (by simp)).keep kM (by simp)).keep kF (by subst hK; simp; omega)
  have oRF := (((oR.keep kC (by simp)).keep kW (by simp)).keep kM (by simp)).keep kF (by subst hK; simp; omega)
  have hps := parF_steps u loc (u.2.2.2.1[0]'hb0.1).1 (List.replicate (nv u) 0, 0)
  have hpl := B0.vl
  dsimp only at hps
  obtain ⟨V1, hV1⟩ : ∃ V1 : Vv, V1 = ⟨hwb, hw, (parF u loc (u.2.2.2.1[0]'hb0.1).1 (List.replicate (nv u) 0, 0)).1, wish, (parF u loc (u.2.2.2.1[0]'hb0.1).1 (List.replicate (nv u) 0, 0)).2⟩ := ⟨_, rfl⟩
  have ev1' : Ev Q mF u K V1 := by rw [hV1]; exact ev1
  have hs1 : 0 ≤ V1.steps ∧ V1.steps ≤ 3000000 := by rw [hV1]; dsimp only; omega
  have hw1 : V1.wish = wish := by rw [hV1]
  rw [← hV1]
  obtain ⟨R0, hR0⟩ : ∃ R0, runF u fuel (fuel.toNat + 1) 0 V1 = R0 := ⟨_, rfl⟩
  rw [hR0]
  have eK : K.hb = hb ∧ K.hf = hf ∧ K.hwf = hwf ∧ K.room = room ∧ K.f = xb ∧ K.wf = wb ∧ K.x = xb ∧ K.bo = bo ∧ K.vo = vo := by rw [hK]; exact ⟨rfl, rfl, rfl, rfl, rfl, rfl, rfl, rfl, rfl⟩
  obtain ⟨eK1, eK2, eK3, eK4, eK5, eK6, eK7, eK8, eK9⟩ := eK
  have qn : ∀ f, m.next ≤ f → ¬ Q f := fun f hf q => by have := hQ f q; omega
  clear hK ev0 ev1 cF lU cC lUC u2C lUD hps hz
  refine wsem_loop 112 [112, 118, 128] (fun d E mG => ∃ (k at_ : Nat) (V : Vv), k = d ∧ 1 ≤ k ∧ fuel < V.steps + k ∧ 0 ≤ V.steps ∧ V.steps ≤ 3000000 ∧ (-9223372036854775808 ≤ V.wish ∧ V.wish ≤ 9223372036854775807) ∧ at_ < nb u ∧ runF u fuel k at_ V = R0 ∧ Ev Q mG u K V ∧ Own mG pb (uCells u vo bo so) 34 pb ∧ Own mG rb [.int .i64 0, .int .i64 0, .int .i64 0, .slice none 0 0, .int .i64 0] 28 rb ∧ Keeps m mG [hf, hwf] ∧
    E = [(4, .int .i64 fuel), (5, .pointer (some ⟨pb, 0, none⟩)), (10, .pointer (some ⟨rb, 0, none⟩)), (11, .pointer (some ⟨xb, 0, none⟩)), (12, .int .i64 (at_ : Int))]) _ ⟨_, ⟨fuel.toNat + 1, 0, V1, rfl, by omega, by omega, hs1.1, hs1.2, by rw [hw1]; exact hwi, hb0.1, hR0, ev1', oUF, oRF, kF', rfl⟩, ⟨by rfl, by rfl, by rfl, by rfl, by rfl, trivial⟩⟩ ?_
  rintro d E mG ih ⟨k, at_, V, hd, hk1, hkf, hs0, hs3, hwb1, hat, hrun, hG, oUG, oRG, kG, rfl⟩
  have B := hok.bl at_ hat
  obtain ⟨bb, vo', no', po', hbo', ldb, hvo', hno', hpo'⟩ := blk_at hG.unit hat
  rw [eK8] at hbo'
  rw [← blkD_eq hat] at ldb hvo' hno' hpo'
  obtain ⟨b, hb'⟩ : ∃ b : BlkT.D, blkD u at_ = b := ⟨_, rfl⟩
  rw [hb'] at ldb hvo' hno' hpo' B
  obtain ⟨l, hl⟩ : ∃ l : List Int, b.1 = l := ⟨_, rfl⟩
  have Bvl : l.length ≤ 1000000 := by rw [← hl]; exact B.vl
  have Bvin : ∀ v ∈ l, (0 : Int) ≤ v ∧ v < (nv u : Int) := by rw [← hl]; exact B.vin
  have hvl : IntsAt Q mG vo' l := by rw [← hl]; exact hvo'
  have hun := hok.n
  have hub := hok.b
  have a1 : (at_ : Int) < nb u := by omega
  have a2 : (at_ : Int) ≤ 9223372036854775807 := by omega
  have u3 := oUG.load1 (off := 3) rfl
  rw [hbo'] at u3
  obtain ⟨oZ, kZ, nZ⟩ := new_own (m := mG) (cs := [.slice none 0 0, .int .i64 0, .int .i64 0, .slice none 0 0, .slice none 0 0, .int .i64 0]) (e := 40) rfl
  obtain ⟨bx, hbx⟩ : ∃ bx, mG.next = bx := ⟨_, rfl⟩
  obtain ⟨mH, eH, oX, kX⟩ := store_own (r := _) rfl oZ (off := 0) (vs := blkC b vo' no' po') (by simp) (by simp [one_int, one_slice])
  simp [over] at oX
  have kH := kZ.fresh kX (by simp)
  rw [hbx] at oX nZ eH
  have hH' := hG.keep0 kH
  have bs : m.next ≤ bx ∧ xb < bx ∧ rb < bx ∧ pb < bx ∧ wb < bx := by
    have := kG.1; have := hG.own.flt; have := oRG.flt; have := oUG.flt; omega
  have x0 := oX.load1 (off := 0) rfl
  have x0' : loadRow mH ⟨bx, 0, none⟩ 1 = some [.slice vo' l.length l.length] := by rw [x0, hl]
  simp [-Int.natCast_add, fieldAddr_of fa34_3, load_of ld31, index_slice u31 sz40, load_agg ld40, alloc_of zo40, store_of sz40, fieldAddr_of fa40_0, load_of ld36, len_slice u36, u3, a2, hat, ldb, hbx, eH, x0']
  have kGH : Keeps m mH [hf, hwf] := keeps_mix kG kH (by simp)
  obtain ⟨R1, hR1⟩ : ∃ R1, valsF u fuel l V = R1 := ⟨_, rfl⟩
  refine wsem_loop 112 [112, 118, 128] (fun d E mI => ∃ (i : Nat) (V' : Vv), l.length - i = d ∧ i ≤ l.length ∧ valsF u fuel (l.drop i) V' = R1 ∧ V.steps ≤ V'.steps ∧ V'.steps ≤ 3000000 ∧ (-9223372036854775808 ≤ V'.wish ∧ V'.wish ≤ 9223372036854775807) ∧ Ev Q mI u K V' ∧ Own mI bx (blkC b vo' no' po') 40 bx ∧ Own mI pb (uCells u vo bo so) 34 pb ∧ Own mI rb [.int .i64 0, .int .i64 0, .int .i64 0, .slice none 0 0, .int .i64 0] 28 rb ∧ Keeps m mI [hf, hwf] ∧ Keeps mH mI [K.f, K.wf, hwf] ∧
    E = [(4, .int .i64 fuel), (5, .pointer (some ⟨pb, 0, none⟩)), (10, .pointer (some ⟨rb, 0, none⟩)), (11, .pointer (some ⟨xb, 0, none⟩)), (12, .int .i64 (at_ : Int)), (13, .pointer (some ⟨bx, 0, none⟩)), (44, .slice vo' l.length l.length), (45, .int .i64 l.length), (46, .int .i64 (i : Int))]) _ ⟨_, ⟨0, V, rfl, by omega, by rw [List.drop_zero]; exact hR1, by omega, hs3, hwb1, hH', by rw [hbx] at *; exact oX, oUG.keep kH (by simp), oRG.keep kH (by simp), kGH, .refl _ _, rfl⟩, ⟨by rfl, by rfl, by rfl, by rfl, by rfl, by rfl, by rfl, by rfl, by rfl, trivial⟩⟩ ?_
  rintro d' E mI ih2 ⟨i, V', hd2, hi, hvals, hst, hst3, hwb2, hI, oXI, oUI, oRI, kI, kHI, rfl⟩
  have im : (i : Int) ≤ 9223372036854775807 := by omega
  by_cases hlt : i < l.length
  · have i1 : (i : Int) < l.length := by omega
    have wi : IntKind.i64.wrap ((i : Int) + 1) = ((i + 1 : Nat) : Int) := by rw [wrap_i64 (by omega) (by omega)]; omega
    have nq3 : ∀ f ∈ [K.f, K.wf, hwf], ¬ Q f := by
      intro f hf'
      simp at hf'
      rcases hf' with q | q | q
      · rw [q]; exact hI.nq.1
      · rw [q]; exact hI.nq.2.1
      · rw [q]; exact hhq.2
    obtain ⟨lb, hlb, li⟩ := ((hvl.keep kH (by simp)).keep kHI nq3).get hlt
    rw [hlb] at ih2 oXI ⊢
    obtain ⟨v, ev⟩ : ∃ v : Nat, l.getD i 0 = (v : Int) := ⟨(l.getD i 0).toNat, by have := Bvin _ (getD_mem hlt); omega⟩
    have hvn : v < nv u := by have := Bvin _ (getD_mem hlt); omega
    have hdrop : l.drop i = (v : Int) :: l.drop (i + 1) := by
      rw [List.drop_eq_getElem_cons hlt, ← ev, List.getD_eq_getElem?_getD, List.getElem?_eq_getElem hlt]; rfl
    rw [ev] at li
    rw [hdrop, valsF, valD_eq hvn] at hvals
    obtain ⟨xb2, ao, fa, hxv, ldx, hra, hqa⟩ := val_at hI.unit hvn
    rw [eK9] at hxv
    have u2 := oUI.load1 (off := 2) rfl
    rw [hxv] at u2
    have lop := load_sub (k := 0) ldx rfl
    rw [Nat.add_zero] at lop
    have v1 : (v : Int) < nv u := by omega
    have v2 : (v : Int) ≤ 9223372036854775807 := by omega
    obtain ⟨o, ho⟩ : ∃ o : Int, (u.2.2.1[v]).1 = o := ⟨_, rfl⟩
    rw [ho] at lop
    have hmem : u.2.2.1[v] ∈ u.2.2.1 := List.getElem_mem hvn
    by_cases c21 : o = 21 ∨ o = 1
    · dsimp only at hvals
      rw [if_pos (by rw [ho]; exact c21)] at hvals
      have c1 : ¬ o = 21 → o = 1 := fun q => c21.resolve_left q
      by_cases c21' : o = 21
      · simp [-Int.natCast_add, -List.getD_eq_getElem?_getD, fieldAddr_of fa34_2, load_of ld30, index_slice u36 sz3, load_of ld3, index_slice u30 sz38, fieldAddr_of fa38_0, i1, im, hlt, li, u2, v2, hvn, lop, c21', wi]
        exact ih2 _ _ _ _ ⟨i + 1, V', rfl, by omega, hvals, hst, hst3, hwb2, hI, oXI, oUI, oRI, kI, kHI, rfl⟩ (by omega) ⟨by rfl, by rfl, by rfl, by rfl, by rfl, by rfl, by rfl, by rfl, by rfl, trivial⟩
      · have c1' := c1 c21'
        simp [-Int.natCast_add, -List.getD_eq_getElem?_getD, fieldAddr_of fa34_2, load_of ld30, index_slice u36 sz3, load_of ld3, index_slice u30 sz38, fieldAddr_of fa38_0, i1, im, hlt, li, u2, v2, hvn, lop, c1', wi]
        exact ih2 _ _ _ _ ⟨i + 1, V', rfl, by omega, hvals, hst, hst3, hwb2, hI, oXI, oUI, oRI, kI, kHI, rfl⟩ (by omega) ⟨by rfl, by rfl, by rfl, by rfl, by rfl, by rfl, by rfl, by rfl, by rfl, trivial⟩
    · have n21 : ¬ o = 21 := fun q => c21 (Or.inl q)
      have n01 : ¬ o = 1 := fun q => c21 (Or.inr q)
      dsimp only at hvals
      rw [if_neg (by rw [ho]; exact c21)] at hvals
      have w8 := hI.own.load1 (off := 8) rfl
      rw [eK7] at w8
      by_cases ft : fuel ≤ V'.steps
      · rw [if_pos ft] at hvals
        have hR : R0 = .tired V' := by
          rw [← hrun]
          obtain ⟨k, rfl⟩ : ∃ k', k = k' + 1 := ⟨k - 1, by omega⟩
          rw [runF, hb', hl]
          dsimp only
          rw [hR1, ← hvals]
        obtain ⟨_, m1, ct, rfl, kt⟩ := tired_run hN.tired hI
        rw [eK7] at ct
        obtain ⟨m2, e2, oR2, k2⟩ := store_own (r := _) rfl (oRI.keep kt (by simp)) (off := 0) (vs := [.int .i64 0, .int .i64 (-1), .int .i64 (-1), .slice none 0 0, .int .i64 V'.steps]) (by simp) (by simp [one_int, one_slice])
        simp [over] at oR2
        have lR := oR2.load (off := 0) 5 (by simp)
        simp [window] at lR
        have h2 := (hI.keep0 kt).keep k2 (by rw [eK5]; simp; omega) (by rw [eK6]; simp; omega) (by rw [eK2]; simp; omega) (by rw [eK3]; simp; omega) (by simp; exact qn _ (by omega))
        simp [-Int.natCast_add, -List.getD_eq_getElem?_getD, lres_agg ld28, store_of sz28, fieldAddr_of fa34_2, load_of ld30, index_slice u36 sz3, load_of ld3, index_slice u30 sz38, fieldAddr_of fa38_0, fieldAddr_of fa78_4, i1, im, hlt, li, u2, v2, hvn, lop, n21, n01, w8, ft, ct, e2, lR]
        exact ⟨⟨K, eK1, eK2, eK3, eK4, by rw [hR]; exact ⟨rfl, h2⟩⟩, keeps_mix (keeps_mix kI kt (by simp)) k2 (by simp; omega)⟩
      · rw [if_neg ft] at hvals
        obtain ⟨mJ, eJ, hJ, kJ⟩ := ev_steps hI (V'.steps + 1)
        rw [eK7] at eJ
        rw [eK5] at kJ
        have wst : IntKind.i64.wrap (V'.steps + 1) = V'.steps + 1 := wrap_i64 (by omega) (by omega)
        obtain ⟨_, mK, cL, rfl, hKv, kK⟩ := leaves_run hN.leaves hJ hun.2 hvn (fun q => hok.gd _ hmem q) hwb2
        rw [eK7] at cL
        rw [eK5] at kK
        dsimp only at hKv cL
        have oUJ := (oUI.keep kJ (by simp; omega)).keep kK (by simp; omega)
        have oRJ := (oRI.keep kJ (by simp; omega)).keep kK (by simp; omega)
        have oXJ := (oXI.keep kJ (by simp; omega)).keep kK (by simp; omega)
        have kJI : Keeps m mK [hf, hwf] := keeps_mix (keeps_mix kI kJ (by simp; omega)) kK (by simp; omega)
        have lwb := leavesW_in (x := u.2.2.1[v]) hwb2
        by_cases lv : leavesB (u.2.2.1[v]) V'.ws V'.wish = true
        · rw [if_pos lv] at hvals
          rw [lv] at cL
          obtain ⟨s0, s1⟩ := hok.lv _ hmem (leavesB_op lv)
          obtain ⟨xb3, ao3, fa3, hxv3, ldx3, _, _⟩ := val_at hKv.unit hvn
          rw [eK9, hxv] at hxv3
          simp only [Option.some.injEq, Addr.mk.injEq, and_true] at hxv3
          subst hxv3
          have lst := load_sub (k := 5) ldx3 rfl
          have u2K := oUJ.load1 (off := 2) rfl
          rw [hxv] at u2K
          obtain ⟨st, est⟩ : ∃ st : Nat, (show Int from (u.2.2.1[v]).2.2.2.2.2.1) = (st : Int) := ⟨_, (Int.toNat_of_nonneg s0).symm⟩
          have hst' : st < ns u := by
            have : (show Int from (u.2.2.1[v]).2.2.2.2.2.1) < (ns u : Int) := s1
            omega
          have lst' : loadRow mK ⟨xb2, v * 6 + 5, none⟩ 1 = some [.int .i64 (st : Int)] := by rw [lst]; rw [show (u.2.2.1[v]).2.2.2.2.2.1 = (st : Int) from est]
          obtain ⟨f1, f2⟩ := hok.fr st hst'
          obtain ⟨_, mL, cF2, ⟨fo, rfl, hfr⟩, kL⟩ := left_run hN.left hN.left1 hKv hun.2 hok.s hst' (v : Int) rfl f1 f2
          rw [eK7] at cF2
          dsimp only at cF2
          obtain ⟨m2, e2, oR2, k2⟩ := store_own (r := _) rfl (oRJ.keep kL (by simp)) (off := 0) (vs := [.int .i64 1, .int .i64 (st : Int), .int .i64 (v : Int), .slice fo (u.2.2.2.2.1[st]).1.length (u.2.2.2.2.1[st]).1.length, .int .i64 (V'.steps + 1)]) (by simp) (by simp [one_int, one_slice])
          simp [over] at oR2
          have lR := oR2.load (off := 0) 5 (by simp)
          simp [window] at lR
          have h2 := (hKv.keep0 kL).keep k2 (by rw [eK5]; simp; omega) (by rw [eK6]; simp; omega) (by rw [eK2]; simp; omega) (by rw [eK3]; simp; omega) (by simp; exact qn _ (by omega))
          have hR : R0 = .left { V' with steps := V'.steps + 1, wish := leavesW (u.2.2.1[v]) V'.wish } st (v : Int) := by
            rw [← hrun]
            obtain ⟨k, rfl⟩ : ∃ k', k = k' + 1 := ⟨k - 1, by omega⟩
            rw [runF, hb', hl]
            dsimp only
            rw [hR1, ← hvals]
            dsimp only
            have e5 : Int.toNat (show Int from (u.2.2.1[v]).2.2.2.2.2.1) = st := by rw [est]; exact Int.toNat_natCast st
            exact congrArg (fun z => Ro.left _ z _) e5
          have mKn := kJI.1
          have fr2 := (hfr.keep k2 (by have := oRJ.flt; simp; omega)).mono (R := fun f => m.next ≤ f) (fun f q => by omega)
          simp [-Int.natCast_add, -List.getD_eq_getElem?_getD, lres_agg ld28, store_of sz28, fieldAddr_of fa34_2, load_of ld30, index_slice u36 sz3, load_of ld3, index_slice u30 sz38, fieldAddr_of fa38_0, fieldAddr_of fa78_4, store_of sz3, fieldAddr_of fa38_5, i1, im, hlt, li, u2, v2, hvn, lop, n21, n01, w8, ft, wst, eJ, cL, u2K, lst', cF2, e2, lR]
          refine ⟨⟨K, eK1, eK2, eK3, eK4, by rw [hR]; exact ⟨⟨fo, by rw [stD_eq hst'], by rw [stD_eq hst']; exact fr2⟩, h2⟩⟩, keeps_mix (keeps_mix kJI kL (by simp)) k2 (by simp; omega)⟩
        · rw [if_neg lv] at hvals
          have lv' : leavesB (u.2.2.1[v]) V'.ws V'.wish = false := by simpa using lv
          rw [lv'] at cL
          have hx := hok.vl _ hmem (by rw [ho]; exact n01) (by rw [ho]; exact n21)
          obtain ⟨_, mL, cD, hD, kD⟩ := does_run hN.nv hKv hun.2 hvn hx
          rw [eK7] at cD
          rw [eK6, eK3] at kD
          dsimp only at hD
          have oUL := oUJ.keep kD (by simp; omega)
          have oRL := oRJ.keep kD (by simp; omega)
          have oXL := oXJ.keep kD (by simp; omega)
          have kLI : Keeps m mL [hf, hwf] := keeps_mix kJI kD (by simp; omega)
          have kLH : Keeps mH mL [K.f, K.wf, hwf] := by
            rw [eK5, eK6] at kHI ⊢
            exact ((kHI.trans (kJ.mono (by simp))).trans (kK.mono (by simp))).trans (kD.mono (by simp))
          simp [-Int.natCast_add, -List.getD_eq_getElem?_getD, fieldAddr_of fa34_2, load_of ld30, index_slice u36 sz3, load_of ld3, index_slice u30 sz38, fieldAddr_of fa38_0, fieldAddr_of fa78_4, store_of sz3, i1, im, hlt, li, u2, v2, hvn, lop, n21, n01, w8, ft, wst, eJ, cL, cD, wi]
          exact ih2 _ _ _ _ ⟨i + 1, _, rfl, by omega, hvals, by dsimp only; omega, by dsimp only; omega, lwb, by simpa using hD, oXL, oUL, oRL, kLI, kLH, rfl⟩ (by omega) ⟨by rfl, by rfl, by rfl, by rfl, by rfl, by rfl, by rfl, by rfl, by rfl, trivial⟩
  clear ih2
  have i1 : ¬ (i : Int) < l.length := by omega
  rw [List.drop_of_length_le (by omega), valsF] at hvals
  obtain ⟨k, rfl⟩ : ∃ k', k = k' + 1 := ⟨k - 1, by omega⟩
  rw [runF, hb', hl] at hrun
  dsimp only at hrun
  rw [hR1, ← hvals] at hrun
  dsimp only at hrun
  have w8 := hI.own.load1 (off := 8) rfl
  rw [eK7] at w8
  by_cases ft : fuel ≤ V'.steps
  · rw [if_pos ft] at hrun
    obtain ⟨_, m1, ct, rfl, kt⟩ := tired_run hN.tired hI
    rw [eK7] at ct
    obtain ⟨m2, e2, oR2, k2⟩ := store_own (r := _) rfl (oRI.keep kt (by simp)) (off := 0) (vs := [.int .i64 0, .int .i64 (-1), .int .i64 (-1), .slice none 0 0, .int .i64 V'.steps]) (by simp) (by simp [one_int, one_slice])
    simp [over] at oR2
    have lR := oR2.load (off := 0) 5 (by simp)
    simp [window] at lR
    have h2 := (hI.keep0 kt).keep k2 (by rw [eK5]; simp; omega) (by rw [eK6]; simp; omega) (by rw [eK2]; simp; omega) (by rw [eK3]; simp; omega) (by simp; exact qn _ (by omega))
    simp [-Int.natCast_add, lres_agg ld28, store_of sz28, load_of ld3, fieldAddr_of fa78_4, i1, w8, ft, ct, e2, lR]
    exact ⟨⟨K, eK1, eK2, eK3, eK4, by rw [← hrun]; exact ⟨rfl, h2⟩⟩, keeps_mix (keeps_mix kI kt (by simp)) k2 (by simp; omega)⟩
  rw [if_neg ft] at hrun
  obtain ⟨mJ, eJ, hJ, kJ⟩ := ev_steps hI (V'.steps + 1)
  rw [eK7] at eJ
  rw [eK5] at kJ
  have wst : IntKind.i64.wrap (V'.steps + 1) = V'.steps + 1 := wrap_i64 (by omega) (by omega)
  have oUJ := oUI.keep kJ (by simp; omega)
  have oRJ := oRI.keep kJ (by simp; omega)
  have oXJ := oXI.keep kJ (by simp; omega)
  have kJI : Keeps m mJ [hf, hwf] := keeps_mix kI kJ (by simp; omega)
  obtain ⟨en, hen⟩ : ∃ en : Int, b.2.1 = en := ⟨_, rfl⟩
  have y1 := oXJ.load1 (off := 1) rfl
  rw [hen] at y1
  by_cases e3 : en = 3
  · rw [if_pos (by rw [hen]; exact e3)] at hrun
    obtain ⟨s0, s1⟩ := B.ed (by rw [hen]; exact e3)
    obtain ⟨st, est⟩ : ∃ st : Nat, (show Int from b.2.2.2.2.2.1) = (st : Int) := ⟨_, (Int.toNat_of_nonneg s0).symm⟩
    have e5 : Int.toNat (show Int from b.2.2.2.2.2.1) = st := by rw [est]; exact Int.toNat_natCast st
    have hR : R0 = .left { V' with steps := V'.steps + 1 } st (-1) := by rw [← hrun]; exact congrArg (fun z => Ro.left _ z _) e5
    have hst' : st < ns u := by
      have : (show Int from b.2.2.2.2.2.1) < (ns u : Int) := s1
      omega
    have y5 := oXJ.load1 (off := 5) rfl
    rw [show b.2.2.2.2.2.1 = (st : Int) from est] at y5
    obtain ⟨f1, f2⟩ := hok.fr st hst'
    obtain ⟨_, mL, cF2, ⟨fo, rfl, hfr⟩, kL⟩ := left_run hN.left hN.left1 hJ hun.2 hok.s hst' (-1) rfl f1 f2
    rw [eK7] at cF2
    dsimp only at cF2
    obtain ⟨m2, e2, oR2, k2⟩ := store_own (r := _) rfl (oRJ.keep kL (by simp)) (off := 0) (vs := [.int .i64 1, .int .i64 (st : Int), .int .i64 (-1), .slice fo (u.2.2.2.2.1[st]).1.length (u.2.2.2.2.1[st]).1.length, .int .i64 (V'.steps + 1)]) (by simp) (by simp [one_int, one_slice])
    simp [over] at oR2
    have lR := oR2.load (off := 0) 5 (by simp)
    simp [window] at lR
    have h2 := (hJ.keep0 kL).keep k2 (by rw [eK5]; simp; omega) (by rw [eK6]; simp; omega) (by rw [eK2]; simp; omega) (by rw [eK3]; simp; omega) (by simp; exact qn _ (by omega))
    have mKn := kJI.1
    have fr2 := (hfr.keep k2 (by have := oRJ.flt; simp; omega)).mono (R := fun f => m.next ≤ f) (fun f q => by omega)
    simp [-Int.natCast_add, lres_agg ld28, store_of sz28, load_of ld3, fieldAddr_of fa78_4, store_of sz3, fieldAddr_of fa40_1, fieldAddr_of fa40_5, i1, w8, ft, wst, eJ, y1, e3, y5, cF2, e2, lR]
    exact ⟨⟨K, eK1, eK2, eK3, eK4, by rw [hR]; exact ⟨⟨fo, by rw [stD_eq hst'], by rw [stD_eq hst']; exact fr2⟩, h2⟩⟩, keeps_mix (keeps_mix kJI kL (by simp)) k2 (by simp; omega)⟩
  rw [if_neg (by rw [hen]; exact e3)] at hrun
  obtain ⟨nl, hnl⟩ : ∃ nl : List Int, b.2.2.2.1 = nl := ⟨_, rfl⟩
  have Bn : ∀ t ∈ nl, (0 : Int) ≤ t ∧ t < (nb u : Int) ∧ (blkD u t.toNat).2.2.2.2.1 ≠ ([] : List Int) ∧
    ∀ v ∈ (show List Int from (blkD u t.toNat).1), (valD u v).1 = 21 → idxF (blkD u t.toNat).2.2.2.2.1 (at_ : Int) < (valD u v).2.2.2.2.1.length ∧ (valD u v).2.2.2.2.1.length ≤ 1000000 ∧ (0 : Int) ≤ (show List Int from (valD u v).2.2.2.2.1).getD (idxF (blkD u t.toNat).2.2.2.2.1 (at_ : Int)) 0 ∧ (show List Int from (valD u v).2.2.2.2.1).getD (idxF (blkD u t.toNat).2.2.2.2.1 (at_ : Int)) 0 < (nv u : Int) := by rw [← hnl]; exact B.nx
  have Bl2 : (if en = 2 then 1 else 0) < nl.length := by
    have := B.n2 (by rw [hen]; exact e3)
    rw [hen, hnl] at this; exact this
  have Bnl : nl.length ≤ 1000000 := by rw [← hnl]; exact B.nl.1
  obtain ⟨cd, hcd⟩ : ∃ cd : Int, b.2.2.1 = cd := ⟨_, rfl⟩
  have Bcd : en = 2 → 0 ≤ cd ∧ cd < (nv u : Int) := by rw [← hen, ← hcd]; exact B.cd
  obtain ⟨wv, hwv⟩ : ∃ wv, whichF b V'.ws = wv := ⟨_, rfl⟩
  have hwvf : wv = if en = 2 ∧ V'.ws.getD cd.toNat 0 = 0 then 1 else 0 := by rw [← hwv]; unfold whichF; rw [hen, show (show Int from b.2.2.1) = cd from hcd]
  have wvl : wv < nl.length := by
    rw [hwvf]
    by_cases q : en = 2
    · rw [if_pos q] at Bl2; split <;> omega
    · rw [if_neg (fun z => q z.1)]; omega
  rw [hnl, hwv] at hrun
  obtain ⟨tn, htn⟩ : ∃ tn : Nat, nl.getD wv 0 = (tn : Int) := ⟨(nl.getD wv 0).toNat, by have := Bn _ (getD_mem wvl); omega⟩
  have Bt := Bn _ (getD_mem wvl)
  rw [htn, Int.toNat_natCast] at Bt
  obtain ⟨_, t1, t2, t3⟩ := Bt
  rw [htn, Int.toNat_natCast] at hrun
  have tb : tn < nb u := by omega
  have T := hok.bl tn tb
  obtain ⟨_, mL, cC2, hL, kL⟩ := come_run hN.come hJ hun.2 hub.2 (from_ := (at_ : Int)) tb (l := (blkD u tn).1) (pr := (blkD u tn).2.2.2.2.1) (by rw [blkD_eq tb]) (by rw [blkD_eq tb]) T.vl T.nl.2 t2 T.vin t3 (by dsimp only; omega)
  rw [eK7] at cC2
  dsimp only at hL
  have pll := phiL_len u (blkD u tn).1 (idxF (blkD u tn).2.2.2.2.1 (at_ : Int)) V'.ws
  have Tvl := T.vl
  rw [eK5, eK6] at kL
  have oUL := oUJ.keep kL (by simp; omega)
  have oRL := oRJ.keep kL (by simp; omega)
  have oXL := oXJ.keep kL (by simp; omega)
  have kLI : Keeps m mL [hf, hwf] := keeps_mix kJI kL (by simp; omega)
  have nq3 : ∀ f ∈ [K.f, K.wf, hwf], ¬ Q f := by
    intro f hf'
    simp at hf'
    rcases hf' with q | q | q
    · rw [q]; exact hI.nq.1
    · rw [q]; exact hI.nq.2.1
    · rw [q]; exact hhq.2
  have hnoG : IntsAt Q mG no' nl := by rw [← hnl]; exact hno'
  have hnoJ := ((hnoG.keep kH (by simp)).keep kHI nq3).keep kJ (by simp; exact qn _ (by omega))
  have hnoL := hnoJ.keep kL (by simp; exact ⟨qn _ (by omega), qn _ (by omega)⟩)
  obtain ⟨nxb, hnxb, lnx⟩ := hnoJ.get wvl
  obtain ⟨nxb2, hnxb2, lnxL⟩ := hnoL.get wvl
  rw [hnxb] at hnxb2
  simp only [Option.some.injEq, Addr.mk.injEq, and_true] at hnxb2
  subst hnxb2
  rw [htn] at lnx lnxL
  have y3 := oXJ.load1 (off := 3) rfl
  have y3L := oXL.load1 (off := 3) rfl
  rw [hnl, hnxb] at y3 y3L
  have y2 := oXJ.load1 (off := 2) rfl
  rw [hcd] at y2
  have w6 := hJ.own.load1 (off := 6) rfl
  rw [eK7] at w6
  have wvm : (wv : Int) ≤ 9223372036854775807 := by omega
  have wvl' : (wv : Int) < nl.length := by omega
  have nlm : (nl.length : Int) ≤ 9223372036854775807 := by omega
  apply cut_
  case main =>
    by_cases e2n : ¬ en = 2
    case' pos =>
      have hw0' : wv = 0 := by rw [hwvf, if_neg (fun q => e2n q.1)]
      intro meth
      simp [-Int.natCast_add, -List.getD_eq_getElem?_getD, -w10_29, load_of ld3, fieldAddr_of fa78_4, store_of sz3, fieldAddr_of fa40_1, i1, w8, ft, wst, eJ, y1, e2n, e3]
    case' neg =>
      have e2 : en = 2 := Decidable.not_not.1 e2n
      obtain ⟨c0, c1'⟩ := Bcd e2
      obtain ⟨cn, hcn⟩ : ∃ cn : Nat, cd = (cn : Int) := ⟨cd.toNat, by omega⟩
      rw [hcn] at y2 hwvf
      rw [Int.toNat_natCast] at hwvf
      have cnv : cn < nv u := by omega
      have cnv' : (cn : Int) < nv u := by omega
      have cnm : (cn : Int) ≤ 9223372036854775807 := by omega
      have lw := hJ.wds.load1 (off := cn) (words_at (by rw [hJ.len]; exact cnv))
      dsimp only at lw
      by_cases z : V'.ws.getD cn 0 = 0
      case' pos =>
        have hw1' : wv = 1 := by rw [hwvf, if_pos ⟨e2, z⟩]
        intro meth
        simp [-Int.natCast_add, -List.getD_eq_getElem?_getD, -w10_29, load_of ld3, fieldAddr_of fa78_4, store_of sz3, fieldAddr_of fa40_1, fieldAddr_of fa78_2, load_of ld42, fieldAddr_of fa40_2, index_slice u42 sz45, load_of ld45, i1, w8, ft, wst, eJ, y1, e2, y2, w6, cnv, cnm, lw, z]
      case' neg =>
        have hw0' : wv = 0 := by rw [hwvf, if_neg (fun q => z q.2)]
        intro meth
        simp [-Int.natCast_add, -List.getD_eq_getElem?_getD, -w10_29, load_of ld3, fieldAddr_of fa78_4, store_of sz3, fieldAddr_of fa40_1, fieldAddr_of fa78_2, load_of ld42, fieldAddr_of fa40_2, index_slice u42 sz45, load_of ld45, i1, w8, ft, wst, eJ, y1, e2, y2, w6, cnv, cnm, lw, z]
    all_goals
      exact w_sub (E := [(4, .int .i64 fuel), (5, .pointer (some ⟨pb, 0, none⟩)), (10, .pointer (some ⟨rb, 0, none⟩)), (11, .pointer (some ⟨xb, 0, none⟩)), (12, .int .i64 (at_ : Int)), (13, .pointer (some ⟨bx, 0, none⟩)), (17, .int .i64 (wv : Int))]) meth ⟨by rfl, by rfl, by rfl, by rfl, by rfl, by rfl, by simp [lget]; omega, trivial⟩
  simp [-Int.natCast_add, -List.getD_eq_getElem?_getD, load_of ld36, index_slice u36 sz3, load_of ld3, fieldAddr_of fa40_3, y3, wvm, wvl, lnx, cC2, y3L, lnxL]
  exact ih _ _ _ _ ⟨k, tn, { V' with ws := setN (blkD u tn).1 (phiL u (blkD u tn).1 (idxF (blkD u tn).2.2.2.2.1 (at_ : Int)) V'.ws) (phiL u (blkD u tn).1 (idxF (blkD u tn).2.2.2.2.1 (at_ : Int)) V'.ws).length V'.ws, steps := V'.steps + 1 + ((phiL u (blkD u tn).1 (idxF (blkD u tn).2.2.2.2.1 (at_ : Int)) V'.ws).length : Int) }, rfl, by omega, by dsimp only; omega, by dsimp only; omega, by dsimp only; omega, hwb2, tb, hrun, hL, oUL, oRL, kLI, rfl⟩ (by omega) ⟨by rfl, by rfl, by rfl, by rfl, by rfl, trivial⟩
end Go.Proofs.YtlogdohlcdhepaaDoor.base

