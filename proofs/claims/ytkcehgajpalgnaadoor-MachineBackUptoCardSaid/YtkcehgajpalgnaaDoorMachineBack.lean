/-
  This text proves 'Rows.MachineBackUptoCardSaid': the law 'MachineBack' returns true at any instructions and any bytes that are together of bulk at most 1048576, in whatever memory and on every tape, and its input reads as it did.
  The condition is the card's own: the listed package-level variables hold what the program's text lays.
-/
import Derived.Test.YtkcehgajpalgnaaDoorCards
import Derived.Test.YtkcehgajpalgnaaDoorTie
import Derived.Deep.DeepHandedRow
import Derived.Lib.LaidTab
import Derived.Test.YtkcehgajpalgnaaDoorMacF
set_option maxRecDepth 100000
set_option linter.unusedSimpArgs false
set_option linter.unusedVariables false
namespace Go.Proofs.YtkcehgajpalgnaaDoor.machineBack
open Go.Sh gen base
variable {S : Sums} {m : Mem}
/-- a slice is no longer than the statement's second form lets it be -/
def LenLe (v : Value) : Prop := ∀ a n c, v = .slice a n c → n ≤ 1048576
theorem bulk_lits {H : Type} : ∀ l : List (DataW H), l.length ≤ Rows.uptoBulkAll l
  | [] => by simp [Rows.uptoBulkAll]
  | d :: l => by
    have h1 := bulk_lits l
    have h2 : 1 ≤ Rows.uptoBulk d := by
      cases d with
      | lit x => cases x <;> simp [Rows.uptoBulk]
      | _ => simp [Rows.uptoBulk]
    simp only [Rows.uptoBulkAll, List.length_cons]; omega
open Go.ChangeShapes Go.WideShapes Go.ChangeAt Go.ChangeShapes in
theorem len_up {H : Type} {enc : TypeId × Value → H} {P : Program} {w : World} {r : Reach} {b0 : Nat} {t e : TypeId} {k : IntKind} {v : Value} {d : DataW H} {ps : List MemPlace} (ht : P.underlying t = some (.slice e)) (he : P.underlying e = some (.int k)) (hc : P.cellsOf e = 1)
    (hval : Value.okWide P w r b0 t v) (hd : DataW.Trod enc P w 0 (fun _ => true) true t v d ps) (hw : Rows.uptoBulk d ≤ 1048576) : LenLe v := by
  obtain ⟨a0, l0, c0, rfl⟩ := okWide_slice ht hval
  obtain ⟨fuel, hf⟩ := hd
  intro a n c he2
  cases he2
  rcases open_ints ht he hc hf with ⟨h1, _⟩ | ⟨a, len, cap, zs, h1, h2, h3, h4, h5, h6, h7, h8⟩
  · simp [Value.cells] at h1
    omega
  · simp [Value.cells] at h1
    obtain ⟨rfl, rfl, rfl⟩ := h1
    simp at h5
    have h6' := congrArg Prod.fst h6
    simp only at h6'
    subst h6'
    simp only [Rows.uptoBulk] at hw
    have h9 := bulk_lits (lits (H := H) k (zs.take l0))
    have e : (lits (H := H) k (zs.take l0)).length = min l0 zs.length := by simp [lits]
    omega
abbrev InT : Ty := (Ty.pair (Ty.int .i64) (Ty.pair (Ty.int .i64) (Ty.pair (Ty.int .i64) (Ty.pair (Ty.int .i64) (Ty.pair (Ty.int .i64) Ty.unit)))))
def inOf (d : InT.D) : In5 := (d.1, d.2.1, d.2.2.1, d.2.2.2.1, d.2.2.2.2.1)
theorem in_rows {l : List InT.D} {css : List (List Value)} (hcl : css.length = l.length) (hce : ∀ (i : Nat) d c, l[i]? = some d → css[i]? = some c → At m InT d c) : css.flatten = icv (l.map inOf) := by
  induction css generalizing l with
  | nil => cases l with
    | nil => rfl
    | cons a l => simp at hcl
  | cons c css ih => cases l with
    | nil => simp at hcl
    | cons a l =>
      have h0 := hce 0 a c rfl rfl
      obtain ⟨c1, d1, rfl, h1, c2, d2, rfl, h2, c3, d3, rfl, h3, c4, d4, rfl, h4, c5, d5, rfl, h5, h6⟩ := h0
      simp only [At] at h1 h2 h3 h4 h5 h6
      subst h1 h2 h3 h4 h5 h6
      have := ih (l := l) (by simpa using hcl) (fun i d c hd hc => hce (i + 1) d c (by simpa using hd) (by simpa using hc))
      simp only [List.flatten_cons, this, List.map_cons, icv, List.flatMap_cons, inOf, List.append_nil, List.cons_append, List.nil_append]
theorem in_arg {l : List InT.D} {cs : List Value} (ha : At m (Ty.slice 52 InT) l cs) : ∃ ao fam, cs = [.slice ao l.length l.length] ∧ Rs m ao (l.map inOf).length (icv (l.map inOf)) 52 5 fam := by
  obtain ⟨ao, css, fam, rfl, hcl, hce, hrs⟩ := ha
  refine ⟨ao, fam, rfl, ?_⟩
  rw [in_rows hcl hce] at hrs
  rw [List.length_map]
  exact hrs
theorem in_64 {l : List InT.D} (h : (Ty.slice 52 InT).wf l) : ∀ x ∈ l.map inOf, n64 x := fun x hx => by
  obtain ⟨d, hd, rfl⟩ := List.mem_map.1 hx
  have hw := (h.2 d hd).2.2.2.2.1
  have e1 : IntKind.i64.min = -9223372036854775808 := by decide
  have e2 : IntKind.i64.max = 9223372036854775807 := by decide
  simp only [Ty.wf, Lit.wf, Bool.and_eq_true, decide_eq_true_eq] at hw
  exact ⟨by simp only [inOf]; omega, by simp only [inOf]; omega⟩
def by8 (l : List Int) : List UInt8 := l.map fun z => UInt8.ofNat z.toNat
theorem by8_cells {l : List Int} (h : ∀ n ∈ l, (Lit.int .u8 n).wf = true) : (l.flatMap fun n : Int => [Value.int .u8 n]) = bc (by8 l) := by
  have e1 : IntKind.u8.min = 0 := by decide
  have e2 : IntKind.u8.max = 255 := by decide
  induction l with
  | nil => rfl
  | cons a l ih =>
    have ha := h a (by simp)
    simp only [Lit.wf, Bool.and_eq_true, decide_eq_true_eq] at ha
    have ih := ih (fun n hn => h n (by simp [hn]))
    have : ((UInt8.ofNat a.toNat).toNat : Int) = a := by simp only [UInt8.toNat_ofNat']; omega
    simp only [List.flatMap_cons, ih, by8, bc, List.map_cons, this, List.cons_append, List.nil_append]
theorem bToS_rs {ao : Option Addr} {l : List UInt8} {e fam : Nat} (h : Rs m ao l.length (l.map fun b => Value.int .u8 b.toNat) e 1 fam) : bToS m (.slice ao l.length l.length) = some (.string ⟨l.toArray⟩, m) := by
  by_cases h0 : l.length = 0
  · have := List.length_eq_zero_iff.1 h0
    subst this
    cases ao <;> rfl
  · obtain ⟨b, rfl, ho⟩ := h.rdo h0
    have hl := ho.load (off := 0) l.length (by simp)
    have hw : window (l.map fun b => Value.int .u8 b.toNat) 0 l.length = l.map fun b => Value.int .u8 b.toNat := by
      simp only [window, List.drop_zero]
      exact List.take_of_length_le (by simp)
    rw [hw] at hl
    simp only [bToS, h0, beq_iff_eq, if_false, hl, bytesOf_map]
theorem dec_none {l : List UInt8} (h : (decP l).2 ≠ 0) : (decP l).1 = [] := by
  unfold decP at h ⊢
  by_cases h1 : l.length % 11 ≠ 0
  · rw [if_pos h1]
  · rw [if_neg h1] at h ⊢
    by_cases h2 : opsOk l (l.length / 11)
    · rw [if_pos h2] at h ⊢
      by_cases h3 : RightC (decL l (l.length / 11))
      · rw [if_pos h3] at h; simp at h
      · rw [if_neg h3]
    · rw [if_neg h2]
theorem dec_len (l : List UInt8) : (decP l).1.length ≤ l.length := by
  unfold decP
  split
  · simp
  · split
    · split
      · simp only [decL_len]; omega
      · simp
    · simp
set_option maxHeartbeats 4000000 in
theorem law_run (hK : S 10 = [([], .bool true)]) (hS : S 6 = []) (hN : Nr S) (hP : S 11 = []) (hE : S 17 = []) (hD : S 18 = []) (hSa : S 24 = []) (hL : S 7 = [])
    {l : List InT.D} {cs : List Value} (hl : (Ty.slice 52 InT).wf l) (ha : At m (Ty.slice 52 InT) l cs)
    {bs : List Int} {bo : Option Addr} {bf : Nat} (hb : Rs m bo bs.length (bs.flatMap fun n : Int => [Value.int .u8 n]) 5 1 bf) (hbf : bf < m.next) (hbl : bs.length ≤ 1048576) (hbw : ∀ n ∈ bs, (Lit.int .u8 n).wf = true) {n : Int} (hn : (Lit.int .i64 n).wf = true) :
    ∃ v m', callw Tryd.prog TT S 6 [tyVal (Ty.slice 52 InT) cs, .slice bo bs.length bs.length, .int .i64 n] m = some (v, m') ∧ v = .bool true := by
  have hkn := fun m' => sum_ok (P := Tryd.prog) (T := TT) (m := m') hK
  obtain ⟨ao, fam, rfl, hrs⟩ := in_arg ha
  have h64 := in_64 hl
  have hll : l.length = (l.map inOf).length := by simp
  show ∃ v m', callw Tryd.prog TT S 6 [.slice ao l.length l.length, .slice bo bs.length bs.length, .int .i64 n] m = some (v, m') ∧ v = .bool true
  rw [hll]
  generalize l.map inOf = ls at *
  rw [by8_cells hbw] at hb
  have hb8 : bs.length = (by8 bs).length := by simp [by8]
  rw [hb8] at hb hbl ⊢
  generalize by8 bs = b8 at *
  clear hll ha hl
  obtain ⟨_, m1, c1, ⟨oa, fo, c, rfl, s1, _, hc60, hc64⟩, k1⟩ := list_run (m := m) hN hL hP hrs h64 (n := 60) (by omega) (any := false)
  obtain ⟨v2, m2, c2, hE2, k2⟩ := enc_run (m := m1) hN hE s1.rs (by omega)
  have b2 := (hb.keep k1 (by simp)).keep k2 (by simp)
  have s2 := s1.keepz k2 (by simp)
  have c1' : callw Tryd.prog TT S 7 [.slice ao ls.length ls.length, .int .i64 60, .bool false] m = some (.slice oa c.length c.length, m1) := c1
  refine fn_w 16 [24, 45, 56] k6 hS rfl ?_
  apply cut1_ (fun mX : Mem => Rs mX bo b8.length (bc b8) 5 1 bf)
  case main =>
    have hE3 := hE2
    rcases hE3 with ⟨hno, hv2⟩ | ⟨hR, xa, xf, hv2, sx, _⟩
    · have c2' := c2
      rw [hv2] at c2'
      obtain ⟨mX, hmX⟩ : ∃ mX, m2 = mX := ⟨_, rfl⟩
      intro meth
      have fin := meth mX (by rw [← hmX]; exact b2)
      simp [-Int.natCast_add, -w6_7, -BitVec.toNat_or, -BitVec.toNat_ofInt, -BitVec.toNat_and, len_slice u48, len_slice u22, conv_bytes u48 u5 u9, c1', c2', hmX]
      exact w_sub (E := [(1, .slice bo b8.length b8.length)]) fin ⟨by rfl, trivial⟩
    · have c2' := c2
      rw [hv2] at c2'
      have hel := encP_len c
      obtain ⟨v3, m3, c3, ⟨ya, yf, hv3, sy, _⟩, k3⟩ := dec_run (m := m2) hN hD sx.rs (by omega)
      rw [decP_encP hR hc64] at hv3 sy
      simp only at hv3 sy
      subst hv3
      obtain ⟨q, c4, hq⟩ := same_run (m := m3) hSa sy.rs (s2.keepz k3 (by simp)).rs (by omega) (by omega)
      have hqt := hq.2 rfl
      subst hqt
      have w11 : IntKind.i64.wrap (11 * (c.length : Int)) = ((encP c).length : Int) := by rw [wrap_i64 (by omega) (by omega)]; omega
      obtain ⟨mX, hmX⟩ : ∃ mX, m3 = mX := ⟨_, rfl⟩
      intro meth
      have fin := meth mX (by rw [← hmX]; exact b2.keep k3 (by simp))
      simp [-Int.natCast_add, -w6_7, -BitVec.toNat_or, -BitVec.toNat_ofInt, -BitVec.toNat_and, len_slice u48, len_slice u22, conv_bytes u48 u5 u9, c1', c2', c3, c4, w11]
      rw [hmX]
      exact w_sub (E := [(1, .slice bo b8.length b8.length)]) fin ⟨by rfl, trivial⟩
  intro mX bX
  obtain ⟨v5, m5, c5, ⟨ua, uf, rfl, su, _⟩, k5⟩ := dec_run (m := mX) hN hD bX (by omega)
  have hul := dec_len b8
  by_cases hg : (decP b8).2 = 0
  · obtain ⟨hR, hen⟩ := encP_decP hg
    obtain ⟨v6, m6, c6, hE6, k6⟩ := enc_run (m := m5) hN hE su.rs (by omega)
    rcases hE6 with ⟨hno, _⟩ | ⟨_, va, vf, rfl, sv, _⟩
    · exact absurd hR hno
    rw [hen] at sv c6
    have b6 := bToS_rs ((bX.keep k5 (by simp)).keep k6 (by simp))
    have v6 := bToS_sl sv
    simp [-Int.natCast_add, -BitVec.toNat_or, -BitVec.toNat_ofInt, -BitVec.toNat_and, len_slice u48, len_slice u22, conv_bytes u48 u5 u9, c5, hg, hkn, c6, b6, v6]
    done
  · have hu0 := dec_none hg
    rw [hu0] at c5
    simp [-Int.natCast_add, -BitVec.toNat_or, -BitVec.toNat_ofInt, -BitVec.toNat_and, len_slice u48, len_slice u22, conv_bytes u48 u5 u9, c5, hg, hkn]
    done

/- the row -/
open Go.ChangeShapes Go.WideShapes Go.ChangeAt Go.RowKit
theorem own : ownKnob Tryd.prog.godebug = none := by kernel_rfl
theorem tab : Sh.tabCheck Tryd.prog fns = true := by kernel_rfl
def tables : List (Nat × List Value) := []
theorem startT (w : World) (h : laidMetH Tryd.prog Rows.machineBackUptoRow.laid w) : MRel Tryd.prog (inj0 Tryd.prog) (memG Tryd.prog tables) (allF w) w w := by
  refine memG_rel Tryd.prog w tables fun p hp => ?_
  simp only [tables, List.mem_cons, List.not_mem_nil, or_false] at hp

theorem walk (w : World) (hL : laidMetH Tryd.prog Rows.machineBackUptoRow.laid w) {v0 : Value} (h0 : DatArg Tryd.prog w (Ty.slice 52 (Ty.pair (Ty.int .i64) (Ty.pair (Ty.int .i64) (Ty.pair (Ty.int .i64) (Ty.pair (Ty.int .i64) (Ty.pair (Ty.int .i64) Ty.unit)))))) v0) {v1 : Value} (h1 : RowArg Tryd.prog w (fun n : Int => [Value.int .u8 n]) (fun n => (Lit.int .u8 n).wf = true) 5 1 v1) (hs1 : LenLe v1) (x2 : Int) (hx2 : (Lit.int .i64 x2).wf = true) :
    Calls Tryd.prog 6 #[v0, v1, .int .i64 x2] w fun e w' => e = .returned (.bool true) ∧ Below w.heap.size w w' := by
  have hM := startT w hL
  obtain ⟨rs0, J0, m0, cs0, hw0, le0, hM0, vr0, hr0, hk0⟩ := h0 _ _ hM
  obtain ⟨rs1, J1, m1, ao1, fr1, le1, hM1, vr1, hr1, hg1, hl1, hk1, hz1, hw1⟩ := row_in hM0 sz5 (by omega) (fun _ => rfl) h1
  have hz1 : rs1.length ≤ 1048576 := by
    cases ao1 with
    | none =>
      rcases hr1.2 with h0 | ⟨_, h0, _⟩
      · omega
      · cases h0
    | some a => obtain ⟨_, _, _, _, e, _⟩ := vr1.wslice_inv; exact hs1 _ _ _ e
  obtain ⟨v', m', h, rfl⟩ := law_run (S := sums) (m := m1) rfl rfl ⟨rfl, rfl, rfl, rfl, rfl, rfl, rfl, rfl⟩ rfl rfl rfl rfl rfl hw0 (hr0.keep hk1) hr1 hl1 hz1 hw1 hx2
  exact calls_of mixed (Sh.tab_ok tab) sumsOk Tryd.func6 (by kernel_rfl) h rfl hM1 (.cons (vr0.mono le1) (.cons vr1 (.cons (.clo _ rfl) LRel.nil)))

theorem laidOut : laidOutB Tryd.prog = true := by kernel_rfl

theorem contract (H : Type) (enc : TypeId × Value → H) (W : World) (base : Nat) (args : Array Value) (ds gs : List (DataW H)) (before : List MemPlace)
    (hval : ∀ (j : Nat) t v, Tryd.f6.params[j]? = some t → args[j]? = some v → Value.okWide Tryd.prog W .any base t v)
    (hW : DataW.Whole enc Tryd.prog Tryd.f6.params.toList Rows.machineBackSpec.vars false W args.toList ds gs before) (hcd : Rows.uptoSmall H (ds ++ gs) = true) (hL : laidMetH Tryd.prog Rows.machineBackUptoRow.laid W) :
    Calls Tryd.prog 6 args W fun e W' => ∃ v, e = .returned v ∧ Rows.machineBackSpec.post enc Tryd.prog Tryd.f6 false true false false W args v W' := by
  have hW' := hW
  obtain ⟨p, q, hA0, hV, rfl, hfz, hnd⟩ := hW
  have hA : DataW.TrodAll enc Tryd.prog W 0 (fun _ => true) true Tryd.f6.params.toList args.toList ds p := hA0
  rw [Tryd.params6] at hA hval
  obtain ⟨v0, v1, v2, d0, d1, d2, p0, p1, p2, rfl, rfl, rfl, t0, t1, t2⟩ := trodAll_three hA
  obtain ⟨rfl, rfl⟩ := trodVars_none hV
  simp only [List.cons_append, List.nil_append, List.append_nil, Rows.uptoSmall, Rows.uptoBulkAll, decide_eq_true_eq] at hcd
  have hv0 := dat_arg (ty := (Ty.slice 52 (Ty.pair (Ty.int .i64) (Ty.pair (Ty.int .i64) (Ty.pair (Ty.int .i64) (Ty.pair (Ty.int .i64) (Ty.pair (Ty.int .i64) Ty.unit))))))) (t := 22) (by kernel_rfl) (hval 0 _ _ rfl rfl) t0
  have hv1 := ints_row u48 u5 sz5 (hval 1 _ _ rfl rfl) t1
  have hs1 : LenLe v1 := len_up u48 u5 (by kernel_rfl) (hval 1 _ _ rfl rfl) t1 (by omega)
  obtain ⟨x2, rfl, rfl, rfl, hx2⟩ := open_int u3 (hval 2 _ _ rfl rfl) t2
  clear hA0
  simp only [List.append_nil, List.nil_append] at hW'
  refine (walk W hL hv0 hv1 hs1 x2 hx2).mono fun e W' ⟨he, hg⟩ => ?_
  subst he
  have hlt0 : ∀ z ∈ p0, z.block < W.heap.size := fun z hz => hW'.lt z (by simp [hz])
  have hlt1 : ∀ z ∈ p1, z.block < W.heap.size := fun z hz => hW'.lt z (by simp [hz])
  exact ⟨_, rfl, Sh.law_post (pa := (p0 ++ (p1 ++ []))) (pv := []) hW' hg (by simp) (fun sp hsp => trodAll_mk3 (WideElems.Trod_stays laidOut (by kernel_rfl) (of_decide_eq_true (by kernel_rfl)) t0 (fun z hz => hg.same (hlt0 z hz)) (fun z hz => hsp z (by simp [hz]))) (WideElems.Trod_stays laidOut (by kernel_rfl) (of_decide_eq_true (by kernel_rfl)) t1 (fun z hz => hg.same (hlt1 z hz)) (fun z hz => hsp z (by simp [hz]))) (shut_int u3 hx2)) (fun _ _ => rfl) (fun _ _ _ => (trodAll_cons_mk (shut_bool u4 _) trodAll_mk0))
    (ok_one (by kernel_rfl) rfl (okWide_bool_mk u4 _))⟩
/-- A world for the witness: the settled one, the listed variables holding what is laid. -/
noncomputable def laidWorld (os : Os) : World :=
  { World.holding Tryd.prog os ⟨#[], #[], []⟩ with heap := (((World.holding Tryd.prog os ⟨#[], #[], []⟩).heap).modify 2 (Sh.laidBlock (Rows.laid_unicode_utf8_acceptRanges : DataW Unit))).modify 1 (Sh.laidBlock (Rows.laid_unicode_utf8_first : DataW Unit)) }
theorem laid_met (os : Os) : laidMet Tryd.prog Rows.machineBackUptoRow.laid ((laidWorld os).forCall (fun _ _ => 0) ⟨#[], #[(tyVal (Ty.slice 52 (Ty.pair (Ty.int .i64) (Ty.pair (Ty.int .i64) (Ty.pair (Ty.int .i64) (Ty.pair (Ty.int .i64) (Ty.pair (Ty.int .i64) Ty.unit)))))) ((Ty.slice 52 (Ty.pair (Ty.int .i64) (Ty.pair (Ty.int .i64) (Ty.pair (Ty.int .i64) (Ty.pair (Ty.int .i64) (Ty.pair (Ty.int .i64) Ty.unit))))))).zeros), .slice none 0 0, .int .i64 0], []⟩).memory :=
  laidMet_of_run' 8 (by kernel_rfl) (by kernel_rfl)
theorem reads (os : Os) {H : Type} (enc : TypeId × Value → H) : ∃ places, DataW.whole enc Tryd.prog ((laidWorld os).forCall (fun _ _ => 0) ⟨#[], #[(tyVal (Ty.slice 52 (Ty.pair (Ty.int .i64) (Ty.pair (Ty.int .i64) (Ty.pair (Ty.int .i64) (Ty.pair (Ty.int .i64) (Ty.pair (Ty.int .i64) Ty.unit)))))) ((Ty.slice 52 (Ty.pair (Ty.int .i64) (Ty.pair (Ty.int .i64) (Ty.pair (Ty.int .i64) (Ty.pair (Ty.int .i64) (Ty.pair (Ty.int .i64) Ty.unit))))))).zeros), .slice none 0 0, .int .i64 0], []⟩).memory Tryd.f6.params.toList Rows.machineBackSpec.vars false (#[(tyVal (Ty.slice 52 (Ty.pair (Ty.int .i64) (Ty.pair (Ty.int .i64) (Ty.pair (Ty.int .i64) (Ty.pair (Ty.int .i64) (Ty.pair (Ty.int .i64) Ty.unit)))))) ((Ty.slice 52 (Ty.pair (Ty.int .i64) (Ty.pair (Ty.int .i64) (Ty.pair (Ty.int .i64) (Ty.pair (Ty.int .i64) (Ty.pair (Ty.int .i64) Ty.unit))))))).zeros), .slice none 0 0, .int .i64 0] : Array Value).toList 8 = some ([(((Ty.slice 52 (Ty.pair (Ty.int .i64) (Ty.pair (Ty.int .i64) (Ty.pair (Ty.int .i64) (Ty.pair (Ty.int .i64) (Ty.pair (Ty.int .i64) Ty.unit))))))).zdata), .nil, .lit (.int .i64 0)], [], places) :=
  ⟨[], by kernel_rfl⟩

theorem lifted (os : Os) (started : os.Started) (H : Type) (enc : TypeId × Value → H) (F : Stop.Interp) :
    ReturnsInHanded {} Tryd.checked os 6 .any ((Rows.OpenSpec.upto Rows.machineBackSpec).preRow enc Tryd.prog Tryd.f6 Rows.machineBackUptoRow.domain false Rows.machineBackUptoRow.laid) (((Rows.OpenSpec.upto Rows.machineBackSpec).at F).post enc Tryd.prog Tryd.f6 false true false false) := by
  obtain ⟨places, hx⟩ := reads os enc
  refine returnsInHanded_of_row (C := Tryd.checked) (s := Rows.OpenSpec.upto Rows.machineBackSpec) own started (by kernel_rfl) Tryd.func6
    (witness_row_at (enc := enc) (C := Tryd.checked) false (laidWorld os) #[(tyVal (Ty.slice 52 (Ty.pair (Ty.int .i64) (Ty.pair (Ty.int .i64) (Ty.pair (Ty.int .i64) (Ty.pair (Ty.int .i64) (Ty.pair (Ty.int .i64) Ty.unit)))))) ((Ty.slice 52 (Ty.pair (Ty.int .i64) (Ty.pair (Ty.int .i64) (Ty.pair (Ty.int .i64) (Ty.pair (Ty.int .i64) (Ty.pair (Ty.int .i64) Ty.unit))))))).zeros), .slice none 0 0, .int .i64 0] rfl (by kernel_rfl) (by kernel_rfl) (by kernel_rfl)
      (OpenSpec.preRow_of_cond 8 hx (by kernel_rfl) (fun k hk => by cases hk; rfl) (by kernel_rfl) (laid_met os))) ?_
  intro W base args ds gs before hval hW _ hcd hwt hL _ _
  exact contract H enc W base args ds gs before hval hW (hcd _ rfl) hL

theorem said : Rows.MachineBackUptoSaid :=
  OpenClaim.holds_of_cond 6 Tryd.f6 rfl rfl rfl rfl rfl rfl rfl ⟨rfl, rfl, rfl, rfl, rfl⟩ rfl rfl rfl rfl rfl (by kernel_rfl) Tryd.func6 (by kernel_rfl)
    (of_decide_eq_true (by kernel_rfl)) (by unfold Func.isWrapper; first | (rw [if_pos (by decide +kernel)]; kernel_rfl) | (rw [if_neg (by decide +kernel)]; exact ⟨rfl, rfl⟩))
    (fun os started H enc _ F => by rw [OpenClaim.pre_eq_preRow]; exact lifted os started H enc F)

theorem plain (f : FuncId) (fn : Func) (hf : Tryd.pinned.checked.prog.funcNamed "turnstone/turnstonelaw25.MachineBack" = some f) (hfn : Tryd.pinned.checked.prog.funcs[f]? = some fn) :
    false = Tryd.pinned.checked.prog.looks [] ∧ ∀ (j : Nat) t, fn.params[j]? = some t → Tryd.pinned.checked.prog.wantsStandIn t = false := by
  obtain rfl : f = 6 := Option.some.inj ((show Tryd.prog.funcNamed "turnstone/turnstonelaw25.MachineBack" = some 6 by kernel_rfl).symm.trans hf) |>.symm
  obtain rfl : fn = Tryd.f6 := (Option.some.inj (Tryd.func6.symm.trans hfn)).symm
  refine ⟨by kernel_rfl, fun j t ht => ?_⟩
  rw [Tryd.params6] at ht
  rcases j with _ | _ | _ | _
  all_goals first
    | (simp at ht; done)
    | (obtain rfl := Option.some.inj ht; kernel_rfl)
    | (simp at ht; subst ht; kernel_rfl)

theorem proved : Rows.MachineBackUptoCardSaid :=
  Claim7.holds_tied_plain_at .later [] _ _ _ _ said (fun _ h => by cases h) (by kernel_rfl) (fun _ h => by cases h) machineBackUpto_row_tie rfl ⟨rfl, rfl⟩ (by kernel_rfl) rfl plain (by kernel_rfl)
#print axioms proved
end Go.Proofs.YtkcehgajpalgnaaDoor.machineBack

