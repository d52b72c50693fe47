/-
  This text proves what the cache's 'Get' does, over the abstract run.
  Condition: nothing is known of the calls ahead ('S f = []').
-/
import Derived.Test.YtljklfimdanmlaaCacG
set_option maxRecDepth 100000
set_option linter.unusedSimpArgs false
set_option linter.unusedVariables false
namespace Go.Proofs.Ytljklfimdanmlaa.base
open Go.Sh gen
variable {S : Sums} {m : Mem} {cb f0 fa : Nat} {x0 x2 : Value} {a : Option Addr} {l A : List Px} {Q : Nat → Prop} {room uses : Nat}
/-- an entry as a value -/
def ent (f pc : Int) (sz k : Nat) (ca ea na ga : Option Addr) : Value := .agg #[.int .i64 f, .int .i64 pc, .slice ca sz sz, .slice none 0 0, .slice ea 0 0, .slice na k k, .slice ga 0 0]
/-- what 'Get' answers and leaves -/
def GetR (Q : Nat → Prop) (m m1 : Mem) (cb room uses : Nat) (A : List Px) (f0 : Nat) (a : Option Addr) (fa : Nat) (f pc : Int) (v : Value) : Prop :=
  (∃ l', (∀ x ∈ A, mtk f pc x = false) ∧ CA Q m1 cb room uses A f0 a l' fa ∧ v = .tuple #[ent 0 0 0 0 none none none none, .bool false]) ∨
  ∃ l' x, x ∈ A ∧ mtk f pc x = true ∧ CA Q m1 cb room (uses + 1) (wo f pc A ++ [{ x with used := uses + 1 }]) f0 a l' fa ∧ ∃ ca ea na ga, v = .tuple #[ent x.f x.pc x.sz x.needs.length ca ea na ga, .bool true]
theorem set_perm {l : List Px} {i : Nat} (hi : i < l.length) (y : Px) : ∃ r, l.Perm (l[i] :: r) ∧ (l.set i y).Perm (y :: r) := by
  refine ⟨l.take i ++ l.drop (i + 1), ?_, ?_⟩
  · have e : l = l.take i ++ l[i] :: l.drop (i + 1) := by
      rw [← List.drop_eq_getElem_cons hi, List.take_append_drop]
    exact (List.Perm.of_eq e).trans List.perm_middle
  · rw [List.set_eq_take_append_cons_drop, if_pos hi]
    exact List.perm_middle
/-- the one at a place is used -/
theorem HAt.use {m2 m3 : Mem} {i : Nat} {u : Nat} (h : HAt m2 cb f0 x0 x2 a l fa) (hi : i < l.length) (hnb : l.Pairwise (fun x y => x.b ≠ y.b)) (hdf : ∀ x ∈ l, ∀ y ∈ l, (x.sz ≠ 0 → x.cf ≠ y.b) ∧ (x.needs ≠ [] → x.nf ≠ y.b)) (o : Own m3 l[i].b (over l[i].row 7 [.int .u64 u]) 71 l[i].b) (k : Keeps m2 m3 [l[i].b]) :
    HAt m3 cb f0 x0 x2 a (l.set i { l[i] with used := u }) fa := by
  have hx := List.getElem_mem hi
  obtain ⟨d1, d2, d3, d4⟩ := h.df _ hx
  have ep : pcs (l.set i { l[i] with used := u }) = pcs l := by
    rw [show pcs (l.set i { l[i] with used := u }) = (pcs l).set i (ptr { l[i] with used := u }) from List.map_set]
    have : ptr { l[i] with used := u } = (pcs l)[i]'(by simpa using hi) := by simp
    rw [this, List.set_getElem_self]
  have eo : over l[i].row 7 [.int .u64 u] = Px.row { l[i] with used := u } := by simp [over, Px.row]
  rw [eo] at o
  refine ⟨by rw [List.length_set]; exact h.own.keep k (by simpa using d1.symm), by rw [List.length_set, ep]; exact h.sl.keep k (fun _ => by simpa using d2.symm), h.ne, fun y hy => ?_, fun y hy => ?_⟩
  · obtain ⟨j, hj, rfl⟩ := List.getElem_of_mem hy
    rw [List.length_set] at hj
    by_cases e : i = j
    · subst e
      rw [List.getElem_set_self]
      have ix := h.it _ hx
      have dx := hdf _ hx _ hx
      exact ⟨o, ix.code.keep0 k (fun z => by simpa using dx.1 z), ix.needs.keep0 k (fun z => by simpa using dx.2 (by simpa using z)), ix.ez, ix.gz⟩
    · rw [List.getElem_set_ne e]
      have hy' := List.getElem_mem hj
      have dy := hdf _ hy' _ hx
      refine (h.it _ hy').keep k ?_ (fun z => by simpa using dy.1 z) (fun z => by simpa using dy.2 z)
      simp only [List.mem_singleton]
      rw [List.pairwise_iff_getElem] at hnb
      rcases Nat.lt_or_gt_of_ne e with g | g
      · exact (hnb i j hi hj g).symm
      · exact hnb j i hj hi g
  · obtain ⟨j, hj, rfl⟩ := List.getElem_of_mem hy
    rw [List.length_set] at hj
    by_cases e : i = j
    · subst e
      rw [List.getElem_set_self]
      exact ⟨d1, d2, d3, d4⟩
    · rw [List.getElem_set_ne e]
      exact h.df _ (List.getElem_mem hj)
theorem HAt.keep0 (h : HAt m cb f0 x0 x2 a l fa) {m1 : Mem} (k : Keeps m m1 []) : HAt m1 cb f0 x0 x2 a l fa :=
  ⟨h.own.keep k (by simp), h.sl.keep k (by simp), h.ne, fun x hx => (h.it x hx).keep k (by simp) (by simp) (by simp), h.df⟩
theorem HAt.keepx (h : HAt m cb f0 x0 x2 a l fa) {m1 : Mem} {fs : List Nat} {n0 : Nat} (k : Keeps m m1 fs) (hf : ∀ f ∈ fs, n0 ≤ f) (h0 : f0 < n0) (ha : fa < n0) (hl : ∀ y ∈ l, y.b < n0 ∧ (y.sz ≠ 0 → y.cf < n0) ∧ (y.needs ≠ [] → y.nf < n0)) : HAt m1 cb f0 x0 x2 a l fa := by
  have n : ∀ q, q < n0 → q ∉ fs := fun q hq hm => by have := hf q hm; omega
  exact ⟨h.own.keep k (n _ h0), h.sl.keep k (fun _ => n _ ha), h.ne, fun x hx => (h.it x hx).keep k (n _ (hl x hx).1) (fun z => n _ ((hl x hx).2.1 z)) (fun z => n _ ((hl x hx).2.2 z)), h.df⟩
theorem ku_set {i u : Nat} (hi : i < l.length) : ku (l.set i { l[i] with used := u }) = fun y => if y = i then u else ku l y := by
  funext y
  simp only [ku, List.getD_eq_getElem?_getD, List.getElem?_set]
  by_cases e : y = i
  · subst e; simp [hi]
  · simp [e, Ne.symm e]
set_option maxHeartbeats 4000000 in
theorem get_run (hN : Nc S) (h : CA Q m cb room uses A f0 a l fa) (hu : uses ≤ 1000000) (f pc : Int) :
    ∃ v m1, callw Try.prog TT S 15 [.pointer (some ⟨cb, 0, none⟩), .int .i64 f, .int .i64 pc] m = some (v, m1) ∧ GetR Q m m1 cb room uses A f0 a fa f pc v ∧ KQ Q m m1 := by
  have ll := h.pm.length_eq
  have l8 := h.len
  obtain ⟨oZ, kZ, nZ⟩ := new_own (m := m) (cs := [.int .i64 0, .int .i64 0, .slice none 0 0, .slice none 0 0, .slice none 0 0, .slice none 0 0, .slice none 0 0]) (e := 41) rfl
  have hz := h.keep0 kZ
  obtain ⟨v1, m1, c1, ⟨r, rfl, hr⟩, k1⟩ := find_run hN hz.h (by omega) (f := f) (pc := pc)
  have h1 := hz.keep0 k1
  have oZ := oZ.keep k1 (by simp)
  refine fn_w 10 [15] k15 hN.get rfl ?_
  rcases hr with ⟨rfl, hr⟩ | ⟨i, rfl, hi, hr⟩
  · have hA : ∀ x ∈ A, mtk f pc x = false := fun x hx => hr x (h.pm.mem_iff.2 hx)
    simp [-Int.natCast_add, -BitVec.toNat_or, -BitVec.toNat_ofInt, -BitVec.toNat_and, lres_agg ld41, alloc_of zo41, build_of bo41, store_of sz41, fieldAddr_of fa63_2, load_of ld61, store_of sz61, fieldAddr_of fa63_1, load_of ld60, index_slice u60 sz64, load_of ld64, fieldAddr_of fa71_1, fieldAddr_of fa71_0, load_agg ld41, mkif_of ni66, c1]
    generalize hra : storeRow _ _ _ = ra
    obtain ⟨m2, rfl, o2, k2⟩ := store_own hra oZ (by simp) (by simp [one_int, one_slice])
    simp [over] at o2
    have rl : loadRow m2 ⟨m.next, 0, none⟩ 7 = _ := o2.load 7 (by simp)
    simp only [window, List.drop_zero, List.take_succ_cons, List.take_zero] at rl
    simp [-Int.natCast_add, -BitVec.toNat_or, -BitVec.toNat_ofInt, -BitVec.toNat_and, lres_agg ld41, alloc_of zo41, build_of bo41, store_of sz41, fieldAddr_of fa63_2, load_of ld61, store_of sz61, fieldAddr_of fa63_1, load_of ld60, index_slice u60 sz64, load_of ld64, fieldAddr_of fa71_1, fieldAddr_of fa71_0, load_agg ld41, mkif_of ni66, rl]
    have kk : Keeps m m2 [] := (kZ.trans k1).fresh k2 (by simp)
    exact ⟨Or.inl ⟨l, hA, h.keep0 kk, rfl⟩, [], kk, by simp⟩
  · have n0 : ¬ (i : Int) < 0 := by omega
    have ld := h1.h.own.load1 (off := 2) rfl
    have wu : IntKind.u64.wrap ((uses : Int) + 1) = ((uses + 1 : Nat) : Int) := by rw [wrap_u64 (by omega) (by omega)]; omega
    simp [-Int.natCast_add, -BitVec.toNat_or, -BitVec.toNat_ofInt, -BitVec.toNat_and, lres_agg ld41, alloc_of zo41, build_of bo41, store_of sz41, fieldAddr_of fa63_2, load_of ld61, store_of sz61, fieldAddr_of fa63_1, load_of ld60, index_slice u60 sz64, load_of ld64, fieldAddr_of fa71_1, fieldAddr_of fa71_0, load_agg ld41, mkif_of ni66, c1, n0, ld, wu]
    generalize hra : storeRow _ _ _ = ra
    obtain ⟨m2, rfl, o2, k2⟩ := store_own hra h1.h.own (by simp) (by simp [one_int])
    simp [over] at o2
    have its2 := h1.h.its k2 (by simp)
    have ha := h1.some (by intro e; rw [e] at hi; simp at hi)
    have sl2 := h1.h.sl.keep k2 (fun hn => by simpa using h1.h.ne hn)
    obtain ⟨b, rest, rfl, ol⟩ := sl2.own (by omega)
    have g1 := o2.load1 (off := 1) rfl
    have g2 := o2.load1 (off := 2) rfl
    have g3 := ol.load1 (pc_app rest hi)
    have im : (i : Int) ≤ 9223372036854775807 := by omega
    have hi' : (i : Int) < l.length := by omega
    have ix := its2 l[i] (List.getElem_mem hi)
    simp [-Int.natCast_add, -w15_6, -BitVec.toNat_or, -BitVec.toNat_ofInt, -BitVec.toNat_and, lres_agg ld41, alloc_of zo41, build_of bo41, store_of sz41, fieldAddr_of fa63_2, load_of ld61, store_of sz61, fieldAddr_of fa63_1, load_of ld60, index_slice u60 sz64, load_of ld64, fieldAddr_of fa71_1, fieldAddr_of fa71_0, load_agg ld41, mkif_of ni66, g1, g2, g3, im, hi, hi']
    generalize hrb : storeRow _ _ _ = rb
    obtain ⟨m3, rfl, o3, k3⟩ := store_own hrb ix.own (by simp [Px.row]) (by simp [one_int])
    simp [-Int.natCast_add, -w15_6, -BitVec.toNat_or, -BitVec.toNat_ofInt, -BitVec.toNat_and, lres_agg ld41, alloc_of zo41, build_of bo41, store_of sz41, fieldAddr_of fa63_2, load_of ld61, store_of sz61, fieldAddr_of fa63_1, load_of ld60, index_slice u60 sz64, load_of ld64, fieldAddr_of fa71_1, fieldAddr_of fa71_0, load_agg ld41, mkif_of ni66, g1, g2, g3, im, hi, hi']
    have hnb : l.Pairwise (fun x y => x.b ≠ y.b) := h.nb.perm h.pm.symm (fun h => h.symm)
    have hdf := fun x (hx : x ∈ l) y (hy : y ∈ l) => h.df x (h.pm.mem_iff.1 hx) y (h.pm.mem_iff.1 hy)
    have H2 : HAt m2 cb f0 (.int .i64 room) (.int .u64 (uses + 1 : Nat)) (some ⟨b, 0, none⟩) l fa := ⟨o2, sl2, h1.h.ne, its2, h1.h.df⟩
    have H3 := H2.use hi hnb hdf o3 k3
    have sl3 := H3.sl
    rw [List.length_set] at sl3
    obtain ⟨b', rest3, hb3, ol3⟩ := sl3.own (by omega)
    have q1 : loadRow m3 ⟨cb, 1, none⟩ 1 = some [.slice (some ⟨b, 0, none⟩) l.length l.length] := by
      have := H3.own.load1 (off := 1) rfl
      rw [List.length_set] at this; exact this
    obtain ⟨x, hxe⟩ : ∃ x, l[i] = x := ⟨_, rfl⟩
    rw [hxe] at o3 k3 H3 hr ol3 sl3
    simp only [Option.some.injEq, Addr.mk.injEq] at hb3
    obtain ⟨rfl, _, _⟩ := hb3
    have q2 := ol3.load1 (pc_app rest3 (l := l.set i { x with used := uses + 1 }) (i := i) (by simpa using hi))
    rw [List.getElem_set_self] at q2
    have xM : { x with used := uses + 1 } ∈ l.set i { x with used := uses + 1 } := List.mem_set hi _
    have i3 := H3.it _ xM
    have q3 : loadRow m3 ⟨x.b, 0, none⟩ 7 = _ := i3.own.load 7 (by simp [Px.row])
    simp only [window, Px.row, List.drop_zero, List.take_succ_cons, List.take_zero] at q3
    obtain ⟨v4, m4, c4, ⟨ca', cf', ea', na', nf', ga', rfl, _⟩, k4⟩ := copied_run (m := m3) hN.copied (f := x.f) (pc := x.pc) i3.code i3.needs (ea := x.ea) (ga := x.ga) (h.sz x (h.pm.mem_iff.1 (by rw [← hxe]; exact List.getElem_mem hi))).1 (h.sz x (h.pm.mem_iff.1 (by rw [← hxe]; exact List.getElem_mem hi))).2
    simp [-Int.natCast_add, -w15_7, -BitVec.toNat_or, -BitVec.toNat_ofInt, -BitVec.toNat_and, lres_agg ld41, alloc_of zo41, build_of bo41, store_of sz41, fieldAddr_of fa63_2, load_of ld61, store_of sz61, fieldAddr_of fa63_1, load_of ld60, index_slice u60 sz64, load_of ld64, fieldAddr_of fa71_1, fieldAddr_of fa71_0, load_agg ld41, mkif_of ni66, q1, q2, q3, im, hi, hi', c4]
    obtain ⟨oE, kE, nE⟩ := new_own (m := m4) (cs := [.int .i64 0, .int .i64 0, .slice none 0 0, .slice none 0 0, .slice none 0 0, .slice none 0 0, .slice none 0 0]) (e := 41) rfl
    generalize m4.new _ _ = m5 at *
    generalize hrc : storeRow _ _ _ = rc
    obtain ⟨m6, rfl, oE, k6⟩ := store_own hrc oE (by simp) (by simp [one_int, one_slice])
    simp [over] at oE
    have k36 : Keeps m3 m6 [] := (k4.trans kE).fresh k6 (by simp; exact k4.1)
    have H6 : HAt m6 cb f0 (.int .i64 room) (.int .u64 (uses + 1 : Nat)) (some ⟨b, 0, none⟩) (l.set i { x with used := uses + 1 }) fa := H3.keep0 k36
    have hd : Dn (l.set i { x with used := uses + 1 }).length (ku (l.set i { x with used := uses + 1 })) i i := by
      have := ku_set (u := uses + 1) hi
      rw [hxe] at this
      rw [this, List.length_set]
      exact dn_more h.hp
    obtain ⟨v7, m7, c7, ⟨l', hp7, H7, hh7⟩, k7⟩ := hfix_run hN.toNh H6 (by rw [List.length_set]; omega) (by rw [List.length_set]; exact hi) hd
    have k67 := k7
    have nb4 : fa < m4.next := by
      have := ol3.flt
      have := k4.1
      omega
    have oE := oE.keep k7 (by simp; omega)
    have rE : loadRow m7 ⟨m4.next, 0, none⟩ 7 = _ := oE.load 7 (by simp)
    simp only [window, List.drop_zero, List.take_succ_cons, List.take_zero] at rE
    simp [-Int.natCast_add, -BitVec.toNat_or, -BitVec.toNat_ofInt, -BitVec.toNat_and, lres_agg ld41, alloc_of zo41, build_of bo41, store_of sz41, fieldAddr_of fa63_2, load_of ld61, store_of sz61, fieldAddr_of fa63_1, load_of ld60, index_slice u60 sz64, load_of ld64, fieldAddr_of fa71_1, fieldAddr_of fa71_0, load_agg ld41, mkif_of ni66, q1, q2, q3, im, hi, hi', c4, c7, rE]
    generalize hrd : storeRow _ _ _ = rd
    have nf0 := h.h.own.flt
    have nfa : fa < m.next := h.h.sl.flt (h.some (by intro e; rw [e] at hi; simp at hi))
    have nxb : x.b < m.next := by
      have := (h.h.it x (by rw [← hxe]; exact List.getElem_mem hi)).lt
      exact this.1
    have oZ := ((((oZ.keep k2 (by simp; omega)).keep k3 (by simp; omega)).keep k36 (by simp)).keep k7 (by simp; omega))
    obtain ⟨m8, rfl, oZ, k8⟩ := store_own hrd oZ (by simp) (by simp [one_int, one_slice])
    simp [over] at oZ
    have rZ : loadRow m8 ⟨m.next, 0, none⟩ 7 = _ := oZ.load 7 (by simp)
    simp only [window, List.drop_zero, List.take_succ_cons, List.take_zero] at rZ
    simp [-Int.natCast_add, -BitVec.toNat_or, -BitVec.toNat_ofInt, -BitVec.toNat_and, lres_agg ld41, alloc_of zo41, build_of bo41, store_of sz41, fieldAddr_of fa63_2, load_of ld61, store_of sz61, fieldAddr_of fa63_1, load_of ld60, index_slice u60 sz64, load_of ld64, fieldAddr_of fa71_1, fieldAddr_of fa71_0, load_agg ld41, mkif_of ni66, rZ]
    have hxl : x ∈ l := by rw [← hxe]; exact List.getElem_mem hi
    have hxA : x ∈ A := h.pm.mem_iff.1 hxl
    have itl : ∀ y ∈ l', y.b < m.next ∧ (y.sz ≠ 0 → y.cf < m.next) ∧ (y.needs ≠ [] → y.nf < m.next) := by
      intro y hy
      rcases List.mem_or_eq_of_mem_set (hp7.mem_iff.1 hy) with hy | rfl
      · exact (h.h.it y hy).lt
      · exact (h.h.it x hxl).lt
    have H8 := H7.keepx k8 (n0 := m.next) (by simp) nf0 nfa itl
    obtain ⟨r, hp1, hp2⟩ := set_perm hi { x with used := uses + 1 }
    rw [hxe] at hp1
    have hr' : r.Perm (wo f pc A) := rem_perm h.key hr (h.pm.symm.trans hp1)
    have hws : ∀ y ∈ wo f pc A, y ∈ A := fun y hy => (wo_sub f pc A).subset hy
    have hfx := mtk_iff.1 hr
    have hkp : ∀ y ∈ wo f pc A, ¬ (y.f = x.f ∧ y.pc = x.pc) := fun y hy e => by
      have := wo_not hy
      rw [← Bool.not_eq_true, mtk_iff] at this
      exact this ⟨e.1.trans hfx.1, e.2.trans hfx.2⟩
    have hnbx : ∀ y ∈ wo f pc A, y.b ≠ x.b := fun y hy e => by
      have hq := h.nb.perm (h.pm.symm.trans hp1) (fun h => h.symm)
      exact (List.pairwise_cons.1 hq).1 y (hr'.mem_iff.2 hy) e.symm
    have CC := h.add (R := Q) (x := { x with used := uses + 1 }) H8 hh7 (hp7.trans (hp2.trans ((hr'.cons _).trans (List.perm_append_comm (l₁ := [_]))))) (wo_sub f pc A) (fun _ h => h) h.qa
      (fun y hy => by have := h.le y (hws y hy); simp only; omega) (Nat.le_refl _) (by omega) hkp hnbx
      (fun y hy => h.df x hxA y (hws y hy)) (fun y hy => h.df y (hws y hy) x hxA) (h.df x hxA x hxA) (h.qi x hxA) (h.sz x hxA) (by
        show (wo f pc A).length ≤ 7
        have := hp1.length_eq
        have := hr'.length_eq
        simp only [List.length_cons] at *; omega)
    refine ⟨Or.inr ⟨l', x, hxA, hr, CC, _, _, _, _, rfl⟩, [f0, x.b, fa, m.next], ?_, fun q hq => ?_⟩
    · exact ((((((kZ.trans k1).nil.trans (k2.mono (by simp))).trans (k3.mono (by simp))).trans k36.nil).trans (k7.mono (by simp))).trans (k8.mono (by simp)))
    · simp only [List.mem_cons, List.not_mem_nil, or_false] at hq
      rcases hq with rfl | rfl | rfl | rfl
      · exact Or.inl h.q0
      · exact Or.inl (h.qi x hxA).1
      · exact Or.inl (h.qa (by simp))
      · exact Or.inr (Nat.le_refl _)
end Go.Proofs.Ytljklfimdanmlaa.base

