/-
  This text proves what the orderer's flow does over the abstract run.
  Condition: nothing is known of the calls ahead ('S f = []').
-/
import Derived.Test.YtkeapfbemlclmaaMovB
set_option maxRecDepth 100000
set_option linter.unusedSimpArgs false
set_option linter.unusedVariables false
namespace Go.Proofs.Ytkeapfbemlclmaa.base
open Go.Sh gen
variable {S : Sums} {m : Mem}
/-- moves' cells -/
abbrev mvc (l : List Mv) : List Value := l.flatMap fun p => [Value.int .i64 p.1, .int .i64 p.2]
theorem mvc_len (l : List Mv) : (mvc l).length = l.length * 2 := by
  induction l with
  | nil => rfl
  | cons a l ih => simp only [mvc, List.flatMap_cons, List.length_append, List.length_cons, List.length_nil] at ih ⊢; omega
abbrev fmap (F : Int → Int) (D : List Int) : Int → Option Value := fun k => if k ∈ D then some (.int .i64 (F k)) else none
structure OS (m0 m : Mem) (ob f0 fl nl : Nat) (F : Int → Int) (D DN : List Int) (a : Option Addr) (l : List Int) (fa : Nat) (oa : Option Addr) (out : List Mv) (fo : Nat) (ta : Option Addr) (tl : List Int) (tf : Nat) : Prop where
  at_ : OAt m ob f0 (.map (some fl)) (.map (some nl)) (.slice oa out.length out.length) a l fa
  out : Sl m oa out.length (mvc out) 27 2 fo
  frm : Mp m fl (fmap F D)
  nds : ∃ g, Mp m nl g ∧ ∀ k, (g k).getD (.int .i64 0) = .int .i64 (cnt F DN k : Nat)
  k0 : Keeps m0 m []
  b0 : m0.next ≤ f0 ∧ m0.next ≤ fl ∧ m0.next ≤ nl
  d0 : f0 ≠ fl ∧ f0 ≠ nl ∧ fl ≠ nl
  ba : a ≠ none → m0.next ≤ fa ∧ fa ≠ f0 ∧ fa ≠ fl ∧ fa ≠ nl
  bo : oa ≠ none → m0.next ≤ fo ∧ fo ≠ f0 ∧ fo ≠ fl ∧ fo ≠ nl
  bao : a ≠ none → oa ≠ none → fa ≠ fo
  to_ : Sl m ta tl.length (ic tl) 3 1 tf
  bt : ta ≠ none → m0.next ≤ tf ∧ tf ≠ f0 ∧ tf ≠ fl ∧ tf ≠ nl
  bat : a ≠ none → ta ≠ none → fa ≠ tf
  bot : oa ≠ none → ta ≠ none → fo ≠ tf
theorem sum_sub2 : ∀ {l D : List Int}, l.Nodup → (∀ p ∈ l, p ∈ D) → l.length ≤ D.length
  | [], D, _, _ => by simp
  | x :: l, D, hn, h => by
    obtain ⟨h1, h2⟩ := List.nodup_cons.1 hn
    have hx := h x (by simp)
    have ih := sum_sub2 (l := l) (D := D.erase x) h2 (fun p hp => (List.mem_erase_of_ne (fun e => h1 (by rw [← e]; exact hp))).2 (h p (by simp [hp])))
    rw [List.length_erase_of_mem hx] at ih
    have := List.length_pos_of_mem hx
    simp only [List.length_cons]; omega
theorem sum_sub {D T : List Int} (hd : D.Nodup) (h : ∀ q ∈ D, q ∈ T) (_ : T.Nodup) : D.length ≤ T.length := sum_sub2 hd h
section
variable {m0 : Mem} {ob f0 fl nl : Nat} {F : Int → Int} {D DN : List Int} {a : Option Addr} {l : List Int} {fa : Nat} {oa : Option Addr} {out : List Mv} {fo : Nat} {ta : Option Addr} {tl : List Int} {tf : Nat}
theorem OAt.keep {m1 : Mem} {fs : List Nat} {x0 x1 x3 : Value} (h : OAt m ob f0 x0 x1 x3 a l fa) (k : Keeps m m1 fs) (h1 : f0 ∉ fs) (h2 : a ≠ none → fa ∉ fs) : OAt m1 ob f0 x0 x1 x3 a l fa := ⟨h.own.keep k h1, h.sl.keep k h2, h.ne⟩
/-- a move is told -/
theorem OS.emit (h : OS m0 m ob f0 fl nl F D DN a l fa oa out fo ta tl tf) (x : Mv) (cs : List Value) (e0 : TypeId) (hl : out.length ≤ 2000) :
    ∃ m1 m2 na fo', sappend Try.prog 22 (m.new cs e0) (.slice oa out.length out.length) [.int .i64 x.1, .int .i64 x.2] 1 = some (.slice na (out.length + 1) (out.length + 1), m1) ∧
      loadRow m1 ⟨ob, 3, none⟩ 1 = some [.slice oa out.length out.length] ∧
      storeRow m1 ⟨ob, 3, none⟩ [.slice na (out.length + 1) (out.length + 1)] = some m2 ∧ OS m0 m2 ob f0 fl nl F D DN a l fa na (out ++ [x]) fo' ta tl tf := by
  have kn := keeps_new m cs e0 []
  generalize hra : sappend _ _ _ _ _ _ = ra
  obtain ⟨m1, nb, fo', rfl, oN, k1, hnf, hfl, hfe⟩ := app_slz hra u22 ap27 h.out (by omega) (by simp) (by simp [one_int]) (by omega) (by omega)
  have kf : ∀ g : Nat, (oa ≠ none → g ≠ fo) → g ∉ (if oa = none then [] else [fo]) := by
    intro g hg
    split
    · simp
    · rename_i hn
      simpa using hg hn
  have at1 := h.at_.keep k1 (kf f0 (fun hn => (h.bo hn).2.1.symm)) (fun ha => kf fa (h.bao ha))
  have fr1 := h.frm.keep k1 (kf fl (fun hn => (h.bo hn).2.2.1.symm))
  obtain ⟨g, hg, hgc⟩ := h.nds
  have nd1 := hg.keep k1 (kf nl (fun hn => (h.bo hn).2.2.2.symm))
  have ld := at1.own.load1 (off := 3) rfl
  obtain ⟨m2, s2, o2, k2⟩ := store_own (r := _) rfl at1.own (off := 3) (vs := [.slice (some ⟨nb, 0, none⟩) (out.length + 1) (out.length + 1)]) (by simp) (by simp [one_slice])
  have hfo : m0.next ≤ fo' ∧ fo' ≠ f0 ∧ fo' ≠ fl ∧ fo' ≠ nl ∧ (a ≠ none → fa ≠ fo') ∧ (ta ≠ none → fo' ≠ tf) := by
    rcases hnf with ⟨h1, h2⟩ | h1
    · rw [h2]
      exact ⟨(h.bo h1).1, (h.bo h1).2.1, (h.bo h1).2.2.1, (h.bo h1).2.2.2, fun ha => h.bao ha h1, fun ht => h.bot h1 ht⟩
    · have b1 := h.at_.own.flt
      have b2 := h.frm.lt
      have b3 := hg.lt
      have b4 := h.k0.1
      exact ⟨by omega, by omega, by omega, by omega, fun ha => by have := h.at_.sl.flt ha; omega, fun ht => by have := h.to_.sr.flt ht; omega⟩
  simp [over] at o2
  refine ⟨m1, m2, some ⟨nb, 0, none⟩, fo', rfl, ld, s2, ⟨⟨by simpa using o2, at1.sl.keep k2 (fun ha => by simpa using (h.ba ha).2.1), at1.ne⟩, ?_, fr1.keep k2 (by simpa using h.d0.1.symm), ⟨g, nd1.keep k2 (by simpa using h.d0.2.1.symm), hgc⟩, ?_, h.b0, h.d0, h.ba, fun _ => ⟨hfo.1, hfo.2.1, hfo.2.2.1, hfo.2.2.2.1⟩, fun ha _ => hfo.2.2.2.2.1 ha, (h.to_.keepz k1 (fun ht => kf tf (fun ho => (h.bot ho ht).symm))).keepz k2 (fun ht => by simpa using (h.bt ht).2.1), h.bt, h.bat, fun _ ht => hfo.2.2.2.2.2 ht⟩⟩
  · have := oN.keep k2 (by simpa using hfo.2.1)
    refine Sl.of (n := (out ++ [x]).length) (by simpa [mvc] using this) ?_
    rw [mvc_len]
  · refine (h.k0.fresh k1 ?_).fresh k2 (by simpa using h.b0.1)
    intro f hf
    split at hf
    · simp at hf
    · rename_i hn
      simp at hf; rw [hf]; exact (h.bo hn).1
/-- a move is struck -/
theorem OS.strike (h : OS m0 m ob f0 fl nl F D DN a l fa oa out fo ta tl tf) (hD : D.Nodup) (q : Int) :
    ∃ m1, mdel Try.prog 3 m fl q = some m1 ∧ OS m0 m1 ob f0 fl nl F (D.erase q) DN a l fa oa out fo ta tl tf := by
  obtain ⟨m1, r1, p1, k1, _⟩ := mdel_mp (r := _) rfl u3 h.frm (k := q)
  obtain ⟨g, hg, hgc⟩ := h.nds
  refine ⟨m1, r1, ⟨h.at_.keep k1 (by simpa using h.d0.1) (fun ha => by simpa using (h.ba ha).2.2.1), h.out.keepz k1 (fun ha => by simpa using (h.bo ha).2.2.1), ?_, ⟨g, hg.keep k1 (by simpa using h.d0.2.2.symm), hgc⟩, h.k0.fresh k1 (by simpa using h.b0.2.1), h.b0, h.d0, h.ba, h.bo, h.bao, h.to_.keepz k1 (fun ht => by simpa using (h.bt ht).2.2.1), h.bt, h.bat, h.bot⟩⟩
  have : gput (fmap F D) q none = fmap F (D.erase q) := by
    funext k
    simp only [gput, fmap, hD.mem_erase_iff]
    by_cases e : k = q
    · simp [e]
    · simp [e]
  rw [← this]
  exact p1
/-- one need less -/
theorem OS.need (h : OS m0 m ob f0 fl nl F D DN a l fa oa out fo ta tl tf) {q : Int} (hq : q ∈ DN) :
    ∃ g, Mp m nl g ∧ g (F q) = some (.int .i64 (cnt F DN (F q) : Nat)) ∧ ∃ m1, mput Try.prog 3 m nl (F q) (.int .i64 ((cnt F (DN.erase q) (F q) : Nat))) = some m1 ∧ OS m0 m1 ob f0 fl nl F D (DN.erase q) a l fa oa out fo ta tl tf := by
  obtain ⟨g, hg, hgc⟩ := h.nds
  obtain ⟨m1, r1, p1, k1, _⟩ := mput_mp (r := _) rfl u3 hg (k := F q) (v := .int .i64 (cnt F (DN.erase q) (F q) : Nat))
  have hne : (g (F q)).getD (.int .i64 0) = .int .i64 (cnt F DN (F q) : Nat) := hgc (F q)
  have hc : cnt F DN (F q) ≠ 0 := fun h0 => cnt_zero.1 h0 q hq rfl
  have hsome : g (F q) = some (.int .i64 (cnt F DN (F q) : Nat)) := by
    cases hh : g (F q) with
    | none => rw [hh] at hne; simp at hne; omega
    | some v => rw [hh] at hne; simpa using hne
  refine ⟨g, hg, hsome, m1, r1, ⟨h.at_.keep k1 (by simpa using h.d0.2.1) (fun ha => by simpa using (h.ba ha).2.2.2), h.out.keepz k1 (fun ha => by simpa using (h.bo ha).2.2.2), h.frm.keep k1 (by simpa using h.d0.2.2), ⟨_, p1, fun k => ?_⟩, h.k0.fresh k1 (by simpa using h.b0.2.2), h.b0, h.d0, h.ba, h.bo, h.bao, h.to_.keepz k1 (fun ht => by simpa using (h.bt ht).2.2.2), h.bt, h.bat, h.bot⟩⟩
  simp only [gput]
  by_cases e : k = F q
  · simp [e]
  · rw [if_neg e, hgc k]
    have := cnt_erase (F := F) hq k
    rw [if_neg (fun h => e h.symm)] at this
    rw [← this]; simp
/-- what is in the heap changes -/
theorem OS.heap (h : OS m0 m ob f0 fl nl F D DN a l fa oa out fo ta tl tf) {m1 : Mem} {a' : Option Addr} {l' : List Int} {fa' : Nat} {fs : List Nat} (h1 : OAt m1 ob f0 (.map (some fl)) (.map (some nl)) (.slice oa out.length out.length) a' l' fa') (hf : (a ≠ none ∧ fa' = fa) ∨ m.next ≤ fa') (k1 : Keeps m m1 fs) (hs : ∀ f ∈ fs, f = f0 ∨ (a ≠ none ∧ f = fa)) :
    OS m0 m1 ob f0 fl nl F D DN a' l' fa' oa out fo ta tl tf := by
  obtain ⟨g, hg, hgc⟩ := h.nds
  have hn : ∀ f, f ≠ f0 → (a ≠ none → f ≠ fa) → f ∉ fs := fun f e1 e2 hf => by
    rcases hs f hf with e | ⟨e3, e4⟩
    · exact e1 e
    · exact e2 e3 e4
  have hfa : a' ≠ none → m0.next ≤ fa' ∧ fa' ≠ f0 ∧ fa' ≠ fl ∧ fa' ≠ nl ∧ (oa ≠ none → fa' ≠ fo) ∧ (ta ≠ none → fa' ≠ tf) := by
    intro _
    rcases hf with ⟨h1, h2⟩ | h1
    · rw [h2]
      exact ⟨(h.ba h1).1, (h.ba h1).2.1, (h.ba h1).2.2.1, (h.ba h1).2.2.2, h.bao h1, h.bat h1⟩
    · have b1 := h.at_.own.flt
      have b2 := h.frm.lt
      have b3 := hg.lt
      have b4 := h.k0.1
      exact ⟨by omega, by omega, by omega, by omega, fun ho => by
        rcases h.out.2 with ⟨h0, _⟩ | ⟨_, _, o⟩
        · exact absurd h0 ho
        · have := o.flt; omega, fun ht => by have := h.to_.sr.flt ht; omega⟩
  refine ⟨h1, h.out.keepz k1 (fun ho => hn fo (h.bo ho).2.1 (fun ha => (h.bao ha ho).symm)), h.frm.keep k1 (hn fl h.d0.1.symm (fun ha => (h.ba ha).2.2.1.symm)), ⟨g, hg.keep k1 (hn nl h.d0.2.1.symm (fun ha => (h.ba ha).2.2.2.symm)), hgc⟩, h.k0.fresh k1 ?_, h.b0, h.d0, fun ha => ⟨(hfa ha).1, (hfa ha).2.1, (hfa ha).2.2.1, (hfa ha).2.2.2.1⟩, h.bo, fun ha ho => (hfa ha).2.2.2.2.1 ho, h.to_.keepz k1 (fun ht => hn tf (h.bt ht).2.1 (fun ha => (h.bat ha ht).symm)), h.bt, fun ha ht => (hfa ha).2.2.2.2.2 ht, h.bot⟩
  intro f hf
  rcases hs f hf with rfl | ⟨h2, rfl⟩
  · exact h.b0.1
  · exact (h.ba h2).1
/-- what does not touch it -/
theorem OS.keepf (h : OS m0 m ob f0 fl nl F D DN a l fa oa out fo ta tl tf) {m1 : Mem} {fs : List Nat} (k : Keeps m m1 fs) (hb : ∀ f ∈ fs, m0.next ≤ f) (h1 : f0 ∉ fs ∧ fl ∉ fs ∧ nl ∉ fs) (h2 : a ≠ none → fa ∉ fs) (h3 : oa ≠ none → fo ∉ fs) {ta' : Option Addr} {tl' : List Int} {tf' : Nat}
    (ht : Sl m1 ta' tl'.length (ic tl') 3 1 tf') (hf : ta' ≠ none → (ta ≠ none ∧ tf' = tf) ∨ m.next ≤ tf') : OS m0 m1 ob f0 fl nl F D DN a l fa oa out fo ta' tl' tf' := by
  obtain ⟨g, hg, hgc⟩ := h.nds
  have hft : ta' ≠ none → m0.next ≤ tf' ∧ tf' ≠ f0 ∧ tf' ≠ fl ∧ tf' ≠ nl ∧ (a ≠ none → fa ≠ tf') ∧ (oa ≠ none → fo ≠ tf') := by
    intro hne
    rcases hf hne with ⟨h1, h2⟩ | h1
    · rw [h2]
      exact ⟨(h.bt h1).1, (h.bt h1).2.1, (h.bt h1).2.2.1, (h.bt h1).2.2.2, fun ha => h.bat ha h1, fun ho => h.bot ho h1⟩
    · have b1 := h.at_.own.flt
      have b2 := h.frm.lt
      have b3 := hg.lt
      have b4 := h.k0.1
      exact ⟨by omega, by omega, by omega, by omega, fun ha => by have := h.at_.sl.flt ha; omega, fun ho => by have := h.out.sr.flt ho; omega⟩
  exact ⟨h.at_.keep k h1.1 h2, h.out.keepz k h3, h.frm.keep k h1.2.1, ⟨g, hg.keep k h1.2.2, hgc⟩, h.k0.fresh k hb, h.b0, h.d0, h.ba, h.bo, h.bao, ht, fun hn => ⟨(hft hn).1, (hft hn).2.1, (hft hn).2.2.1, (hft hn).2.2.2.1⟩, fun ha hn => (hft hn).2.2.2.2.1 ha, fun ho hn => (hft hn).2.2.2.2.2 ho⟩
theorem OS.keep0 (h : OS m0 m ob f0 fl nl F D DN a l fa oa out fo ta tl tf) {m1 : Mem} (k : Keeps m m1 []) : OS m0 m1 ob f0 fl nl F D DN a l fa oa out fo ta tl tf :=
  h.keepf k (by simp) (by simp) (by simp) (by simp) (h.to_.keepz k (by simp)) (fun hn => Or.inl ⟨hn, rfl⟩)
/-- a move is laid in -/
theorem OS.put (h : OS m0 m ob f0 fl nl F D DN a l fa oa out fo ta tl tf) (q : Int) :
    ∃ m1, mput Try.prog 3 m fl q (.int .i64 (F q)) = some m1 ∧ Keeps m m1 [fl] ∧ OS m0 m1 ob f0 fl nl F (D ++ [q]) DN a l fa oa out fo ta tl tf := by
  obtain ⟨m1, r1, p1, k1, _⟩ := mput_mp (r := _) rfl u3 h.frm (k := q) (v := .int .i64 (F q))
  obtain ⟨g, hg, hgc⟩ := h.nds
  refine ⟨m1, r1, k1, ⟨h.at_.keep k1 (by simpa using h.d0.1) (fun ha => by simpa using (h.ba ha).2.2.1), h.out.keepz k1 (fun ha => by simpa using (h.bo ha).2.2.1), ?_, ⟨g, hg.keep k1 (by simpa using h.d0.2.2.symm), hgc⟩, h.k0.fresh k1 (by simpa using h.b0.2.1), h.b0, h.d0, h.ba, h.bo, h.bao, h.to_.keepz k1 (fun ht => by simpa using (h.bt ht).2.2.1), h.bt, h.bat, h.bot⟩⟩
  have : gput (fmap F D) q (some (.int .i64 (F q))) = fmap F (D ++ [q]) := by
    funext k
    simp only [gput, fmap, List.mem_append, List.mem_singleton]
    by_cases e : k = q
    · simp [e]
    · simp [e]
  rw [← this]
  exact p1
/-- one need more -/
theorem OS.more (h : OS m0 m ob f0 fl nl F D DN a l fa oa out fo ta tl tf) (q : Int) :
    ∃ r, mget m nl (F q) = some r ∧ r.getD (.int .i64 0) = .int .i64 (cnt F DN (F q) : Nat) ∧ ∃ m1, mput Try.prog 3 m nl (F q) (.int .i64 ((cnt F DN (F q) + 1 : Nat))) = some m1 ∧ Keeps m m1 [nl] ∧ OS m0 m1 ob f0 fl nl F D (DN ++ [q]) a l fa oa out fo ta tl tf := by
  obtain ⟨g, hg, hgc⟩ := h.nds
  obtain ⟨m1, r1, p1, k1, _⟩ := mput_mp (r := _) rfl u3 hg (k := F q) (v := .int .i64 (cnt F DN (F q) + 1 : Nat))
  refine ⟨_, hg.get (F q), hgc (F q), m1, r1, k1, ⟨h.at_.keep k1 (by simpa using h.d0.2.1) (fun ha => by simpa using (h.ba ha).2.2.2), h.out.keepz k1 (fun ha => by simpa using (h.bo ha).2.2.2), h.frm.keep k1 (by simpa using h.d0.2.2), ⟨_, p1, fun k => ?_⟩, h.k0.fresh k1 (by simpa using h.b0.2.2), h.b0, h.d0, h.ba, h.bo, h.bao, h.to_.keepz k1 (fun ht => by simpa using (h.bt ht).2.2.2), h.bt, h.bat, h.bot⟩⟩
  simp only [gput]
  by_cases e : k = F q
  · subst e; rw [if_pos rfl, cnt_snoc, if_pos rfl]; rfl
  · rw [if_neg e, hgc k, cnt_snoc, if_neg (fun h => e h.symm)]; simp
theorem OS.lds (h : OS m0 m ob f0 fl nl F D DN a l fa oa out fo ta tl tf) : loadRow m ⟨ob, 0, none⟩ 1 = some [.map (some fl)] ∧ loadRow m ⟨ob, 1, none⟩ 1 = some [.map (some nl)] ∧ loadRow m ⟨ob, 2, none⟩ 1 = some [.slice a l.length l.length] ∧ loadRow m ⟨ob, 3, none⟩ 1 = some [.slice oa out.length out.length] :=
  ⟨h.at_.own.load1 rfl, h.at_.own.load1 rfl, h.at_.own.load1 rfl, h.at_.own.load1 rfl⟩
set_option maxHeartbeats 4000000 in
theorem flow_run (hN : Nh S) (hS : S 19 = []) {T : List Int} {spare : Int} (hM : Mov F T spare) (h : OS m0 m ob f0 fl nl F D D a l fa oa out fo ta tl tf) (hI : Flow F T spare D l out) (hT : T.length ≤ 400) :
    ∃ v m1, callw Try.prog TT S 19 [.pointer (some ⟨ob, 0, none⟩)] m = some (v, m1) ∧ ∃ D' a' fa' oa' out' fo', OS m0 m1 ob f0 fl nl F D' D' a' [] fa' oa' out' fo' ta tl tf ∧ Flow F T spare D' [] out' := by
  refine fn_w 6 [11, 66] k19 hS rfl ?_
  simp [-Int.natCast_add, -BitVec.toNat_or, -BitVec.toNat_ofInt, -BitVec.toNat_and, fieldAddr_of fa44_2, load_of ld42, len_slice u42, mkif_of ni46, asr_of ni3, fieldAddr_of fa44_0, load_of ld40, look_int u40 u3 zv3, fieldAddr_of fa44_3, load_of ld22, build_of bo27, buildSlice_of u22 bs27 rfl, append_s u22 sz27, store_of sz22, del_int u40, fieldAddr_of fa44_1, upd_int u40, mkif_of ni3]
  refine wsem_loop 6 [11, 66] (fun d E m2 => ∃ D' a' l' fa' oa' out' fo', D'.length = d ∧ OS m0 m2 ob f0 fl nl F D' D' a' l' fa' oa' out' fo' ta tl tf ∧ Flow F T spare D' l' out' ∧ E = [(0, .pointer (some ⟨ob, 0, none⟩))]) _ ⟨_, ⟨D, a, l, fa, oa, out, fo, rfl, h, hI, rfl⟩, ⟨by rfl, trivial⟩⟩ ?_
  clear h hI
  rintro d E m2 ih ⟨D', a', l', fa', oa', out', fo', hd, h2, hI, rfl⟩
  obtain ⟨lf2, ln2, la2, lo2⟩ := h2.lds
  by_cases h0 : l'.length = 0
  · have e0 := List.length_eq_zero_iff.1 h0
    subst e0
    simp [-Int.natCast_add, -BitVec.toNat_or, -BitVec.toNat_ofInt, -BitVec.toNat_and, fieldAddr_of fa44_2, load_of ld42, len_slice u42, mkif_of ni46, asr_of ni3, fieldAddr_of fa44_0, load_of ld40, look_int u40 u3 zv3, fieldAddr_of fa44_3, load_of ld22, build_of bo27, buildSlice_of u22 bs27 rfl, append_s u22 sz27, store_of sz22, del_int u40, fieldAddr_of fa44_1, upd_int u40, mkif_of ni3, la2]
    exact ⟨D', a', fa', oa', out', ⟨fo', h2⟩, hI⟩
  · have h0' : 0 < l'.length := by omega
    have hdl := (sum_sub hI.nd hI.sub hM.nd)
    have hfl : l'.length ≤ D'.length := sum_sub2 hI.fnd (fun p hp => (hI.fin p hp).1)
    obtain ⟨v3, m3, c3, ⟨x, l3, rfl, hp, h3⟩, k3⟩ := hpop_run hN h2.at_ (by omega) h0'
    have O3 := h2.heap h3 (Or.inl ⟨by
      obtain ⟨b, _, h0, _⟩ := h2.at_.sl.own h0
      rw [h0]; simp, rfl⟩) k3 (fun f hf => by
      simp at hf
      rcases hf with rfl | rfl
      · exact Or.inl rfl
      · refine Or.inr ⟨?_, rfl⟩
        obtain ⟨b, _, h0, _⟩ := h2.at_.sl.own h0
        rw [h0]; simp)
    obtain ⟨lf3, ln3, la3, lo3⟩ := O3.lds
    have hxD := (hI.fin x (hp.symm.subset (by simp))).1
    have g3 : mget m3 fl x = some (some (.int .i64 (F x))) := by rw [O3.frm.get]; simp [fmap, hxD]
    have hol := hI.len
    obtain ⟨m4, m5, na, fo5, e4, l4, e5, O5⟩ := O3.emit (F x, x) [.int .i64 (F x), .int .i64 x] 27 (by omega)
    simp only at e4 e5
    obtain ⟨lf5, ln5, la5, lo5⟩ := O5.lds
    obtain ⟨m6, e6, O6⟩ := O5.strike hI.nd x
    obtain ⟨lf6, ln6, la6, lo6⟩ := O6.lds
    obtain ⟨g, hg, hgx, m7, e7, O7⟩ := O6.need hxD
    have g6 : mget m6 nl (F x) = some (some (.int .i64 (cnt F D' (F x) : Nat))) := by rw [hg.get, hgx]
    obtain ⟨lf7, ln7, la7, lo7⟩ := O7.lds
    have hce := cnt_erase (F := F) hxD (F x)
    rw [if_pos rfl] at hce
    have hcl := cnt_le F D' (F x)
    have wc : IntKind.i64.wrap ((cnt F D' (F x) : Nat) - 1 : Int) = ((cnt F (D'.erase x) (F x) : Nat) : Int) := by rw [wrap_i64 (by omega) (by omega)]; omega
    have g7 := O7.frm.get (F x)
    obtain ⟨g', hg', hgc'⟩ := O7.nds
    have g7n := hg'.get (F x)
    have hge := hgc' (F x)
    have hst := fun fr => hI.step hM hp (free' := fr)
    have hpl := hp.length_eq
    simp only [List.length_cons] at hpl
    generalize cnt F (D'.erase x) (F x) = c at *
    generalize cnt F D' (F x) = c2 at *
    have hdr : (D'.erase x).length < d := by rw [List.length_erase_of_mem hxD]; omega
    by_cases hmv : F x ∈ D'.erase x
    · have g7' : mget m7 fl (F x) = some (some (.int .i64 (F (F x)))) := by rw [g7]; simp [fmap, hmv]
      by_cases hc0 : c = 0
      · subst hc0
        have g7z : ∃ r : Option Value, mget m7 nl (F x) = some r ∧ r.getD (.int .i64 0) = .int .i64 0 := ⟨_, g7n, by simpa using hge⟩
        obtain ⟨r, g7r, hr⟩ := g7z
        have e7' : mput Try.prog 3 m6 nl (F x) (.int .i64 0) = some m7 := e7
        obtain ⟨v8, m8, c8, ⟨a8, fa8, l8, hp8, h8, hf8⟩, k8⟩ := hpush_run hN O7.at_ (by omega) (F x)
        have O8 := O7.heap h8 hf8 k8 (fun f hf => by
          split at hf
          · simp at hf; exact Or.inl hf
          · rename_i hn
            simp at hf
            rcases hf with h | h
            · exact Or.inl h
            · exact Or.inr ⟨hn, h⟩)
        simp [-Int.natCast_add, -BitVec.toNat_or, -BitVec.toNat_ofInt, -BitVec.toNat_and, fieldAddr_of fa44_2, load_of ld42, len_slice u42, mkif_of ni46, asr_of ni3, fieldAddr_of fa44_0, load_of ld40, look_int u40 u3 zv3, fieldAddr_of fa44_3, load_of ld22, build_of bo27, buildSlice_of u22 bs27 rfl, append_s u22 sz27, store_of sz22, del_int u40, fieldAddr_of fa44_1, upd_int u40, mkif_of ni3, la2, h0, h0', c3, lf3, g3, lo3, e4, l4, e5, lf5, e6, ln6, g6, wc, e7', lf7, g7', ln7, g7r, hr, c8]
        exact ih _ _ _ _ ⟨D'.erase x, _, _, _, _, _, _, rfl, O8, hst _ (by rw [if_pos ⟨(List.mem_of_mem_erase hmv), rfl⟩]; exact hp8), rfl⟩ hdr ⟨by rfl, trivial⟩
      · have g7z : ∃ r : Option Value, mget m7 nl (F x) = some r ∧ r.getD (.int .i64 0) = .int .i64 c := ⟨_, g7n, hge⟩
        obtain ⟨r, g7r, hr⟩ := g7z
        simp [-Int.natCast_add, -BitVec.toNat_or, -BitVec.toNat_ofInt, -BitVec.toNat_and, fieldAddr_of fa44_2, load_of ld42, len_slice u42, mkif_of ni46, asr_of ni3, fieldAddr_of fa44_0, load_of ld40, look_int u40 u3 zv3, fieldAddr_of fa44_3, load_of ld22, build_of bo27, buildSlice_of u22 bs27 rfl, append_s u22 sz27, store_of sz22, del_int u40, fieldAddr_of fa44_1, upd_int u40, mkif_of ni3, la2, h0, h0', c3, lf3, g3, lo3, e4, l4, e5, lf5, e6, ln6, g6, wc, e7, lf7, g7', ln7, g7r, hr, hc0]
        exact ih _ _ _ _ ⟨D'.erase x, _, _, _, _, _, _, rfl, O7, hst _ (by rw [if_neg (fun h => hc0 h.2)]), rfl⟩ hdr ⟨by rfl, trivial⟩
    · have g7' : mget m7 fl (F x) = some none := by rw [g7]; simp [fmap, hmv]
      simp [-Int.natCast_add, -BitVec.toNat_or, -BitVec.toNat_ofInt, -BitVec.toNat_and, fieldAddr_of fa44_2, load_of ld42, len_slice u42, mkif_of ni46, asr_of ni3, fieldAddr_of fa44_0, load_of ld40, look_int u40 u3 zv3, fieldAddr_of fa44_3, load_of ld22, build_of bo27, buildSlice_of u22 bs27 rfl, append_s u22 sz27, store_of sz22, del_int u40, fieldAddr_of fa44_1, upd_int u40, mkif_of ni3, la2, h0, h0', c3, lf3, g3, lo3, e4, l4, e5, lf5, e6, ln6, g6, wc, e7, lf7, g7']
      refine ih _ _ _ _ ⟨D'.erase x, _, _, _, _, _, _, rfl, O7, hst _ (by rw [if_neg (fun hh => hmv (hI.nd.mem_erase_iff.2 ⟨hM.ne x (hI.sub x hxD), hh.1⟩))]), rfl⟩ hdr ⟨by rfl, trivial⟩
end
end Go.Proofs.Ytkeapfbemlclmaa.base

