/-
  This text proves what ssa.Order answers, over the abstract run.
  Condition: nothing is known of the calls ahead ('S f = []').
-/
import Derived.Test.YtlogdohlcdhepaaDoorEwG
set_option maxRecDepth 100000
set_option linter.unusedSimpArgs false
set_option linter.unusedVariables false
namespace Go.Proofs.YtlogdohlcdhepaaDoor.base
open Go.Sh gen
variable {S : Sums} {m : Mem}
abbrev OSt := List Bool × List Int × List (Nat × Nat)
def ordStep (u : UnT.D) : OSt → OSt
  | (sn, pl, []) => (sn, pl, [])
  | (sn, pl, (b, i) :: r) =>
    if i = (nxD u b).length then (sn, pl ++ [(b : Int)], r) else
    if sn.getD ((nxD u b).getD i 0).toNat false = true then (sn, pl, (b, i + 1) :: r) else
    (sn.set ((nxD u b).getD i 0).toNat true, pl, (((nxD u b).getD i 0).toNat, 0) :: (b, i + 1) :: r)
def ordIt (u : UnT.D) : Nat → OSt → Option (List Int)
  | 0, (_, pl, []) => some pl
  | 0, (_, _, _ :: _) => none
  | _ + 1, (_, _, []) => none
  | d + 1, (sn, pl, p :: r) => ordIt u d (ordStep u (sn, pl, p :: r))
def stC (st : List (Nat × Nat)) : List Value := st.reverse.flatMap fun p => [.int .i64 (p.1 : Int), .int .i64 (p.2 : Int)]
theorem stC_cons (p : Nat × Nat) (r : List (Nat × Nat)) : stC (p :: r) = stC r ++ [.int .i64 (p.1 : Int), .int .i64 (p.2 : Int)] := by simp [stC]
theorem stC_len (st : List (Nat × Nat)) : (stC st).length = st.length * 2 := by
  induction st with
  | nil => rfl
  | cons p r ih => rw [stC_cons, List.length_append, ih, List.length_cons]; simp only [List.length_cons, List.length_nil]; omega
theorem count_set {l : List Bool} {k : Nat} (hk : k < l.length) (h : l.getD k false = false) : (l.set k true).count true = l.count true + 1 := by
  induction l generalizing k with
  | nil => simp at hk
  | cons a r ih =>
    cases k with
    | zero =>
      simp at h
      subst h
      simp
    | succ k =>
      rw [List.set_cons_succ, List.count_cons, List.count_cons, ih (by simpa using hk) (by simpa using h)]
      omega
structure OAt (m0 m : Mem) (u : UnT.D) (vo bo so : Option Addr) (ub sb : Nat) (po to : Option Addr) (pf tf : Nat) (s : OSt) : Prop where
  own : Own m ub (uCells u vo bo so) 34 ub
  sn : Own m sb (bools s.1) 4 sb
  pl : Sl m po s.2.1.length (ints s.2.1) 3 1 pf
  st : Sr m to s.2.2.length (stC s.2.2) 124 2 tf
  k : Keeps m0 m []
  fr : m0.next ≤ ub ∧ m0.next ≤ sb ∧ ub < m.next ∧ sb < m.next ∧ (po ≠ none → m0.next ≤ pf ∧ pf < m.next) ∧ (to ≠ none → m0.next ≤ tf ∧ tf < m.next)
  ne : ub ≠ sb ∧ (po ≠ none → pf ≠ ub ∧ pf ≠ sb) ∧ (to ≠ none → tf ≠ ub ∧ tf ≠ sb) ∧ (po ≠ none → to ≠ none → pf ≠ tf)
  sl : s.1.length = nb u
  cnt : s.2.1.length + s.2.2.length = s.1.count true
  ok : ∀ p ∈ s.2.2, p.1 < nb u ∧ p.2 ≤ (nxD u p.1).length
theorem count_le (l : List Bool) : l.count true ≤ l.length := List.count_le_length
theorem OAt.pop {m0 : Mem} {u : UnT.D} {vo bo so : Option Addr} {ub sb : Nat} {po to : Option Addr} {pf tf : Nat} {sn : List Bool} {pl : List Int} {b i : Nat} {st : List (Nat × Nat)} (h : OAt m0 m u vo bo so ub sb po to pf tf (sn, pl, (b, i) :: st)) (hnb : nb u ≤ 1000)
    {r : Option (Value × Mem)} (hr : sappend Tryd.prog 36 (m.new [.int .i64 (b : Int)] 3) (.slice po pl.length pl.length) [.int .i64 (b : Int)] 1 = r) :
    ∃ m1 b' pf', r = some (.slice (some ⟨b', 0, none⟩) (pl.length + 1) (pl.length + 1), m1) ∧ OAt m0 m1 u vo bo so ub sb (some ⟨b', 0, none⟩) to pf' tf (sn, pl ++ [(b : Int)], st) ∧ ∃ fs, (∀ f ∈ fs, m0.next ≤ f) ∧ Keeps m m1 fs := by
  have hc := h.cnt
  have hsl := h.sl
  have hcl := count_le sn
  simp only [List.length_cons] at hc hsl
  have hpl : pl.length ≤ 1000 := by omega
  obtain ⟨m1, b', pf', rfl, o1, k1, c1, c2, c3⟩ := app_slz hr u36 ap3 h.pl (by omega) (by simp) (by simp [one_int]) (by omega) (by omega)
  obtain ⟨f1, f2, f3, f4, f5, f6⟩ := h.fr
  obtain ⟨n1, n2, n3, n4⟩ := h.ne
  have m1n : m.next ≤ m1.next := k1.1
  have k0 : m0.next ≤ m.next := h.k.1
  have hp : pf' ≠ ub ∧ pf' ≠ sb ∧ m0.next ≤ pf' ∧ (to ≠ none → pf' ≠ tf) := by
    rcases c1 with ⟨hn, e⟩ | c1
    · rw [e]; exact ⟨(n2 hn).1, (n2 hn).2, (f5 hn).1, n4 hn⟩
    · exact ⟨by omega, by omega, by omega, fun hn => by have := (f6 hn).2; omega⟩
  have hf : ∀ (x : Nat), (po ≠ none → x ≠ pf) → x ∉ (if po = none then [] else [pf]) := by
    intro x hx
    split
    · simp
    · rename_i hn; simpa using hx hn
  have st1 := h.st.keep k1 (fun hn => hf tf (fun hp => Ne.symm (n4 hp hn)))
  have htn : to ≠ none := by
    rcases h.st.2 with ⟨_, h0⟩ | ⟨_, _, h0, _⟩
    · simp at h0
    · rw [h0]; simp
  refine ⟨m1, b', pf', rfl, ⟨h.own.keep k1 (hf _ fun hp => Ne.symm (n2 hp).1), h.sn.keep k1 (hf _ fun hp => Ne.symm (n2 hp).2), Sl.of (by simpa using o1) (by simp), ?_, ?_, ⟨f1, f2, by omega, by omega, fun _ => ⟨hp.2.2.1, c2⟩, fun hn => ⟨(f6 hn).1, by have := (f6 hn).2; omega⟩⟩, ⟨n1, fun _ => ⟨hp.1, hp.2.1⟩, n3, fun _ => hp.2.2.2⟩, hsl, ?_, fun p hp => h.ok p (by simp [hp])⟩, _, ?_, k1⟩
  · have st2 := st1
    simp only at st2
    rw [stC_cons] at st2
    exact Sr.cut st2 (stC_len st).symm (fun e => absurd e htn)
  · refine h.k.fresh k1 fun f hf => ?_
    split at hf
    · simp at hf
    · rename_i hn; simp at hf; rw [hf]; exact (f5 hn).1
  · simp only [List.length_append, List.length_cons, List.length_nil]; omega
  · intro f hf
    split at hf
    · simp at hf
    · rename_i hn; simp at hf; rw [hf]; exact (f5 hn).1
theorem over_last (P rest : List Value) (y y' : Value) : over (P ++ y :: rest) P.length [y'] = P ++ y' :: rest := by simp [over]
theorem OAt.inc {m0 : Mem} {u : UnT.D} {vo bo so : Option Addr} {ub sb : Nat} {po to : Option Addr} {pf tf : Nat} {sn : List Bool} {pl : List Int} {b i : Nat} {st : List (Nat × Nat)} (h : OAt m0 m u vo bo so ub sb po to pf tf (sn, pl, (b, i) :: st)) (hi : i < (nxD u b).length) :
    ∃ tb m1, to = some ⟨tb, 0, none⟩ ∧ loadRow m ⟨tb, st.length * 2, none⟩ 1 = some [.int .i64 (b : Int)] ∧ loadRow m ⟨tb, st.length * 2 + 1, none⟩ 1 = some [.int .i64 (i : Int)] ∧
      storeRow m ⟨tb, st.length * 2 + 1, none⟩ [.int .i64 ((i + 1 : Nat) : Int)] = some m1 ∧ OAt m0 m1 u vo bo so ub sb po to pf tf (sn, pl, (b, i + 1) :: st) ∧ ∃ fs, (∀ f ∈ fs, m0.next ≤ f) ∧ Keeps m m1 fs := by
  obtain ⟨tb, rest, e, o⟩ := h.st.own (by simp)
  simp only at o
  have hl := stC_len st
  obtain ⟨m1, e1, o1, k1⟩ := store_own (r := _) rfl o (off := st.length * 2 + 1) (vs := [.int .i64 ((i + 1 : Nat) : Int)]) (by rw [stC_cons]; simp only [List.length_append, List.length_cons, List.length_nil]; omega) (by simp [one_int])
  have eo : over (stC ((b, i) :: st) ++ rest) (st.length * 2 + 1) [.int .i64 ((i + 1 : Nat) : Int)] = stC ((b, i + 1) :: st) ++ rest := by
    rw [stC_cons, stC_cons, ← hl]
    have e2 := over_last (stC st ++ [.int .i64 (b : Int)]) rest (.int .i64 (i : Int)) (.int .i64 ((i + 1 : Nat) : Int))
    rw [List.length_append] at e2
    simpa using e2
  rw [eo] at o1
  obtain ⟨f1, f2, f3, f4, f5, f6⟩ := h.fr
  obtain ⟨n1, n2, n3, n4⟩ := h.ne
  have htn : to ≠ none := by rw [e]; simp
  have m1n : m.next ≤ m1.next := k1.1
  have hk : ∀ f ∈ [tf], m0.next ≤ f := fun f hf => by simp at hf; rw [hf]; exact (f6 htn).1
  have a0 : (stC ((b, i) :: st) ++ rest)[st.length * 2]? = some (.int .i64 (b : Int)) := by rw [stC_cons, ← hl]; simp
  have a1 : (stC ((b, i) :: st) ++ rest)[st.length * 2 + 1]? = some (.int .i64 (i : Int)) := by rw [stC_cons, ← hl]; simp
  refine ⟨tb, m1, e, o.load1 a0, o.load1 a1, e1, ⟨h.own.keep k1 (by simpa using Ne.symm (n3 htn).1), h.sn.keep k1 (by simpa using Ne.symm (n3 htn).2), h.pl.keepz k1 (fun hn => by simpa using n4 hn htn), ⟨by rw [stC_len]; first | done | rfl, Or.inr ⟨tb, rest, e, o1⟩⟩, h.k.fresh k1 hk, ⟨f1, f2, by omega, by omega, fun hn => ⟨(f5 hn).1, by have := (f5 hn).2; omega⟩, fun hn => ⟨(f6 hn).1, by have := (f6 hn).2; omega⟩⟩, ⟨n1, n2, n3, n4⟩, h.sl, h.cnt, ?_⟩, [tf], hk, k1⟩
  intro p hp
  rcases List.mem_cons.1 hp with rfl | hp
  · exact ⟨(h.ok (b, i) (by simp)).1, by dsimp only; omega⟩
  · exact h.ok p (by simp [hp])
theorem OAt.push {m0 : Mem} {u : UnT.D} {vo bo so : Option Addr} {ub sb : Nat} {po to : Option Addr} {pf tf : Nat} {sn : List Bool} {pl : List Int} {st : List (Nat × Nat)} {k : Nat} (h : OAt m0 m u vo bo so ub sb po to pf tf (sn, pl, st)) (hnb : nb u ≤ 1000) (hk : k < nb u) (hs : sn.getD k false = false) :
    ∃ m1, storeRow m ⟨sb, k, none⟩ [.bool true] = some m1 ∧ ∀ r, sappend Tryd.prog 122 (m1.new [.int .i64 (k : Int), .int .i64 0] 124) (.slice to st.length st.length) [.int .i64 (k : Int), .int .i64 0] 1 = r →
      ∃ m2 to' tf', r = some (.slice to' (st.length + 1) (st.length + 1), m2) ∧ OAt m0 m2 u vo bo so ub sb po to' pf tf' (sn.set k true, pl, (k, 0) :: st) ∧ ∃ fs, (∀ f ∈ fs, m0.next ≤ f) ∧ Keeps m m2 fs := by
  have hc := h.cnt
  have hsl := h.sl
  have hcl := count_le sn
  simp only at hc hsl
  obtain ⟨m1, e1, o1, k1⟩ := own_setb h.sn (i := k) (by simp only; omega) true
  refine ⟨m1, e1, fun r hr => ?_⟩
  obtain ⟨f1, f2, f3, f4, f5, f6⟩ := h.fr
  obtain ⟨n1, n2, n3, n4⟩ := h.ne
  have st1 := h.st.keep k1 (fun hn => by simpa using (n3 hn).2)
  obtain ⟨m2, to', tf', rfl, s2, k2, c1, c2, c3⟩ := app_sr_new hr u122 ap124 st1 (by omega) (by simp) (by simp [one_int]) (by omega) (by omega)
  have m1n : m.next ≤ m1.next := k1.1
  have m2n : m1.next ≤ m2.next := k2.1
  have k0 : m0.next ≤ m.next := h.k.1
  have hp : tf' ≠ ub ∧ tf' ≠ sb ∧ m0.next ≤ tf' ∧ (po ≠ none → pf ≠ tf') := by
    rcases c1 with ⟨hn, e⟩ | c1
    · rw [e]; exact ⟨(n3 hn).1, (n3 hn).2, (f6 hn).1, fun hq => n4 hq hn⟩
    · exact ⟨by omega, by omega, by omega, fun hn => by have := (f5 hn).2; omega⟩
  have hf : ∀ (x : Nat), (to ≠ none → x ≠ tf) → x ∉ (if to = none then [] else [tf]) := by
    intro x hx
    split
    · simp
    · rename_i hn; simpa using hx hn
  have hg : ∀ f ∈ (if to = none then [] else [tf]), m0.next ≤ f := by
    intro f hf
    split at hf
    · simp at hf
    · rename_i hn; simp at hf; rw [hf]; exact (f6 hn).1
  refine ⟨m2, to', tf', rfl, ⟨(h.own.keep k1 (by simpa using n1)).keep k2 (hf _ fun hn => Ne.symm (n3 hn).1), o1.keep k2 (hf _ fun hn => Ne.symm (n3 hn).2), (h.pl.keepz k1 (fun hn => by simpa using (n2 hn).2)).keepz k2 (fun hn => hf _ fun ht => n4 hn ht), ?_, (h.k.fresh k1 (by simpa using f2)).fresh k2 hg, ⟨f1, f2, by omega, by omega, fun hn => ⟨(f5 hn).1, by have := (f5 hn).2; omega⟩, fun hn => ⟨hp.2.2.1, (s2.flt hn)⟩⟩, ⟨n1, n2, fun _ => ⟨hp.1, hp.2.1⟩, fun hn _ => hp.2.2.2 hn⟩, by simpa using hsl, ?_, ?_⟩, sb :: (if to = none then [] else [tf]), ?_, (k1.mono (by simp)).trans (k2.mono (fun x hx => by simp [hx]))⟩
  · rw [stC_cons]; exact s2
  · simp only [List.length_cons]
    rw [count_set (by omega) hs]; omega
  · intro p hp
    rcases List.mem_cons.1 hp with rfl | hp
    · exact ⟨hk, by dsimp only; omega⟩
    · exact h.ok p hp
  · intro f hf
    rcases List.mem_cons.1 hf with rfl | hf
    · exact f2
    · exact hg f hf
end Go.Proofs.YtlogdohlcdhepaaDoor.base

