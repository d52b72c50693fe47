/-
  This text proves what the maker's fn and Text do over the abstract run.
  Condition: nothing is known of its calls ahead ('S f = []').
-/
import Derived.Test.YtgomgdbapgibjaaDoorMakF
set_option maxRecDepth 100000
set_option linter.unusedSimpArgs false
set_option linter.unusedVariables false
namespace Go.Proofs.YtgomgdbapgibjaaDoor.base
open Go.Sh gen
variable {S : Sums} {m : Mem}
theorem mall (hN : Nm S) : ∀ d, d ≤ 8 → HSt S d
  | 0, _ => mstmt_run hN 0 (by omega) (mloop_zero hN) (fun e he => by omega)
  | d + 1, h => mstmt_run hN (d + 1) h (mloop_run hN d (by omega) (mstmts_run hN d (mall hN d (by omega)))) (fun e he => by
      obtain rfl : e = d := by omega
      exact mstmts_run hN e (mall hN e (by omega)))
def Lv (A : Nat → Option Addr) (L : Nat → List (List UInt8)) : List Value := (List.range 7).map fun j => .slice (A j) (L j).length (L j).length
structure Pa (m0 m : Mem) (b nb i : Nat) (cs : List Value) (L : Nat → List (List UInt8)) (A : Nat → Option Addr) (F : Nat → Nat) : Prop where
  o : Own m b cs 45 b
  v : Own m nb (Lv A L) 48 nb
  s : ∀ j, j < 7 → Sl m (A j) (L j).length (strC (L j)) 9 1 (F j)
  n : ∀ j, j < 7 → (A j = none ↔ L j = [])
  f : ∀ j, j < 7 → A j ≠ none → m0.next ≤ F j
  d : ∀ j k, j < 7 → k < 7 → j ≠ k → A j ≠ none → A k ≠ none → F j ≠ F k
  e : ∀ j, j < 7 → ∀ s ∈ L j, s.length ≤ 8
  l : ∀ j, j < 7 → (L j).length ≤ i
  z : A 6 = none
  k : Keeps m0 m [b, nb]
theorem lv_get (A : Nat → Option Addr) (L : Nat → List (List UInt8)) {t : Nat} (ht : t < 7) : window (Lv A L) t 1 = [.slice (A t) (L t).length (L t).length] := by
  rcases (by omega : t = 0 ∨ t = 1 ∨ t = 2 ∨ t = 3 ∨ t = 4 ∨ t = 5 ∨ t = 6) with rfl | rfl | rfl | rfl | rfl | rfl | rfl <;> rfl
theorem lv_set (A : Nat → Option Addr) (L : Nat → List (List UInt8)) {t : Nat} (ht : t < 7) (a : Option Addr) (l : List (List UInt8)) (k : Nat) (hk : k = l.length) : over (Lv A L) t [.slice a k k] = Lv (fun j => if j = t then a else A j) (fun j => if j = t then l else L j) := by
  subst hk
  rcases (by omega : t = 0 ∨ t = 1 ∨ t = 2 ∨ t = 3 ∨ t = 4 ∨ t = 5 ∨ t = 6) with rfl | rfl | rfl | rfl | rfl | rfl | rfl <;> rfl
theorem Pa.step {m0 m m1 m2 : Mem} {b nb i t b' fm k : Nat} {cs : List Value} {L : Nat → List (List UInt8)} {A : Nat → Option Addr} {F : Nat → Nat} (h : Pa m0 m b nb i cs L A F) (hb : b < m0.next) (hnb : nb < m0.next) (hne : b ≠ nb) (ht : t < 6) (p : List UInt8) (hp : p.length ≤ 8)
    (o1 : Own m1 b' (strC (L t) ++ [.string ⟨p.toArray⟩]) 9 fm) (k1 : Keeps m m1 (if A t = none then [] else [F t])) (hf : (A t ≠ none ∧ fm = F t) ∨ m.next ≤ fm) (hk : k = (L t).length + 1)
    (o2 : Own m2 nb (over (Lv A L) t [.slice (some ⟨b', 0, none⟩) k k]) 48 nb) (k2 : Keeps m1 m2 [nb]) :
    Pa m0 m2 b nb (i + 1) cs (fun j => if j = t then L t ++ [p] else L j) (fun j => if j = t then some ⟨b', 0, none⟩ else A j) (fun j => if j = t then fm else F j) := by
  have hft := h.f t (by omega)
  have kn := h.k.1
  have hF : A t ≠ none → F t ≠ b ∧ F t ≠ nb := fun h0 => by have := hft h0; omega
  have hfm : m0.next ≤ fm := by
    rcases hf with ⟨h0, rfl⟩ | hf
    · exact hft h0
    · omega
  have kA : ∀ f, (A t ≠ none → f ≠ F t) → f ∉ (if A t = none then [] else [F t]) := fun f hq => by
    split
    · simp
    · simp; exact hq (by assumption)
  refine ⟨(h.o.keep k1 (kA _ (fun h0 => (hF h0).1.symm))).keep k2 (by simpa using hne), ?_, ?_, ?_, ?_, ?_, ?_, ?_, ?_, ?_⟩
  · rw [lv_set A L (by omega) _ (L t ++ [p]) _ (by simp; omega)] at o2
    exact o2
  · intro j hj
    by_cases e : j = t
    · subst e
      simp only [if_pos]
      refine ⟨by simp [strC], Or.inr ⟨b', rfl, ?_⟩⟩
      have := o1.keep k2 (by simp; omega)
      simpa [strC] using this
    · simp only [if_neg e]
      have h1 := (h.s j hj).keepz k1 (fun h0 => kA _ (fun h1 => h.d j t hj (by omega) e h0 h1))
      exact h1.keepz k2 (fun h0 => by have := h.f j hj h0; simp; omega)
  · intro j hj
    by_cases e : j = t
    · subst e; simp
    · simp only [if_neg e]; exact h.n j hj
  · intro j hj h0
    by_cases e : j = t
    · simp only [if_pos e]; exact hfm
    · simp only [if_neg e] at h0 ⊢; exact h.f j hj h0
  · have key : ∀ j, j < 7 → j ≠ t → A j ≠ none → F j ≠ fm := by
      intro j hj e h0 he
      rcases hf with ⟨h1, rfl⟩ | hf
      · exact h.d j t hj (by omega) e h0 h1 he
      · obtain ⟨x, hx, ho⟩ : ∃ x, A j = some ⟨x, 0, none⟩ ∧ Own m x (strC (L j)) 9 (F j) := (h.s j hj).own (by
          have := h.n j hj
          intro hz
          exact h0 (this.2 (List.length_eq_zero_iff.1 hz)))
        have := ho.flt
        omega
    intro j k hj hk hjk h0 h1
    by_cases e : j = t
    · by_cases e2 : k = t
      · omega
      · simp only [if_pos e, if_neg e2] at h1 ⊢; exact (key k hk e2 h1).symm
    · by_cases e2 : k = t
      · simp only [if_pos e2, if_neg e] at h0 ⊢; exact key j hj e h0
      · simp only [if_neg e, if_neg e2] at h0 h1 ⊢; exact h.d j k hj hk hjk h0 h1
  · intro j hj s hs
    by_cases e : j = t
    · simp only [if_pos e] at hs
      rcases List.mem_append.1 hs with hs | hs
      · exact h.e t (by omega) s hs
      · simp at hs; subst hs; exact hp
    · simp only [if_neg e] at hs; exact h.e j hj s hs
  · intro j hj
    by_cases e : j = t
    · simp only [if_pos e, List.length_append, List.length_cons, List.length_nil]; have := h.l t (by omega); omega
    · simp only [if_neg e]; have := h.l j hj; omega
  · have : ¬ 6 = t := by omega
    simp only [if_neg this]; exact h.z
  · have k12 : Keeps m m1 [b, nb] ∨ A t ≠ none := by
      by_cases h0 : A t = none
      · rw [if_pos h0] at k1; exact Or.inl k1.nil
      · exact Or.inr h0
    have k01 : Keeps m0 m1 [b, nb] := by
      rcases k12 with h0 | h0
      · exact h.k.trans h0
      · rw [if_neg h0] at k1
        have hq := hft h0
        refine ⟨Nat.le_trans h.k.1 k1.1, fun l bl hl hb hq2 hf2 => ?_, fun x hl hf2 => ?_⟩
        · have h1 := h.k.2.1 l bl hl hb hq2 hf2
          exact k1.2.1 l bl (Nat.lt_of_lt_of_le hl h.k.1) h1 (Nat.lt_of_lt_of_le hq2 h.k.1) (by simp; omega)
        · rw [k1.2.2 x (Nat.lt_of_lt_of_le hl h.k.1) (by simp; omega), h.k.2.2 x hl hf2]
    exact k01.trans (k2.mono (by simp))
theorem mfn_run (hN : Nm S) {b : Nat} {σ : Ms} (h : Mk m b σ) (hd : List UInt8) (hhd : hd.length ≤ 100) {pa ta : Option Addr} {ps : List (List UInt8)} {ts : List Nat} {pf tf : Nat} (hp : Rs m pa ps.length (strC ps) 9 1 pf) (ht : Rs m ta ts.length (ts.map fun n : Nat => Value.int .i64 n) 3 1 tf)
    (hpt : ps.length = ts.length) (h8 : ∀ s ∈ ps, s.length ≤ 8) (h6 : ∀ t ∈ ts, t < 6) (h3 : ps.length ≤ 2) (hpf : pf ≠ b ∧ pf < m.next) (htf : tf ≠ b ∧ tf < m.next) (res : Int) (hres : res < 7) (d : Nat) (hd8 : d ≤ 3) (calls : Bool) (ho : σ.out.length ≤ 500000000000) (hlo : σ.loops = 0) :
    ∃ v m1, callw Tryd.prog TT S 21 [.pointer (some ⟨b, 0, none⟩), .string ⟨hd.toArray⟩, .slice pa ps.length ps.length, .slice ta ts.length ts.length, .int .i64 res, .int .i64 d, .bool calls] m = some (v, m1) ∧ ∃ υ, Mk m1 b υ ∧ υ.out.length ≤ σ.out.length + 1000000000 ∧ Keeps m m1 [b] ∧ υ.loops = 0 := by
  refine fn_w 15 [36, 87] k21 hN.fn rfl ?_
  have hz : zerosOf Tryd.prog 48 7 = some (List.replicate 7 (.slice none 0 0)) := zeros_one (by kernel_rfl : zOk Tryd.prog 48 24 (.slice none 0 0) = true) rfl rfl (by omega)
  simp (disch := first | omega | (simp only [List.length_append, List.length_cons, List.length_nil]; omega) | rfl) [-Int.natCast_add, -strOp, add_short, fold_k, fold_0, make_of u43 ap48, fieldAddr_of fa45_2, store_of sz43, fieldAddr_of fa45_3, store_of sz3, fieldAddr_of fa45_5, fieldAddr_of fa45_7, fieldAddr_of fa45_8, store_of sz4, len_slice u48, load_of ld43, index_slice u22 sz3, load_of ld3, index_slice u43 sz48, load_of ld48, index_slice u48 sz9, load_of ld9, buildSlice_of u48 bs9 rfl, append_s u48 sz9, store_of sz48, bin_str u9 .add (Or.inl rfl), hz]
  generalize hrr : storeRow _ _ _ = rr
  have hlt := h.own.flt
  obtain ⟨on, kn, nn⟩ := new_own (m := m) (cs := List.replicate 7 (.slice none 0 0)) (e := 48) rfl
  obtain ⟨m1, rfl, o1, k1⟩ := store_own hrr (h.own.keep kn (by simp)) (by simp [Ms.cells]) (by simp [one_slice])
  simp (disch := first | omega | (simp only [List.length_append, List.length_cons, List.length_nil]; omega) | rfl) [-Int.natCast_add, -strOp, add_short, fold_k, fold_0, make_of u43 ap48, fieldAddr_of fa45_2, store_of sz43, fieldAddr_of fa45_3, store_of sz3, fieldAddr_of fa45_5, fieldAddr_of fa45_7, fieldAddr_of fa45_8, store_of sz4, len_slice u48, load_of ld43, index_slice u22 sz3, load_of ld3, index_slice u43 sz48, load_of ld48, index_slice u48 sz9, load_of ld9, buildSlice_of u48 bs9 rfl, append_s u48 sz9, store_of sz48, bin_str u9 .add (Or.inl rfl), hz]
  generalize hrr2 : storeRow _ _ _ = rr
  obtain ⟨m2, rfl, o2, k2⟩ := store_own hrr2 o1 (by simp [Ms.cells, over]) (by simp [one_int])
  simp (disch := first | omega | (simp only [List.length_append, List.length_cons, List.length_nil]; omega) | rfl) [-Int.natCast_add, -strOp, add_short, fold_k, fold_0, make_of u43 ap48, fieldAddr_of fa45_2, store_of sz43, fieldAddr_of fa45_3, store_of sz3, fieldAddr_of fa45_5, fieldAddr_of fa45_7, fieldAddr_of fa45_8, store_of sz4, len_slice u48, load_of ld43, index_slice u22 sz3, load_of ld3, index_slice u43 sz48, load_of ld48, index_slice u48 sz9, load_of ld9, buildSlice_of u48 bs9 rfl, append_s u48 sz9, store_of sz48, bin_str u9 .add (Or.inl rfl), hz]
  generalize hrr3 : storeRow _ _ _ = rr
  obtain ⟨m3, rfl, o3, k3⟩ := store_own hrr3 o2 (by simp [Ms.cells, over]) (by simp [one_int])
  simp (disch := first | omega | (simp only [List.length_append, List.length_cons, List.length_nil]; omega) | rfl) [-Int.natCast_add, -strOp, add_short, fold_k, fold_0, make_of u43 ap48, fieldAddr_of fa45_2, store_of sz43, fieldAddr_of fa45_3, store_of sz3, fieldAddr_of fa45_5, fieldAddr_of fa45_7, fieldAddr_of fa45_8, store_of sz4, len_slice u48, load_of ld43, index_slice u22 sz3, load_of ld3, index_slice u43 sz48, load_of ld48, index_slice u48 sz9, load_of ld9, buildSlice_of u48 bs9 rfl, append_s u48 sz9, store_of sz48, bin_str u9 .add (Or.inl rfl), hz]
  generalize hrr4 : storeRow _ _ _ = rr
  obtain ⟨m4, rfl, o4, k4⟩ := store_own hrr4 o3 (by simp [Ms.cells, over]) (by simp [one_int])
  simp (disch := first | omega | (simp only [List.length_append, List.length_cons, List.length_nil]; omega) | rfl) [-Int.natCast_add, -strOp, add_short, fold_k, fold_0, make_of u43 ap48, fieldAddr_of fa45_2, store_of sz43, fieldAddr_of fa45_3, store_of sz3, fieldAddr_of fa45_5, fieldAddr_of fa45_7, fieldAddr_of fa45_8, store_of sz4, len_slice u48, load_of ld43, index_slice u22 sz3, load_of ld3, index_slice u43 sz48, load_of ld48, index_slice u48 sz9, load_of ld9, buildSlice_of u48 bs9 rfl, append_s u48 sz9, store_of sz48, bin_str u9 .add (Or.inl rfl), hz]
  generalize hrr5 : storeRow _ _ _ = rr
  obtain ⟨m5, rfl, o5, k5⟩ := store_own hrr5 o4 (by simp [Ms.cells, over]) (by simp [one_bool])
  simp (disch := first | omega | (simp only [List.length_append, List.length_cons, List.length_nil]; omega) | rfl) [-Int.natCast_add, -strOp, add_short, fold_k, fold_0, make_of u43 ap48, fieldAddr_of fa45_2, store_of sz43, fieldAddr_of fa45_3, store_of sz3, fieldAddr_of fa45_5, fieldAddr_of fa45_7, fieldAddr_of fa45_8, store_of sz4, len_slice u48, load_of ld43, index_slice u22 sz3, load_of ld3, index_slice u43 sz48, load_of ld48, index_slice u48 sz9, load_of ld9, buildSlice_of u48 bs9 rfl, append_s u48 sz9, store_of sz48, bin_str u9 .add (Or.inl rfl), hz]
  have kk5 : Keeps m m5 [b] := kn.nil.trans (k1.trans (k2.trans (k3.trans (k4.trans k5))))
  have o5b : Own m5 b (Ms.cells { σ with vb := m.next, vf := m.next, names := 0, size := 0, res := res, calls := calls }) 45 b := by simpa [Ms.cells, over] using o5
  have on5 : Own m5 m.next (List.replicate 7 (.slice none 0 0)) 48 m.next := on.keep (k1.trans (k2.trans (k3.trans (k4.trans k5)))) (by simp; omega)
  have hn5 : m.next < m5.next := on5.flt
  have hm5 : m.next < (m.new (List.replicate 7 (.slice none 0 0)) 48).next := nn
  clear hrr hrr2 hrr3 hrr4 hrr5 o1 o2 o3 o4 o5 k1 k2 k3 k4 k5 on kn nn
  refine wsem_loop 15 [36, 87] (fun dd E m6 => ∃ (i : Nat) (L : Nat → List (List UInt8)) (A : Nat → Option Addr) (F : Nat → Nat), ps.length - i = dd ∧ i ≤ ps.length ∧ E = [(0, .pointer (some ⟨b, 0, none⟩)), (1, .string ⟨hd.toArray⟩), (2, .slice pa ps.length ps.length), (3, .slice ta ts.length ts.length), (4, .int .i64 res), (5, .int .i64 d), (6, .bool calls), (14, .int .i64 i)] ∧ Pa m5 m6 b m.next i (Ms.cells { σ with vb := m.next, vf := m.next, names := 0, size := 0, res := res, calls := calls }) L A F) _ ⟨_, ⟨0, fun _ => [], fun _ => none, fun _ => m5.next, rfl, by omega, rfl, ?_⟩, ⟨by rfl, by rfl, by rfl, by rfl, by rfl, by rfl, by rfl, by rfl, trivial⟩⟩ ?_
  · exact ⟨o5b, on5, fun j _ => Sl.nil _ _ _ _, fun j _ => by simp, fun j _ h => absurd rfl h, fun j k _ _ _ h => absurd rfl h, fun j _ s hs => by simp at hs, fun j _ => by simp, rfl, Keeps.refl _ _⟩
  rintro dd E m6 ih ⟨i, L, A, F, hdd, hi, rfl, q⟩
  have kpf : pf ∉ [b, m.next] := by simp; omega
  have ktf : tf ∉ [b, m.next] := by simp; omega
  by_cases hlt2 : i < ps.length
  · have e1 : (i : Int) < ps.length := by omega
    have w1 : IntKind.i64.wrap ((i : Int) + 1) = ((i + 1 : Nat) : Int) := by rw [wrap_i64 (by omega) (by omega)]; omega
    have em : (i : Int) ≤ 9223372036854775807 := by omega
    have hti : i < ts.length := by omega
    obtain ⟨pb, hpb, po⟩ := ((hp.keep kk5 (by simpa using hpf.1)).keep q.k kpf).rdo (by omega)
    obtain ⟨tb, htb, to⟩ := ((ht.keep kk5 (by simpa using htf.1)).keep q.k ktf).rdo (by omega)
    have lp : loadRow m6 ⟨pb, i, none⟩ 1 = some [.string ⟨(ps[i]).toArray⟩] := po.load1 (by simp [strC])
    have lt : loadRow m6 ⟨tb, i, none⟩ 1 = some [.int .i64 ts[i]] := to.load1 (by simp [hti])
    have h6t := h6 _ (List.getElem_mem hti)
    have h8p := h8 _ (List.getElem_mem hlt2)
    generalize ps[i] = p at lp h8p
    generalize ts[i] = t at lt h6t
    have lv : loadRow m6 ⟨b, 2, none⟩ 1 = some [.slice (some ⟨m.next, 0, none⟩) 7 7] := q.o.load1 (off := 2) rfl
    have lvt : loadRow m6 ⟨m.next, t, none⟩ 1 = some [.slice (A t) (L t).length (L t).length] := by
      rw [q.v.load (off := t) 1 (by simp [Lv]; omega), lv_get A L (by omega)]
    have t7 : t < 7 := by omega
    have em2 : (t : Int) ≤ 9223372036854775807 := by omega
    simp (disch := first | omega | (simp only [List.length_append, List.length_cons, List.length_nil]; omega) | rfl) [-Int.natCast_add, -strOp, add_short, fold_k, fold_0, make_of u43 ap48, fieldAddr_of fa45_2, store_of sz43, fieldAddr_of fa45_3, store_of sz3, fieldAddr_of fa45_5, fieldAddr_of fa45_7, fieldAddr_of fa45_8, store_of sz4, len_slice u48, load_of ld43, index_slice u22 sz3, load_of ld3, index_slice u43 sz48, load_of ld48, index_slice u48 sz9, load_of ld9, buildSlice_of u48 bs9 rfl, append_s u48 sz9, store_of sz48, bin_str u9 .add (Or.inl rfl), e1, hlt2, em, hti, hpb, htb, lp, lt, lv, lvt, t7, em2, po.ln, to.ln, q.o.ln, q.v.ln, w1]
    generalize hrr : sappend _ _ _ _ _ _ = rr
    have hLl := q.l t (by omega)
    obtain ⟨m7, b', fm, rfl, o7, k7, hf7, _, _⟩ := app_slz hrr u48 ap9 (q.s t (by omega)) (by omega) rfl (by simp [one_str]) (by omega) (by omega)
    have kA : ∀ f, f < m5.next → f ∉ (if A t = none then [] else [F t]) := fun f hf => by
      split
      · simp
      · have := q.f t (by omega) (by assumption)
        simp; omega
    have hpf2 := hpf.2
    have htf2 := htf.2
    have po7 := po.keep k7 (kA _ (by omega))
    have to7 := to.keep k7 (kA _ (by omega))
    have ob7 := q.o.keep k7 (kA _ (by omega))
    have ov7 := q.v.keep k7 (kA _ (by omega))
    have lt7 : loadRow m7 ⟨tb, i, none⟩ 1 = some [.int .i64 t] := by rw [← lt, to7.load 1 (by simp; omega), to.load 1 (by simp; omega)]
    have lv7 : loadRow m7 ⟨b, 2, none⟩ 1 = some [.slice (some ⟨m.next, 0, none⟩) 7 7] := ob7.load1 (off := 2) rfl
    simp (disch := first | omega | (simp only [List.length_append, List.length_cons, List.length_nil]; omega) | rfl) [-Int.natCast_add, -strOp, add_short, fold_k, fold_0, make_of u43 ap48, fieldAddr_of fa45_2, store_of sz43, fieldAddr_of fa45_3, store_of sz3, fieldAddr_of fa45_5, fieldAddr_of fa45_7, fieldAddr_of fa45_8, store_of sz4, len_slice u48, load_of ld43, index_slice u22 sz3, load_of ld3, index_slice u43 sz48, load_of ld48, index_slice u48 sz9, load_of ld9, buildSlice_of u48 bs9 rfl, append_s u48 sz9, store_of sz48, bin_str u9 .add (Or.inl rfl), e1, hlt2, em, hti, hpb, htb, lp, lt, lv, lvt, t7, em2, po.ln, to.ln, q.o.ln, q.v.ln, w1, lt7, lv7]
    generalize hrr2 : storeRow _ _ _ = rr
    obtain ⟨m8, rfl, o8, k8⟩ := store_own hrr2 ov7 (by simp [Lv]; omega) (by simp [one_slice])
    have q8 := q.step (by omega) (by omega) (by omega) h6t p h8p o7 k7 (hf7.imp id id) rfl o8 k8
    simp (disch := first | omega | (simp only [List.length_append, List.length_cons, List.length_nil]; omega) | rfl) [-Int.natCast_add, -strOp, add_short, fold_k, fold_0, make_of u43 ap48, fieldAddr_of fa45_2, store_of sz43, fieldAddr_of fa45_3, store_of sz3, fieldAddr_of fa45_5, fieldAddr_of fa45_7, fieldAddr_of fa45_8, store_of sz4, len_slice u48, load_of ld43, index_slice u22 sz3, load_of ld3, index_slice u43 sz48, load_of ld48, index_slice u48 sz9, load_of ld9, buildSlice_of u48 bs9 rfl, append_s u48 sz9, store_of sz48, bin_str u9 .add (Or.inl rfl), e1, hlt2, em, hti, hpb, htb, lp, lt, lv, lvt, t7, em2, po.ln, to.ln, q.o.ln, q.v.ln, w1, lt7, lv7]
    rw [← hpb, ← htb]
    exact ih _ _ _ _ ⟨i + 1, _, _, _, rfl, by omega, rfl, q8⟩ (by omega) ⟨by rfl, by rfl, by rfl, by rfl, by rfl, by rfl, by rfl, by rfl, trivial⟩
  · have e1 : ¬ (i : Int) < ps.length := by omega
    have kk6 : Keeps m m6 [b] := kk5.mono2 (q.k.mono (gs := [m.next, b]) (by simp)) (Nat.le_refl _)
    have hb5 : Mk m6 b { σ with vb := m.next, vf := m.next, vs := Lv A L, names := 0, size := 0, res := res, calls := calls } := by
      have hrl := h.rlt
      refine ⟨q.o, q.v, by simp [Lv], ?_, by show m.next ≠ b; omega, h.raw.keep kk6 (by simpa using h.rne.1), h.rl, ⟨h.rne.1, by show σ.rf ≠ m.next; omega⟩, h.at_, by show 0 ≤ 30; omega, h.loops, Nat.lt_of_lt_of_le h.rlt kk6.1⟩
      intro v hv
      obtain ⟨j, hj, rfl⟩ := List.mem_map.1 hv
      have hj : j < 7 := List.mem_range.1 hj
      have hn := q.n j hj
      refine ⟨A j, L j, F j, rfl, (q.s j hj).rs, q.e j hj, ?_, fun h0 => ?_, fun h0 => hn.2 (List.length_eq_zero_iff.1 h0)⟩
      · have := q.l j hj
        show (L j).length ≤ 0 + 4
        omega
      · have := q.f j hj (fun h1 => h0 (by rw [hn.1 h1]; rfl))
        show F j ≠ b ∧ F j ≠ m.next
        omega
    have so : ∀ {g : Nat}, g ≤ 900000000 → σ.out.length + g ≤ 900000000000 := fun hg => by omega
    have so2 : ∀ {g : Nat}, g ≤ 900000000 → σ.out.length + g ≤ 1000000000000 := fun hg => by omega
    obtain ⟨v7, m7, υ7, c7, q7, n7, s7, f7⟩ := (Cu.refl hb5).line hN 0 0 rfl (by omega) (hd ++ [32, 123]) (by simp; omega) (so2 (by omega))
    obtain ⟨v8, m8, υ8, c8, q8, n8, s8, f8⟩ := q7.line hN 1 1 rfl (by omega) [118, 97, 114, 32, 122, 32, 73] (by simp) (so2 (by omega))
    have s8 : υ8.vs = Lv A L := s8.trans s7
    have hA6 := q.z
    have hL6 : L 6 = [] := (q.n 6 (by omega)).1 hA6
    have lv := q8.m_.l.2.2.1
    have lvt : loadRow m8 ⟨υ8.vb, 6, none⟩ 1 = some [.slice none 0 0] := by
      rw [q8.m_.vo.load (off := 6) 1 (by have := q8.m_.len; omega), s8, lv_get A L (by omega), hA6, hL6]
      rfl
    simp (disch := first | omega | (simp only [List.length_append, List.length_cons, List.length_nil]; omega) | rfl) [-Int.natCast_add, -strOp, add_short, fold_k, fold_0, make_of u43 ap48, fieldAddr_of fa45_2, store_of sz43, fieldAddr_of fa45_3, store_of sz3, fieldAddr_of fa45_5, fieldAddr_of fa45_7, fieldAddr_of fa45_8, store_of sz4, len_slice u48, load_of ld43, index_slice u22 sz3, load_of ld3, index_slice u43 sz48, load_of ld48, index_slice u48 sz9, load_of ld9, buildSlice_of u48 bs9 rfl, append_s u48 sz9, store_of sz48, bin_str u9 .add (Or.inl rfl), e1, hlt2, c7, c8, lv, lvt, q8.m_.own.ln, q8.m_.vo.ln]
    generalize hrr : sappend _ _ _ _ _ _ = rr
    obtain ⟨m9, b9, fm, rfl, o9, k9, hf9, _, _⟩ := app_slz hrr u48 ap9 (Sl.nil m8 9 1 m8.next) (by omega) rfl (by simp [one_str]) (by omega) (by omega)
    have kk9 : Keeps m8 m9 [] := by simpa using k9
    have h9 := q8.m_.keep kk9
    have lv9 := h9.l.2.2.1
    simp (disch := first | omega | (simp only [List.length_append, List.length_cons, List.length_nil]; omega) | rfl) [-Int.natCast_add, -strOp, add_short, fold_k, fold_0, make_of u43 ap48, fieldAddr_of fa45_2, store_of sz43, fieldAddr_of fa45_3, store_of sz3, fieldAddr_of fa45_5, fieldAddr_of fa45_7, fieldAddr_of fa45_8, store_of sz4, len_slice u48, load_of ld43, index_slice u22 sz3, load_of ld3, index_slice u43 sz48, load_of ld48, index_slice u48 sz9, load_of ld9, buildSlice_of u48 bs9 rfl, append_s u48 sz9, store_of sz48, bin_str u9 .add (Or.inl rfl), e1, hlt2, c7, c8, lv, lvt, q8.m_.own.ln, q8.m_.vo.ln, lv9]
    generalize hrr2 : storeRow _ _ _ = rr
    obtain ⟨m10, rfl, o10, k10⟩ := store_own hrr2 h9.vo (by have := h9.len; simp; omega) (by simp [one_slice])
    have q10 := q8.push (t := 6) (nm := [122]) (ss := []) (by simp) (by simp) (by simp) (by omega) (by simpa [strC] using o9) (by rcases hf9 with h | h; exact absurd rfl h.1; exact h) kk9 rfl o10 k10
    obtain ⟨υ10, hυ10⟩ : ∃ υ, υ = { υ8 with vs := over υ8.vs 6 [.slice (some ⟨b9, 0, none⟩) (([] : List (List UInt8)).length + 1) (([] : List (List UInt8)).length + 1)] } := ⟨_, rfl⟩
    rw [← hυ10] at q10
    have hG : ∀ e, e ≤ 3 → 4 * Gt e ≤ 300000000 := fun e he => by
      rcases (by omega : e = 0 ∨ e = 1 ∨ e = 2 ∨ e = 3) with rfl | rfl | rfl | rfl <;> decide
    have hGd := hG d hd8
    have hou : υ10.out.length ≤ σ.out.length + 20000 := q10.out
    obtain ⟨v11, m11, υ11, c11, q11'⟩ := mstmts_run hN d (mall hN d (by omega)) (n := 1) q10.m_ ⟨by have e : υ10.loops = σ.loops := q10.loops; omega, by omega, by rw [q10.res]; exact hres, by omega⟩
    have q11 := q10.trans q11'
    simp only [Int.natCast_one] at c11
    have fin : ∀ {mm : Mem} {υ : Ms} {g : Nat}, Cu m6 b { σ with vb := m.next, vf := m.next, vs := Lv A L, names := 0, size := 0, res := res, calls := calls } g mm υ → g ≤ 1000000000 → ∃ υ, Mk mm b υ ∧ υ.out.length ≤ σ.out.length + 1000000000 ∧ Keeps m mm [b] ∧ υ.loops = 0 := by
      intro mm υ g q hg
      refine ⟨υ, q.m_, ?_, kk6.mono2 (q.k.mono (gs := [m.next, b]) (by simp)) (Nat.le_refl _), q.loops.trans hlo⟩
      have : υ.out.length ≤ σ.out.length + g := q.out
      omega
    by_cases hr : 0 ≤ res
    · obtain ⟨r, rfl⟩ : ∃ r : Nat, res = r := ⟨res.toNat, by omega⟩
      obtain ⟨s12, m12, υ12, c12, h12, q12, _⟩ := q11.expr hN r 2 r 2 rfl rfl (by omega) (by omega)
      obtain ⟨v13, m13, υ13, c13, q13, _⟩ := q12.line hN 1 1 rfl (by omega) (114 :: 101 :: 116 :: 117 :: 114 :: 110 :: 32 :: s12) (by simp; omega) (so2 (by omega))
      obtain ⟨v14, m14, υ14, c14, q14, _⟩ := q13.line hN 0 0 rfl (by omega) [125] (by simp) (so2 (by omega))
      simp (disch := first | omega | (simp only [List.length_append, List.length_cons, List.length_nil]; omega) | rfl) [-Int.natCast_add, -strOp, add_short, fold_k, fold_0, make_of u43 ap48, fieldAddr_of fa45_2, store_of sz43, fieldAddr_of fa45_3, store_of sz3, fieldAddr_of fa45_5, fieldAddr_of fa45_7, fieldAddr_of fa45_8, store_of sz4, len_slice u48, load_of ld43, index_slice u22 sz3, load_of ld3, index_slice u43 sz48, load_of ld48, index_slice u48 sz9, load_of ld9, buildSlice_of u48 bs9 rfl, append_s u48 sz9, store_of sz48, bin_str u9 .add (Or.inl rfl), e1, hlt2, c7, c8, lv, lvt, q8.m_.own.ln, q8.m_.vo.ln, lv9, c11, hr, c12, c13, c14]
      exact fin q14 (by omega)
    · obtain ⟨v14, m14, υ14, c14, q14, _⟩ := q11.line hN 0 0 rfl (by omega) [125] (by simp) (so2 (by omega))
      simp (disch := first | omega | (simp only [List.length_append, List.length_cons, List.length_nil]; omega) | rfl) [-Int.natCast_add, -strOp, add_short, fold_k, fold_0, make_of u43 ap48, fieldAddr_of fa45_2, store_of sz43, fieldAddr_of fa45_3, store_of sz3, fieldAddr_of fa45_5, fieldAddr_of fa45_7, fieldAddr_of fa45_8, store_of sz4, len_slice u48, load_of ld43, index_slice u22 sz3, load_of ld3, index_slice u43 sz48, load_of ld48, index_slice u48 sz9, load_of ld9, buildSlice_of u48 bs9 rfl, append_s u48 sz9, store_of sz48, bin_str u9 .add (Or.inl rfl), e1, hlt2, c7, c8, lv, lvt, q8.m_.own.ln, q8.m_.vo.ln, lv9, c11, hr, c14]
      exact fin q14 (by omega)
end Go.Proofs.YtgomgdbapgibjaaDoor.base

