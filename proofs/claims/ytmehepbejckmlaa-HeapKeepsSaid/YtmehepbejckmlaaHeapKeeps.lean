/-
  This text proves 'Rows.HeapKeepsSaid': the law 'HeapKeeps' returns true at any sizes, places and values, in whatever memory and on every tape, and its input reads as it did.
  No condition.
-/
import Derived.Test.YtmehepbejckmlaaRows
import Derived.Test.YtmehepbejckmlaaHeapKeepsA
set_option maxRecDepth 100000
set_option linter.unusedSimpArgs false
set_option linter.unusedVariables false
namespace Go.Proofs.Ytmehepbejckmlaa.heapKeeps
open Go.Sh heapBase
variable {S : Sums} {m : Mem}

theorem wf_u64 {zs : List Int} (h : ∀ n ∈ zs, (Lit.int .u64 n).wf = true) : ∀ u ∈ zs, 0 ≤ u ∧ u ≤ 18446744073709551615 := by
  intro u hu
  have := h u hu
  simp [Lit.wf, IntKind.min, IntKind.max, IntKind.bits, IntKind.signed] at this
  omega

theorem nodup_at {l : List Nat} (h : l.Nodup) {i j : Nat} {a : Nat} (h1 : l[i]? = some a) (h2 : l[j]? = some a) : i = j := by
  have hi := (List.getElem?_eq_some_iff.1 h1).1
  exact (List.getElem?_inj hi h).1 (h1.trans h2.symm)

/-- a word set in the heap, and in the row that is wanted -/
theorem kp_set {n0 hb hf wb wf : Nat} {objs : List (List Int)} {rv qv : Value} {rf qf : Nat} {bs : List (Nat × Nat)} (h : Kp n0 m hb hf wb wf objs rv qv rf qf bs) {k j : Nat} {c : List Int} {p : Nat × Nat} {v : Int} {m1 : Mem}
    (hc : objs[k]? = some c) (hp : bs[k]? = some p) (hj : j < c.length) (hv : 0 ≤ v ∧ v ≤ 18446744073709551615) (hh : HeapAt m1 hb hf wb wf ((0 : Int) :: flat 0 (objs.set k (c.set j v))) 65536) (hk : Keeps m m1 [wf]) :
    Own m1 p.1 (words c) 29 p.2 ∧ Full m1 rv (words (refsOf objs)) 29 rf ∧ Full m1 qv (wants bs objs) 34 qf ∧ Kp n0 (m1.put p.1 ⟨words c, 29, p.2⟩ (words (c.set j v))) hb hf wb wf (objs.set k (c.set j v)) rv qv rf qf bs := by
  obtain ⟨_, hr, hq, hbl, hb0, hnd, ⟨l0, l1, l2, l3⟩, z1, z2, z3⟩ := h
  have hkl := (List.getElem?_eq_some_iff.1 hc).1
  have hne : objs ≠ [] := by rintro rfl; simp at hkl
  have hnd' := hnd hne
  have hpm := List.mem_of_getElem? hp
  simp only [List.nodup_cons, List.mem_cons, not_or, List.mem_map, not_exists, not_and] at hnd'
  obtain ⟨⟨d1, d2, d3, d4⟩, ⟨d5, d6, d7⟩, ⟨d8, d9⟩, d10, d11⟩ := hnd'
  have ho : Own m1 p.1 (words c) 29 p.2 := (hb0 k p c hp hc).keep hk (by simpa using d7 p hpm)
  have kp := ho.keeps_put (fs := [p.2]) (words (c.set j v)) (by simp)
  have hr1 := hr.keep hk (fun _ => by simpa using fun e => d5 e.symm)
  have hq1 := hq.keep hk (fun _ => by simpa using fun e => d6 e.symm)
  refine ⟨ho, hr1, hq1, ?_, ?_, ?_, ?_, ?_, ?_, ⟨Nat.le_trans l0 hk.1, l1, l2, fun _ => l3 hne⟩, ?_, ?_, ?_⟩
  · exact hh.keep kp (by simpa using fun e => d4 p hpm e.symm) (by simpa using fun e => d7 p hpm e.symm)
  · rw [refsOf_set hc (by simp)]
    exact hr1.keep kp (fun _ => by simpa using fun e => d9 p hpm e.symm)
  · rw [wants_set bs objs k c _ hc (by simp)]
    exact hq1.keep kp (fun _ => by simpa using fun e => d10 p hpm e.symm)
  · simpa using hbl
  · intro k' p' c' hp' hc'
    by_cases e : k' = k
    · subst e
      rw [hp] at hp'
      simp only [Option.some.injEq] at hp'
      subst hp'
      rw [List.getElem?_set_self hkl] at hc'
      simp only [Option.some.injEq] at hc'
      subst hc'
      exact ho.put _
    · rw [List.getElem?_set_ne (Ne.symm e)] at hc'
      have hpm' := List.mem_of_getElem? hp'
      refine ((hb0 k' p' c' hp' hc').keep hk (by simpa using d7 p' hpm')).keep kp ?_
      simp only [List.mem_singleton]
      intro e2
      apply e
      have h1 : (bs.map (·.2))[k']? = some p'.2 := by simp [hp']
      have h2 : (bs.map (·.2))[k]? = some p'.2 := by simp [hp, e2]
      exact nodup_at d11 h1 h2
  · intro _; exact hnd hne
  · simpa using z1
  · rw [tot_set objs k c _ hc (by simp)]; simpa using z2
  · intro c' hc'
    rcases List.mem_or_eq_of_mem_set hc' with h1 | h1
    · exact z3 c' h1
    · have := z3 c (List.mem_of_getElem? hc)
      rw [h1]; exact ⟨by simpa using this.1, Wd_set this.2 hv⟩

/-- what Set does to it -/
theorem set_obj (hS17 : S 17 = []) (hS18 : S 18 = []) (hS36 : S 36 = []) (hS20 : S 20 = []) (hS37 : S 37 = []) (hS22 : S 22 = []) {n0 hb hf wb wf : Nat} {objs : List (List Int)} {rv qv : Value} {rf qf : Nat} {bs : List (Nat × Nat)} (h : Kp n0 m hb hf wb wf objs rv qv rf qf bs) {k j : Nat} {c : List Int} {v : Int}
    (hc : objs[k]? = some c) : ∃ m1, callw Try.prog TT S 18 [.pointer (some ⟨hb, 0, none⟩), .int .u64 ((offs objs k : Nat) : Int), .int .i64 (j : Int), .int .u64 v] m = some (.bool (decide ((j : Int) < c.length)), m1) ∧
      (j < c.length → HeapAt m1 hb hf wb wf ((0 : Int) :: flat 0 (objs.set k (c.set j v))) 65536 ∧ Keeps m m1 [wf]) ∧ (¬ j < c.length → m1 = m) := by
  have hlen : ((0 : Int) :: flat 0 objs).length = tot objs + 1 := by rw [List.length_cons, flat_length]
  have hf := fits hc
  have z1 := h.sz.1; have z2 := h.sz.2.1
  have ha := at_obj (j := (j : Int)) hc h.sz (by omega)
  by_cases hj : j < c.length
  · rw [if_pos (by omega)] at ha
    obtain ⟨m1, h1, h2, h3⟩ := put_yes (S := S) (v := v) hS17 h.h (i := offs objs k + 1 + j) (by omega) (by omega) (by omega)
    have := set_run (S := S) (i := (j : Int)) (v := v) (ok := true) (m1 := m1) hS18 hS36 hS20 hS37 hS22 h.h (r := ((offs objs k : Nat) : Int)) (by omega) (by omega) h.wd (by rw [ha]; simpa using h1)
    refine ⟨m1, by simpa [hj] using this, fun _ => ⟨by rw [← set_at hc hj]; exact h2, h3⟩, fun hn => absurd hj hn⟩
  · rw [if_neg (by omega)] at ha
    have h1 := put_no (S := S) (v := v) (at_ := 0) hS17 h.h (Or.inl rfl) (by omega)
    have := set_run (S := S) (i := (j : Int)) (v := v) (ok := false) (m1 := m) hS18 hS36 hS20 hS37 hS22 h.h (r := ((offs objs k : Nat) : Int)) (by omega) (by omega) h.wd (by rw [ha]; exact h1)
    exact ⟨m, by simpa [hj] using this, fun hn => absurd hn hj, fun _ => rfl⟩

/-- the slots of the second loop -/
structure Sm (t : Tree Value) (v1 v2 : Value) (hb i : Nat) (rv qv : Value) : Prop where
  s1 : t.get 1 = some v1
  s2 : t.get 2 = some v2
  s7 : t.get 7 = some (.pointer (some ⟨hb, 0, none⟩))
  s9 : t.get 9 = some rv
  s10 : t.get 10 = some qv
  s15 : t.get 15 = some (.int .i64 i)

theorem refs_some {n0 hb hf wb wf : Nat} {objs : List (List Int)} {rv qv : Value} {rf qf : Nat} {bs : List (Nat × Nat)} (h : Kp n0 m hb hf wb wf objs rv qv rf qf bs) (hne : objs ≠ []) :
    ∃ rb qb, rv = .slice (some ⟨rb, 0, none⟩) objs.length objs.length ∧ qv = .slice (some ⟨qb, 0, none⟩) objs.length objs.length ∧ Own m rb (words (refsOf objs)) 29 rf ∧ Own m qb (wants bs objs) 34 qf := by
  have hl : (words (refsOf objs)).length = objs.length := by simp [words, refsOf]
  have hl2 := wants_length bs objs h.bl
  rcases h.r with ⟨h1, _⟩ | ⟨_, rb, h1, h2⟩
  · exact absurd h1 (refsOf_ne hne)
  rcases h.q with ⟨h3, _⟩ | ⟨_, qb, h3, h4⟩
  · rw [h3] at hl2; simp at hl2; exact absurd (List.length_eq_zero_iff.1 hl2.symm) hne
  exact ⟨rb, qb, by rw [h1, hl], by rw [h3, hl2], h2, h4⟩

theorem rp19 : readPlaces Try.prog (opsOf r5_19) = [(4, [10]), (9, [10]), (15, [10, 19]), (16, [10, 19])] := by kernel_rfl
theorem rp22 : readPlaces Try.prog (opsOf r5_22) = [(3, [10]), (8, [10])] := by kernel_rfl

/-- the call of Set, and what is wanted of it -/
theorem b19 {t : Tree Value} {v1 : Value} {bb hb rb qb i k j n L lim : Nat} {ref v : Int} {wl : Option Addr} {m1 : Mem}
    (h1 : t.get 1 = some v1) (h2 : t.get 2 = some (.slice (some ⟨bb, 0, none⟩) L lim)) (h7 : t.get 7 = some (.pointer (some ⟨hb, 0, none⟩))) (h9 : t.get 9 = some (.slice (some ⟨rb, 0, none⟩) n n)) (h10 : t.get 10 = some (.slice (some ⟨qb, 0, none⟩) n n))
    (h15 : t.get 15 = some (.int .i64 i)) (h16 : t.get 16 = some (.int .i64 k)) (h17 : t.get 17 = some (.int .i64 j)) (hi : i < L) (hk : k < n) (him : (i : Int) ≤ 9223372036854775807) (hkm : (k : Int) ≤ 9223372036854775807) {clen : Nat}
    (hl1 : loadRow m ⟨rb, k, none⟩ 1 = some [.int .u64 ref]) (hl1' : loadRow m1 ⟨rb, k, none⟩ 1 = some [.int .u64 ref])
    (hl2 : loadRow m ⟨bb, i, none⟩ 1 = some [.int .u64 v]) (hl2' : loadRow m1 ⟨bb, i, none⟩ 1 = some [.int .u64 v])
    (hl3 : loadRow m ⟨qb, k, none⟩ 1 = some [.slice wl clen clen]) (hl3' : loadRow m1 ⟨qb, k, none⟩ 1 = some [.slice wl clen clen])
    (hc : callw Try.prog TT S 18 [.pointer (some ⟨hb, 0, none⟩), .int .u64 ref, .int .i64 (j : Int), .int .u64 v] m = some (.bool (decide ((j : Int) < clen)), m1)) :
    ∃ t', execw Try.prog TT S (.seq r5_19 (.cond (.tmp 120) (.seq r5_20 .ret) .skip)) t m = some (.normal, t', m1) ∧ t'.get 1 = t.get 1 ∧ t'.get 2 = t.get 2 ∧ t'.get 7 = t.get 7 ∧ t'.get 9 = t.get 9 ∧ t'.get 10 = t.get 10 ∧ t'.get 15 = t.get 15 ∧ t'.get 16 = t.get 16 ∧ t'.get 17 = t.get 17 := by
  rw [x_seq, x_drawn (places := [(4, [10]), (9, [10]), (15, [10, 19]), (16, [10, 19])]) (by kernel_rfl) (by kernel_rfl) (by kernel_rfl) rp19]
  simp only [r5_19, r5_20, c5, bodyOf, Try.f5, Code.sub, opsOf]
  simp [x_seq, x_region, x_cond, x_ret, x_skip, x_exit, sregion_false, sregion_quiet, floatB, quiet, loudB, sops_nil, sops_cons, sop1_plain, sop1_guard, syield, put_some, put_none, ev_tmp, ev_const, fill_nil, fill_cons, o_move, o_assign, o_bin, o_pick, o_nilCheck, o_fieldAddr, o_load, o_len, o_store, o_conv, o_un, o_extract, o_append, o_call, o_buildSlice, o_box, o_alloc, o_build, o_indexAddr, Tree.get_set, s_binOp, fastBin, s_unOp, fastUn, boolEq, sresults, sresultsL, sresult, one_int, one_slice, one_ptr, one_bool, one_str, cells_int, cells_slice, cells_ptr, cells_bool, cells_str, cells_agg, loadRow_new, window, over, -BitVec.toNat_or, -BitVec.toNat_ofInt, -BitVec.toNat_and, fieldAddr_of fa0, fieldAddr_of fa1, load_of ld3, load_of ld34, len_slice u34, len_slice u40, store_of sz34, conv_i u3 u29, build_one u34 el29, append_s u34 sz29, append_m u3 u34, box_of b58, build_of bo58, len_slice u22, index_slice u22 sz3, bin_ptr u24, bin_bool u4 .eql (Or.inl rfl), bin_bool u4 .neq (Or.inr rfl), load_of ld29, store_of sz29, index_slice u34 sz29, index_slice u40 sz34, conv_i u29 u3, build_one u40 el34, append_s u40 sz34, make_of u34 ap29, states_nil, states_cons, readsAll, readsSame, eqV_int, eqV_slice, h1, h2, h7, h9, h10, h15, h16, h17, hi, hk, him, hkm, hl1, hl1', hl2, hl2', hl3, hl3', hc]

theorem b22 {t : Tree Value} {bb qb wl i k j n L lim clen : Nat} {v : Int} {m1 : Mem}
    (h2 : t.get 2 = some (.slice (some ⟨bb, 0, none⟩) L lim)) (h10 : t.get 10 = some (.slice (some ⟨qb, 0, none⟩) n n))
    (h15 : t.get 15 = some (.int .i64 i)) (h16 : t.get 16 = some (.int .i64 k)) (h17 : t.get 17 = some (.int .i64 j)) (hi : i < L) (hk : k < n) (hj : j < clen) (him : (i : Int) ≤ 9223372036854775807) (hkm : (k : Int) ≤ 9223372036854775807) (hjm : (j : Int) ≤ 9223372036854775807)
    (hl2 : loadRow m ⟨bb, i, none⟩ 1 = some [.int .u64 v]) (hl2' : loadRow m1 ⟨bb, i, none⟩ 1 = some [.int .u64 v])
    (hl3 : loadRow m ⟨qb, k, none⟩ 1 = some [.slice (some ⟨wl, 0, none⟩) clen clen]) (hl3' : loadRow m1 ⟨qb, k, none⟩ 1 = some [.slice (some ⟨wl, 0, none⟩) clen clen])
    (hst : storeRow m ⟨wl, j, none⟩ [.int .u64 v] = some m1) :
    ∃ t', execw Try.prog TT S r5_22 t m = some (.normal, t', m1) ∧ t'.get 1 = t.get 1 ∧ t'.get 2 = t.get 2 ∧ t'.get 7 = t.get 7 ∧ t'.get 9 = t.get 9 ∧ t'.get 10 = t.get 10 ∧ t'.get 15 = t.get 15 := by
  rw [x_drawn (places := [(3, [10]), (8, [10])]) (by kernel_rfl) (by kernel_rfl) (by kernel_rfl) rp22]
  simp only [r5_22, c5, bodyOf, Try.f5, Code.sub, opsOf]
  simp [x_seq, x_region, x_cond, x_ret, x_skip, x_exit, sregion_false, sregion_quiet, floatB, quiet, loudB, sops_nil, sops_cons, sop1_plain, sop1_guard, syield, put_some, put_none, ev_tmp, ev_const, fill_nil, fill_cons, o_move, o_assign, o_bin, o_pick, o_nilCheck, o_fieldAddr, o_load, o_len, o_store, o_conv, o_un, o_extract, o_append, o_call, o_buildSlice, o_box, o_alloc, o_build, o_indexAddr, Tree.get_set, s_binOp, fastBin, s_unOp, fastUn, boolEq, sresults, sresultsL, sresult, one_int, one_slice, one_ptr, one_bool, one_str, cells_int, cells_slice, cells_ptr, cells_bool, cells_str, cells_agg, loadRow_new, window, over, -BitVec.toNat_or, -BitVec.toNat_ofInt, -BitVec.toNat_and, fieldAddr_of fa0, fieldAddr_of fa1, load_of ld3, load_of ld34, len_slice u34, len_slice u40, store_of sz34, conv_i u3 u29, build_one u34 el29, append_s u34 sz29, append_m u3 u34, box_of b58, build_of bo58, len_slice u22, index_slice u22 sz3, bin_ptr u24, bin_bool u4 .eql (Or.inl rfl), bin_bool u4 .neq (Or.inr rfl), load_of ld29, store_of sz29, index_slice u34 sz29, index_slice u40 sz34, conv_i u29 u3, build_one u40 el34, append_s u40 sz34, make_of u34 ap29, states_nil, states_cons, readsAll, readsSame, eqV_int, eqV_slice, h2, h10, h15, h16, h17, hi, hk, hj, him, hkm, hjm, hl2, hl2', hl3, hl3', hst]

noncomputable def roundB : Code := .seq (.seq r5_16 (.cond (.tmp 86) .skip (.exit 2))) (.seq (.block 3 (.seq r5_17 (.seq r5_18 (.seq (.seq r5_19 (.cond (.tmp 120) (.seq r5_20 .ret) .skip)) (.seq r5_21 (.cond (.tmp 127) r5_22 .skip)))))) r5_23)

/-- a round of the second loop sets a word and what is wanted of it, or neither -/
theorem roundB_set (hS9 : S 9 = []) (hS17 : S 17 = []) (hS18 : S 18 = []) (hS36 : S 36 = []) (hS20 : S 20 = []) (hS37 : S 37 = []) (hS22 : S 22 = []) {t : Tree Value} {la lf lb lg c c2 n0 hb hf wb wf i : Nat} {zs us : List Int} {objs : List (List Int)} {rv qv : Value} {rf qf : Nat} {bs : List (Nat × Nat)}
    (h1 : t.get 1 = some (.slice (some ⟨la, 0, none⟩) zs.length c)) (h2 : t.get 2 = some (.slice (some ⟨lb, 0, none⟩) us.length c2)) (h7 : t.get 7 = some (.pointer (some ⟨hb, 0, none⟩))) (h9 : t.get 9 = some rv) (h10 : t.get 10 = some qv) (h15 : t.get 15 = some (.int .i64 i))
    (hlf : lf < n0) (hlg : lg < n0) (hp : Kp n0 m hb hf wb wf objs rv qv rf qf bs) (hne : objs ≠ []) (hr : Rdo m la (zs.map (Value.int .i64)) 3 lf) (hr2 : Rdo m lb (us.map (Value.int .u64)) 29 lg) (hu : ∀ u ∈ us, 0 ≤ u ∧ u ≤ 18446744073709551615) (hi : i < zs.length) (hi2 : i < us.length) (hi3 : i < 100) :
    ∃ t' m' objs', execw Try.prog TT S (.seq r5_17 (.seq r5_18 (.seq (.seq r5_19 (.cond (.tmp 120) (.seq r5_20 .ret) .skip)) (.seq r5_21 (.cond (.tmp 127) r5_22 .skip))))) t m = some (.normal, t', m') ∧ objs' ≠ [] ∧ Kp n0 m' hb hf wb wf objs' rv qv rf qf bs ∧
      Rdo m' la (zs.map (Value.int .i64)) 3 lf ∧ Rdo m' lb (us.map (Value.int .u64)) 29 lg ∧ t'.get 1 = t.get 1 ∧ t'.get 2 = t.get 2 ∧ t'.get 7 = t.get 7 ∧ t'.get 9 = t.get 9 ∧ t'.get 10 = t.get 10 ∧ t'.get 15 = t.get 15 := by
  obtain ⟨rb, qb, e1, e2, ho1, ho2⟩ := refs_some hp hne
  have him : (i : Int) ≤ 9223372036854775807 := by omega
  have hl0 : 0 < objs.length := List.length_pos_iff.2 hne
  have hz := hp.sz.1
  have hl : loadRow m ⟨la, i, none⟩ 1 = some [.int .i64 (zs.getD i 0)] := hr.load1 (by simp [List.getD_eq_getElem?_getD, List.getElem?_eq_getElem hi])
  generalize zs.getD i 0 = z at hl
  obtain ⟨v, hv⟩ : ∃ v, us[i]? = some v := ⟨us[i], by simp [hi2]⟩
  have hvr := hu v (List.mem_of_getElem? hv)
  have hrd : ∀ m', Rdo m' lb (us.map (Value.int .u64)) 29 lg → loadRow m' ⟨lb, i, none⟩ 1 = some [.int .u64 v] := fun m' h => h.load1 (by simp [hv])
  have hpk := pick_run (m := m) hS9 z (objs.length : Int) (by omega) (by omega)
  have q0 : 0 ≤ z % (objs.length : Int) := Int.emod_nonneg _ (by omega)
  have q0' : z % (objs.length : Int) < objs.length := Int.emod_lt_of_pos _ (by omega)
  obtain ⟨k, hk⟩ : ∃ k : Nat, z % (objs.length : Int) = k := ⟨(z % (objs.length : Int)).toNat, by omega⟩
  rw [hk] at hpk
  have hkl : k < objs.length := by omega
  obtain ⟨co, hco⟩ : ∃ co, objs[k]? = some co := ⟨objs[k], by simp [hkl]⟩
  obtain ⟨p, hpb⟩ : ∃ p, bs[k]? = some p := ⟨bs[k]'(by have := hp.bl; omega), by simp [hp.bl, hkl]⟩
  have a9 : t.get 9 = some (.slice (some ⟨rb, 0, none⟩) objs.length objs.length) := by rw [h9, e1]
  have a10 : t.get 10 = some (.slice (some ⟨qb, 0, none⟩) objs.length objs.length) := by rw [h10, e2]
  have p17 : ∃ t1, execw Try.prog TT S r5_17 t m = some (.normal, t1, m) ∧ t1.get 1 = t.get 1 ∧ t1.get 2 = t.get 2 ∧ t1.get 7 = t.get 7 ∧ t1.get 9 = t.get 9 ∧ t1.get 10 = t.get 10 ∧ t1.get 15 = t.get 15 ∧ t1.get 16 = some (.int .i64 k) := by
    simp only [r5_17, c5, bodyOf, Try.f5, Code.sub]
    simp [x_seq, x_region, x_cond, x_ret, x_skip, x_exit, sregion_false, sregion_quiet, floatB, quiet, loudB, sops_nil, sops_cons, sop1_plain, sop1_guard, syield, put_some, put_none, ev_tmp, ev_const, fill_nil, fill_cons, o_move, o_assign, o_bin, o_pick, o_nilCheck, o_fieldAddr, o_load, o_len, o_store, o_conv, o_un, o_extract, o_append, o_call, o_buildSlice, o_box, o_alloc, o_build, o_indexAddr, Tree.get_set, s_binOp, fastBin, s_unOp, fastUn, boolEq, sresults, sresultsL, sresult, one_int, one_slice, one_ptr, one_bool, one_str, cells_int, cells_slice, cells_ptr, cells_bool, cells_str, cells_agg, loadRow_new, window, over, -BitVec.toNat_or, -BitVec.toNat_ofInt, -BitVec.toNat_and, fieldAddr_of fa0, fieldAddr_of fa1, load_of ld3, load_of ld34, len_slice u34, len_slice u40, store_of sz34, conv_i u3 u29, build_one u34 el29, append_s u34 sz29, append_m u3 u34, box_of b58, build_of bo58, len_slice u22, index_slice u22 sz3, bin_ptr u24, bin_bool u4 .eql (Or.inl rfl), bin_bool u4 .neq (Or.inr rfl), load_of ld29, store_of sz29, index_slice u34 sz29, index_slice u40 sz34, conv_i u29 u3, build_one u40 el34, append_s u40 sz34, make_of u34 ap29, h1, h2, h7, a9, a10, h15, hi, him, hl, hpk]
  obtain ⟨t1, g1, b1, b2, b7, b9, b10, b15, b16⟩ := p17
  have c1 := b1.trans h1; have c2' := b2.trans h2; have c7 := b7.trans h7; have c9 := b9.trans a9; have c10 := b10.trans a10; have c15 := b15.trans h15
  have p18 : ∃ t2, ∃ j : Nat, execw Try.prog TT S r5_18 t1 m = some (.normal, t2, m) ∧ t2.get 1 = t1.get 1 ∧ t2.get 2 = t1.get 2 ∧ t2.get 7 = t1.get 7 ∧ t2.get 9 = t1.get 9 ∧ t2.get 10 = t1.get 10 ∧ t2.get 15 = t1.get 15 ∧ t2.get 16 = t1.get 16 ∧ t2.get 17 = some (.int .i64 j) ∧ j < 9 := by
    have hpk2 := pick_run (m := m) hS9 (IntKind.i64.wrap (z.tdiv 30)) 9 (by omega) (by omega)
    have r0 : 0 ≤ IntKind.i64.wrap (z.tdiv 30) % 9 := Int.emod_nonneg _ (by omega)
    have r0' : IntKind.i64.wrap (z.tdiv 30) % 9 < 9 := Int.emod_lt_of_pos _ (by omega)
    obtain ⟨j, hj⟩ : ∃ j : Nat, IntKind.i64.wrap (z.tdiv 30) % 9 = j := ⟨(IntKind.i64.wrap (z.tdiv 30) % 9).toNat, by omega⟩
    rw [hj] at hpk2
    have : ∃ t2, execw Try.prog TT S r5_18 t1 m = some (.normal, t2, m) ∧ t2.get 1 = t1.get 1 ∧ t2.get 2 = t1.get 2 ∧ t2.get 7 = t1.get 7 ∧ t2.get 9 = t1.get 9 ∧ t2.get 10 = t1.get 10 ∧ t2.get 15 = t1.get 15 ∧ t2.get 16 = t1.get 16 ∧ t2.get 17 = some (.int .i64 j) := by
      simp only [r5_18, c5, bodyOf, Try.f5, Code.sub]
      simp [x_seq, x_region, x_cond, x_ret, x_skip, x_exit, sregion_false, sregion_quiet, floatB, quiet, loudB, sops_nil, sops_cons, sop1_plain, sop1_guard, syield, put_some, put_none, ev_tmp, ev_const, fill_nil, fill_cons, o_move, o_assign, o_bin, o_pick, o_nilCheck, o_fieldAddr, o_load, o_len, o_store, o_conv, o_un, o_extract, o_append, o_call, o_buildSlice, o_box, o_alloc, o_build, o_indexAddr, Tree.get_set, s_binOp, fastBin, s_unOp, fastUn, boolEq, sresults, sresultsL, sresult, one_int, one_slice, one_ptr, one_bool, one_str, cells_int, cells_slice, cells_ptr, cells_bool, cells_str, cells_agg, loadRow_new, window, over, -BitVec.toNat_or, -BitVec.toNat_ofInt, -BitVec.toNat_and, fieldAddr_of fa0, fieldAddr_of fa1, load_of ld3, load_of ld34, len_slice u34, len_slice u40, store_of sz34, conv_i u3 u29, build_one u34 el29, append_s u34 sz29, append_m u3 u34, box_of b58, build_of bo58, len_slice u22, index_slice u22 sz3, bin_ptr u24, bin_bool u4 .eql (Or.inl rfl), bin_bool u4 .neq (Or.inr rfl), load_of ld29, store_of sz29, index_slice u34 sz29, index_slice u40 sz34, conv_i u29 u3, build_one u40 el34, append_s u40 sz34, make_of u34 ap29, c1, c2', c7, c9, c10, c15, b16, hi, him, hl, hpk2]
    obtain ⟨t2, g⟩ := this
    exact ⟨t2, j, g.1, g.2.1, g.2.2.1, g.2.2.2.1, g.2.2.2.2.1, g.2.2.2.2.2.1, g.2.2.2.2.2.2.1, g.2.2.2.2.2.2.2.1, g.2.2.2.2.2.2.2.2, by omega⟩
  obtain ⟨t2, j, g2, d1, d2, d7, d9, d10, d15, d16, d17, hj9⟩ := p18
  have f1 := d1.trans c1; have f2 := d2.trans c2'; have f7 := d7.trans c7; have f9 := d9.trans c9; have f10 := d10.trans c10; have f15 := d15.trans c15; have f16 := d16.trans b16
  obtain ⟨m1, hc, hyes, hno⟩ := set_obj (S := S) (j := j) (v := v) hS17 hS18 hS36 hS20 hS37 hS22 hp hco
  have l1 : loadRow m ⟨rb, k, none⟩ 1 = some [.int .u64 ((offs objs k : Nat) : Int)] := ho1.load1 (by simp [words, refsOf, hkl])
  have l3 : loadRow m ⟨qb, k, none⟩ 1 = some [.slice (some ⟨p.1, 0, none⟩) co.length co.length] := ho2.load1 (wants_at bs objs k p co hpb hco)
  by_cases hj : j < co.length
  · obtain ⟨hh, hkp⟩ := hyes hj
    obtain ⟨hown, hr1, hq1, hkp2⟩ := kp_set hp hco hpb hj hvr hh hkp
    have hnd := hp.nd hne
    simp only [List.nodup_cons, List.mem_cons, not_or, List.mem_map, not_exists, not_and] at hnd
    have hlo := hp.lo.2.2.2 hne
    have hpm := List.mem_of_getElem? hpb
    have ho1' := ho1.keep hkp (by simpa using fun e => hnd.2.1.1 e.symm)
    have ho2' := ho2.keep hkp (by simpa using fun e => hnd.2.1.2.1 e.symm)
    have hrA := hr.keep hkp (by simp; have := hp.lo.2.2.1; omega)
    have hrB := hr2.keep hkp (by simp; have := hp.lo.2.2.1; omega)
    have l1' : loadRow m1 ⟨rb, k, none⟩ 1 = some [.int .u64 ((offs objs k : Nat) : Int)] := ho1'.load1 (by simp [words, refsOf, hkl])
    have l3' : loadRow m1 ⟨qb, k, none⟩ 1 = some [.slice (some ⟨p.1, 0, none⟩) co.length co.length] := ho2'.load1 (wants_at bs objs k p co hpb hco)
    obtain ⟨t3, g3, i1, i2, i7, i9, i10, i15, i16, i17⟩ := b19 (S := S) f1 f2 f7 f9 f10 f15 f16 d17 hi2 hkl him (by omega) l1 l1' (hrd m hr2) (hrd m1 hrB) l3 l3' hc
    have s1 := i1.trans f1; have s2 := i2.trans f2; have s7 := i7.trans f7; have s9 := i9.trans f9; have s10 := i10.trans f10; have s15 := i15.trans f15; have s16 := i16.trans f16; have s17 := i17.trans d17
    have hji : (j : Int) < co.length := by omega
    have p21 : ∃ t4, execw Try.prog TT S r5_21 t3 m1 = some (.normal, t4, m1) ∧ t4.get 127 = some (.bool true) ∧ t4.get 1 = t3.get 1 ∧ t4.get 2 = t3.get 2 ∧ t4.get 7 = t3.get 7 ∧ t4.get 9 = t3.get 9 ∧ t4.get 10 = t3.get 10 ∧ t4.get 15 = t3.get 15 ∧ t4.get 16 = t3.get 16 ∧ t4.get 17 = t3.get 17 := by
      have hkm : (k : Int) ≤ 9223372036854775807 := by omega
      simp only [r5_21, c5, bodyOf, Try.f5, Code.sub]
      simp [x_seq, x_region, x_cond, x_ret, x_skip, x_exit, sregion_false, sregion_quiet, floatB, quiet, loudB, sops_nil, sops_cons, sop1_plain, sop1_guard, syield, put_some, put_none, ev_tmp, ev_const, fill_nil, fill_cons, o_move, o_assign, o_bin, o_pick, o_nilCheck, o_fieldAddr, o_load, o_len, o_store, o_conv, o_un, o_extract, o_append, o_call, o_buildSlice, o_box, o_alloc, o_build, o_indexAddr, Tree.get_set, s_binOp, fastBin, s_unOp, fastUn, boolEq, sresults, sresultsL, sresult, one_int, one_slice, one_ptr, one_bool, one_str, cells_int, cells_slice, cells_ptr, cells_bool, cells_str, cells_agg, loadRow_new, window, over, -BitVec.toNat_or, -BitVec.toNat_ofInt, -BitVec.toNat_and, fieldAddr_of fa0, fieldAddr_of fa1, load_of ld3, load_of ld34, len_slice u34, len_slice u40, store_of sz34, conv_i u3 u29, build_one u34 el29, append_s u34 sz29, append_m u3 u34, box_of b58, build_of bo58, len_slice u22, index_slice u22 sz3, bin_ptr u24, bin_bool u4 .eql (Or.inl rfl), bin_bool u4 .neq (Or.inr rfl), load_of ld29, store_of sz29, index_slice u34 sz29, index_slice u40 sz34, conv_i u29 u3, build_one u40 el34, append_s u40 sz34, make_of u34 ap29, s1, s2, s7, s9, s10, s15, s16, s17, hkl, hkm, l3', hji, hj]
    obtain ⟨t4, g4, j127, j1, j2, j7, j9, j10, j15, j16, j17⟩ := p21
    have kp := hown.keeps_put (fs := [p.2]) (words (co.set j v)) (by simp)
    have hnw : qf ≠ p.2 := fun e => hnd.2.2.2.1 p hpm e.symm
    have ho2'' := ho2'.keep kp (by simpa using hnw)
    have hrA' := hrA.keep kp (by simp; have := hlo.2.2 p hpm; omega)
    have hrB' := hrB.keep kp (by simp; have := hlo.2.2 p hpm; omega)
    have hst := hown.store (off := j) (vs := [.int .u64 v]) (by simp [words]; omega) (by simp [one_int])
    have eo : over (words co) j [.int .u64 v] = words (co.set j v) := by
      simp only [over, words, List.map_set]
      rw [List.set_eq_take_append_cons_drop, if_pos (by simpa using hj)]
      simp
    rw [eo] at hst
    obtain ⟨t5, g5, u1, u2, u7, u9, u10, u15⟩ := b22 (S := S) (j2.trans s2) (j10.trans s10) (j15.trans s15) (j16.trans s16) (j17.trans s17) hi2 hkl hj him (by omega) (by omega) (hrd m1 hrB) (hrd _ hrB') l3' (ho2''.load1 (wants_at bs objs k p co hpb hco)) hst
    refine ⟨t5, _, _, seq_ok g1 (seq_ok g2 (seq_ok g3 (seq_ok g4 (cond_t j127 g5)))), ?_, hkp2, hrA', hrB', ?_⟩
    · intro e; have : (objs.set k (co.set j v)).length = 0 := by rw [e]; rfl
      simp at this; exact hne this
    · exact ⟨u1.trans (j1.trans (i1.trans (d1.trans b1))), u2.trans (j2.trans (i2.trans (d2.trans b2))), u7.trans (j7.trans (i7.trans (d7.trans b7))), u9.trans (j9.trans (i9.trans (d9.trans b9))), u10.trans (j10.trans (i10.trans (d10.trans b10))), u15.trans (j15.trans (i15.trans (d15.trans b15)))⟩
  · have := hno hj
    subst this
    obtain ⟨t3, g3, i1, i2, i7, i9, i10, i15, i16, i17⟩ := b19 (S := S) f1 f2 f7 f9 f10 f15 f16 d17 hi2 hkl him (by omega) l1 l1 (hrd m1 hr2) (hrd m1 hr2) l3 l3 hc
    have s1 := i1.trans f1; have s2 := i2.trans f2; have s7 := i7.trans f7; have s9 := i9.trans f9; have s10 := i10.trans f10; have s15 := i15.trans f15; have s16 := i16.trans f16; have s17 := i17.trans d17
    have hji : ¬ (j : Int) < co.length := by omega
    have p21 : ∃ t4, execw Try.prog TT S r5_21 t3 m1 = some (.normal, t4, m1) ∧ t4.get 127 = some (.bool false) ∧ t4.get 1 = t3.get 1 ∧ t4.get 2 = t3.get 2 ∧ t4.get 7 = t3.get 7 ∧ t4.get 9 = t3.get 9 ∧ t4.get 10 = t3.get 10 ∧ t4.get 15 = t3.get 15 := by
      have hkm : (k : Int) ≤ 9223372036854775807 := by omega
      simp only [r5_21, c5, bodyOf, Try.f5, Code.sub]
      simp [x_seq, x_region, x_cond, x_ret, x_skip, x_exit, sregion_false, sregion_quiet, floatB, quiet, loudB, sops_nil, sops_cons, sop1_plain, sop1_guard, syield, put_some, put_none, ev_tmp, ev_const, fill_nil, fill_cons, o_move, o_assign, o_bin, o_pick, o_nilCheck, o_fieldAddr, o_load, o_len, o_store, o_conv, o_un, o_extract, o_append, o_call, o_buildSlice, o_box, o_alloc, o_build, o_indexAddr, Tree.get_set, s_binOp, fastBin, s_unOp, fastUn, boolEq, sresults, sresultsL, sresult, one_int, one_slice, one_ptr, one_bool, one_str, cells_int, cells_slice, cells_ptr, cells_bool, cells_str, cells_agg, loadRow_new, window, over, -BitVec.toNat_or, -BitVec.toNat_ofInt, -BitVec.toNat_and, fieldAddr_of fa0, fieldAddr_of fa1, load_of ld3, load_of ld34, len_slice u34, len_slice u40, store_of sz34, conv_i u3 u29, build_one u34 el29, append_s u34 sz29, append_m u3 u34, box_of b58, build_of bo58, len_slice u22, index_slice u22 sz3, bin_ptr u24, bin_bool u4 .eql (Or.inl rfl), bin_bool u4 .neq (Or.inr rfl), load_of ld29, store_of sz29, index_slice u34 sz29, index_slice u40 sz34, conv_i u29 u3, build_one u40 el34, append_s u40 sz34, make_of u34 ap29, s1, s2, s7, s9, s10, s15, s16, s17, hkl, hkm, l3, hji, hj]
    obtain ⟨t4, g4, j127, j1, j2, j7, j9, j10, j15⟩ := p21
    refine ⟨t4, m1, objs, seq_ok g1 (seq_ok g2 (seq_ok g3 (seq_ok g4 (cond_f j127 x_skip)))), hne, hp, hr, hr2, ?_⟩
    exact ⟨j1.trans (i1.trans (d1.trans b1)), j2.trans (i2.trans (d2.trans b2)), j7.trans (i7.trans (d7.trans b7)), j9.trans (i9.trans (d9.trans b9)), j10.trans (i10.trans (d10.trans b10)), j15.trans (i15.trans (d15.trans b15))⟩

theorem loopB (hS9 : S 9 = []) (hS17 : S 17 = []) (hS18 : S 18 = []) (hS36 : S 36 = []) (hS20 : S 20 = []) (hS37 : S 37 = []) (hS22 : S 22 = []) {ao bo : Option Addr} {la lf lb lg c c2 n0 hb hf wb wf : Nat} {zs us : List Int} {rv qv : Value} {rf qf : Nat} {bs : List (Nat × Nat)}
    (hlf : lf < n0) (hlg : lg < n0) (ha : zs ≠ [] → ao = some ⟨la, 0, none⟩) (hb0 : us ≠ [] → bo = some ⟨lb, 0, none⟩) (hu : ∀ u ∈ us, 0 ≤ u ∧ u ≤ 18446744073709551615) :
    ∀ (d i : Nat) (m : Mem) (t : Tree Value) (objs : List (List Int)), 100 - i ≤ d → i ≤ 100 → Sm t (.slice ao zs.length c) (.slice bo us.length c2) hb i rv qv → Kp n0 m hb hf wb wf objs rv qv rf qf bs → (zs ≠ [] → Rdo m la (zs.map (Value.int .i64)) 3 lf) → (us ≠ [] → Rdo m lb (us.map (Value.int .u64)) 29 lg) →
      ∃ t' m' objs' i', execw Try.prog TT S (.loop roundB) t m = some (.exit 2, t', m') ∧ Sm t' (.slice ao zs.length c) (.slice bo us.length c2) hb i' rv qv ∧ Kp n0 m' hb hf wb wf objs' rv qv rf qf bs := by
  intro d
  have guard : ∀ (i : Nat) (m : Mem) (t : Tree Value) (objs : List (List Int)), i ≤ 100 → Sm t (.slice ao zs.length c) (.slice bo us.length c2) hb i rv qv → Kp n0 m hb hf wb wf objs rv qv rf qf bs →
      ∃ t', execw Try.prog TT S (.seq r5_16 (.cond (.tmp 86) .skip (.exit 2))) t m = some (if i < zs.length ∧ i < us.length ∧ objs ≠ [] ∧ i < 100 then .normal else .exit 2, t', m) ∧ Sm t' (.slice ao zs.length c) (.slice bo us.length c2) hb i rv qv := by
    intro i m t objs hi h hp
    obtain ⟨s1, s2, s7, s9, s10, s15⟩ := h
    have hrv : ∃ ra, rv = .slice ra objs.length objs.length := by
      by_cases e : objs = []
      · rcases hp.r with ⟨_, h2⟩ | ⟨h1, _⟩
        · exact ⟨none, by rw [h2, e]; rfl⟩
        · exact absurd e (refsOf_nil h1)
      · obtain ⟨rb, qb, e1, _⟩ := refs_some hp e
        exact ⟨_, e1⟩
    obtain ⟨ra, hra⟩ := hrv
    have a9 : t.get 9 = some (.slice ra objs.length objs.length) := by rw [s9, hra]
    have : ∃ t', execw Try.prog TT S (.seq r5_16 (.cond (.tmp 86) .skip (.exit 2))) t m = some (if i < zs.length ∧ i < us.length ∧ objs ≠ [] ∧ i < 100 then .normal else .exit 2, t', m) ∧ t'.get 1 = t.get 1 ∧ t'.get 2 = t.get 2 ∧ t'.get 7 = t.get 7 ∧ t'.get 9 = t.get 9 ∧ t'.get 10 = t.get 10 ∧ t'.get 15 = t.get 15 := by
      simp only [r5_16, c5, bodyOf, Try.f5, Code.sub]
      by_cases a : i < zs.length
      · have e1 : ((i : Int) < zs.length) := by omega
        by_cases b : i < us.length
        · have e2 : ((i : Int) < us.length) := by omega
          by_cases ob : objs = []
          · subst ob
            simp [x_seq, x_region, x_cond, x_ret, x_skip, x_exit, sregion_false, sregion_quiet, floatB, quiet, loudB, sops_nil, sops_cons, sop1_plain, sop1_guard, syield, put_some, put_none, ev_tmp, ev_const, fill_nil, fill_cons, o_move, o_assign, o_bin, o_pick, o_nilCheck, o_fieldAddr, o_load, o_len, o_store, o_conv, o_un, o_extract, o_append, o_call, o_buildSlice, o_box, o_alloc, o_build, o_indexAddr, Tree.get_set, s_binOp, fastBin, s_unOp, fastUn, boolEq, sresults, sresultsL, sresult, one_int, one_slice, one_ptr, one_bool, one_str, cells_int, cells_slice, cells_ptr, cells_bool, cells_str, cells_agg, loadRow_new, window, over, -BitVec.toNat_or, -BitVec.toNat_ofInt, -BitVec.toNat_and, fieldAddr_of fa0, fieldAddr_of fa1, load_of ld3, load_of ld34, len_slice u34, len_slice u40, store_of sz34, conv_i u3 u29, build_one u34 el29, append_s u34 sz29, append_m u3 u34, box_of b58, build_of bo58, len_slice u22, index_slice u22 sz3, bin_ptr u24, bin_bool u4 .eql (Or.inl rfl), bin_bool u4 .neq (Or.inr rfl), load_of ld29, store_of sz29, index_slice u34 sz29, index_slice u40 sz34, conv_i u29 u3, build_one u40 el34, append_s u40 sz34, make_of u34 ap29, s1, s2, s7, a9, s10, s15, a, e1, b, e2]
          · have e3 : 0 < objs.length := List.length_pos_iff.2 ob
            by_cases q : i < 100
            · have e4 : (i : Int) < 100 := by omega
              simp [x_seq, x_region, x_cond, x_ret, x_skip, x_exit, sregion_false, sregion_quiet, floatB, quiet, loudB, sops_nil, sops_cons, sop1_plain, sop1_guard, syield, put_some, put_none, ev_tmp, ev_const, fill_nil, fill_cons, o_move, o_assign, o_bin, o_pick, o_nilCheck, o_fieldAddr, o_load, o_len, o_store, o_conv, o_un, o_extract, o_append, o_call, o_buildSlice, o_box, o_alloc, o_build, o_indexAddr, Tree.get_set, s_binOp, fastBin, s_unOp, fastUn, boolEq, sresults, sresultsL, sresult, one_int, one_slice, one_ptr, one_bool, one_str, cells_int, cells_slice, cells_ptr, cells_bool, cells_str, cells_agg, loadRow_new, window, over, -BitVec.toNat_or, -BitVec.toNat_ofInt, -BitVec.toNat_and, fieldAddr_of fa0, fieldAddr_of fa1, load_of ld3, load_of ld34, len_slice u34, len_slice u40, store_of sz34, conv_i u3 u29, build_one u34 el29, append_s u34 sz29, append_m u3 u34, box_of b58, build_of bo58, len_slice u22, index_slice u22 sz3, bin_ptr u24, bin_bool u4 .eql (Or.inl rfl), bin_bool u4 .neq (Or.inr rfl), load_of ld29, store_of sz29, index_slice u34 sz29, index_slice u40 sz34, conv_i u29 u3, build_one u40 el34, append_s u40 sz34, make_of u34 ap29, s1, s2, s7, a9, s10, s15, a, e1, b, e2, e3, q, e4, ob]
            · have e4 : ¬ (i : Int) < 100 := by omega
              simp [x_seq, x_region, x_cond, x_ret, x_skip, x_exit, sregion_false, sregion_quiet, floatB, quiet, loudB, sops_nil, sops_cons, sop1_plain, sop1_guard, syield, put_some, put_none, ev_tmp, ev_const, fill_nil, fill_cons, o_move, o_assign, o_bin, o_pick, o_nilCheck, o_fieldAddr, o_load, o_len, o_store, o_conv, o_un, o_extract, o_append, o_call, o_buildSlice, o_box, o_alloc, o_build, o_indexAddr, Tree.get_set, s_binOp, fastBin, s_unOp, fastUn, boolEq, sresults, sresultsL, sresult, one_int, one_slice, one_ptr, one_bool, one_str, cells_int, cells_slice, cells_ptr, cells_bool, cells_str, cells_agg, loadRow_new, window, over, -BitVec.toNat_or, -BitVec.toNat_ofInt, -BitVec.toNat_and, fieldAddr_of fa0, fieldAddr_of fa1, load_of ld3, load_of ld34, len_slice u34, len_slice u40, store_of sz34, conv_i u3 u29, build_one u34 el29, append_s u34 sz29, append_m u3 u34, box_of b58, build_of bo58, len_slice u22, index_slice u22 sz3, bin_ptr u24, bin_bool u4 .eql (Or.inl rfl), bin_bool u4 .neq (Or.inr rfl), load_of ld29, store_of sz29, index_slice u34 sz29, index_slice u40 sz34, conv_i u29 u3, build_one u40 el34, append_s u40 sz34, make_of u34 ap29, s1, s2, s7, a9, s10, s15, a, e1, b, e2, e3, q, e4, ob]
        · have e2 : ¬ ((i : Int) < us.length) := by omega
          simp [x_seq, x_region, x_cond, x_ret, x_skip, x_exit, sregion_false, sregion_quiet, floatB, quiet, loudB, sops_nil, sops_cons, sop1_plain, sop1_guard, syield, put_some, put_none, ev_tmp, ev_const, fill_nil, fill_cons, o_move, o_assign, o_bin, o_pick, o_nilCheck, o_fieldAddr, o_load, o_len, o_store, o_conv, o_un, o_extract, o_append, o_call, o_buildSlice, o_box, o_alloc, o_build, o_indexAddr, Tree.get_set, s_binOp, fastBin, s_unOp, fastUn, boolEq, sresults, sresultsL, sresult, one_int, one_slice, one_ptr, one_bool, one_str, cells_int, cells_slice, cells_ptr, cells_bool, cells_str, cells_agg, loadRow_new, window, over, -BitVec.toNat_or, -BitVec.toNat_ofInt, -BitVec.toNat_and, fieldAddr_of fa0, fieldAddr_of fa1, load_of ld3, load_of ld34, len_slice u34, len_slice u40, store_of sz34, conv_i u3 u29, build_one u34 el29, append_s u34 sz29, append_m u3 u34, box_of b58, build_of bo58, len_slice u22, index_slice u22 sz3, bin_ptr u24, bin_bool u4 .eql (Or.inl rfl), bin_bool u4 .neq (Or.inr rfl), load_of ld29, store_of sz29, index_slice u34 sz29, index_slice u40 sz34, conv_i u29 u3, build_one u40 el34, append_s u40 sz34, make_of u34 ap29, s1, s2, s7, a9, s10, s15, a, e1, b, e2]
      · have e1 : ¬ ((i : Int) < zs.length) := by omega
        simp [x_seq, x_region, x_cond, x_ret, x_skip, x_exit, sregion_false, sregion_quiet, floatB, quiet, loudB, sops_nil, sops_cons, sop1_plain, sop1_guard, syield, put_some, put_none, ev_tmp, ev_const, fill_nil, fill_cons, o_move, o_assign, o_bin, o_pick, o_nilCheck, o_fieldAddr, o_load, o_len, o_store, o_conv, o_un, o_extract, o_append, o_call, o_buildSlice, o_box, o_alloc, o_build, o_indexAddr, Tree.get_set, s_binOp, fastBin, s_unOp, fastUn, boolEq, sresults, sresultsL, sresult, one_int, one_slice, one_ptr, one_bool, one_str, cells_int, cells_slice, cells_ptr, cells_bool, cells_str, cells_agg, loadRow_new, window, over, -BitVec.toNat_or, -BitVec.toNat_ofInt, -BitVec.toNat_and, fieldAddr_of fa0, fieldAddr_of fa1, load_of ld3, load_of ld34, len_slice u34, len_slice u40, store_of sz34, conv_i u3 u29, build_one u34 el29, append_s u34 sz29, append_m u3 u34, box_of b58, build_of bo58, len_slice u22, index_slice u22 sz3, bin_ptr u24, bin_bool u4 .eql (Or.inl rfl), bin_bool u4 .neq (Or.inr rfl), load_of ld29, store_of sz29, index_slice u34 sz29, index_slice u40 sz34, conv_i u29 u3, build_one u40 el34, append_s u40 sz34, make_of u34 ap29, s1, s2, s7, a9, s10, s15, a, e1]
    obtain ⟨t', g, g1, g2, g7, g9, g10, g15⟩ := this
    exact ⟨t', g, ⟨g1.trans s1, g2.trans s2, g7.trans s7, g9.trans s9, g10.trans s10, g15.trans s15⟩⟩
  have stop : ∀ (i : Nat) (m : Mem) (t : Tree Value) (objs : List (List Int)), i ≤ 100 → Sm t (.slice ao zs.length c) (.slice bo us.length c2) hb i rv qv → Kp n0 m hb hf wb wf objs rv qv rf qf bs → ¬ (i < zs.length ∧ i < us.length ∧ objs ≠ [] ∧ i < 100) →
      ∃ t' m' objs' i', execw Try.prog TT S (.loop roundB) t m = some (.exit 2, t', m') ∧ Sm t' (.slice ao zs.length c) (.slice bo us.length c2) hb i' rv qv ∧ Kp n0 m' hb hf wb wf objs' rv qv rf qf bs := by
    intro i m t objs hi h hp hn
    obtain ⟨t', g, k⟩ := guard i m t objs hi h hp
    rw [if_neg hn] at g
    exact ⟨t', m, objs, i, loop_exit (b := roundB) (seq_exit g), k, hp⟩
  induction d with
  | zero =>
    intro i m t objs hd hi h hp hr hr2
    exact stop i m t objs hi h hp (by omega)
  | succ d ih =>
    intro i m t objs hd hi h hp hr hr2
    by_cases hgo : i < zs.length ∧ i < us.length ∧ objs ≠ [] ∧ i < 100
    · obtain ⟨t1, g1, k1⟩ := guard i m t objs hi h hp
      rw [if_pos hgo] at g1
      obtain ⟨hi1, hi2, hne, hi3⟩ := hgo
      have hz : zs ≠ [] := by intro e; rw [e] at hi1; simp at hi1
      have hz2 : us ≠ [] := by intro e; rw [e] at hi2; simp at hi2
      obtain ⟨s1, s2, s7, s9, s10, s15⟩ := k1
      obtain ⟨t2, m2, objs2, g2, hne2, hp2, hrA, hrB, a1, a2, a7, a9, a10, a15⟩ := roundB_set (S := S) hS9 hS17 hS18 hS36 hS20 hS37 hS22 (by rw [s1, ha hz]) (by rw [s2, hb0 hz2]) s7 s9 s10 s15 hlf hlg hp hne (hr hz) (hr2 hz2) hu hi1 hi2 hi3
      have b1 := a1.trans s1; have b2 := a2.trans s2; have b7 := a7.trans s7; have b9 := a9.trans s9; have b10 := a10.trans s10; have b15 := a15.trans s15
      have w1 : IntKind.i64.wrap ((i : Int) + 1) = ((i + 1 : Nat) : Int) := by rw [wrap_i64 (by omega) (by omega)]; omega
      have q3 : ∃ t3, execw Try.prog TT S r5_23 t2 m2 = some (.normal, t3, m2) ∧ t3.get 1 = t2.get 1 ∧ t3.get 2 = t2.get 2 ∧ t3.get 7 = t2.get 7 ∧ t3.get 9 = t2.get 9 ∧ t3.get 10 = t2.get 10 ∧ t3.get 15 = some (.int .i64 ((i + 1 : Nat) : Int)) := by
        simp only [r5_23, c5, bodyOf, Try.f5, Code.sub]
        simp [x_seq, x_region, x_cond, x_ret, x_skip, x_exit, sregion_false, sregion_quiet, floatB, quiet, loudB, sops_nil, sops_cons, sop1_plain, sop1_guard, syield, put_some, put_none, ev_tmp, ev_const, fill_nil, fill_cons, o_move, o_assign, o_bin, o_pick, o_nilCheck, o_fieldAddr, o_load, o_len, o_store, o_conv, o_un, o_extract, o_append, o_call, o_buildSlice, o_box, o_alloc, o_build, o_indexAddr, Tree.get_set, s_binOp, fastBin, s_unOp, fastUn, boolEq, sresults, sresultsL, sresult, one_int, one_slice, one_ptr, one_bool, one_str, cells_int, cells_slice, cells_ptr, cells_bool, cells_str, cells_agg, loadRow_new, window, over, -BitVec.toNat_or, -BitVec.toNat_ofInt, -BitVec.toNat_and, b1, b2, b7, b9, b10, b15, w1]
      obtain ⟨t3, g3, c1, c2, c7, c9, c10, c15⟩ := q3
      rw [loop_go (b := roundB) (seq_ok g1 (seq_ok (block_ok g2) g3))]
      exact ih (i + 1) m2 t3 objs2 (by omega) (by omega) ⟨c1.trans b1, c2.trans b2, c7.trans b7, c9.trans b9, c10.trans b10, c15⟩ hp2 (fun _ => hrA) (fun _ => hrB)
    · exact stop i m t objs hi h hp hgo

/-- the slots of the third loop -/
structure Sl (t : Tree Value) (hb i : Nat) (rv qv : Value) : Prop where
  s7 : t.get 7 = some (.pointer (some ⟨hb, 0, none⟩))
  s9 : t.get 9 = some rv
  s10 : t.get 10 = some qv
  s18 : t.get 18 = some (.int .i64 i)

theorem rp26 : readPlaces Try.prog (opsOf r5_26) = [(4, [5]), (14, [15]), (19, [15, 23]), (20, [15, 23])] := by kernel_rfl
theorem rp30 : readPlaces Try.prog (opsOf r5_30) = [(4, [6]), (10, [6, 25]), (13, [6, 25]), (20, [25]), (23, [25]), (29, [25, 35]), (32, [25, 35])] := by kernel_rfl

noncomputable def roundD : Code := .seq (.seq r5_29 (.cond (.tmp 173) .skip (.exit 6))) (.seq (.block 7 (.seq r5_30 (.cond (.tmp 210) (.seq r5_31 .ret) .skip))) r5_32)
noncomputable def roundC : Code := .seq (.seq r5_25 (.cond (.tmp 141) .skip (.exit 4))) (.seq (.block 5 (.seq (.seq r5_26 (.cond (.tmp 166) (.seq r5_27 .ret) .skip)) (.seq r5_28 (.block 6 (.loop roundD))))) r5_33)

theorem loopD (hS21 : S 21 = []) (hS36 : S 36 = []) (hS20 : S 20 = []) (hS37 : S 37 = []) (hS22 : S 22 = []) {n0 hb hf wb wf : Nat} {objs : List (List Int)} {rv qv : Value} {rf qf : Nat} {bs : List (Nat × Nat)} (hp : Kp n0 m hb hf wb wf objs rv qv rf qf bs) {k : Nat} {co : List Int} (hco : objs[k]? = some co) :
    ∀ (d j : Nat) (t : Tree Value), co.length - j ≤ d → j ≤ co.length → Sl t hb k rv qv → t.get 19 = some (.int .i64 j) → ∃ t', execw Try.prog TT S (.loop roundD) t m = some (.exit 6, t', m) ∧ Sl t' hb k rv qv := by
  have hkl := (List.getElem?_eq_some_iff.1 hco).1
  have hne : objs ≠ [] := by rintro rfl; simp at hkl
  obtain ⟨rb, qb, e1, e2, ho1, ho2⟩ := refs_some hp hne
  obtain ⟨p, hpb⟩ : ∃ p, bs[k]? = some p := ⟨bs[k]'(by have := hp.bl; omega), by simp [hp.bl, hkl]⟩
  have hown := hp.b k p co hpb hco
  have hz := hp.sz.1; have hz2 := hp.sz.2.1; have hz3 := (hp.sz.2.2 co (List.mem_of_getElem? hco)).1
  have hfit := fits hco
  have hlen : ((0 : Int) :: flat 0 objs).length = tot objs + 1 := by rw [List.length_cons, flat_length]
  have hkm : (k : Int) ≤ 9223372036854775807 := by omega
  have l1 : loadRow m ⟨rb, k, none⟩ 1 = some [.int .u64 ((offs objs k : Nat) : Int)] := ho1.load1 (by simp [words, refsOf, hkl])
  have l3 : loadRow m ⟨qb, k, none⟩ 1 = some [.slice (some ⟨p.1, 0, none⟩) co.length co.length] := ho2.load1 (wants_at bs objs k p co hpb hco)
  intro d
  induction d with
  | zero =>
    intro j t hd hj h h19
    obtain ⟨s7, s9, s10, s18⟩ := h
    have a10 : t.get 10 = some (.slice (some ⟨qb, 0, none⟩) objs.length objs.length) := by rw [s10, e2]
    have ej : ¬ (j : Int) < co.length := by omega
    have ej' : ¬ j < co.length := by omega
    have : ∃ t', execw Try.prog TT S (.seq r5_29 (.cond (.tmp 173) .skip (.exit 6))) t m = some (.exit 6, t', m) ∧ t'.get 7 = t.get 7 ∧ t'.get 9 = t.get 9 ∧ t'.get 10 = t.get 10 ∧ t'.get 18 = t.get 18 := by
      simp only [r5_29, c5, bodyOf, Try.f5, Code.sub]
      simp [x_seq, x_region, x_cond, x_ret, x_skip, x_exit, sregion_false, sregion_quiet, floatB, quiet, loudB, sops_nil, sops_cons, sop1_plain, sop1_guard, syield, put_some, put_none, ev_tmp, ev_const, fill_nil, fill_cons, o_move, o_assign, o_bin, o_pick, o_nilCheck, o_fieldAddr, o_load, o_len, o_store, o_conv, o_un, o_extract, o_append, o_call, o_buildSlice, o_box, o_alloc, o_build, o_indexAddr, Tree.get_set, s_binOp, fastBin, s_unOp, fastUn, boolEq, sresults, sresultsL, sresult, one_int, one_slice, one_ptr, one_bool, one_str, cells_int, cells_slice, cells_ptr, cells_bool, cells_str, cells_agg, loadRow_new, window, over, -BitVec.toNat_or, -BitVec.toNat_ofInt, -BitVec.toNat_and, fieldAddr_of fa0, fieldAddr_of fa1, load_of ld3, load_of ld34, len_slice u34, len_slice u40, store_of sz34, conv_i u3 u29, build_one u34 el29, append_s u34 sz29, append_m u3 u34, box_of b58, build_of bo58, len_slice u22, index_slice u22 sz3, bin_ptr u24, bin_bool u4 .eql (Or.inl rfl), bin_bool u4 .neq (Or.inr rfl), load_of ld29, store_of sz29, index_slice u34 sz29, index_slice u40 sz34, conv_i u29 u3, build_one u40 el34, append_s u40 sz34, make_of u34 ap29, s7, s9, a10, s18, h19, hkl, hkm, l3, ej, ej']
    obtain ⟨t', g, g7, g9, g10, g18⟩ := this
    exact ⟨t', loop_exit (b := roundD) (seq_exit g), ⟨g7.trans s7, g9.trans s9, g10.trans s10, g18.trans s18⟩⟩
  | succ d ih =>
    intro j t hd hj h h19
    obtain ⟨s7, s9, s10, s18⟩ := h
    have a9 : t.get 9 = some (.slice (some ⟨rb, 0, none⟩) objs.length objs.length) := by rw [s9, e1]
    have a10 : t.get 10 = some (.slice (some ⟨qb, 0, none⟩) objs.length objs.length) := by rw [s10, e2]
    by_cases hlt : j < co.length
    · have ej : (j : Int) < co.length := by omega
      have hjm : (j : Int) ≤ 9223372036854775807 := by omega
      have q1 : ∃ t1, execw Try.prog TT S (.seq r5_29 (.cond (.tmp 173) .skip (.exit 6))) t m = some (.normal, t1, m) ∧ t1.get 7 = t.get 7 ∧ t1.get 9 = t.get 9 ∧ t1.get 10 = t.get 10 ∧ t1.get 18 = t.get 18 ∧ t1.get 19 = t.get 19 := by
        simp only [r5_29, c5, bodyOf, Try.f5, Code.sub]
        simp [x_seq, x_region, x_cond, x_ret, x_skip, x_exit, sregion_false, sregion_quiet, floatB, quiet, loudB, sops_nil, sops_cons, sop1_plain, sop1_guard, syield, put_some, put_none, ev_tmp, ev_const, fill_nil, fill_cons, o_move, o_assign, o_bin, o_pick, o_nilCheck, o_fieldAddr, o_load, o_len, o_store, o_conv, o_un, o_extract, o_append, o_call, o_buildSlice, o_box, o_alloc, o_build, o_indexAddr, Tree.get_set, s_binOp, fastBin, s_unOp, fastUn, boolEq, sresults, sresultsL, sresult, one_int, one_slice, one_ptr, one_bool, one_str, cells_int, cells_slice, cells_ptr, cells_bool, cells_str, cells_agg, loadRow_new, window, over, -BitVec.toNat_or, -BitVec.toNat_ofInt, -BitVec.toNat_and, fieldAddr_of fa0, fieldAddr_of fa1, load_of ld3, load_of ld34, len_slice u34, len_slice u40, store_of sz34, conv_i u3 u29, build_one u34 el29, append_s u34 sz29, append_m u3 u34, box_of b58, build_of bo58, len_slice u22, index_slice u22 sz3, bin_ptr u24, bin_bool u4 .eql (Or.inl rfl), bin_bool u4 .neq (Or.inr rfl), load_of ld29, store_of sz29, index_slice u34 sz29, index_slice u40 sz34, conv_i u29 u3, build_one u40 el34, append_s u40 sz34, make_of u34 ap29, s7, a9, a10, s18, h19, hkl, hkm, l3, ej, hlt]
      obtain ⟨t1, g1, b7, b9, b10, b18, b19⟩ := q1
      have c7 := b7.trans s7; have c9 := b9.trans a9; have c10 := b10.trans a10; have c18 := b18.trans s18; have c19 := b19.trans h19
      have hat := at_obj (j := (j : Int)) hco hp.sz (by omega)
      rw [if_pos ej] at hat
      have hg := get_run (S := S) (i := (j : Int)) hS21 hS36 hS20 hS37 hS22 hp.h (r := ((offs objs k : Nat) : Int)) (by omega) (by omega) hp.wd
      rw [hat] at hg
      simp only [Int.toNat_natCast] at hg
      rw [word_at hco hlt] at hg
      have hw := word_run (S := S) hS22 hp.h (at_ := ((offs objs k + 1 + j : Nat) : Int)) (by omega) (by omega)
      simp only [Int.toNat_natCast] at hw
      rw [word_at hco hlt] at hw
      have l4 : loadRow m ⟨p.1, j, none⟩ 1 = some [.int .u64 (co.getD j 0)] := hown.load1 (by simp [words, List.getD_eq_getElem?_getD, List.getElem?_eq_getElem hlt])
      generalize co.getD j 0 = w at hg hw l4
      have w1 : IntKind.u64.wrap (IntKind.u64.wrap (((offs objs k : Nat) : Int) + 1) + IntKind.u64.wrap (j : Int)) = ((offs objs k + 1 + j : Nat) : Int) := by
        rw [wrap_u64 (x := ((offs objs k : Nat) : Int) + 1) (by omega) (by omega), wrap_u64 (x := (j : Int)) (by omega) (by omega), wrap_u64 (by omega) (by omega)]; omega
      generalize ((offs objs k + 1 + j : Nat) : Int) = ap at hw w1
      generalize ((offs objs k : Nat) : Int) = r at hg w1 l1
      have q2 : ∃ t2, execw Try.prog TT S (.seq r5_30 (.cond (.tmp 210) (.seq r5_31 .ret) .skip)) t1 m = some (.normal, t2, m) ∧ t2.get 7 = t1.get 7 ∧ t2.get 9 = t1.get 9 ∧ t2.get 10 = t1.get 10 ∧ t2.get 18 = t1.get 18 ∧ t2.get 19 = t1.get 19 := by
        rw [x_seq, x_drawn (places := [(4, [6]), (10, [6, 25]), (13, [6, 25]), (20, [25]), (23, [25]), (29, [25, 35]), (32, [25, 35])]) (by kernel_rfl) (by kernel_rfl) (by kernel_rfl) rp30]
        simp only [r5_30, r5_31, c5, bodyOf, Try.f5, Code.sub, opsOf]
        simp [x_seq, x_region, x_cond, x_ret, x_skip, x_exit, sregion_false, sregion_quiet, floatB, quiet, loudB, sops_nil, sops_cons, sop1_plain, sop1_guard, syield, put_some, put_none, ev_tmp, ev_const, fill_nil, fill_cons, o_move, o_assign, o_bin, o_pick, o_nilCheck, o_fieldAddr, o_load, o_len, o_store, o_conv, o_un, o_extract, o_append, o_call, o_buildSlice, o_box, o_alloc, o_build, o_indexAddr, Tree.get_set, s_binOp, fastBin, s_unOp, fastUn, boolEq, sresults, sresultsL, sresult, one_int, one_slice, one_ptr, one_bool, one_str, cells_int, cells_slice, cells_ptr, cells_bool, cells_str, cells_agg, loadRow_new, window, over, -BitVec.toNat_or, -BitVec.toNat_ofInt, -BitVec.toNat_and, fieldAddr_of fa0, fieldAddr_of fa1, load_of ld3, load_of ld34, len_slice u34, len_slice u40, store_of sz34, conv_i u3 u29, build_one u34 el29, append_s u34 sz29, append_m u3 u34, box_of b58, build_of bo58, len_slice u22, index_slice u22 sz3, bin_ptr u24, bin_bool u4 .eql (Or.inl rfl), bin_bool u4 .neq (Or.inr rfl), load_of ld29, store_of sz29, index_slice u34 sz29, index_slice u40 sz34, conv_i u29 u3, build_one u40 el34, append_s u40 sz34, make_of u34 ap29, states_nil, states_cons, readsAll, readsSame, eqV_int, eqV_slice, c7, c9, c10, c18, c19, hkl, hkm, hlt, hjm, l1, l3, l4, hg, hw, w1]
      obtain ⟨t2, g2, d7, d9, d10, d18, d19⟩ := q2
      have f7 := d7.trans c7; have f9 := d9.trans c9; have f10 := d10.trans c10; have f18 := d18.trans c18; have f19 := d19.trans c19
      have w2 : IntKind.i64.wrap ((j : Int) + 1) = ((j + 1 : Nat) : Int) := by rw [wrap_i64 (by omega) (by omega)]; omega
      have q3 : ∃ t3, execw Try.prog TT S r5_32 t2 m = some (.normal, t3, m) ∧ t3.get 7 = t2.get 7 ∧ t3.get 9 = t2.get 9 ∧ t3.get 10 = t2.get 10 ∧ t3.get 18 = t2.get 18 ∧ t3.get 19 = some (.int .i64 ((j + 1 : Nat) : Int)) := by
        simp only [r5_32, c5, bodyOf, Try.f5, Code.sub]
        simp [x_seq, x_region, x_cond, x_ret, x_skip, x_exit, sregion_false, sregion_quiet, floatB, quiet, loudB, sops_nil, sops_cons, sop1_plain, sop1_guard, syield, put_some, put_none, ev_tmp, ev_const, fill_nil, fill_cons, o_move, o_assign, o_bin, o_pick, o_nilCheck, o_fieldAddr, o_load, o_len, o_store, o_conv, o_un, o_extract, o_append, o_call, o_buildSlice, o_box, o_alloc, o_build, o_indexAddr, Tree.get_set, s_binOp, fastBin, s_unOp, fastUn, boolEq, sresults, sresultsL, sresult, one_int, one_slice, one_ptr, one_bool, one_str, cells_int, cells_slice, cells_ptr, cells_bool, cells_str, cells_agg, loadRow_new, window, over, -BitVec.toNat_or, -BitVec.toNat_ofInt, -BitVec.toNat_and, f7, f9, f10, f18, f19, w2]
      obtain ⟨t3, g3, i7, i9, i10, i18, i19⟩ := q3
      rw [loop_go (b := roundD) (seq_ok g1 (seq_ok (block_ok g2) g3))]
      exact ih (j + 1) t3 (by omega) (by omega) ⟨i7.trans f7, (i9.trans f9).trans (by rw [e1]), (i10.trans f10).trans (by rw [e2]), i18.trans f18⟩ i19
    · have ej : ¬ (j : Int) < co.length := by omega
      have : ∃ t', execw Try.prog TT S (.seq r5_29 (.cond (.tmp 173) .skip (.exit 6))) t m = some (.exit 6, t', m) ∧ t'.get 7 = t.get 7 ∧ t'.get 9 = t.get 9 ∧ t'.get 10 = t.get 10 ∧ t'.get 18 = t.get 18 := by
        simp only [r5_29, c5, bodyOf, Try.f5, Code.sub]
        simp [x_seq, x_region, x_cond, x_ret, x_skip, x_exit, sregion_false, sregion_quiet, floatB, quiet, loudB, sops_nil, sops_cons, sop1_plain, sop1_guard, syield, put_some, put_none, ev_tmp, ev_const, fill_nil, fill_cons, o_move, o_assign, o_bin, o_pick, o_nilCheck, o_fieldAddr, o_load, o_len, o_store, o_conv, o_un, o_extract, o_append, o_call, o_buildSlice, o_box, o_alloc, o_build, o_indexAddr, Tree.get_set, s_binOp, fastBin, s_unOp, fastUn, boolEq, sresults, sresultsL, sresult, one_int, one_slice, one_ptr, one_bool, one_str, cells_int, cells_slice, cells_ptr, cells_bool, cells_str, cells_agg, loadRow_new, window, over, -BitVec.toNat_or, -BitVec.toNat_ofInt, -BitVec.toNat_and, fieldAddr_of fa0, fieldAddr_of fa1, load_of ld3, load_of ld34, len_slice u34, len_slice u40, store_of sz34, conv_i u3 u29, build_one u34 el29, append_s u34 sz29, append_m u3 u34, box_of b58, build_of bo58, len_slice u22, index_slice u22 sz3, bin_ptr u24, bin_bool u4 .eql (Or.inl rfl), bin_bool u4 .neq (Or.inr rfl), load_of ld29, store_of sz29, index_slice u34 sz29, index_slice u40 sz34, conv_i u29 u3, build_one u40 el34, append_s u40 sz34, make_of u34 ap29, s7, a9, a10, s18, h19, hkl, hkm, l3, ej, hlt]
      obtain ⟨t', g, g7, g9, g10, g18⟩ := this
      exact ⟨t', loop_exit (b := roundD) (seq_exit g), ⟨g7.trans s7, g9.trans s9, g10.trans s10, g18.trans s18⟩⟩

theorem loopC (hS19 : S 19 = []) (hS21 : S 21 = []) (hS36 : S 36 = []) (hS20 : S 20 = []) (hS37 : S 37 = []) (hS22 : S 22 = []) {n0 hb hf wb wf : Nat} {objs : List (List Int)} {rv qv : Value} {rf qf : Nat} {bs : List (Nat × Nat)} (hp : Kp n0 m hb hf wb wf objs rv qv rf qf bs) :
    ∀ (d k : Nat) (t : Tree Value), objs.length - k ≤ d → k ≤ objs.length → Sl t hb k rv qv → ∃ t', execw Try.prog TT S (.loop roundC) t m = some (.exit 4, t', m) := by
  have hz := hp.sz.1; have hz2 := hp.sz.2.1
  have hlen : ((0 : Int) :: flat 0 objs).length = tot objs + 1 := by rw [List.length_cons, flat_length]
  have hrv : ∃ ra, rv = .slice ra objs.length objs.length := by
    by_cases e : objs = []
    · rcases hp.r with ⟨_, h2⟩ | ⟨h1, _⟩
      · exact ⟨none, by rw [h2, e]; rfl⟩
      · exact absurd e (refsOf_nil h1)
    · obtain ⟨rb, qb, e1, _⟩ := refs_some hp e
      exact ⟨_, e1⟩
  obtain ⟨ra, hra⟩ := hrv
  have stop : ∀ (k : Nat) (t : Tree Value), ¬ k < objs.length → Sl t hb k rv qv → ∃ t', execw Try.prog TT S (.loop roundC) t m = some (.exit 4, t', m) := by
    intro k t hk h
    obtain ⟨s7, s9, s10, s18⟩ := h
    have a9 : t.get 9 = some (.slice ra objs.length objs.length) := by rw [s9, hra]
    have ek : ¬ (k : Int) < objs.length := by omega
    have : ∃ t', execw Try.prog TT S (.seq r5_25 (.cond (.tmp 141) .skip (.exit 4))) t m = some (.exit 4, t', m) := by
      simp only [r5_25, c5, bodyOf, Try.f5, Code.sub]
      simp [x_seq, x_region, x_cond, x_ret, x_skip, x_exit, sregion_false, sregion_quiet, floatB, quiet, loudB, sops_nil, sops_cons, sop1_plain, sop1_guard, syield, put_some, put_none, ev_tmp, ev_const, fill_nil, fill_cons, o_move, o_assign, o_bin, o_pick, o_nilCheck, o_fieldAddr, o_load, o_len, o_store, o_conv, o_un, o_extract, o_append, o_call, o_buildSlice, o_box, o_alloc, o_build, o_indexAddr, Tree.get_set, s_binOp, fastBin, s_unOp, fastUn, boolEq, sresults, sresultsL, sresult, one_int, one_slice, one_ptr, one_bool, one_str, cells_int, cells_slice, cells_ptr, cells_bool, cells_str, cells_agg, loadRow_new, window, over, -BitVec.toNat_or, -BitVec.toNat_ofInt, -BitVec.toNat_and, fieldAddr_of fa0, fieldAddr_of fa1, load_of ld3, load_of ld34, len_slice u34, len_slice u40, store_of sz34, conv_i u3 u29, build_one u34 el29, append_s u34 sz29, append_m u3 u34, box_of b58, build_of bo58, len_slice u22, index_slice u22 sz3, bin_ptr u24, bin_bool u4 .eql (Or.inl rfl), bin_bool u4 .neq (Or.inr rfl), load_of ld29, store_of sz29, index_slice u34 sz29, index_slice u40 sz34, conv_i u29 u3, build_one u40 el34, append_s u40 sz34, make_of u34 ap29, s7, a9, s10, s18, ek, hk]
    obtain ⟨t', g⟩ := this
    exact ⟨t', loop_exit (b := roundC) (seq_exit g)⟩
  intro d
  induction d with
  | zero => intro k t hd hk h; exact stop k t (by omega) h
  | succ d ih =>
    intro k t hd hk h
    by_cases hkl : k < objs.length
    · have hne : objs ≠ [] := by rintro rfl; simp at hkl
      obtain ⟨rb, qb, e1, e2, ho1, ho2⟩ := refs_some hp hne
      obtain ⟨co, hco⟩ : ∃ co, objs[k]? = some co := ⟨objs[k], by simp [hkl]⟩
      obtain ⟨p, hpb⟩ : ∃ p, bs[k]? = some p := ⟨bs[k]'(by have := hp.bl; omega), by simp [hp.bl, hkl]⟩
      have hz3 := (hp.sz.2.2 co (List.mem_of_getElem? hco)).1
      have hfit := fits hco
      have hkm : (k : Int) ≤ 9223372036854775807 := by omega
      have l1 : loadRow m ⟨rb, k, none⟩ 1 = some [.int .u64 ((offs objs k : Nat) : Int)] := ho1.load1 (by simp [words, refsOf, hkl])
      have l3 : loadRow m ⟨qb, k, none⟩ 1 = some [.slice (some ⟨p.1, 0, none⟩) co.length co.length] := ho2.load1 (wants_at bs objs k p co hpb hco)
      have hty := type_run (S := S) hS19 hS37 hS22 hp.h (r := ((offs objs k : Nat) : Int)) (by omega) (by omega) hp.wd
      have hln := len_run (S := S) hS20 hS37 hS22 hp.h (r := ((offs objs k : Nat) : Int)) (by omega) (by omega) hp.wd
      simp only [Int.toNat_natCast] at hty hln
      rw [head_at hco, head_val (by omega) (by omega)] at hty hln
      have v1 : (((k : Int) + 5) * 4294967296 + (co.length : Int)) / 4294967296 = (k : Int) + 5 := by omega
      have v2 : (((k : Int) + 5) * 4294967296 + (co.length : Int)) % 4294967296 = co.length := by omega
      rw [v1] at hty
      rw [v2] at hln
      generalize ((offs objs k : Nat) : Int) = r at hty hln l1
      obtain ⟨s7, s9, s10, s18⟩ := h
      have a9 : t.get 9 = some (.slice (some ⟨rb, 0, none⟩) objs.length objs.length) := by rw [s9, e1]
      have a10 : t.get 10 = some (.slice (some ⟨qb, 0, none⟩) objs.length objs.length) := by rw [s10, e2]
      have ek : (k : Int) < objs.length := by omega
      have q1 : ∃ t1, execw Try.prog TT S (.seq r5_25 (.cond (.tmp 141) .skip (.exit 4))) t m = some (.normal, t1, m) ∧ t1.get 7 = t.get 7 ∧ t1.get 9 = t.get 9 ∧ t1.get 10 = t.get 10 ∧ t1.get 18 = t.get 18 := by
        simp only [r5_25, c5, bodyOf, Try.f5, Code.sub]
        simp [x_seq, x_region, x_cond, x_ret, x_skip, x_exit, sregion_false, sregion_quiet, floatB, quiet, loudB, sops_nil, sops_cons, sop1_plain, sop1_guard, syield, put_some, put_none, ev_tmp, ev_const, fill_nil, fill_cons, o_move, o_assign, o_bin, o_pick, o_nilCheck, o_fieldAddr, o_load, o_len, o_store, o_conv, o_un, o_extract, o_append, o_call, o_buildSlice, o_box, o_alloc, o_build, o_indexAddr, Tree.get_set, s_binOp, fastBin, s_unOp, fastUn, boolEq, sresults, sresultsL, sresult, one_int, one_slice, one_ptr, one_bool, one_str, cells_int, cells_slice, cells_ptr, cells_bool, cells_str, cells_agg, loadRow_new, window, over, -BitVec.toNat_or, -BitVec.toNat_ofInt, -BitVec.toNat_and, fieldAddr_of fa0, fieldAddr_of fa1, load_of ld3, load_of ld34, len_slice u34, len_slice u40, store_of sz34, conv_i u3 u29, build_one u34 el29, append_s u34 sz29, append_m u3 u34, box_of b58, build_of bo58, len_slice u22, index_slice u22 sz3, bin_ptr u24, bin_bool u4 .eql (Or.inl rfl), bin_bool u4 .neq (Or.inr rfl), load_of ld29, store_of sz29, index_slice u34 sz29, index_slice u40 sz34, conv_i u29 u3, build_one u40 el34, append_s u40 sz34, make_of u34 ap29, s7, a9, a10, s18, hkl, ek]
      obtain ⟨t1, g1, b7, b9, b10, b18⟩ := q1
      have c7 := b7.trans s7; have c9 := b9.trans a9; have c10 := b10.trans a10; have c18 := b18.trans s18
      have w5 : IntKind.i64.wrap ((k : Int) + 5) = (k : Int) + 5 := wrap_i64 (by omega) (by omega)
      have q2 : ∃ t2, execw Try.prog TT S (.seq r5_26 (.cond (.tmp 166) (.seq r5_27 .ret) .skip)) t1 m = some (.normal, t2, m) ∧ t2.get 7 = t1.get 7 ∧ t2.get 9 = t1.get 9 ∧ t2.get 10 = t1.get 10 ∧ t2.get 18 = t1.get 18 := by
        rw [x_seq, x_drawn (places := [(4, [5]), (14, [15]), (19, [15, 23]), (20, [15, 23])]) (by kernel_rfl) (by kernel_rfl) (by kernel_rfl) rp26]
        simp only [r5_26, r5_27, c5, bodyOf, Try.f5, Code.sub, opsOf]
        simp [x_seq, x_region, x_cond, x_ret, x_skip, x_exit, sregion_false, sregion_quiet, floatB, quiet, loudB, sops_nil, sops_cons, sop1_plain, sop1_guard, syield, put_some, put_none, ev_tmp, ev_const, fill_nil, fill_cons, o_move, o_assign, o_bin, o_pick, o_nilCheck, o_fieldAddr, o_load, o_len, o_store, o_conv, o_un, o_extract, o_append, o_call, o_buildSlice, o_box, o_alloc, o_build, o_indexAddr, Tree.get_set, s_binOp, fastBin, s_unOp, fastUn, boolEq, sresults, sresultsL, sresult, one_int, one_slice, one_ptr, one_bool, one_str, cells_int, cells_slice, cells_ptr, cells_bool, cells_str, cells_agg, loadRow_new, window, over, -BitVec.toNat_or, -BitVec.toNat_ofInt, -BitVec.toNat_and, fieldAddr_of fa0, fieldAddr_of fa1, load_of ld3, load_of ld34, len_slice u34, len_slice u40, store_of sz34, conv_i u3 u29, build_one u34 el29, append_s u34 sz29, append_m u3 u34, box_of b58, build_of bo58, len_slice u22, index_slice u22 sz3, bin_ptr u24, bin_bool u4 .eql (Or.inl rfl), bin_bool u4 .neq (Or.inr rfl), load_of ld29, store_of sz29, index_slice u34 sz29, index_slice u40 sz34, conv_i u29 u3, build_one u40 el34, append_s u40 sz34, make_of u34 ap29, states_nil, states_cons, readsAll, readsSame, eqV_int, eqV_slice, c7, c9, c10, c18, hkl, hkm, l1, l3, hty, hln, w5]
      obtain ⟨t2, g2, d7, d9, d10, d18⟩ := q2
      have f7 := d7.trans c7; have f9 := d9.trans c9; have f10 := d10.trans c10; have f18 := d18.trans c18
      have q3 : ∃ t3, execw Try.prog TT S r5_28 t2 m = some (.normal, t3, m) ∧ t3.get 7 = t2.get 7 ∧ t3.get 9 = t2.get 9 ∧ t3.get 10 = t2.get 10 ∧ t3.get 18 = t2.get 18 ∧ t3.get 19 = some (.int .i64 ((0 : Nat) : Int)) := by
        simp only [r5_28, c5, bodyOf, Try.f5, Code.sub]
        simp [x_seq, x_region, x_cond, x_ret, x_skip, x_exit, sregion_false, sregion_quiet, floatB, quiet, loudB, sops_nil, sops_cons, sop1_plain, sop1_guard, syield, put_some, put_none, ev_tmp, ev_const, fill_nil, fill_cons, o_move, o_assign, o_bin, o_pick, o_nilCheck, o_fieldAddr, o_load, o_len, o_store, o_conv, o_un, o_extract, o_append, o_call, o_buildSlice, o_box, o_alloc, o_build, o_indexAddr, Tree.get_set, s_binOp, fastBin, s_unOp, fastUn, boolEq, sresults, sresultsL, sresult, one_int, one_slice, one_ptr, one_bool, one_str, cells_int, cells_slice, cells_ptr, cells_bool, cells_str, cells_agg, loadRow_new, window, over, -BitVec.toNat_or, -BitVec.toNat_ofInt, -BitVec.toNat_and, f7, f9, f10, f18]
      obtain ⟨t3, g3, i7, i9, i10, i18, i19⟩ := q3
      obtain ⟨t4, g4, k4⟩ := loopD (S := S) hS21 hS36 hS20 hS37 hS22 hp hco _ 0 t3 (Nat.le_refl _) (Nat.zero_le _) ⟨i7.trans f7, (i9.trans f9).trans (by rw [e1]), (i10.trans f10).trans (by rw [e2]), i18.trans f18⟩ i19
      obtain ⟨s7', s9', s10', s18'⟩ := k4
      have w2 : IntKind.i64.wrap ((k : Int) + 1) = ((k + 1 : Nat) : Int) := by rw [wrap_i64 (by omega) (by omega)]; omega
      have q5 : ∃ t5, execw Try.prog TT S r5_33 t4 m = some (.normal, t5, m) ∧ t5.get 7 = t4.get 7 ∧ t5.get 9 = t4.get 9 ∧ t5.get 10 = t4.get 10 ∧ t5.get 18 = some (.int .i64 ((k + 1 : Nat) : Int)) := by
        simp only [r5_33, c5, bodyOf, Try.f5, Code.sub]
        simp [x_seq, x_region, x_cond, x_ret, x_skip, x_exit, sregion_false, sregion_quiet, floatB, quiet, loudB, sops_nil, sops_cons, sop1_plain, sop1_guard, syield, put_some, put_none, ev_tmp, ev_const, fill_nil, fill_cons, o_move, o_assign, o_bin, o_pick, o_nilCheck, o_fieldAddr, o_load, o_len, o_store, o_conv, o_un, o_extract, o_append, o_call, o_buildSlice, o_box, o_alloc, o_build, o_indexAddr, Tree.get_set, s_binOp, fastBin, s_unOp, fastUn, boolEq, sresults, sresultsL, sresult, one_int, one_slice, one_ptr, one_bool, one_str, cells_int, cells_slice, cells_ptr, cells_bool, cells_str, cells_agg, loadRow_new, window, over, -BitVec.toNat_or, -BitVec.toNat_ofInt, -BitVec.toNat_and, s7', s9', s10', s18', w2]
      obtain ⟨t5, g5, u7, u9, u10, u18⟩ := q5
      rw [loop_go (b := roundC) (seq_ok g1 (seq_ok (block_ok (seq_ok g2 (seq_ok g3 (block_exit g4)))) g5))]
      exact ih (k + 1) t5 (by omega) (by omega) ⟨u7.trans s7', u9.trans s9', u10.trans s10', u18⟩
    · exact stop k t hkl h

theorem law_run (hS5 : S 5 = []) (hS9 : S 9 = []) (hS10 : S 10 = []) (hS11 : S 11 = [([], .bool true)]) (hS12 : S 12 = []) (hS17 : S 17 = []) (hS18 : S 18 = []) (hS19 : S 19 = []) (hS20 : S 20 = []) (hS21 : S 21 = []) (hS22 : S 22 = []) (hS36 : S 36 = []) (hS37 : S 37 = [])
    {zs xs us : List Int} {zo ao bo : Option Addr} {cz c c2 lz lfz la lf lb lg : Nat} (hz0 : zs ≠ [] → zo = some ⟨lz, 0, none⟩) (ha : xs ≠ [] → ao = some ⟨la, 0, none⟩) (hb0 : us ≠ [] → bo = some ⟨lb, 0, none⟩) (hlz : lfz < m.next) (hlf : lf < m.next) (hlg : lg < m.next)
    (hrz : zs ≠ [] → Rdo m lz (zs.map (Value.int .i64)) 3 lfz) (hr : xs ≠ [] → Rdo m la (xs.map (Value.int .i64)) 3 lf) (hr2 : us ≠ [] → Rdo m lb (us.map (Value.int .u64)) 29 lg) (hu : ∀ u ∈ us, 0 ≤ u ∧ u ≤ 18446744073709551615) :
    ∃ m', callw Try.prog TT S 5 [.slice zo zs.length cz, .slice ao xs.length c, .slice bo us.length c2] m = some (.bool true, m') := by
  obtain ⟨m1, hb, wb, hn, hh, hb1, wb1, hk1⟩ := new_run (m := m) hS10 65536 (by omega) (by omega)
  have hkn := fun m' => sum_ok (P := Try.prog) (T := TT) (m := m') hS11
  have p0 : ∃ t0, execw Try.prog TT S r5_0 (fill .leaf [.slice zo zs.length cz, .slice ao xs.length c, .slice bo us.length c2] 0) m = some (.normal, t0, m) ∧ t0.get 0 = some (.slice zo zs.length cz) ∧ t0.get 1 = some (.slice ao xs.length c) ∧ t0.get 2 = some (.slice bo us.length c2) := by
    simp only [r5_0, c5, bodyOf, Try.f5, Code.sub]
    simp [x_seq, x_region, x_cond, x_ret, x_skip, x_exit, sregion_false, sregion_quiet, floatB, quiet, loudB, sops_nil, sops_cons, sop1_plain, sop1_guard, syield, put_some, put_none, ev_tmp, ev_const, fill_nil, fill_cons, o_move, o_assign, o_bin, o_pick, o_nilCheck, o_fieldAddr, o_load, o_len, o_store, o_conv, o_un, o_extract, o_append, o_call, o_buildSlice, o_box, o_alloc, o_build, o_indexAddr, Tree.get_set, s_binOp, fastBin, s_unOp, fastUn, boolEq, sresults, sresultsL, sresult, one_int, one_slice, one_ptr, one_bool, one_str, cells_int, cells_slice, cells_ptr, cells_bool, cells_str, cells_agg, loadRow_new, window, over, -BitVec.toNat_or, -BitVec.toNat_ofInt, -BitVec.toNat_and]
  obtain ⟨t0, e0, a0, a1, a2⟩ := p0
  have p1 : ∃ t1, execw Try.prog TT S r5_1 t0 m = some (.normal, t1, m1) ∧ t1.get 0 = t0.get 0 ∧ t1.get 1 = t0.get 1 ∧ t1.get 2 = t0.get 2 ∧ t1.get 7 = some (.pointer (some ⟨hb, 0, none⟩)) ∧ t1.get 8 = some (.int .i64 0) := by
    simp only [r5_1, c5, bodyOf, Try.f5, Code.sub]
    simp [x_seq, x_region, x_cond, x_ret, x_skip, x_exit, sregion_false, sregion_quiet, floatB, quiet, loudB, sops_nil, sops_cons, sop1_plain, sop1_guard, syield, put_some, put_none, ev_tmp, ev_const, fill_nil, fill_cons, o_move, o_assign, o_bin, o_pick, o_nilCheck, o_fieldAddr, o_load, o_len, o_store, o_conv, o_un, o_extract, o_append, o_call, o_buildSlice, o_box, o_alloc, o_build, o_indexAddr, Tree.get_set, s_binOp, fastBin, s_unOp, fastUn, boolEq, sresults, sresultsL, sresult, one_int, one_slice, one_ptr, one_bool, one_str, cells_int, cells_slice, cells_ptr, cells_bool, cells_str, cells_agg, loadRow_new, window, over, -BitVec.toNat_or, -BitVec.toNat_ofInt, -BitVec.toNat_and, fieldAddr_of fa0, fieldAddr_of fa1, load_of ld3, load_of ld34, len_slice u34, len_slice u40, store_of sz34, conv_i u3 u29, build_one u34 el29, append_s u34 sz29, append_m u3 u34, box_of b58, build_of bo58, len_slice u22, index_slice u22 sz3, bin_ptr u24, bin_bool u4 .eql (Or.inl rfl), bin_bool u4 .neq (Or.inr rfl), load_of ld29, store_of sz29, index_slice u34 sz29, index_slice u40 sz34, conv_i u29 u3, build_one u40 el34, append_s u40 sz34, make_of u34 ap29, a0, a1, a2, hn]
  obtain ⟨t1, e1, b0, b1, b2, b7, b8⟩ := p1
  have c0 := b0.trans a0; have c1 := b1.trans a1; have c2' := b2.trans a2
  have p2 : ∃ t2, execw Try.prog TT S (.seq r5_2 (.cond (.tmp 33) (.seq r5_3 .ret) .skip)) t1 m1 = some (.normal, t2, m1) ∧ t2.get 0 = t1.get 0 ∧ t2.get 1 = t1.get 1 ∧ t2.get 2 = t1.get 2 ∧ t2.get 7 = t1.get 7 := by
    simp only [r5_2, c5, bodyOf, Try.f5, Code.sub]
    simp [x_seq, x_region, x_cond, x_ret, x_skip, x_exit, sregion_false, sregion_quiet, floatB, quiet, loudB, sops_nil, sops_cons, sop1_plain, sop1_guard, syield, put_some, put_none, ev_tmp, ev_const, fill_nil, fill_cons, o_move, o_assign, o_bin, o_pick, o_nilCheck, o_fieldAddr, o_load, o_len, o_store, o_conv, o_un, o_extract, o_append, o_call, o_buildSlice, o_box, o_alloc, o_build, o_indexAddr, Tree.get_set, s_binOp, fastBin, s_unOp, fastUn, boolEq, sresults, sresultsL, sresult, one_int, one_slice, one_ptr, one_bool, one_str, cells_int, cells_slice, cells_ptr, cells_bool, cells_str, cells_agg, loadRow_new, window, over, -BitVec.toNat_or, -BitVec.toNat_ofInt, -BitVec.toNat_and, fieldAddr_of fa0, fieldAddr_of fa1, load_of ld3, load_of ld34, len_slice u34, len_slice u40, store_of sz34, conv_i u3 u29, build_one u34 el29, append_s u34 sz29, append_m u3 u34, box_of b58, build_of bo58, len_slice u22, index_slice u22 sz3, bin_ptr u24, bin_bool u4 .eql (Or.inl rfl), bin_bool u4 .neq (Or.inr rfl), load_of ld29, store_of sz29, index_slice u34 sz29, index_slice u40 sz34, conv_i u29 u3, build_one u40 el34, append_s u40 sz34, make_of u34 ap29, c0, c1, c2', b7, b8, hkn]
  obtain ⟨t2, e2, d0, d1, d2, d7⟩ := p2
  have f0 := d0.trans c0; have f1 := d1.trans c1; have f2 := d2.trans c2'; have f7 := d7.trans b7
  have p4 : ∃ t4, execw Try.prog TT S r5_4 t2 m1 = some (.normal, t4, m1) ∧ t4.get 0 = t2.get 0 ∧ t4.get 1 = t2.get 1 ∧ t4.get 2 = t2.get 2 ∧ t4.get 7 = t2.get 7 ∧ t4.get 9 = some (.slice none 0 0) := by
    simp only [r5_4, c5, bodyOf, Try.f5, Code.sub]
    simp [x_seq, x_region, x_cond, x_ret, x_skip, x_exit, sregion_false, sregion_quiet, floatB, quiet, loudB, sops_nil, sops_cons, sop1_plain, sop1_guard, syield, put_some, put_none, ev_tmp, ev_const, fill_nil, fill_cons, o_move, o_assign, o_bin, o_pick, o_nilCheck, o_fieldAddr, o_load, o_len, o_store, o_conv, o_un, o_extract, o_append, o_call, o_buildSlice, o_box, o_alloc, o_build, o_indexAddr, Tree.get_set, s_binOp, fastBin, s_unOp, fastUn, boolEq, sresults, sresultsL, sresult, one_int, one_slice, one_ptr, one_bool, one_str, cells_int, cells_slice, cells_ptr, cells_bool, cells_str, cells_agg, loadRow_new, window, over, -BitVec.toNat_or, -BitVec.toNat_ofInt, -BitVec.toNat_and, f0, f1, f2, f7]
  obtain ⟨t4, e4, g0, g1, g2, g7, g9⟩ := p4
  have i0 := g0.trans f0; have i1 := g1.trans f1; have i2 := g2.trans f2; have i7 := g7.trans f7
  have p5 : ∃ t5, execw Try.prog TT S r5_5 t4 m1 = some (.normal, t5, m1) ∧ t5.get 0 = t4.get 0 ∧ t5.get 1 = t4.get 1 ∧ t5.get 2 = t4.get 2 ∧ t5.get 7 = t4.get 7 ∧ t5.get 9 = t4.get 9 ∧ t5.get 10 = some (.slice none 0 0) := by
    simp only [r5_5, c5, bodyOf, Try.f5, Code.sub]
    simp [x_seq, x_region, x_cond, x_ret, x_skip, x_exit, sregion_false, sregion_quiet, floatB, quiet, loudB, sops_nil, sops_cons, sop1_plain, sop1_guard, syield, put_some, put_none, ev_tmp, ev_const, fill_nil, fill_cons, o_move, o_assign, o_bin, o_pick, o_nilCheck, o_fieldAddr, o_load, o_len, o_store, o_conv, o_un, o_extract, o_append, o_call, o_buildSlice, o_box, o_alloc, o_build, o_indexAddr, Tree.get_set, s_binOp, fastBin, s_unOp, fastUn, boolEq, sresults, sresultsL, sresult, one_int, one_slice, one_ptr, one_bool, one_str, cells_int, cells_slice, cells_ptr, cells_bool, cells_str, cells_agg, loadRow_new, window, over, -BitVec.toNat_or, -BitVec.toNat_ofInt, -BitVec.toNat_and, i0, i1, i2, i7, g9]
  obtain ⟨t5, e5, j0, j1, j2, j7, j9, j10⟩ := p5
  have k0 := j0.trans i0; have k1 := j1.trans i1; have k2 := j2.trans i2; have k7 := j7.trans i7; have k9 := j9.trans g9
  have p6 : ∃ t6, execw Try.prog TT S r5_6 t5 m1 = some (.normal, t6, m1) ∧ t6.get 0 = t5.get 0 ∧ t6.get 1 = t5.get 1 ∧ t6.get 2 = t5.get 2 ∧ t6.get 7 = t5.get 7 ∧ t6.get 9 = t5.get 9 ∧ t6.get 10 = t5.get 10 ∧ t6.get 11 = some (.int .i64 ((0 : Nat) : Int)) := by
    simp only [r5_6, c5, bodyOf, Try.f5, Code.sub]
    simp [x_seq, x_region, x_cond, x_ret, x_skip, x_exit, sregion_false, sregion_quiet, floatB, quiet, loudB, sops_nil, sops_cons, sop1_plain, sop1_guard, syield, put_some, put_none, ev_tmp, ev_const, fill_nil, fill_cons, o_move, o_assign, o_bin, o_pick, o_nilCheck, o_fieldAddr, o_load, o_len, o_store, o_conv, o_un, o_extract, o_append, o_call, o_buildSlice, o_box, o_alloc, o_build, o_indexAddr, Tree.get_set, s_binOp, fastBin, s_unOp, fastUn, boolEq, sresults, sresultsL, sresult, one_int, one_slice, one_ptr, one_bool, one_str, cells_int, cells_slice, cells_ptr, cells_bool, cells_str, cells_agg, loadRow_new, window, over, -BitVec.toNat_or, -BitVec.toNat_ofInt, -BitVec.toNat_and, k0, k1, k2, k7, k9, j10]
  obtain ⟨t6, e6, l0, l1, l2, l7, l9, l10, l11⟩ := p6
  have hkp : Kp m.next m1 hb hb wb wb [] (.slice none 0 0) (.slice none 0 0) 0 0 [] := by
    refine ⟨by simpa [flat] using hh, Or.inl ⟨rfl, rfl⟩, Or.inl ⟨rfl, rfl⟩, rfl, fun k p c h => by simp at h, fun h => absurd rfl h, ⟨hk1.1, hb1, wb1, fun h => absurd rfl h⟩, ⟨by simp, by simp [tot], fun c h => by simp at h⟩⟩
  obtain ⟨t7, m2, wb2, objs2, rv2, qv2, rf2, qf2, bs2, fs2, i2', e7, kA, hp2, hk2, hfs2⟩ := loopA (S := S) hS9 hS12 (v1 := .slice ao xs.length c) (v2 := .slice bo us.length c2) (hb := hb) (hf := hb) (wf := wb) (c := cz) hlz hz0 30 0 m1 t6 wb [] (.slice none 0 0) (.slice none 0 0) 0 0 [] (by omega) rfl
    ⟨l0.trans k0, l1.trans k1, l2.trans k2, l7.trans k7, l9.trans k9, l10.trans j10, l11⟩ hkp (fun h => (hrz h).keep hk1 (by simp))
  obtain ⟨s0, s1, s2, s7, s9, s10, s11⟩ := kA
  have p8 : ∃ t8, execw Try.prog TT S r5_15 t7 m2 = some (.normal, t8, m2) ∧ t8.get 1 = t7.get 1 ∧ t8.get 2 = t7.get 2 ∧ t8.get 7 = t7.get 7 ∧ t8.get 9 = t7.get 9 ∧ t8.get 10 = t7.get 10 ∧ t8.get 15 = some (.int .i64 ((0 : Nat) : Int)) := by
    simp only [r5_15, c5, bodyOf, Try.f5, Code.sub]
    simp [x_seq, x_region, x_cond, x_ret, x_skip, x_exit, sregion_false, sregion_quiet, floatB, quiet, loudB, sops_nil, sops_cons, sop1_plain, sop1_guard, syield, put_some, put_none, ev_tmp, ev_const, fill_nil, fill_cons, o_move, o_assign, o_bin, o_pick, o_nilCheck, o_fieldAddr, o_load, o_len, o_store, o_conv, o_un, o_extract, o_append, o_call, o_buildSlice, o_box, o_alloc, o_build, o_indexAddr, Tree.get_set, s_binOp, fastBin, s_unOp, fastUn, boolEq, sresults, sresultsL, sresult, one_int, one_slice, one_ptr, one_bool, one_str, cells_int, cells_slice, cells_ptr, cells_bool, cells_str, cells_agg, loadRow_new, window, over, -BitVec.toNat_or, -BitVec.toNat_ofInt, -BitVec.toNat_and, s0, s1, s2, s7, s9, s10, s11]
  obtain ⟨t8, e8, n1, n2, n7, n9, n10, n15⟩ := p8
  have kk : ∀ {l f e : Nat} {cs : List Value}, f < m.next → Rdo m l cs e f → Rdo m2 l cs e f := fun hf h => (h.keep hk1 (by simp)).keep hk2 (fun hx => by have := hfs2 _ hx; omega)
  obtain ⟨t9, m3, objs3, i3, e9, kB, hp3⟩ := loopB (S := S) hS9 hS17 hS18 hS36 hS20 hS37 hS22 (c := c) (c2 := c2) hlf hlg ha hb0 hu 100 0 m2 t8 objs2 (by omega) (by omega) ⟨n1.trans s1, n2.trans s2, n7.trans s7, n9.trans s9, n10.trans s10, n15⟩ hp2 (fun h => kk hlf (hr h)) (fun h => kk hlg (hr2 h))
  obtain ⟨s1, s2, s7, s9, s10, s15⟩ := kB
  have p10 : ∃ ta, execw Try.prog TT S r5_24 t9 m3 = some (.normal, ta, m3) ∧ ta.get 7 = t9.get 7 ∧ ta.get 9 = t9.get 9 ∧ ta.get 10 = t9.get 10 ∧ ta.get 18 = some (.int .i64 ((0 : Nat) : Int)) := by
    simp only [r5_24, c5, bodyOf, Try.f5, Code.sub]
    simp [x_seq, x_region, x_cond, x_ret, x_skip, x_exit, sregion_false, sregion_quiet, floatB, quiet, loudB, sops_nil, sops_cons, sop1_plain, sop1_guard, syield, put_some, put_none, ev_tmp, ev_const, fill_nil, fill_cons, o_move, o_assign, o_bin, o_pick, o_nilCheck, o_fieldAddr, o_load, o_len, o_store, o_conv, o_un, o_extract, o_append, o_call, o_buildSlice, o_box, o_alloc, o_build, o_indexAddr, Tree.get_set, s_binOp, fastBin, s_unOp, fastUn, boolEq, sresults, sresultsL, sresult, one_int, one_slice, one_ptr, one_bool, one_str, cells_int, cells_slice, cells_ptr, cells_bool, cells_str, cells_agg, loadRow_new, window, over, -BitVec.toNat_or, -BitVec.toNat_ofInt, -BitVec.toNat_and, s1, s2, s7, s9, s10, s15]
  obtain ⟨ta, ea, o7, o9, o10, o18⟩ := p10
  obtain ⟨tb, eb⟩ := loopC (S := S) hS19 hS21 hS36 hS20 hS37 hS22 hp3 _ 0 ta (Nat.le_refl _) (Nat.zero_le _) ⟨o7.trans s7, o9.trans s9, o10.trans s10, o18⟩
  have p11 : ∃ tc, execw Try.prog TT S (.seq r5_34 .ret) tb m3 = some (.ret, tc, m3) ∧ tc.get 6 = some (.bool true) := by
    simp only [r5_34, c5, bodyOf, Try.f5, Code.sub]
    simp [x_seq, x_region, x_cond, x_ret, x_skip, x_exit, sregion_false, sregion_quiet, floatB, quiet, loudB, sops_nil, sops_cons, sop1_plain, sop1_guard, syield, put_some, put_none, ev_tmp, ev_const, fill_nil, fill_cons, o_move, o_assign, o_bin, o_pick, o_nilCheck, o_fieldAddr, o_load, o_len, o_store, o_conv, o_un, o_extract, o_append, o_call, o_buildSlice, o_box, o_alloc, o_build, o_indexAddr, Tree.get_set, s_binOp, fastBin, s_unOp, fastUn, boolEq, sresults, sresultsL, sresult, one_int, one_slice, one_ptr, one_bool, one_str, cells_int, cells_slice, cells_ptr, cells_bool, cells_str, cells_agg, loadRow_new, window, over, -BitVec.toNat_or, -BitVec.toNat_ofInt, -BitVec.toNat_and]
  obtain ⟨tc, ec, n6⟩ := p11
  refine ⟨m3, call_ok (c := c5) tt5 (by simp only [Try.f5, c5, bodyOf]) hS5 (by simp [Try.f5]) (Or.inr rfl) (t' := tc) ?_ (by simp [sresults, sresultsL, sresult, Try.f5, n6])⟩
  rw [body5]
  exact seq_ok e0 (seq_ok e1 (seq_ok e2 (seq_ok e4 (seq_ok e5 (seq_ok (seq_ok e6 (block_exit e7)) (seq_ok (seq_ok e8 (block_exit e9)) (seq_ok (seq_ok ea (block_exit eb)) ec)))))))


/- the row -/
open Go.ChangeShapes Go.WideShapes Go.ChangeAt Go.RowKit
theorem own : ownKnob Try.prog.godebug = none := by kernel_rfl
theorem mixed : Try.prog.follows .mixedOrders = true := by kernel_rfl
theorem tab : Sh.tabCheck Try.prog fns = true := by kernel_rfl
theorem known : Sh.isVal (.bool true) (Sh.call Try.prog (Sh.tabOf Try.prog fns) Sh.noSums 100000 11 [] (Sh.memG Try.prog [])) = true := by kernel_rfl
def sums : Sums := fun f => if f = 11 then [([], .bool true)] else []
theorem sumsOk : SumsOk Try.prog sums := by
  intro f p hp
  unfold sums at hp
  split at hp
  · rename_i hf
    subst hf
    simp only [List.mem_cons, List.not_mem_nil, or_false] at hp
    subst hp
    exact ⟨rfl, rfl, ⟨Try.f11, Try.func11, by kernel_rfl, by kernel_rfl⟩, fun w => Sh.closed_val mixed (Sh.tab_ok tab) (Sh.noSums_ok _) 100000 11 Try.func11 (by kernel_rfl) (gs := []) (by kernel_rfl) (by kernel_rfl) known w (fun p hp => by simp at hp)⟩
  · simp at hp

theorem walk (w : World) {v0 : Value} (h0 : IntsArg Try.prog w .i64 3 v0) {v1 : Value} (h1 : IntsArg Try.prog w .i64 3 v1) {v2 : Value} (h2 : IntsArg Try.prog w .u64 29 v2) :
    Calls Try.prog 5 #[v0, v1, v2] w fun e w' => e = .returned (.bool true) ∧ Below w.heap.size w w' := by
  have hM := start_rel Try.prog w
  obtain ⟨zs0, J0, m0, ao0, c0, la0, lf0, le0, hM0, vr0, ha0, hr0, hl0, hk0, hz0, hw0⟩ := ints_in hM sz3 h0
  obtain ⟨zs1, J1, m1, ao1, c1, la1, lf1, le1, hM1, vr1, ha1, hr1, hl1, hk1, hz1, hw1⟩ := ints_in hM0 sz3 h1
  obtain ⟨zs2, J2, m2, ao2, c2, la2, lf2, le2, hM2, vr2, ha2, hr2, hl2, hk2, hz2, hw2⟩ := ints_in hM1 sz29 h2
  obtain ⟨m', h⟩ := law_run (S := sums) (m := m2) rfl rfl rfl rfl rfl rfl rfl rfl rfl rfl rfl rfl rfl ha0 ha1 ha2 (by have := hk0.1; have := hk1.1; have := hk2.1; omega) (by have := hk0.1; have := hk1.1; have := hk2.1; omega) (by have := hk0.1; have := hk1.1; have := hk2.1; omega) (fun h => (((hr0 h).keep hk1 (by simp)).keep hk2 (by simp))) (fun h => ((hr1 h).keep hk2 (by simp))) (fun h => (hr2 h)) (wf_u64 hw2)
  exact calls_of mixed (Sh.tab_ok tab) sumsOk Try.func5 (by kernel_rfl) h rfl hM2 (.cons ((vr0.mono le1).mono le2) (.cons (vr1.mono le2) (.cons vr2 LRel.nil)))

theorem laidOut : laidOutB Try.prog = true := by kernel_rfl

theorem lifted (os : Os) (started : os.Started) (H : Type) (enc : TypeId × Value → H) :
    ReturnsInHanded {} Try.checked os 5 .any (Rows.heapKeepsSpec.pre6 enc Try.prog Try.f5 Rows.heapKeepsRow.domain false) (Rows.heapKeepsSpec.post enc Try.prog Try.f5 false true false false) := by
  refine returnsInHanded_of_change (C := Try.checked) own started (by kernel_rfl) Try.func5
    (ChangeSpec.witness6 (enc := enc) (C := Try.checked) false ⟨#[], #[.slice none 0 0, .slice none 0 0, .slice none 0 0], []⟩ 8 (by kernel_rfl) (by kernel_rfl) (by kernel_rfl) (by kernel_rfl)) ?_
  intro W base args ds gs before hval0 hW hcnd _
  have hval : ∀ (j : Nat) t v, Try.f5.params[j]? = some t → args[j]? = some v → Value.okWide Try.prog W .any base t v := hval0
  have hW' := hW
  obtain ⟨p, q, hA0, hV, rfl, hfz, hnd⟩ := hW
  have hA : DataW.TrodAll enc Try.prog W 0 (fun _ => true) true Try.f5.params.toList args.toList ds p := hA0
  rw [Try.params5] at hA hval
  obtain ⟨v0, v1, v2, d0, d1, d2, p0, p1, p2, rfl, rfl, rfl, t0, t1, t2⟩ := trodAll_three hA
  obtain ⟨rfl, rfl⟩ := trodVars_none hV
  obtain ⟨i0, hi0, hz0⟩ := Option.map_eq_some_iff.1 sz3
  have hv0 : IntsArg Try.prog W .i64 3 v0 := ints_arg u22 u3 hi0 hz0 (hval 0 _ _ rfl rfl) t0
  obtain ⟨i1, hi1, hz1⟩ := Option.map_eq_some_iff.1 sz3
  have hv1 : IntsArg Try.prog W .i64 3 v1 := ints_arg u22 u3 hi1 hz1 (hval 1 _ _ rfl rfl) t1
  obtain ⟨i2, hi2, hz2⟩ := Option.map_eq_some_iff.1 sz29
  have hv2 : IntsArg Try.prog W .u64 29 v2 := ints_arg u34 u29 hi2 hz2 (hval 2 _ _ rfl rfl) t2
  clear hA0 hval0
  simp only [List.append_nil, List.nil_append] at hW'
  refine (walk W hv0 hv1 hv2).mono fun e W' ⟨he, hg⟩ => ?_
  subst he
  have hlt0 : ∀ z ∈ p0, z.block < W.heap.size := fun z hz => hW'.lt z (by simp [hz])
  have hlt1 : ∀ z ∈ p1, z.block < W.heap.size := fun z hz => hW'.lt z (by simp [hz])
  have hlt2 : ∀ z ∈ p2, z.block < W.heap.size := fun z hz => hW'.lt z (by simp [hz])
  exact ⟨_, rfl, Sh.law_post (pa := (p0 ++ (p1 ++ p2))) (pv := []) hW' hg (by simp) (fun sp hsp => trodAll_mk3 (WideElems.Trod_stays laidOut (by kernel_rfl) (of_decide_eq_true (by kernel_rfl)) t0 (fun z hz => hg.same (hlt0 z hz)) (fun z hz => hsp z (by simp [hz]))) (WideElems.Trod_stays laidOut (by kernel_rfl) (of_decide_eq_true (by kernel_rfl)) t1 (fun z hz => hg.same (hlt1 z hz)) (fun z hz => hsp z (by simp [hz]))) (WideElems.Trod_stays laidOut (by kernel_rfl) (of_decide_eq_true (by kernel_rfl)) t2 (fun z hz => hg.same (hlt2 z hz)) (fun z hz => hsp z (by simp [hz])))) (fun _ _ => rfl) (fun _ _ _ => (trodAll_cons_mk (shut_bool u4 _) trodAll_mk0))
    (ok_one (by kernel_rfl) rfl (okWide_bool_mk u4 _))⟩

theorem over : Rows.heapKeepsRow.holds Try.pinned (OpenSpec.ofChange Rows.heapKeepsSpec) :=
  OpenClaim.holds_of_wide 5 Try.f5 rfl rfl rfl rfl rfl rfl rfl ⟨rfl, rfl, rfl, rfl, rfl⟩ rfl rfl rfl rfl rfl (by kernel_rfl) Try.func5 (by kernel_rfl)
    (of_decide_eq_true (by kernel_rfl)) (by unfold Func.isWrapper; first | (rw [if_pos (by decide +kernel)]; kernel_rfl) | (rw [if_neg (by decide +kernel)]; exact ⟨rfl, rfl⟩))
    (fun os started H enc _ => lifted os started H enc)

theorem proved : Rows.HeapKeepsSaid :=
  over
#print axioms proved
end Go.Proofs.Ytmehepbejckmlaa.heapKeeps
