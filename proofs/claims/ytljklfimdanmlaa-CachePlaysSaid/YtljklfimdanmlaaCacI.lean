/-
  This text proves what the cache's 'Put' does, over the abstract run.
  Condition: nothing is known of the calls ahead ('S f = []').
-/
import Derived.Test.YtljklfimdanmlaaCacH
set_option maxRecDepth 100000
set_option linter.unusedSimpArgs false
set_option linter.unusedVariables false
namespace Go.Proofs.Ytljklfimdanmlaa.base
open Go.Sh gen
variable {S : Sums} {m : Mem} {cb f0 fa : Nat} {x0 x2 : Value} {a : Option Addr} {l A : List Px} {Q : Nat → Prop} {room uses : Nat}
theorem kmix {m m1 m2 : Mem} {fs gs : List Nat} (h : Keeps m m1 fs) (k : Keeps m1 m2 gs) (hb : ∀ f ∈ gs, m.next ≤ f ∨ f ∈ fs) : Keeps m m2 fs := by
  have n : ∀ q, q < m.next → q ∉ fs → q ∉ gs := fun q hq hn hm => by
    rcases hb q hm with h | h
    · omega
    · exact hn h
  refine ⟨Nat.le_trans h.1 k.1, fun l bl hl hg hq hf => ?_, fun f hl hf => ?_, fun f hl hf => ?_⟩
  · exact k.2.1 l bl (Nat.lt_of_lt_of_le hl h.1) (h.2.1 l bl hl hg hq hf) (Nat.lt_of_lt_of_le hq h.1) (n _ hq hf)
  · rw [k.2.2.1 f (Nat.lt_of_lt_of_le hl h.1) (n _ hl hf), h.2.2.1 f hl hf]
  · rw [k.2.2.2 f (Nat.lt_of_lt_of_le hl h.1) (n _ hl hf), h.2.2.2 f hl hf]
theorem cutp_ (H : Prop) {T G : Prop} (main : (H → T) → G) (mp : H → T) : G := main mp
/-- who goes for n bytes, and who stays -/
def shed (room n : Nat) : List Px → List Px × List Px
  | [] => ([], [])
  | x :: r => if room < sizes (x :: r) + n ∨ 8 ≤ (x :: r).length then (x :: (shed room n r).1, (shed room n r).2) else ([], x :: r)
theorem sizes_le {k : List Px} (h : ∀ x ∈ k, x.sz ≤ 1048576) : sizes k ≤ k.length * 1048576 := by
  induction k with
  | nil => simp [sizes]
  | cons x r ih =>
    have h1 := h x (by simp)
    have h2 := ih (fun y hy => h y (by simp [hy]))
    simp only [sizes, List.map_cons, List.sum_cons, List.length_cons] at h2 ⊢
    omega
theorem shed_sub (room n : Nat) : ∀ A : List Px, (shed room n A).2.Sublist A
  | [] => .slnil
  | x :: r => by
    unfold shed
    split
    · exact (shed_sub room n r).cons x
    · exact .refl _
theorem shed_small (room n : Nat) (hn : n ≤ room) : ∀ A : List Px, (shed room n A).2.length ≤ 7
  | [] => by simp [shed]
  | x :: r => by
    unfold shed
    split
    · exact shed_small room n hn r
    · rename_i h; simp only [not_or] at h; show (x :: r).length ≤ 7; omega
/-- what 'Put' answers and leaves -/
def PutR (Q : Nat → Prop) (m m1 : Mem) (cb room uses : Nat) (A : List Px) (f0 : Nat) (f pc : Int) (sz : Nat) (needs : List Int) (v : Value) : Prop :=
  (room < sz ∧ CAt Q m1 cb room uses A ∧ v = .tuple #[.slice none 0 0, .int .i64 2]) ∨
  ∃ x o, sz ≤ room ∧ x.f = f ∧ x.pc = pc ∧ x.sz = sz ∧ x.needs = needs ∧ x.used = uses + 1 ∧ CAt (Qn Q m m1) m1 cb room (uses + 1) ((shed room sz (wo f pc A)).2 ++ [x]) ∧ KysR m m1 o (kys (shed room sz (wo f pc A)).1) ∧ v = .tuple #[o, .int .i64 0]
set_option maxHeartbeats 4000000 in
theorem put_run (hN : Nc S) (h : CA Q m cb room uses A f0 a l fa) (hQ : ∀ f, Q f → f < m.next) (hu : uses ≤ 1000000) (hroom : room ≤ 1048576) (f pc : Int) {sz : Nat} {needs : List Int} {ca ea na ga : Option Addr} {cf nf : Nat} (hc : Rs m ca sz (List.replicate sz (.int .u8 0)) 5 1 cf) (hn : Rs m na needs.length (ic needs) 3 1 nf) (hq1 : sz ≠ 0 → ¬ Q cf) (hq2 : needs ≠ [] → ¬ Q nf) (h1 : sz ≤ 1048576) (h2 : needs.length ≤ 1000) :
    ∃ v m1, callw Try.prog TT S 10 [.pointer (some ⟨cb, 0, none⟩), ent f pc sz needs.length ca ea na ga] m = some (v, m1) ∧ PutR Q m m1 cb room uses A f0 f pc sz needs v ∧ KQ Q m m1 := by
  unfold ent
  have ll := h.pm.length_eq
  have l8 := h.len
  obtain ⟨oE, kE, nE⟩ := new_own (m := m) (cs := [.int .i64 f, .int .i64 pc, .slice ca sz sz, .slice none 0 0, .slice ea 0 0, .slice na needs.length needs.length, .slice ga 0 0]) (e := 41) rfl
  have e0 := oE.load1 (off := 0) rfl
  have e1 := oE.load1 (off := 1) rfl
  have e2 := oE.load1 (off := 2) rfl
  refine fn_w 8 [17, 50] k10 hN.put rfl ?_
  simp [-Int.natCast_add, -w10_1, -BitVec.toNat_or, -BitVec.toNat_ofInt, -BitVec.toNat_and, box_of b41, fieldAddr_of fa41_0, fieldAddr_of fa39_2, load_of ld35, len_slice u35, fieldAddr_of fa63_0, load_of ld3, fieldAddr_of fa39_0, fieldAddr_of fa39_1, fieldAddr_of fa63_1, load_of ld60, len_slice u60, mkif_of ni66, asr_of ni64, buildSlice_of u32 bs50 rfl, append_s u32 sz50, fieldAddr_of fa63_2, load_of ld61, store_of sz61, load_agg ld41, build_of bo71, box_of b71, mkif_of ni64]
  generalize m.new _ _ = m1 at *
  have hE := h.keep0 kE
  have lr := hE.h.own.load1 (off := 0) rfl
  have qb : ¬ Q m.next := fun q => by have := hQ _ q; omega
  by_cases hbig : room < sz
  · have hbig' : (room : Int) < sz := by omega
    simp [-Int.natCast_add, -BitVec.toNat_or, -BitVec.toNat_ofInt, -BitVec.toNat_and, box_of b41, fieldAddr_of fa41_0, fieldAddr_of fa39_2, load_of ld35, len_slice u35, fieldAddr_of fa63_0, load_of ld3, fieldAddr_of fa39_0, fieldAddr_of fa39_1, fieldAddr_of fa63_1, load_of ld60, len_slice u60, mkif_of ni66, asr_of ni64, buildSlice_of u32 bs50 rfl, append_s u32 sz50, fieldAddr_of fa63_2, load_of ld61, store_of sz61, load_agg ld41, build_of bo71, box_of b71, mkif_of ni64, e0, e1, e2, lr, hbig, hbig']
    exact ⟨Or.inl ⟨hbig, ⟨_, _, _, _, hE⟩, rfl⟩, [], kE, by simp⟩
  · have hbig' : ¬ (room : Int) < sz := by omega
    obtain ⟨v2, m2, c2, rfl, ⟨l2, h2'⟩, fs2, k2, hfs2⟩ := drop_run (m := m1) hN hE f pc
    simp [-Int.natCast_add, -BitVec.toNat_or, -BitVec.toNat_ofInt, -BitVec.toNat_and, box_of b41, fieldAddr_of fa41_0, fieldAddr_of fa39_2, load_of ld35, len_slice u35, fieldAddr_of fa63_0, load_of ld3, fieldAddr_of fa39_0, fieldAddr_of fa39_1, fieldAddr_of fa63_1, load_of ld60, len_slice u60, mkif_of ni66, asr_of ni64, buildSlice_of u32 bs50 rfl, append_s u32 sz50, fieldAddr_of fa63_2, load_of ld61, store_of sz61, load_agg ld41, build_of bo71, box_of b71, mkif_of ni64, e0, e1, e2, lr, hbig, hbig', c2]
    have hn2 : m1.next ≤ m2.next := k2.1
    have qb2 : m.next ∉ fs2 := fun hm => qb (hfs2 _ hm)
    have hcf : sz ≠ 0 → cf < m.next := fun z => by obtain ⟨_, _, r⟩ := hc.rdo z; exact r.flt
    have hnf : needs ≠ [] → nf < m.next := fun z => by obtain ⟨_, _, r⟩ := hn.rdo (by simpa using z); exact r.flt
    refine wsem_loop 8 [17, 50] (fun d E mF => ∃ (g k l' : List Px) (ka : Option Addr) (kf : Nat) (fs : List Nat), k.length = d ∧ shed room sz (wo f pc A) = (g ++ (shed room sz k).1, (shed room sz k).2) ∧ (g ++ k).Sublist A ∧ k.Sublist (wo f pc A) ∧ CA Q mF cb room uses k f0 a l' fa ∧ Keeps m mF fs ∧ (∀ q ∈ fs, Q q) ∧ Own mF m.next [.int .i64 f, .int .i64 pc, .slice ca sz sz, .slice none 0 0, .slice ea 0 0, .slice na needs.length needs.length, .slice ga 0 0] 41 m.next ∧ m1.next ≤ mF.next ∧
      Sl mF ka g.length (mvc (kys g)) 50 2 kf ∧ (ka ≠ none → m1.next ≤ kf) ∧
      E = [(0, .pointer (some ⟨cb, 0, none⟩)), (3, .pointer (some ⟨m.next, 0, none⟩)), (6, .int .i64 (sz : Int)), (7, .slice ka g.length g.length)]) _ ⟨_, ⟨[], wo f pc A, l2, none, 0, fs2, rfl, by simp, by simpa using wo_sub f pc A, .refl _, h2', kE.nil.trans k2, hfs2, oE.keep k2 qb2, hn2, Sl.nil _ _ _ _, by simp, rfl⟩, ⟨by rfl, by rfl, by rfl, by rfl, trivial⟩⟩ ?_
    rintro d E mF ih ⟨g, k, l', ka, kf, fs, hd, hsh, hsub, hkA, hC, kF, hfs, oF, hnF, sF, hkf, rfl⟩
    have kl8 := hC.len
    have kll := hC.pm.length_eq
    have gl8 : (g ++ k).length ≤ 8 := Nat.le_trans hsub.length_le l8
    rw [List.length_append] at gl8
    have hsz := sizes_le (fun x hx => (hC.sz x hx).1)
    have d1 := hC.h.own.load1 (off := 1) rfl
    have d0 := hC.h.own.load1 (off := 0) rfl
    have d2 := hC.h.own.load1 (off := 2) rfl
    have esz : sizes l' = sizes k := by
      have := hC.pm.map (·.sz)
      exact this.sum_nat
    have cz := size_run hN hC.h (by omega) (by omega)
    rw [esz] at cz
    rw [kll] at d1
    have wr : IntKind.i64.wrap ((room : Int) - (sz : Int)) = (room : Int) - (sz : Int) := wrap_i64 (by omega) (by omega)
    have fin : (∀ x r, k = x :: r → ¬ (room < sizes k + sz ∨ 8 ≤ k.length)) → shed room sz (wo f pc A) = (g, k) := by
      intro hx
      rw [hsh]
      cases k with
      | nil => simp [shed]
      | cons x r =>
        have := hx x r rfl
        unfold shed
        rw [if_neg this]; simp
    have hk : k.length = 0 ∨ 0 < k.length := by omega
    have pop : 0 < k.length → ∃ (x : Px) (r : List Px) (m3 m4 : Mem), k = x :: r ∧ callw Try.prog TT S 26 [hif cb] mF = some (.iface 64 (ptr x), m3) ∧ callw Try.prog TT S 27 [ptr x] m3 = some (.agg #[.int .i64 x.f, .int .i64 x.pc], m4) ∧ Keeps mF m4 [f0, fa] ∧ (∃ l3, CA Q m4 cb room uses r f0 a l3 fa) ∧ Sl m4 ka g.length (mvc (kys g)) 50 2 kf ∧ Q f0 ∧ Q fa := by
      intro hk0
      obtain ⟨v3, m3, c3, ⟨x, l3, rfl, hp3, H3, i3, hh3, hmin⟩, k3⟩ := hpop_run hN.toNh hC.h (by omega) (by omega) hC.hp
      obtain ⟨m4, c4, k4⟩ := key_run (m := m3) hN i3
      have qa := hC.qa (hC.some (by intro e; rw [e] at kll; simp at kll; omega))
      cases hkk : k with
      | nil => rw [hkk] at hk0; simp at hk0
      | cons y r =>
        have e : x = y := by
          have hx : x ∈ k := hC.pm.mem_iff.1 (hp3.mem_iff.2 (by simp))
          have hy : y ∈ l' := hC.pm.mem_iff.2 (by rw [hkk]; simp)
          have h1 := hmin y hy
          rw [hkk] at hx
          rcases List.mem_cons.1 hx with hx | hx
          · exact hx
          · have hs := hC.srt
            rw [hkk] at hs
            have := (List.pairwise_cons.1 hs).1 x hx
            omega
        subst e
        have hp4 : l3.Perm r := by
          have := hp3.symm.trans hC.pm
          rw [hkk] at this
          exact this.cons_inv
        have C3 := hC.sub H3 hh3 hp4 (by rw [hkk]; exact List.sublist_cons_self _ _)
        have s3 := sF.keepz k3 (fun hka => by
          have := hkf hka
          have := hQ _ hC.q0
          have := hQ _ qa
          simp; omega)
        exact ⟨x, r, m3, m4, rfl, c3, c4, (k3.trans k4.nil), ⟨l3, C3.keep0 k4⟩, s3.keep k4 (by simp), hC.q0, qa⟩
    have nxt : ∀ (x : Px) (r : List Px) (m4 m5 : Mem) (nb nf5 : Nat), k = x :: r → (room < sizes k + sz ∨ 8 ≤ k.length) → Keeps mF m4 [f0, fa] → (∃ l3, CA Q m4 cb room uses r f0 a l3 fa) → Q f0 → Q fa → Own m5 nb (mvc (kys g) ++ [.int .i64 x.f, .int .i64 x.pc]) 50 nf5 → Keeps m4 m5 (if ka = none then [] else [kf]) → ((ka ≠ none ∧ nf5 = kf) ∨ m4.next ≤ nf5) →
        ∃ (g' k' l' : List Px) (ka' : Option Addr) (kf' : Nat) (fs' : List Nat), k'.length = r.length ∧ shed room sz (wo f pc A) = (g' ++ (shed room sz k').1, (shed room sz k').2) ∧ (g' ++ k').Sublist A ∧ k'.Sublist (wo f pc A) ∧ CA Q m5 cb room uses k' f0 a l' fa ∧ Keeps m m5 fs' ∧ (∀ q ∈ fs', Q q) ∧ Own m5 m.next [.int .i64 f, .int .i64 pc, .slice ca sz sz, .slice none 0 0, .slice ea 0 0, .slice na needs.length needs.length, .slice ga 0 0] 41 m.next ∧ m1.next ≤ m5.next ∧
      Sl m5 ka' g'.length (mvc (kys g')) 50 2 kf' ∧ (ka' ≠ none → m1.next ≤ kf') ∧ [(0, Value.pointer (some ⟨cb, 0, none⟩)), (3, .pointer (some ⟨m.next, 0, none⟩)), (6, .int .i64 (sz : Int)), (7, .slice (some ⟨nb, 0, none⟩) (g.length + 1) (g.length + 1))] = [(0, .pointer (some ⟨cb, 0, none⟩)), (3, .pointer (some ⟨m.next, 0, none⟩)), (6, .int .i64 (sz : Int)), (7, .slice ka' g'.length g'.length)] := by
      intro x r m4 m5 nb nf5 hxr hov k4 ⟨l3, C4⟩ q0 qa o5 k5 hf5
      have hm4 : mF.next ≤ m4.next := k4.1
      have hkfb : ∀ q ∈ (if ka = none then [] else [kf]), ¬ Q q ∧ m1.next ≤ q := by
        intro q hq
        split at hq
        · simp at hq
        · rename_i hka
          simp at hq
          subst hq
          have := hkf hka
          exact ⟨fun hqq => by have := hQ _ hqq; omega, this⟩
      refine ⟨g ++ [x], r, l3, some ⟨nb, 0, none⟩, nf5, fs ++ [f0, fa], rfl, ?_, ?_, ?_, C4.keep k5 (fun q hq => (hkfb q hq).1), ?_, ?_, ?_, ?_, ?_, fun _ => ?_, by simp⟩
      · rw [hsh, hxr, shed, if_pos (by rw [← hxr]; exact hov)]; simp
      · rw [hxr] at hsub; simpa using hsub
      · rw [hxr] at hkA; exact (List.sublist_cons_self _ _).trans hkA
      · have kk : Keeps m m4 (fs ++ [f0, fa]) := (kF.mono (fun q hq => List.mem_append_left _ hq)).trans (k4.mono (fun q hq => List.mem_append_right _ hq))
        exact kmix kk k5 (fun q hq => Or.inl (by have := (hkfb q hq).2; omega))
      · intro q hq
        simp only [List.mem_append, List.mem_cons, List.not_mem_nil, or_false] at hq
        rcases hq with hq | rfl | rfl
        · exact hfs q hq
        · exact q0
        · exact qa
      · refine (oF.keep k4 ?_).keep k5 (fun hm => by have := (hkfb _ hm).2; omega)
        simp only [List.mem_cons, List.not_mem_nil, or_false, not_or]
        exact ⟨fun e => qb (e ▸ q0), fun e => qb (e ▸ qa)⟩
      · have := k5.1; omega
      · exact Sl.of (by rw [show kys (g ++ [x]) = kys g ++ [(x.f, x.pc)] by simp [kys]]; simpa [mvc] using o5) (by rw [mvc_len]; simp [kys])
      · rcases hf5 with ⟨h, h'⟩ | h
        · rw [h']; exact hkf h
        · omega
    apply cutp_ (∀ x r, k = x :: r → ¬ (room < sizes k + sz ∨ 8 ≤ k.length))
    case main =>
      intro meth
      rcases hk with hk | hk
      · simp [-Int.natCast_add, -w10_8, -BitVec.toNat_or, -BitVec.toNat_ofInt, -BitVec.toNat_and, box_of b41, fieldAddr_of fa41_0, fieldAddr_of fa39_2, load_of ld35, len_slice u35, fieldAddr_of fa63_0, load_of ld3, fieldAddr_of fa39_0, fieldAddr_of fa39_1, fieldAddr_of fa63_1, load_of ld60, len_slice u60, mkif_of ni66, asr_of ni64, buildSlice_of u32 bs50 rfl, append_s u32 sz50, fieldAddr_of fa63_2, load_of ld61, store_of sz61, load_agg ld41, build_of bo71, box_of b71, mkif_of ni64, d1, d0, hk]
        exact w_sub (E := [(0, .pointer (some ⟨cb, 0, none⟩)), (3, .pointer (some ⟨m.next, 0, none⟩)), (6, .int .i64 (sz : Int)), (7, .slice ka g.length g.length)]) (meth (fun x r e => by rw [e] at hk; simp at hk)) ⟨by rfl, by rfl, by rfl, by rfl, trivial⟩
      · have hk' : 0 < (k.length : Int) := by omega
        obtain ⟨x, r, m3, m4, hxr, c3, c4, k4, C4, s4, q0, qa⟩ := pop hk
        have hrl : k.length = r.length + 1 := by rw [hxr]; rfl
        by_cases hc1 : room < sizes k + sz
        · have hc1' : (room : Int) - sz < (sizes k : Int) := by omega
          simp [-Int.natCast_add, -w10_8, -BitVec.toNat_or, -BitVec.toNat_ofInt, -BitVec.toNat_and, box_of b41, fieldAddr_of fa41_0, fieldAddr_of fa39_2, load_of ld35, len_slice u35, fieldAddr_of fa63_0, load_of ld3, fieldAddr_of fa39_0, fieldAddr_of fa39_1, fieldAddr_of fa63_1, load_of ld60, len_slice u60, mkif_of ni66, asr_of ni64, buildSlice_of u32 bs50 rfl, append_s u32 sz50, fieldAddr_of fa63_2, load_of ld61, store_of sz61, load_agg ld41, build_of bo71, box_of b71, mkif_of ni64, d1, d0, hk, hk', cz, wr, hc1', c3, c4]
          generalize hra : sappend _ _ _ _ _ _ = ra
          obtain ⟨m5, nb, nf5, rfl, o5, k5, hf5, _, _⟩ := app_slz hra u32 ap50 s4 (by omega) (by simp) (by simp [one_int]) (by omega) (by omega)
          simp [-Int.natCast_add, -w10_8, -BitVec.toNat_or, -BitVec.toNat_ofInt, -BitVec.toNat_and, box_of b41, fieldAddr_of fa41_0, fieldAddr_of fa39_2, load_of ld35, len_slice u35, fieldAddr_of fa63_0, load_of ld3, fieldAddr_of fa39_0, fieldAddr_of fa39_1, fieldAddr_of fa63_1, load_of ld60, len_slice u60, mkif_of ni66, asr_of ni64, buildSlice_of u32 bs50 rfl, append_s u32 sz50, fieldAddr_of fa63_2, load_of ld61, store_of sz61, load_agg ld41, build_of bo71, box_of b71, mkif_of ni64]
          exact ih _ _ _ _ (nxt x r m4 m5 nb nf5 hxr (Or.inl hc1) k4 C4 q0 qa o5 k5 hf5) (by omega) ⟨by rfl, by rfl, by rfl, by rfl, trivial⟩
        · have hc1' : ¬ (room : Int) - sz < (sizes k : Int) := by omega
          by_cases hc2 : 8 ≤ k.length
          · have hc2' : 8 ≤ (k.length : Int) := by omega
            simp [-Int.natCast_add, -w10_8, -BitVec.toNat_or, -BitVec.toNat_ofInt, -BitVec.toNat_and, box_of b41, fieldAddr_of fa41_0, fieldAddr_of fa39_2, load_of ld35, len_slice u35, fieldAddr_of fa63_0, load_of ld3, fieldAddr_of fa39_0, fieldAddr_of fa39_1, fieldAddr_of fa63_1, load_of ld60, len_slice u60, mkif_of ni66, asr_of ni64, buildSlice_of u32 bs50 rfl, append_s u32 sz50, fieldAddr_of fa63_2, load_of ld61, store_of sz61, load_agg ld41, build_of bo71, box_of b71, mkif_of ni64, d1, d0, hk, hk', cz, wr, hc1', hc2, hc2', c3, c4]
            generalize hra : sappend _ _ _ _ _ _ = ra
            obtain ⟨m5, nb, nf5, rfl, o5, k5, hf5, _, _⟩ := app_slz hra u32 ap50 s4 (by omega) (by simp) (by simp [one_int]) (by omega) (by omega)
            simp [-Int.natCast_add, -w10_8, -BitVec.toNat_or, -BitVec.toNat_ofInt, -BitVec.toNat_and, box_of b41, fieldAddr_of fa41_0, fieldAddr_of fa39_2, load_of ld35, len_slice u35, fieldAddr_of fa63_0, load_of ld3, fieldAddr_of fa39_0, fieldAddr_of fa39_1, fieldAddr_of fa63_1, load_of ld60, len_slice u60, mkif_of ni66, asr_of ni64, buildSlice_of u32 bs50 rfl, append_s u32 sz50, fieldAddr_of fa63_2, load_of ld61, store_of sz61, load_agg ld41, build_of bo71, box_of b71, mkif_of ni64]
            exact ih _ _ _ _ (nxt x r m4 m5 nb nf5 hxr (Or.inr hc2) k4 C4 q0 qa o5 k5 hf5) (by omega) ⟨by rfl, by rfl, by rfl, by rfl, trivial⟩
          · have hc2' : ¬ 8 ≤ (k.length : Int) := by omega
            simp [-Int.natCast_add, -w10_8, -BitVec.toNat_or, -BitVec.toNat_ofInt, -BitVec.toNat_and, box_of b41, fieldAddr_of fa41_0, fieldAddr_of fa39_2, load_of ld35, len_slice u35, fieldAddr_of fa63_0, load_of ld3, fieldAddr_of fa39_0, fieldAddr_of fa39_1, fieldAddr_of fa63_1, load_of ld60, len_slice u60, mkif_of ni66, asr_of ni64, buildSlice_of u32 bs50 rfl, append_s u32 sz50, fieldAddr_of fa63_2, load_of ld61, store_of sz61, load_agg ld41, build_of bo71, box_of b71, mkif_of ni64, d1, d0, hk, hk', cz, wr, hc1', hc2, hc2']
            exact w_sub (E := [(0, .pointer (some ⟨cb, 0, none⟩)), (3, .pointer (some ⟨m.next, 0, none⟩)), (6, .int .i64 (sz : Int)), (7, .slice ka g.length g.length)]) (meth (fun x r e => by omega)) ⟨by rfl, by rfl, by rfl, by rfl, trivial⟩
    intro hfin
    have hsh := fin hfin
    obtain ⟨U, hU⟩ : ∃ U, uses + 1 = U := ⟨_, rfl⟩
    have wu : IntKind.u64.wrap ((uses : Int) + 1) = (U : Int) := by rw [wrap_u64 (by omega) (by omega)]; omega
    simp [-Int.natCast_add, -w10_9, -BitVec.toNat_or, -BitVec.toNat_ofInt, -BitVec.toNat_and, box_of b41, fieldAddr_of fa41_0, fieldAddr_of fa39_2, load_of ld35, len_slice u35, fieldAddr_of fa63_0, load_of ld3, fieldAddr_of fa39_0, fieldAddr_of fa39_1, fieldAddr_of fa63_1, load_of ld60, len_slice u60, mkif_of ni66, asr_of ni64, buildSlice_of u32 bs50 rfl, append_s u32 sz50, fieldAddr_of fa63_2, load_of ld61, store_of sz61, load_agg ld41, build_of bo71, box_of b71, mkif_of ni64, d2, wu]
    generalize hra : storeRow _ _ _ = ra
    obtain ⟨m3, rfl, o3, k3⟩ := store_own hra hC.h.own (by simp) (by simp [one_int])
    simp [over] at o3
    simp [-Int.natCast_add, -w10_9, -BitVec.toNat_or, -BitVec.toNat_ofInt, -BitVec.toNat_and, box_of b41, fieldAddr_of fa41_0, fieldAddr_of fa39_2, load_of ld35, len_slice u35, fieldAddr_of fa63_0, load_of ld3, fieldAddr_of fa39_0, fieldAddr_of fa39_1, fieldAddr_of fa63_1, load_of ld60, len_slice u60, mkif_of ni66, asr_of ni64, buildSlice_of u32 bs50 rfl, append_s u32 sz50, fieldAddr_of fa63_2, load_of ld61, store_of sz61, load_agg ld41, build_of bo71, box_of b71, mkif_of ni64]
    have nf0 := hC.h.own.flt
    have k3n := k3.1
    have H3 : HAt m3 cb f0 (.int .i64 room) (.int .u64 U) a l' fa := ⟨o3, hC.h.sl.keep k3 (fun hn => by simpa using hC.h.ne hn), hC.h.ne, hC.h.its k3 (by simp), hC.h.df⟩
    have hc3 := (hc.keep0 kF (fun z hm => hq1 z (hfs _ hm))).keep0 k3 (fun z hm => hq1 z (by simp at hm; rw [hm]; exact hC.q0))
    have hn3 := (hn.keep0 kF (fun z hm => hq2 (by simpa using z) (hfs _ hm))).keep0 k3 (fun z hm => hq2 (by simpa using z) (by simp at hm; rw [hm]; exact hC.q0))
    have oF3 := oF.keep k3 (by simp; exact fun e => qb (e ▸ hC.q0))
    have lE : loadRow m3 ⟨m.next, 0, none⟩ 7 = _ := oF3.load 7 (by simp)
    simp only [window, List.drop_zero, List.take_succ_cons, List.take_zero] at lE
    have q2 := o3.load1 (off := 2) rfl
    obtain ⟨v4, m4, c4, ⟨ca', cf', ea', na', nf', ga', rfl, hcR, hnR, hea, hga, hcf1, hcf2, hnf1, hnf2⟩, k4⟩ := copied_run (m := m3) hN.copied (f := f) (pc := pc) hc3 hn3 (ea := ea) (ga := ga) h1 h2
    have q3 := (o3.keep k4 (by simp)).load1 (off := 2) rfl
    obtain ⟨x, hx⟩ : ∃ x : Px, x = ⟨f, pc, sz, needs, U, m4.next, ca', cf', ea', na', nf', ga'⟩ := ⟨_, rfl⟩
    obtain ⟨oX, kX, nX⟩ := new_own (m := m4) (cs := x.row) (e := 71) rfl
    have q4 := (((o3.keep k4 (by simp)).keep kX (by simp))).load1 (off := 2) rfl
    have H5 := (H3.keep0 k4).keep0 kX
    have iX : ItAt (m4.new x.row 71) x := by
      subst hx
      exact ⟨oX, hcR.keep kX (by simp), hnR.keep kX (by simp), hea, hga⟩
    have k4n := k4.1
    have hdX : x.b ≠ f0 ∧ (x.sz ≠ 0 → x.cf ≠ f0) ∧ (x.needs ≠ [] → x.nf ≠ f0) := by
      subst hx
      exact ⟨by simp only; omega, fun _ => by simp only; omega, fun _ => by simp only; omega⟩
    have hdX2 : a ≠ none → x.b ≠ fa ∧ (x.sz ≠ 0 → x.cf ≠ fa) ∧ (x.needs ≠ [] → x.nf ≠ fa) := fun ha => by
      have := hC.h.sl.flt ha
      subst hx
      exact ⟨by simp only; omega, fun _ => by simp only; omega, fun _ => by simp only; omega⟩
    obtain ⟨v6, m6, c6, ⟨a', fa', l6, hp6, H6, hh6, hfa6⟩, k6⟩ := hpush_run hN.toNh H5 (by omega) hC.hp iX hdX hdX2
    have ex : x.row = [.int .i64 f, .int .i64 pc, .slice ca' sz sz, .slice none 0 0, .slice ea' 0 0, .slice na' needs.length needs.length, .slice ga' 0 0, .int .u64 U] := by subst hx; rfl
    have eb : ptr x = .pointer (some ⟨m4.next, 0, none⟩) := by subst hx; rfl
    rw [ex] at c6 q4
    rw [eb] at c6
    simp [-Int.natCast_add, -BitVec.toNat_or, -BitVec.toNat_ofInt, -BitVec.toNat_and, box_of b41, fieldAddr_of fa41_0, fieldAddr_of fa39_2, load_of ld35, len_slice u35, fieldAddr_of fa63_0, load_of ld3, fieldAddr_of fa39_0, fieldAddr_of fa39_1, fieldAddr_of fa63_1, load_of ld60, len_slice u60, mkif_of ni66, asr_of ni64, buildSlice_of u32 bs50 rfl, append_s u32 sz50, fieldAddr_of fa63_2, load_of ld61, store_of sz61, load_agg ld41, build_of bo71, box_of b71, mkif_of ni64, lE, c4, q2, q3, q4, c6]
    have k6n := k6.1
    have kFn := kF.1
    have itn : ∀ y ∈ k, y.b < mF.next ∧ (y.sz ≠ 0 → y.cf < mF.next) ∧ (y.needs ≠ [] → y.nf < mF.next) := fun y hy => (hC.all y hy).lt
    have hks : k.length ≤ 7 := by
      have := shed_small room sz (by omega) (wo f pc A)
      rw [hsh] at this; exact this
    have hfq : ∀ q ∈ (if a = none then [f0] else [f0, fa]), Q q := by
      intro q hq
      split at hq
      · simp at hq; rw [hq]; exact hC.q0
      · rename_i ha
        simp at hq
        rcases hq with rfl | rfl
        · exact hC.q0
        · exact hC.qa ha
    have CC : CA (Qn Q m m6) m6 cb room U (k ++ [x]) f0 a' l6 fa' := by
      refine hC.add (R := Qn Q m m6) H6 hh6 (hp6.trans (hC.pm.append_right [x])) (.refl _) (fun q hq => Or.inl hq) (fun ha' => ?_) (fun y hy => ?_) ?_ (by omega) (fun y hy => ?_) (fun y hy => ?_) (fun y hy => ?_) (fun y hy => ?_) ?_ ?_ ?_ hks
      · rcases hfa6 with ⟨ha, e⟩ | e
        · rw [e]; exact Or.inl (hC.qa ha)
        · exact Or.inr ⟨by omega, H6.sl.flt ha'⟩
      · have := hC.le y hy
        subst hx; simp only; omega
      · subst hx; exact Nat.le_refl _
      · intro e
        have := wo_not (hkA.subset hy)
        rw [← Bool.not_eq_true, mtk_iff] at this
        subst hx
        exact this e
      · have := (itn y hy).1
        subst hx; simp only; omega
      · have := (itn y hy).1
        subst hx; exact ⟨fun _ => by simp only; omega, fun _ => by simp only; omega⟩
      · have := (itn y hy).2
        subst hx; exact ⟨fun z => by have := this.1 z; simp only; omega, fun z => by have := this.2 z; simp only; omega⟩
      · subst hx; exact ⟨fun z => by simp only; omega, fun z => by simp only; omega⟩
      · subst hx; exact ⟨Or.inr ⟨by simp only; omega, by simp only; omega⟩, fun _ => Or.inr ⟨by simp only; omega, by simp only; omega⟩, fun _ => Or.inr ⟨by simp only; omega, by simp only; omega⟩⟩
      · subst hx; exact ⟨h1, h2⟩
    refine ⟨Or.inr ⟨x, .slice ka g.length g.length, by omega, by subst hx; rfl, by subst hx; rfl, by subst hx; rfl, by subst hx; rfl, by subst hx; exact hU.symm, ?_, ?_, rfl⟩, fs ++ (f0 :: (if a = none then [f0] else [f0, fa])), ?_, fun q hq => ?_⟩
    · rw [hsh, hU]; exact ⟨_, _, _, _, CC⟩
    · rw [hsh]
      have hka : ka ≠ none → kf ∉ [f0] := fun hn => by
        have := hkf hn
        simp
        intro e
        have := hQ _ (e ▸ hC.q0)
        omega
      have hka2 : ka ≠ none → kf ∉ (if a = none then [f0] else [f0, fa]) := fun hn hm => by
        have := hkf hn
        have := hQ _ (hfq _ hm)
        omega
      refine ⟨ka, kf, by simp [kys], ?_, fun hn => by have := hkf hn; omega⟩
      rw [show (kys (g, k).1).length = g.length by simp [kys]]
      exact (((sF.keepz k3 hka).keep k4 (by simp)).keep kX (by simp)).keepz k6 hka2
    · exact ((((kF.mono (fun q hq => List.mem_append_left _ hq)).trans (k3.mono (by simp))).trans k4.nil).trans kX.nil).trans (k6.mono (fun q hq => List.mem_append_right _ (List.mem_cons_of_mem _ hq)))
    · rcases List.mem_append.1 hq with hq | hq
      · exact Or.inl (hfs q hq)
      · rcases List.mem_cons.1 hq with rfl | hq
        · exact Or.inl hC.q0
        · exact Or.inl (hfq q hq)
end Go.Proofs.Ytljklfimdanmlaa.base

