/-
  This text proves 'Rows.CachePlaysSaid': the law 'CachePlays' returns true at any room and any steps, in whatever memory and on every tape, and its input reads as it did.
  No condition.
-/
import Derived.Test.YtljklfimdanmlaaRows
import Derived.Test.YtljklfimdanmlaaCacQ
import Derived.HandedShaped
set_option maxRecDepth 100000
set_option linter.unusedSimpArgs false
set_option linter.unusedVariables false
namespace Go.Proofs.Ytljklfimdanmlaa.cachePlays
open Go.Sh gen base
variable {S : Sums} {m : Mem}
theorem kq_le {Q : Nat → Prop} {m1 m2 : Mem} (k : KQ Q m1 m2) : m1.next ≤ m2.next := by obtain ⟨fs, kk, _⟩ := k; exact kk.1
/-- what the two have, and where -/
structure Bo (m mG : Mem) (cb rb room uses : Nat) (A : List Px) (L : List Rx) (Q R : Nat → Prop) : Prop where
  c : CAt Q mG cb room uses A
  r : RAt R mG rb room L
  e : Cor A L
  q : ∀ f, Q f → m.next ≤ f ∧ f < mG.next
  rr : ∀ f, R f → m.next ≤ f ∧ f < mG.next
  d : ∀ f, Q f → ¬ R f
  k : Keeps m mG []
theorem Bo.kd {mG : Mem} {cb rb room uses : Nat} {A : List Px} {L : List Rx} {Q R : Nat → Prop} (h : Bo m mG cb rb room uses A L Q R) : KD L ∧ A.length ≤ 8 ∧ (∀ x ∈ A, x.sz ≤ 1048576) := by
  obtain ⟨f0, a, l, fa, hc⟩ := h.c
  exact ⟨h.e.kd hc.key, hc.len, fun x hx => (hc.sz x hx).1⟩
theorem Bo.keep0 {mG m1 : Mem} {cb rb room uses : Nat} {A : List Px} {L : List Rx} {Q R : Nat → Prop} (h : Bo m mG cb rb room uses A L Q R) (k : Keeps mG m1 []) : Bo m m1 cb rb room uses A L Q R := by
  have hn := k.1
  obtain ⟨f0, a, l, fa, hc⟩ := h.c
  obtain ⟨r0, la, lf, hr⟩ := h.r
  exact ⟨⟨_, _, _, _, hc.keep0 k⟩, ⟨_, _, _, hr.keep0 k⟩, h.e, fun f hf => by have := h.q f hf; omega, fun f hf => by have := h.rr f hf; omega, h.d, h.k.trans k⟩
/-- the cache does something -/
theorem Bo.cs {mG m1 : Mem} {cb rb room uses uses' : Nat} {A A' : List Px} {L : List Rx} {Q R : Nat → Prop} (h : Bo m mG cb rb room uses A L Q R) (k : KQ Q mG m1) (hc : CAt (Qn Q mG m1) m1 cb room uses' A') :
    RAt R m1 rb room L ∧ (∀ f, Qn Q mG m1 f → m.next ≤ f ∧ f < m1.next) ∧ (∀ f, R f → m.next ≤ f ∧ f < m1.next) ∧ (∀ f, Qn Q mG m1 f → ¬ R f) ∧ Keeps m m1 [] := by
  have hn := kq_le k
  have hm := h.k.1
  obtain ⟨fs, kk, hfs⟩ := k
  obtain ⟨r0, la, lf, hr⟩ := h.r
  refine ⟨⟨_, _, _, hr.keep kk (fun q hq hrq => ?_)⟩, fun f hf => ?_, fun f hf => by have := h.rr f hf; omega, fun f hf hrf => ?_, h.k.fresh kk (fun f hf => ?_)⟩
  · rcases hfs q hq with h' | h'
    · exact h.d q h' hrq
    · have := h.rr q hrq; omega
  · rcases hf with hf | hf
    · have := h.q f hf; omega
    · omega
  · rcases hf with hf | hf
    · exact h.d f hf hrf
    · have := h.rr f hrf; omega
  · rcases hfs f hf with h' | h'
    · exact (h.q f h').1
    · omega
/-- the document's does something -/
theorem Bo.rs {mG m1 : Mem} {cb rb room uses : Nat} {A : List Px} {L : List Rx} {Q R R' : Nat → Prop} (hC : CAt Q mG cb room uses A) (hk : Keeps m mG []) (hq : ∀ f, Q f → m.next ≤ f ∧ f < mG.next) (hr : ∀ f, R f → m.next ≤ f ∧ f < mG.next) (hd : ∀ f, Q f → ¬ R f) (k : KQ R mG m1) (hR' : ∀ f, R' f → Qn R mG m1 f ∨ (m.next ≤ f ∧ f < mG.next ∧ ¬ Q f)) (hc : RAt R' m1 rb room L) (he : Cor A L) : Bo m m1 cb rb room uses A L Q R' := by
  have hn := kq_le k
  have hm := hk.1
  obtain ⟨fs, kk, hfs⟩ := k
  obtain ⟨f0, a, l, fa, hC⟩ := hC
  refine ⟨⟨_, _, _, _, hC.keep kk (fun q hqm hqq => ?_)⟩, hc, he, fun f hf => by have := hq f hf; omega, fun f hf => ?_, fun f hf hrf => ?_, hk.fresh kk (fun f hf => ?_)⟩
  · rcases hfs q hqm with h' | h'
    · exact hd q hqq h'
    · have := hq q hqq; omega
  · rcases hR' f hf with (h' | h') | h'
    · have := hr f h'; omega
    · omega
    · omega
  · rcases hR' f hrf with (h' | h') | h'
    · exact hd f hf h'
    · have := hq f hf; omega
    · exact h'.2.2 hf
  · rcases hfs f hf with h' | h'
    · exact (hr f h').1
    · omega
/-- what is neither's stays -/
theorem kq_own {Q : Nat → Prop} {m1 m2 : Mem} (k : KQ Q m1 m2) {b e fam : Nat} {cells : List Value} (o : Own m1 b cells e fam) (hq : ¬ Q fam) : Own m2 b cells e fam := by
  obtain ⟨fs, kk, hfs⟩ := k
  refine o.keep kk (fun hm => ?_)
  rcases hfs _ hm with h | h
  · exact hq h
  · have := o.flt; omega
theorem kq_sl {Q : Nat → Prop} {m1 m2 : Mem} (k : KQ Q m1 m2) {ao : Option Addr} {n e z fam : Nat} {cells : List Value} (s : Sl m1 ao n cells e z fam) (hq : ao ≠ none → ¬ Q fam) : Sl m2 ao n cells e z fam := by
  obtain ⟨fs, kk, hfs⟩ := k
  refine s.keepz kk (fun hn hm => ?_)
  rcases hfs _ hm with h | h
  · exact hq hn h
  · have := s.sr.flt hn; omega
theorem kq_rs {Q : Nat → Prop} {m1 m2 : Mem} (k : KQ Q m1 m2) {ao : Option Addr} {n e z fam : Nat} {cells : List Value} (s : Rs m1 ao n cells e z fam) (hq : n ≠ 0 → ¬ Q fam) : Rs m2 ao n cells e z fam := by
  obtain ⟨fs, kk, hfs⟩ := k
  refine s.keep0 kk (fun hn hm => ?_)
  rcases hfs _ hm with h | h
  · exact hq hn h
  · obtain ⟨_, _, r⟩ := s.rdo hn
    have := r.flt; omega
theorem kp_kq {Q : Nat → Prop} {m1 m2 : Mem} (k : KP Q m1 m2) : KQ Q m1 m2 := by
  obtain ⟨fs, kk, hfs⟩ := k
  exact ⟨fs, kk, fun q hq => Or.inl (hfs q hq)⟩
theorem sizes_perm {l A : List Px} (h : l.Perm A) : sizes l = sizes A := (h.map Px.sz).sum_nat
set_option maxHeartbeats 16000000 in
theorem law_run (hK : S 9 = [([], .bool true)]) (hS : S 6 = []) (hN : Nc S) (hD : Nr S)
    {r : Int} (hr : (Lit.int .i64 r).wf = true) {l : List StT.D} {cs : List Value} (hl : (Ty.slice 31 StT).wf l) (ha : At m (Ty.slice 31 StT) l cs) :
    ∃ v m', callw Try.prog TT S 6 [.int .i64 r, tyVal (Ty.slice 31 StT) cs] m = some (v, m') ∧ v = .bool true := by
  have hkn := fun m' => sum_ok (P := Try.prog) (T := TT) (m := m') hK
  obtain ⟨ao, rfl, hst⟩ := st_row ha
  show ∃ v m', callw Try.prog TT S 6 [.int .i64 r, .slice ao l.length l.length] m = some (v, m') ∧ v = .bool true
  clear ha hl
  have pk0 := pick_run (m := m) hN.pick r 60 (by omega) (by omega)
  obtain ⟨room, hrm, hroom⟩ : ∃ room : Nat, r % 60 = room ∧ room < 60 := ⟨(r % 60).toNat, by have := Int.emod_nonneg r (by omega : (60 : Int) ≠ 0); omega, by have := Int.emod_lt_of_pos r (by omega : (0 : Int) < 60); omega⟩
  rw [hrm] at pk0
  obtain ⟨v1, m1, c1, ⟨cb, rfl, h1⟩, k1⟩ := new_run (m := m) (room := room) hN (by omega)
  refine fn_w 67 [120, 120, 178, 189, 75, 226] k6 hS rfl ?_
  simp [-Int.natCast_add, -BitVec.toNat_or, -BitVec.toNat_ofInt, -BitVec.toNat_and, bin_ptr u24, build_of bo56, box_of b56, len_slice u22, index_slice u22 sz31, load_agg ld31, alloc_of zo31, store_of sz31, fieldAddr_of fa31_1, load_of ld3, fieldAddr_of fa31_2, fieldAddr_of fa31_0, alloc_of zo41, store_of sz41, bin_bool u4 .eql (Or.inl rfl), fieldAddr_of fa41_0, fieldAddr_of fa39_0, fieldAddr_of fa39_1, fieldAddr_of fa39_2, load_of ld35, len_slice u35, fieldAddr_of fa41_1, load_of ld29, len_slice u29, fieldAddr_of fa31_4, index_slice u29 sz3, buildSlice_of u29 bs3 rfl, append_s u29 sz3, fieldAddr_of fa31_3, load_agg ld41, bin_bool u4 .neq (Or.inr rfl), pk0, c1, hkn]
  generalize hq2 : m1.new _ _ = m2
  obtain ⟨o2, k2, n2⟩ := new_own hq2
  have B0 : Bo m m2 cb m1.next room 0 [] [] (Fr m m1) (fun f => f = m1.next) := by
    obtain ⟨f0, a, lh, fa, hc⟩ := h1
    have n1 := k1.1
    refine ⟨⟨_, _, _, _, hc.keep0 k2⟩, ⟨m1.next, none, 0, ⟨o2, Sl.nil _ _ _ _, by simp, by simp, by simp, rfl, by simp, by simp, by simp, by simp⟩⟩, rfl, fun f hf => ⟨hf.1, by have := hf.2; omega⟩, fun f hf => by subst hf; exact ⟨by omega, by omega⟩, fun f hf e => by subst e; have := hf.2; omega, k1.trans k2⟩
  generalize m1.next = rb at *
  refine wsem_loop 67 [120, 120, 178, 189, 75, 226] (fun d E mF => ∃ (i uses : Nat) (A : List Px) (L : List Rx) (Q R : Nat → Prop), 120 - i = d ∧ i ≤ 120 ∧ uses ≤ i ∧ Bo m mF cb rb room uses A L Q R ∧
    E = [(1, .slice ao l.length l.length), (5, .pointer (some ⟨cb, 0, none⟩)), (7, .pointer (some ⟨rb, 0, none⟩)), (8, .int .i64 (i : Int))]) _ ⟨_, ⟨0, 0, [], [], _, _, rfl, by omega, by omega, B0, rfl⟩, ⟨by rfl, by rfl, by rfl, by rfl, trivial⟩⟩ ?_
  rintro d E mF ih ⟨i, uses, A, L, Q, R, hd, hi, hu, hB, rfl⟩
  have im : (i : Int) ≤ 9223372036854775807 := by omega
  by_cases hlt : i < l.length
  · have hlt' : (i : Int) < l.length := by omega
    by_cases h60 : i < 120
    · have h60' : (i : Int) < 120 := by omega
      have wi : IntKind.i64.wrap ((i : Int) + 1) = ((i + 1 : Nat) : Int) := by rw [wrap_i64 (by omega) (by omega)]; omega
      obtain ⟨b, na, nf, rfl, hrow⟩ := hst i hlt
      obtain ⟨w0, hw0⟩ : ∃ z : Int, l[i].1 = z := ⟨_, rfl⟩
      obtain ⟨f0, hf0⟩ : ∃ z : Int, l[i].2.1 = z := ⟨_, rfl⟩
      obtain ⟨pc0, hp0⟩ : ∃ z : Int, l[i].2.2.1 = z := ⟨_, rfl⟩
      obtain ⟨sz0, hs0⟩ : ∃ z : Int, l[i].2.2.2.1 = z := ⟨_, rfl⟩
      obtain ⟨nd, hnd⟩ : ∃ nd, stNeeds l[i] = nd := ⟨_, rfl⟩
      simp only [hw0, hf0, hp0, hs0, hnd] at hrow
      clear hw0 hf0 hp0 hs0 hnd
      have g1 := (hrow mF hB.k).1
      obtain ⟨oX, kX, nX⟩ := new_own (m := mF) (cs := [.int .i64 0, .int .i64 0, .int .i64 0, .int .i64 0, .slice none 0 0]) (e := 31) rfl
      obtain ⟨f, hf⟩ : ∃ f, f0 % 4 = f := ⟨_, rfl⟩
      obtain ⟨pc, hpc⟩ : ∃ pc, pc0 % 4 = pc := ⟨_, rfl⟩
      obtain ⟨w, hw⟩ : ∃ w, w0 % 9 = w := ⟨_, rfl⟩
      have pkf := fun m' => pick_run (m := m') hN.pick f0 4 (by omega) (by omega)
      have pkp := fun m' => pick_run (m := m') hN.pick pc0 4 (by omega) (by omega)
      have pkw := fun m' => pick_run (m := m') hN.pick w0 9 (by omega) (by omega)
      simp only [hf, hpc, hw] at pkf pkp pkw
      simp [-Int.natCast_add, -w6_9, -BitVec.toNat_or, -BitVec.toNat_ofInt, -BitVec.toNat_and, bin_ptr u24, build_of bo56, box_of b56, len_slice u22, index_slice u22 sz31, load_agg ld31, alloc_of zo31, store_of sz31, fieldAddr_of fa31_1, load_of ld3, fieldAddr_of fa31_2, fieldAddr_of fa31_0, alloc_of zo41, store_of sz41, bin_bool u4 .eql (Or.inl rfl), fieldAddr_of fa41_0, fieldAddr_of fa39_0, fieldAddr_of fa39_1, fieldAddr_of fa39_2, load_of ld35, len_slice u35, fieldAddr_of fa41_1, load_of ld29, len_slice u29, fieldAddr_of fa31_4, index_slice u29 sz3, buildSlice_of u29 bs3 rfl, append_s u29 sz3, fieldAddr_of fa31_3, load_agg ld41, bin_bool u4 .neq (Or.inr rfl), hlt, hlt', h60, h60', im, g1]
      generalize mF.new _ _ = mX at *
      generalize hra : storeRow _ _ _ = ra
      obtain ⟨m3, rfl, oX, k3⟩ := store_own hra oX (by simp) (by simp [one_int, one_slice])
      simp [over] at oX
      have kX3 : Keeps mF m3 [] := kX.fresh k3 (by simp)
      have B3 := hB.keep0 kX3
      have x0 := oX.load1 (off := 0) rfl
      have x1 := oX.load1 (off := 1) rfl
      have x2 := oX.load1 (off := 2) rfl
      have x3 := oX.load1 (off := 3) rfl
      have x4 := oX.load1 (off := 4) rfl
      obtain ⟨xb, hxb⟩ : ∃ xb, mF.next = xb := ⟨_, rfl⟩
      rw [hxb] at oX x0 x1 x2 x3 x4
      have nXQ : ¬ Q xb := fun h => by have := hB.q _ h; omega
      have nXR : ¬ R xb := fun h => by have := hB.rr _ h; omega
      have kX3n := kX3.1
      have oXn := oX.flt
      simp [-Int.natCast_add, -w6_13, -BitVec.toNat_or, -BitVec.toNat_ofInt, -BitVec.toNat_and, bin_ptr u24, build_of bo56, box_of b56, len_slice u22, index_slice u22 sz31, load_agg ld31, alloc_of zo31, store_of sz31, fieldAddr_of fa31_1, load_of ld3, fieldAddr_of fa31_2, fieldAddr_of fa31_0, alloc_of zo41, store_of sz41, bin_bool u4 .eql (Or.inl rfl), fieldAddr_of fa41_0, fieldAddr_of fa39_0, fieldAddr_of fa39_1, fieldAddr_of fa39_2, load_of ld35, len_slice u35, fieldAddr_of fa41_1, load_of ld29, len_slice u29, fieldAddr_of fa31_4, index_slice u29 sz3, buildSlice_of u29 bs3 rfl, append_s u29 sz3, fieldAddr_of fa31_3, load_agg ld41, bin_bool u4 .neq (Or.inr rfl), hxb, x0, x1, x2, x3, pkf, pkp, pkw]
      apply cut1_ (fun mG : Mem => ∃ (uses' : Nat) (A' : List Px) (L' : List Rx) (Q' R' : Nat → Prop), uses' ≤ i + 1 ∧ Bo m mG cb rb room uses' A' L' Q' R')
      case main =>
        by_cases hg : w = 5 ∨ w = 6
        · intro meth
          apply cut_
          case main =>
            rcases hg with hg | hg
            · intro meth2
              simp [-Int.natCast_add, -w6_15, -BitVec.toNat_or, -BitVec.toNat_ofInt, -BitVec.toNat_and, bin_ptr u24, build_of bo56, box_of b56, len_slice u22, index_slice u22 sz31, load_agg ld31, alloc_of zo31, store_of sz31, fieldAddr_of fa31_1, load_of ld3, fieldAddr_of fa31_2, fieldAddr_of fa31_0, alloc_of zo41, store_of sz41, bin_bool u4 .eql (Or.inl rfl), fieldAddr_of fa41_0, fieldAddr_of fa39_0, fieldAddr_of fa39_1, fieldAddr_of fa39_2, load_of ld35, len_slice u35, fieldAddr_of fa41_1, load_of ld29, len_slice u29, fieldAddr_of fa31_4, index_slice u29 sz3, buildSlice_of u29 bs3 rfl, append_s u29 sz3, fieldAddr_of fa31_3, load_agg ld41, bin_bool u4 .neq (Or.inr rfl), hg]
              exact w_sub (E := [(1, .slice (some ⟨b, 0, none⟩) l.length l.length), (5, .pointer (some ⟨cb, 0, none⟩)), (7, .pointer (some ⟨rb, 0, none⟩)), (8, .int .i64 (i : Int)), (10, .int .i64 f), (11, .int .i64 pc)]) meth2 ⟨by rfl, by rfl, by rfl, by rfl, by rfl, by rfl, trivial⟩
            · intro meth2
              simp [-Int.natCast_add, -w6_15, -BitVec.toNat_or, -BitVec.toNat_ofInt, -BitVec.toNat_and, bin_ptr u24, build_of bo56, box_of b56, len_slice u22, index_slice u22 sz31, load_agg ld31, alloc_of zo31, store_of sz31, fieldAddr_of fa31_1, load_of ld3, fieldAddr_of fa31_2, fieldAddr_of fa31_0, alloc_of zo41, store_of sz41, bin_bool u4 .eql (Or.inl rfl), fieldAddr_of fa41_0, fieldAddr_of fa39_0, fieldAddr_of fa39_1, fieldAddr_of fa39_2, load_of ld35, len_slice u35, fieldAddr_of fa41_1, load_of ld29, len_slice u29, fieldAddr_of fa31_4, index_slice u29 sz3, buildSlice_of u29 bs3 rfl, append_s u29 sz3, fieldAddr_of fa31_3, load_agg ld41, bin_bool u4 .neq (Or.inr rfl), hg]
              exact w_sub (E := [(1, .slice (some ⟨b, 0, none⟩) l.length l.length), (5, .pointer (some ⟨cb, 0, none⟩)), (7, .pointer (some ⟨rb, 0, none⟩)), (8, .int .i64 (i : Int)), (10, .int .i64 f), (11, .int .i64 pc)]) meth2 ⟨by rfl, by rfl, by rfl, by rfl, by rfl, by rfl, trivial⟩
          obtain ⟨f0', a, lh, fa, hC⟩ := B3.c
          obtain ⟨v4, m4, c4, hG, k4⟩ := get_run hN hC (by omega) f pc
          have hG' : ∃ (uses' : Nat) (A' : List Px) (f1 p1 : Int) (s1 q1 : Nat) (ca ea na ga : Option Addr) (bb : Bool), uses' ≤ i + 1 ∧ CAt Q m4 cb room uses' A' ∧ v4 = .tuple #[ent f1 p1 s1 q1 ca ea na ga, .bool bb] ∧
              ((bb = false ∧ A' = A ∧ (∀ x ∈ A, mtk f pc x = false) ∧ f1 = 0 ∧ p1 = 0 ∧ s1 = 0 ∧ q1 = 0) ∨ ∃ x x', bb = true ∧ x ∈ A ∧ mtk f pc x = true ∧ A' = wo f pc A ++ [x'] ∧ dx x' = dx x ∧ f1 = x.f ∧ p1 = x.pc ∧ s1 = x.sz ∧ q1 = x.needs.length) := by
            rcases hG with ⟨l', hno, C4, rfl⟩ | ⟨l', x, hx, hxm, C4, ca, ea, na, ga, rfl⟩
            · exact ⟨uses, A, _, _, _, _, _, _, _, _, _, by omega, ⟨_, _, _, _, C4⟩, rfl, Or.inl ⟨rfl, rfl, hno, rfl, rfl, rfl, rfl⟩⟩
            · exact ⟨uses + 1, _, _, _, _, _, _, _, _, _, _, by omega, ⟨_, _, _, _, C4⟩, rfl, Or.inr ⟨x, _, rfl, hx, hxm, rfl, rfl, rfl, rfl, rfl, rfl⟩⟩
          obtain ⟨uses', A', f1, p1, s1, q1, ca, ea, na', ga, bb, hu', C4, rfl, hG2⟩ := hG'
          have hS4 := B3.cs k4 (by obtain ⟨a1, a2, a3, a4, C⟩ := C4; exact ⟨a1, a2, a3, a4, C.mono (fun f hf => Or.inl hf)⟩)
          obtain ⟨hR4, hq4, hr4, hd4, hk4⟩ := hS4
          have k4n := kq_le k4
          simp [-Int.natCast_add, -w6_16, -BitVec.toNat_or, -BitVec.toNat_ofInt, -BitVec.toNat_and, bin_ptr u24, build_of bo56, box_of b56, len_slice u22, index_slice u22 sz31, load_agg ld31, alloc_of zo31, store_of sz31, fieldAddr_of fa31_1, load_of ld3, fieldAddr_of fa31_2, fieldAddr_of fa31_0, alloc_of zo41, store_of sz41, bin_bool u4 .eql (Or.inl rfl), fieldAddr_of fa41_0, fieldAddr_of fa39_0, fieldAddr_of fa39_1, fieldAddr_of fa39_2, load_of ld35, len_slice u35, fieldAddr_of fa41_1, load_of ld29, len_slice u29, fieldAddr_of fa31_4, index_slice u29 sz3, buildSlice_of u29 bs3 rfl, append_s u29 sz3, fieldAddr_of fa31_3, load_agg ld41, bin_bool u4 .neq (Or.inr rfl), c4, ent]
          obtain ⟨oE, kE, nE⟩ := new_own (m := m4) (cs := [.int .i64 0, .int .i64 0, .slice none 0 0, .slice none 0 0, .slice none 0 0, .slice none 0 0, .slice none 0 0]) (e := 41) rfl
          generalize m4.new _ _ = m5 at *
          generalize hrb : storeRow _ _ _ = rb'
          obtain ⟨m6, rfl, oE, k6⟩ := store_own hrb oE (by simp) (by simp [one_int, one_slice])
          simp [over] at oE
          have k46 : Keeps m4 m6 [] := kE.fresh k6 (by simp)
          have k46n := k46.1
          obtain ⟨r0, la, lf, hRA⟩ := hR4
          have hRA6 := hRA.keep0 k46
          have hkd := B3.kd
          obtain ⟨v7, m7, c7, hX, k7⟩ := rget_run hD hRA6 (fun q hq => by have := hr4 q hq; omega) hkd.1 f pc
          have hX' : ∃ (L' : List Rx) (ca2 ea2 na2 ga2 : Option Addr), RAt (Qn R m6 m7) m7 rb room L' ∧ Cor A' L' ∧ v7 = .tuple #[ent f1 p1 s1 q1 ca2 ea2 na2 ga2, .bool bb] := by
            have hmt := B3.e.mts f pc
            rcases hG2 with ⟨rfl, rfl, hno, rfl, rfl, rfl, rfl⟩ | ⟨x, x', rfl, hx, hxm, rfl, hdx, rfl, rfl, rfl, rfl⟩
            · rcases hX with ⟨_, R7, rfl⟩ | ⟨y, hy, hym, _, _⟩
              · exact ⟨L, _, _, _, _, R7, B3.e, rfl⟩
              · have h1 : L.any (mtr f pc) = true := List.any_eq_true.2 ⟨y, hy, hym⟩
                have h2 : A'.any (mtk f pc) = false := by simpa using hno
                rw [h1, h2] at hmt
                simp at hmt
            · rcases hX with ⟨hno, _, _⟩ | ⟨y, hy, hym, R7, rfl⟩
              · have h1 : A.any (mtk f pc) = true := List.any_eq_true.2 ⟨x, hx, hxm⟩
                have h2 : L.any (mtr f pc) = false := by simpa using hno
                rw [h1, h2] at hmt
                simp at hmt
              · have hs := B3.e.same hC.key hx hy hxm hym
                have e1 : x.f = y.f := congrArg (·.1) hs
                have e2 : x.pc = y.pc := congrArg (·.2.1) hs
                have e3 : x.sz = y.sz := congrArg (·.2.2.1) hs
                have e4 : x.needs = y.needs := congrArg (·.2.2.2) hs
                exact ⟨_, _, _, _, _, R7, (B3.e.wos f pc).app (hdx.trans hs), by rw [e1, e2, e3, e4]⟩
          obtain ⟨L', ca2, ea2, na2, ga2, R7, hCor, rfl⟩ := hX'
          have k7n := kq_le k7
          obtain ⟨a1, a2, a3, a4, C4'⟩ := C4
          have B7 := Bo.rs (m := m) (mG := m6) (R' := Qn R m6 m7) (Q := Qn Q m3 m4) ⟨_, _, _, _, (C4'.keep0 k46).mono (fun f hf => Or.inl hf)⟩ (hk4.trans k46) (fun q hq => by have := hq4 q hq; omega) (fun q hq => by have := hr4 q hq; omega) hd4 k7 (fun q hq => Or.inl hq) R7 hCor
          have oE7 := kq_own k7 oE (fun h => by have := hr4 _ h; omega)
          simp [-Int.natCast_add, -w6_17, -BitVec.toNat_or, -BitVec.toNat_ofInt, -BitVec.toNat_and, bin_ptr u24, build_of bo56, box_of b56, len_slice u22, index_slice u22 sz31, load_agg ld31, alloc_of zo31, store_of sz31, fieldAddr_of fa31_1, load_of ld3, fieldAddr_of fa31_2, fieldAddr_of fa31_0, alloc_of zo41, store_of sz41, bin_bool u4 .eql (Or.inl rfl), fieldAddr_of fa41_0, fieldAddr_of fa39_0, fieldAddr_of fa39_1, fieldAddr_of fa39_2, load_of ld35, len_slice u35, fieldAddr_of fa41_1, load_of ld29, len_slice u29, fieldAddr_of fa31_4, index_slice u29 sz3, buildSlice_of u29 bs3 rfl, append_s u29 sz3, fieldAddr_of fa31_3, load_agg ld41, bin_bool u4 .neq (Or.inr rfl), c7, ent]
          obtain ⟨oG, kG, nG⟩ := new_own (m := m7) (cs := [.int .i64 0, .int .i64 0, .slice none 0 0, .slice none 0 0, .slice none 0 0, .slice none 0 0, .slice none 0 0]) (e := 41) rfl
          generalize m7.new _ _ = m8 at *
          generalize hrc : storeRow _ _ _ = rc'
          obtain ⟨m9, rfl, oG, k9⟩ := store_own hrc oG (by simp) (by simp [one_int, one_slice])
          simp [over] at oG
          have k79 : Keeps m7 m9 [] := kG.fresh k9 (by simp)
          have oE9 := oE7.keep k79 (by simp)
          have B9 := B7.keep0 k79
          have y0 := oE9.load1 (off := 0) rfl
          have y1 := oE9.load1 (off := 1) rfl
          have y2 := oE9.load1 (off := 2) rfl
          have y5 := oE9.load1 (off := 5) rfl
          have z0 := oG.load1 (off := 0) rfl
          have z1 := oG.load1 (off := 1) rfl
          have z2 := oG.load1 (off := 2) rfl
          have z5 := oG.load1 (off := 5) rfl
          simp [-Int.natCast_add, -w6_31, -BitVec.toNat_or, -BitVec.toNat_ofInt, -BitVec.toNat_and, bin_ptr u24, build_of bo56, box_of b56, len_slice u22, index_slice u22 sz31, load_agg ld31, alloc_of zo31, store_of sz31, fieldAddr_of fa31_1, load_of ld3, fieldAddr_of fa31_2, fieldAddr_of fa31_0, alloc_of zo41, store_of sz41, bin_bool u4 .eql (Or.inl rfl), fieldAddr_of fa41_0, fieldAddr_of fa39_0, fieldAddr_of fa39_1, fieldAddr_of fa39_2, load_of ld35, len_slice u35, fieldAddr_of fa41_1, load_of ld29, len_slice u29, fieldAddr_of fa31_4, index_slice u29 sz3, buildSlice_of u29 bs3 rfl, append_s u29 sz3, fieldAddr_of fa31_3, load_agg ld41, bin_bool u4 .neq (Or.inr rfl), y0, y1, y2, y5, z0, z1, z2, z5]
          exact w_sub (E := [(1, .slice (some ⟨b, 0, none⟩) l.length l.length), (5, .pointer (some ⟨cb, 0, none⟩)), (7, .pointer (some ⟨rb, 0, none⟩)), (8, .int .i64 (i : Int)), (10, .int .i64 f), (11, .int .i64 pc), (12, .bool true)]) (meth m9 ⟨_, _, _, _, _, hu', B9⟩) ⟨by rfl, by rfl, by rfl, by rfl, by rfl, by rfl, by rfl, trivial⟩
        · have h5 : ¬ w = 5 := fun h => hg (Or.inl h)
          have h6 : ¬ w = 6 := fun h => hg (Or.inr h)
          obtain ⟨f0', a, lh, fa, hC⟩ := B3.c
          have hkd := B3.kd
          by_cases h7 : w = 7
          · intro meth
            obtain ⟨v4, m4, c4, rfl, ⟨l4, C4⟩, k4⟩ := drop_run hN hC f pc
            have k4 := kp_kq k4
            have k4n := kq_le k4
            obtain ⟨⟨r0, la, lf, hRA⟩, hq4, hr4, hd4, hk4⟩ := B3.cs k4 ⟨_, _, _, _, C4.mono (fun f hf => Or.inl hf)⟩
            obtain ⟨v5, m5, c5, rfl, ⟨la1, lf1, R5⟩, k5⟩ := rDrop_run hD hRA hkd.1 f pc
            have k5' : KQ R m4 m5 := ⟨_, k5, fun q hq => Or.inl (by simp at hq; rw [hq]; exact hRA.q0)⟩
            have B5 := Bo.rs (m := m) (mG := m4) (R' := Qn R m4 m5) (Q := Qn Q m3 m4) ⟨_, _, _, _, C4.mono (fun f hf => Or.inl hf)⟩ hk4 hq4 hr4 hd4 k5' (fun q hq => Or.inl hq) ⟨_, _, _, R5⟩ (B3.e.wos f pc)
            rw [← B3.e.mts f pc] at c5
            generalize A.any (mtk f pc) = bb at *
            simp [-Int.natCast_add, -w6_31, -BitVec.toNat_or, -BitVec.toNat_ofInt, -BitVec.toNat_and, bin_ptr u24, build_of bo56, box_of b56, len_slice u22, index_slice u22 sz31, load_agg ld31, alloc_of zo31, store_of sz31, fieldAddr_of fa31_1, load_of ld3, fieldAddr_of fa31_2, fieldAddr_of fa31_0, alloc_of zo41, store_of sz41, bin_bool u4 .eql (Or.inl rfl), fieldAddr_of fa41_0, fieldAddr_of fa39_0, fieldAddr_of fa39_1, fieldAddr_of fa39_2, load_of ld35, len_slice u35, fieldAddr_of fa41_1, load_of ld29, len_slice u29, fieldAddr_of fa31_4, index_slice u29 sz3, buildSlice_of u29 bs3 rfl, append_s u29 sz3, fieldAddr_of fa31_3, load_agg ld41, bin_bool u4 .neq (Or.inr rfl), h5, h6, h7, c4, c5]
            exact w_sub (E := [(1, .slice (some ⟨b, 0, none⟩) l.length l.length), (5, .pointer (some ⟨cb, 0, none⟩)), (7, .pointer (some ⟨rb, 0, none⟩)), (8, .int .i64 (i : Int)), (10, .int .i64 f), (11, .int .i64 pc), (12, .bool true)]) (meth m5 ⟨_, _, _, _, _, by omega, B5⟩) ⟨by rfl, by rfl, by rfl, by rfl, by rfl, by rfl, by rfl, trivial⟩
          · by_cases h8 : w = 8
            · intro meth
              obtain ⟨v4, m4, c4, ⟨ka, kf, rfl, sK, hK4⟩, ⟨l4, C4⟩, k4⟩ := inv_run hN hC (fun q hq => by have := hB.q q hq; omega) f
              have k4n := kq_le k4
              obtain ⟨⟨r0, la, lf, hRA⟩, hq4, hr4, hd4, hk4⟩ := B3.cs k4 ⟨_, _, _, _, C4.mono (fun f hf => Or.inl hf)⟩
              obtain ⟨v5, m5, c5, ⟨kb, kg, rfl, sG, hK5⟩, R5, k5⟩ := rinv_run hD hRA (fun q hq => (hr4 q hq).2) f
              have B5 := Bo.rs (m := m) (mG := m4) (R' := Qn R m4 m5) (Q := Qn Q m3 m4) ⟨_, _, _, _, C4.mono (fun f hf => Or.inl hf)⟩ hk4 hq4 hr4 hd4 k5 (fun q hq => Or.inl hq) R5 (B3.e.nhits f)
              have eK := (B3.e.hits f).keys
              rw [eK] at sG c5
              obtain ⟨K, hKK⟩ : ∃ K, kys (A.filter (hit f)) = K := ⟨_, rfl⟩
              have lK : K.length ≤ 8 := by rw [← hKK, kys_len]; exact Nat.le_trans (List.length_filter_le _ _) hkd.2.1
              rw [hKK] at c4 sK c5 sG
              have sK5 := kq_sl k5 sK (fun hn hr' => by have := hB.rr _ hr'; have := hK4 hn; omega)
              have c6 := same_run (m := m5) hD sK5 sG (by omega)
              simp [-Int.natCast_add, -w6_31, -BitVec.toNat_or, -BitVec.toNat_ofInt, -BitVec.toNat_and, bin_ptr u24, build_of bo56, box_of b56, len_slice u22, index_slice u22 sz31, load_agg ld31, alloc_of zo31, store_of sz31, fieldAddr_of fa31_1, load_of ld3, fieldAddr_of fa31_2, fieldAddr_of fa31_0, alloc_of zo41, store_of sz41, bin_bool u4 .eql (Or.inl rfl), fieldAddr_of fa41_0, fieldAddr_of fa39_0, fieldAddr_of fa39_1, fieldAddr_of fa39_2, load_of ld35, len_slice u35, fieldAddr_of fa41_1, load_of ld29, len_slice u29, fieldAddr_of fa31_4, index_slice u29 sz3, buildSlice_of u29 bs3 rfl, append_s u29 sz3, fieldAddr_of fa31_3, load_agg ld41, bin_bool u4 .neq (Or.inr rfl), h5, h6, h7, h8, c4, c5, c6]
              exact w_sub (E := [(1, .slice (some ⟨b, 0, none⟩) l.length l.length), (5, .pointer (some ⟨cb, 0, none⟩)), (7, .pointer (some ⟨rb, 0, none⟩)), (8, .int .i64 (i : Int)), (10, .int .i64 f), (11, .int .i64 pc), (12, .bool true)]) (meth m5 ⟨_, _, _, _, _, by omega, B5⟩) ⟨by rfl, by rfl, by rfl, by rfl, by rfl, by rfl, by rfl, trivial⟩
            · intro meth
              simp [-Int.natCast_add, -w6_24, -BitVec.toNat_or, -BitVec.toNat_ofInt, -BitVec.toNat_and, bin_ptr u24, build_of bo56, box_of b56, len_slice u22, index_slice u22 sz31, load_agg ld31, alloc_of zo31, store_of sz31, fieldAddr_of fa31_1, load_of ld3, fieldAddr_of fa31_2, fieldAddr_of fa31_0, alloc_of zo41, store_of sz41, bin_bool u4 .eql (Or.inl rfl), fieldAddr_of fa41_0, fieldAddr_of fa39_0, fieldAddr_of fa39_1, fieldAddr_of fa39_2, load_of ld35, len_slice u35, fieldAddr_of fa41_1, load_of ld29, len_slice u29, fieldAddr_of fa31_4, index_slice u29 sz3, buildSlice_of u29 bs3 rfl, append_s u29 sz3, fieldAddr_of fa31_3, load_agg ld41, bin_bool u4 .neq (Or.inr rfl), h5, h6, h7, h8]
              refine wsem_loop 67 [120, 120, 178, 189, 75, 226] (fun d E m4 => ∃ (k : Nat) (N : List Int) (na2 : Option Addr) (nf2 : Nat), 3 - k = d ∧ k ≤ 3 ∧ N.length = k ∧ Keeps m3 m4 [] ∧ Sl m4 na2 N.length (ic N) 3 1 nf2 ∧ (na2 ≠ none → m3.next ≤ nf2) ∧
                E = [(1, .slice (some ⟨b, 0, none⟩) l.length l.length), (5, .pointer (some ⟨cb, 0, none⟩)), (7, .pointer (some ⟨rb, 0, none⟩)), (8, .int .i64 (i : Int)), (9, .pointer (some ⟨xb, 0, none⟩)), (10, .int .i64 f), (11, .int .i64 pc), (17, .slice na2 N.length N.length), (18, .int .i64 (k : Int))]) _ ⟨_, ⟨0, [], none, 0, rfl, by omega, rfl, .refl _ _, Sl.nil _ _ _ _, by simp, rfl⟩, ⟨by rfl, by rfl, by rfl, by rfl, by rfl, by rfl, by rfl, by rfl, by rfl, trivial⟩⟩ ?_
              rintro d4 E4 m4 ih4 ⟨k, N, na2, nf2, hd4, hk3, hNk, k34, sN, hnf2, rfl⟩
              have km : (k : Int) ≤ 9223372036854775807 := by omega
              have oX4 := oX.keep k34 (by simp)
              have x44 := oX4.load1 (off := 4) rfl
              have x43 := oX4.load1 (off := 3) rfl
              by_cases hgo : k < nd.length ∧ k < 3
              · obtain ⟨hg1, hg2⟩ := hgo
                have hg1' : (k : Int) < nd.length := by omega
                have hg2' : (k : Int) < 3 := by omega
                have wk : IntKind.i64.wrap ((k : Int) + 1) = ((k + 1 : Nat) : Int) := by rw [wrap_i64 (by omega) (by omega)]; omega
                obtain ⟨nb, hnb, on⟩ := ((hrow m4 (B3.k.trans k34)).2).rdo (by omega)
                have gn := on.load1 (off := k) (v := .int .i64 nd[k]) (by simp [hg1])
                obtain ⟨q0, hq0⟩ : ∃ q : Int, nd[k] = q := ⟨_, rfl⟩
                rw [hq0] at gn
                have pkn := pick_run (m := m4) hN.pick q0 5 (by omega) (by omega)
                obtain ⟨q1, hq1⟩ : ∃ q, q0 % 5 = q := ⟨_, rfl⟩
                rw [hq1] at pkn
                simp [-Int.natCast_add, -w6_27, -BitVec.toNat_or, -BitVec.toNat_ofInt, -BitVec.toNat_and, bin_ptr u24, build_of bo56, box_of b56, len_slice u22, index_slice u22 sz31, load_agg ld31, alloc_of zo31, store_of sz31, fieldAddr_of fa31_1, load_of ld3, fieldAddr_of fa31_2, fieldAddr_of fa31_0, alloc_of zo41, store_of sz41, bin_bool u4 .eql (Or.inl rfl), fieldAddr_of fa41_0, fieldAddr_of fa39_0, fieldAddr_of fa39_1, fieldAddr_of fa39_2, load_of ld35, len_slice u35, fieldAddr_of fa41_1, load_of ld29, len_slice u29, fieldAddr_of fa31_4, index_slice u29 sz3, buildSlice_of u29 bs3 rfl, append_s u29 sz3, fieldAddr_of fa31_3, load_agg ld41, bin_bool u4 .neq (Or.inr rfl), x44, hg1, hg1', hg2, hg2', km, hnb, gn, pkn]
                generalize hrg : sappend _ _ _ _ _ _ = rg
                obtain ⟨m5, nb5, nf5, rfl, o5, k5, hf5, _, _⟩ := app_slz hrg u29 ap3 sN (by omega) (by simp) (by simp [one_int]) (by omega) (by omega)
                simp [-Int.natCast_add, -w6_27, -BitVec.toNat_or, -BitVec.toNat_ofInt, -BitVec.toNat_and, bin_ptr u24, build_of bo56, box_of b56, len_slice u22, index_slice u22 sz31, load_agg ld31, alloc_of zo31, store_of sz31, fieldAddr_of fa31_1, load_of ld3, fieldAddr_of fa31_2, fieldAddr_of fa31_0, alloc_of zo41, store_of sz41, bin_bool u4 .eql (Or.inl rfl), fieldAddr_of fa41_0, fieldAddr_of fa39_0, fieldAddr_of fa39_1, fieldAddr_of fa39_2, load_of ld35, len_slice u35, fieldAddr_of fa41_1, load_of ld29, len_slice u29, fieldAddr_of fa31_4, index_slice u29 sz3, buildSlice_of u29 bs3 rfl, append_s u29 sz3, fieldAddr_of fa31_3, load_agg ld41, bin_bool u4 .neq (Or.inr rfl), wk]
                have k34n := k34.1
                have kb5 : ∀ q ∈ (if na2 = none then [] else [nf2]), m3.next ≤ q := by
                  intro q hq
                  split at hq
                  · simp at hq
                  · rename_i hn
                    simp at hq; rw [hq]; exact hnf2 hn
                refine ih4 _ [(1, .slice (some ⟨b, 0, none⟩) l.length l.length), (5, .pointer (some ⟨cb, 0, none⟩)), (7, .pointer (some ⟨rb, 0, none⟩)), (8, .int .i64 (i : Int)), (9, .pointer (some ⟨xb, 0, none⟩)), (10, .int .i64 f), (11, .int .i64 pc), (17, .slice (some ⟨nb5, 0, none⟩) (N.length + 1) (N.length + 1)), (18, .int .i64 ((k + 1 : Nat) : Int))] _ _ ⟨k + 1, N ++ [q1], some ⟨nb5, 0, none⟩, nf5, rfl, by omega, by simp [hNk], k34.fresh k5 kb5, Sl.of (by simpa using o5) (by simp), fun _ => ?_, by simp⟩ (by omega) ⟨by rfl, by rfl, by rfl, by rfl, by rfl, by rfl, by rfl, by rfl, by rfl, trivial⟩
                rcases hf5 with ⟨h, h'⟩ | h
                · rw [h']; exact hnf2 h
                · omega
              · clear ih4
                apply cut_
                case main =>
                  by_cases hg1 : k < nd.length
                  · have hg1' : (k : Int) < nd.length := by omega
                    have hg2 : ¬ k < 3 := fun h => hgo ⟨hg1, h⟩
                    have hg2' : ¬ (k : Int) < 3 := by omega
                    intro meth2
                    simp [-Int.natCast_add, -w6_27, -BitVec.toNat_or, -BitVec.toNat_ofInt, -BitVec.toNat_and, bin_ptr u24, build_of bo56, box_of b56, len_slice u22, index_slice u22 sz31, load_agg ld31, alloc_of zo31, store_of sz31, fieldAddr_of fa31_1, load_of ld3, fieldAddr_of fa31_2, fieldAddr_of fa31_0, alloc_of zo41, store_of sz41, bin_bool u4 .eql (Or.inl rfl), fieldAddr_of fa41_0, fieldAddr_of fa39_0, fieldAddr_of fa39_1, fieldAddr_of fa39_2, load_of ld35, len_slice u35, fieldAddr_of fa41_1, load_of ld29, len_slice u29, fieldAddr_of fa31_4, index_slice u29 sz3, buildSlice_of u29 bs3 rfl, append_s u29 sz3, fieldAddr_of fa31_3, load_agg ld41, bin_bool u4 .neq (Or.inr rfl), x44, hg1, hg1', hg2, hg2', km]
                    exact w_sub (E := [(1, .slice (some ⟨b, 0, none⟩) l.length l.length), (5, .pointer (some ⟨cb, 0, none⟩)), (7, .pointer (some ⟨rb, 0, none⟩)), (8, .int .i64 (i : Int)), (9, .pointer (some ⟨xb, 0, none⟩)), (10, .int .i64 f), (11, .int .i64 pc), (17, .slice na2 N.length N.length)]) meth2 ⟨by rfl, by rfl, by rfl, by rfl, by rfl, by rfl, by rfl, by rfl, trivial⟩
                  · have hg1' : ¬ (k : Int) < nd.length := by omega
                    intro meth2
                    simp [-Int.natCast_add, -w6_27, -BitVec.toNat_or, -BitVec.toNat_ofInt, -BitVec.toNat_and, bin_ptr u24, build_of bo56, box_of b56, len_slice u22, index_slice u22 sz31, load_agg ld31, alloc_of zo31, store_of sz31, fieldAddr_of fa31_1, load_of ld3, fieldAddr_of fa31_2, fieldAddr_of fa31_0, alloc_of zo41, store_of sz41, bin_bool u4 .eql (Or.inl rfl), fieldAddr_of fa41_0, fieldAddr_of fa39_0, fieldAddr_of fa39_1, fieldAddr_of fa39_2, load_of ld35, len_slice u35, fieldAddr_of fa41_1, load_of ld29, len_slice u29, fieldAddr_of fa31_4, index_slice u29 sz3, buildSlice_of u29 bs3 rfl, append_s u29 sz3, fieldAddr_of fa31_3, load_agg ld41, bin_bool u4 .neq (Or.inr rfl), x44, hg1, hg1', km]
                    exact w_sub (E := [(1, .slice (some ⟨b, 0, none⟩) l.length l.length), (5, .pointer (some ⟨cb, 0, none⟩)), (7, .pointer (some ⟨rb, 0, none⟩)), (8, .int .i64 (i : Int)), (9, .pointer (some ⟨xb, 0, none⟩)), (10, .int .i64 f), (11, .int .i64 pc), (17, .slice na2 N.length N.length)]) meth2 ⟨by rfl, by rfl, by rfl, by rfl, by rfl, by rfl, by rfl, by rfl, trivial⟩
                have hN3 : N.length ≤ 3 := by omega
                have hnf3 : N.length ≠ 0 → m3.next ≤ nf2 := fun hz => by
                  obtain ⟨b5, hb5, _⟩ := sN.own hz
                  exact hnf2 (by rw [hb5]; simp)
                have sR := sN.rs
                clear sN hnf2 hgo hd4 hk3 hNk km
                clear k
                have k34n := k34.1
                obtain ⟨sz, hsm, hszl⟩ : ∃ sz : Nat, sz0 % 25 = sz ∧ sz < 25 := ⟨(sz0 % 25).toNat, by have := Int.emod_nonneg sz0 (by omega : (25 : Int) ≠ 0); omega, by have := Int.emod_lt_of_pos sz0 (by omega : (0 : Int) < 25); omega⟩
                have pks := fun m' => pick_run (m := m') hN.pick sz0 25 (by omega) (by omega)
                simp only [hsm] at pks
                obtain ⟨v5, m5, c5, ⟨ca, cf, rfl, hcr, hcf⟩, k5⟩ := entry_run (m := m4) (sz := sz) (na := na2) (k := N.length) hN f pc (by omega)
                simp [-Int.natCast_add, -w6_28, -BitVec.toNat_or, -BitVec.toNat_ofInt, -BitVec.toNat_and, bin_ptr u24, build_of bo56, box_of b56, len_slice u22, index_slice u22 sz31, load_agg ld31, alloc_of zo31, store_of sz31, fieldAddr_of fa31_1, load_of ld3, fieldAddr_of fa31_2, fieldAddr_of fa31_0, alloc_of zo41, store_of sz41, bin_bool u4 .eql (Or.inl rfl), fieldAddr_of fa41_0, fieldAddr_of fa39_0, fieldAddr_of fa39_1, fieldAddr_of fa39_2, load_of ld35, len_slice u35, fieldAddr_of fa41_1, load_of ld29, len_slice u29, fieldAddr_of fa31_4, index_slice u29 sz3, buildSlice_of u29 bs3 rfl, append_s u29 sz3, fieldAddr_of fa31_3, load_agg ld41, bin_bool u4 .neq (Or.inr rfl), x43, pks, c5, ent]
                obtain ⟨oE, kE, nE⟩ := new_own (m := m5) (cs := [.int .i64 0, .int .i64 0, .slice none 0 0, .slice none 0 0, .slice none 0 0, .slice none 0 0, .slice none 0 0]) (e := 41) rfl
                generalize m5.new _ _ = m6 at *
                generalize hrb : storeRow _ _ _ = rb'
                obtain ⟨m7, rfl, oE, k7⟩ := store_own hrb oE (by simp) (by simp [one_int, one_slice])
                simp [over] at oE
                have k57 : Keeps m5 m7 [] := kE.fresh k7 (by simp)
                have k37 : Keeps m3 m7 [] := (k34.trans k5).trans k57
                have k5n := k5.1
                have k57n := k57.1
                have e7 : loadRow m7 ⟨m5.next, 0, none⟩ 7 = _ := oE.load 7 (by simp)
                simp only [window, List.drop_zero, List.take_succ_cons, List.take_zero] at e7
                have B7 := B3.keep0 k37
                have hC7 := hC.keep0 k37
                have sR7 := (sR.keep k5 (by simp)).keep k57 (by simp)
                obtain ⟨v8, m8, c8, hP, k8⟩ := put_run (needs := N) hN hC7 (fun q hq => (B7.q q hq).2) (by omega) (by omega) f pc (hcr.keep k57 (by simp)) sR7 (fun _ hq => by have := hB.q _ hq; omega) (fun hz hq => by have := hB.q _ hq; have := hnf3 (by simpa using hz); omega) (by omega) (by omega) (ea := none) (ga := none)
                unfold ent at c8
                have hP' : ∃ (uses' : Nat) (A' : List Px) (K : List Mv) (ka : Option Addr) (kf : Nat) (ee : Int), uses' ≤ i + 1 ∧ CAt (Qn Q m7 m8) m8 cb room uses' A' ∧ v8 = .tuple #[.slice ka K.length K.length, .int .i64 ee] ∧ Sl m8 ka K.length (mvc K) 50 2 kf ∧ (ka ≠ none → m7.next ≤ kf) ∧ K.length ≤ 8 ∧
                    ((room < sz ∧ A' = A ∧ K = [] ∧ ee = 2) ∨ ∃ x, sz ≤ room ∧ dx x = (f, pc, sz, N) ∧ A' = (shed room sz (wo f pc A)).2 ++ [x] ∧ K = kys (shed room sz (wo f pc A)).1 ∧ ee = 0) := by
                  rcases hP with ⟨hbig, C8, rfl⟩ | ⟨x, o, hle, hxf, hxp, hxs, hxn, hxu, C8, ⟨ka, kf, rfl, sK, hK8⟩, rfl⟩
                  · exact ⟨uses, A, [], none, 0, 2, by omega, by obtain ⟨a1, a2, a3, a4, C⟩ := C8; exact ⟨a1, a2, a3, a4, C.mono (fun f hf => Or.inl hf)⟩, rfl, Sl.nil _ _ _ _, by simp, by simp, Or.inl ⟨hbig, rfl, rfl, rfl⟩⟩
                  · refine ⟨uses + 1, _, _, ka, kf, 0, by omega, C8, rfl, sK, hK8, ?_, Or.inr ⟨x, hle, by simp [dx, hxf, hxp, hxs, hxn], rfl, rfl, rfl⟩⟩
                    have h1 : ∀ (B : List Px), (shed room sz B).1.length ≤ B.length := by
                      intro B
                      induction B with
                      | nil => simp [shed]
                      | cons y B ih => unfold shed; split <;> simp; exact ih
                    have h2 := h1 (wo f pc A)
                    have h3 := (wo_sub f pc A).length_le
                    rw [kys_len]
                    have := hkd.2.1
                    omega
                obtain ⟨uses', A', K, ka, kf, ee, hu', C8, rfl, sK, hK8, hKl, hP2⟩ := hP'
                have k8n := kq_le k8
                obtain ⟨hR8, hq8, hr8, hd8, hk8⟩ := B7.cs k8 C8
                simp [-Int.natCast_add, -w6_29, -BitVec.toNat_or, -BitVec.toNat_ofInt, -BitVec.toNat_and, bin_ptr u24, build_of bo56, box_of b56, len_slice u22, index_slice u22 sz31, load_agg ld31, alloc_of zo31, store_of sz31, fieldAddr_of fa31_1, load_of ld3, fieldAddr_of fa31_2, fieldAddr_of fa31_0, alloc_of zo41, store_of sz41, bin_bool u4 .eql (Or.inl rfl), fieldAddr_of fa41_0, fieldAddr_of fa39_0, fieldAddr_of fa39_1, fieldAddr_of fa39_2, load_of ld35, len_slice u35, fieldAddr_of fa41_1, load_of ld29, len_slice u29, fieldAddr_of fa31_4, index_slice u29 sz3, buildSlice_of u29 bs3 rfl, append_s u29 sz3, fieldAddr_of fa31_3, load_agg ld41, bin_bool u4 .neq (Or.inr rfl), e7, c8]
                obtain ⟨v9, m9, c9, ⟨ca3, cf3, rfl, _, _⟩, k9⟩ := entry_run (m := m8) (sz := sz) (na := na2) (k := N.length) hN f pc (by omega)
                have nXQ8 : ¬ Q xb := nXQ
                have oX8 := kq_own k8 (((oX4.keep k5 (by simp)).keep k57 (by simp))) nXQ
                have x83 := oX8.load1 (off := 3) rfl
                obtain ⟨r0, la, lf, hRA⟩ := hR8
                have hRA9 := hRA.keep0 k9
                have k9n := k9.1
                have sR8 := kq_rs k8 sR7 (fun hz hq => by have := hB.q _ hq; have := hnf3 hz; omega)
                have sR9 := sR8.keep k9 (by simp)
                obtain ⟨y, hy⟩ : ∃ y : Rx, y = ⟨f, pc, sz, N, ca3, na2, nf2⟩ := ⟨_, rfl⟩
                obtain ⟨v10, m10, c10, hX, k10⟩ := rput_run (x := y) hD hRA9 (fun q hq => by have := hr8 q hq; omega) (by omega) hkd.1 (by rw [hy]; exact sR9) (fun hz hq => by
                  rw [hy] at hz hq
                  simp only at hz hq
                  have := hB.rr _ hq
                  have := hnf3 (by simpa using hz)
                  omega) (by rw [hy]; simp only; omega) (by rw [hy]; simp only; omega)
                have er : Value.agg y.row.toArray = ent f pc sz N.length ca3 none na2 none := by rw [hy]; rfl
                rw [er] at c10
                have hX' : ∃ (L' : List Rx) (kb : Option Addr) (kg : Nat), RAt (fun q => Qn R m9 m10 q ∨ (N ≠ [] ∧ q = nf2)) m10 rb room L' ∧ Cor A' L' ∧ v10 = .tuple #[.slice kb K.length K.length, .int .i64 ee] ∧ Sl m10 kb K.length (mvc K) 50 2 kg := by
                  have ey : y.f = f ∧ y.pc = pc ∧ y.sz = sz ∧ y.needs = N ∧ y.nf = nf2 := by rw [hy]; exact ⟨rfl, rfl, rfl, rfl, rfl⟩
                  rcases hP2 with ⟨hbig, rfl, rfl, rfl⟩ | ⟨x, hle, hdx, rfl, rfl, rfl⟩
                  · rcases hX with ⟨_, R10, rfl⟩ | ⟨o, hle2, _⟩
                    · exact ⟨L, none, 0, by obtain ⟨a1, a2, a3, C⟩ := R10; exact ⟨a1, a2, a3, C.mono (fun f hf => Or.inl (Or.inl hf))⟩, B3.e, rfl, Sl.nil _ _ _ _⟩
                    · omega
                  · rcases hX with ⟨hb2, _⟩ | ⟨o, hle2, R10, ⟨kb, kg, rfl, sG, _⟩, rfl⟩
                    · omega
                    · rw [ey.1, ey.2.1, ey.2.2.1] at R10 sG
                      rw [ey.2.2.2.1, ey.2.2.2.2] at R10
                      have hco := (B3.e.wos f pc).sheds room sz
                      rw [hco.1.keys] at sG
                      refine ⟨_, kb, kg, R10, hco.2.app (hdx.trans ?_), ?_, sG⟩
                      · simp [dr, ey]
                      · rw [ey.1, ey.2.1, ey.2.2.1, hco.1.keys]
                obtain ⟨L', kb, kg, R10, hCor, rfl, sG⟩ := hX'
                have sK10 := kq_sl k10 (sK.keep k9 (by simp)) (fun hn hq => by have := hB.rr _ hq; have := hK8 hn; omega)
                have c11 := same_run (m := m10) hD sK10 sG (by omega)
                obtain ⟨a1, a2, a3, a4, C8'⟩ := C8
                have B10 := Bo.rs (m := m) (mG := m9) (R' := fun q => Qn R m9 m10 q ∨ (N ≠ [] ∧ q = nf2)) (Q := Qn Q m7 m8) ⟨_, _, _, _, C8'.keep0 k9⟩ (hk8.trans k9) (fun q hq => by have := hq8 q hq; omega) (fun q hq => by have := hr8 q hq; omega) hd8 k10 (fun q hq => hq.imp id (fun h => by
                  have hz : N.length ≠ 0 := by simpa using h.1
                  have h3 := hnf3 hz
                  have h4 : nf2 < m4.next := by
                    obtain ⟨_, _, r⟩ := sR.rdo hz
                    exact r.flt
                  have h5 := B3.k.1
                  rw [h.2]
                  refine ⟨by omega, by omega, fun hqq => ?_⟩
                  rcases hqq with hqq | hqq
                  · have := hB.q _ hqq; omega
                  · omega)) R10 hCor
                simp [-Int.natCast_add, -w6_31, -BitVec.toNat_or, -BitVec.toNat_ofInt, -BitVec.toNat_and, bin_ptr u24, build_of bo56, box_of b56, len_slice u22, index_slice u22 sz31, load_agg ld31, alloc_of zo31, store_of sz31, fieldAddr_of fa31_1, load_of ld3, fieldAddr_of fa31_2, fieldAddr_of fa31_0, alloc_of zo41, store_of sz41, bin_bool u4 .eql (Or.inl rfl), fieldAddr_of fa41_0, fieldAddr_of fa39_0, fieldAddr_of fa39_1, fieldAddr_of fa39_2, load_of ld35, len_slice u35, fieldAddr_of fa41_1, load_of ld29, len_slice u29, fieldAddr_of fa31_4, index_slice u29 sz3, buildSlice_of u29 bs3 rfl, append_s u29 sz3, fieldAddr_of fa31_3, load_agg ld41, bin_bool u4 .neq (Or.inr rfl), x83, pks, c9, c10, c11]
                exact w_sub (E := [(1, .slice (some ⟨b, 0, none⟩) l.length l.length), (5, .pointer (some ⟨cb, 0, none⟩)), (7, .pointer (some ⟨rb, 0, none⟩)), (8, .int .i64 (i : Int)), (10, .int .i64 f), (11, .int .i64 pc), (12, .bool true)]) (meth m10 ⟨_, _, _, _, _, hu', B10⟩) ⟨by rfl, by rfl, by rfl, by rfl, by rfl, by rfl, by rfl, trivial⟩
      clear hB B3 nXQ nXR hrow oX x0 x1 x2 x3 x4 pkf pkp pkw k3 hra
      rintro mG ⟨uses', A', L', Q', R', hu', B⟩
      obtain ⟨a1, a2, a3, a4, hC⟩ := B.c
      obtain ⟨b1, b2, b3, hRA⟩ := B.r
      have l8 := hC.len
      have ep := hC.pm.length_eq
      have es := sizes_perm hC.pm
      have hsz := sizes_le (fun x hx => (hC.sz x hx).1)
      have cz := size_run hN hC.h (by omega) (by omega)
      rw [es] at cz
      have ez := B.e.szs
      have cr := rsize_run hD hRA (by omega)
      rw [ez] at cr
      obtain ⟨v4, m4, c4, ⟨ka, kf, rfl, sK, hK⟩, k4⟩ := keys_run hN hC
      obtain ⟨v5, m5, c5, ⟨kb, kg, rfl, sG, _⟩, k5⟩ := rkeys_run hD (hRA.keep0 k4)
      rw [B.e.keys] at c5 sG
      have lK : (kys A').length ≤ 8 := by rw [kys_len]; exact l8
      have c6 := same_run (m := m5) hD (sK.keep k5 (by simp)) sG (by omega)
      have hC5 := (hC.keep0 k4).keep0 k5
      obtain ⟨v7, m7, c7, rfl, k7⟩ := has_run hN hC5.h (by omega) (f := f) (pc := pc)
      obtain ⟨v8, m8, c8, ⟨kc, kh, rfl, sH, _⟩, k8⟩ := rkeys_run hD (((hRA.keep0 k4).keep0 k5).keep0 k7)
      rw [B.e.keys] at c8 sH
      have c9 := hask_run (m := m8) hD sH (by omega) f pc
      have eh : ((kys A').any fun p => decide (p.1 = f) && decide (p.2 = pc)) = a3.any (mtk f pc) := by
        have : A'.any (mtk f pc) = a3.any (mtk f pc) := (hC.pm.any_eq).symm
        rw [← this, kys, List.any_map]; rfl
      rw [eh] at c9
      have B8 := (((B.keep0 k4).keep0 k5).keep0 k7).keep0 k8
      generalize kys A' = K at *
      generalize a3.any (mtk f pc) = bb at *
      simp [-Int.natCast_add, -BitVec.toNat_or, -BitVec.toNat_ofInt, -BitVec.toNat_and, bin_ptr u24, build_of bo56, box_of b56, len_slice u22, index_slice u22 sz31, load_agg ld31, alloc_of zo31, store_of sz31, fieldAddr_of fa31_1, load_of ld3, fieldAddr_of fa31_2, fieldAddr_of fa31_0, alloc_of zo41, store_of sz41, bin_bool u4 .eql (Or.inl rfl), fieldAddr_of fa41_0, fieldAddr_of fa39_0, fieldAddr_of fa39_1, fieldAddr_of fa39_2, load_of ld35, len_slice u35, fieldAddr_of fa41_1, load_of ld29, len_slice u29, fieldAddr_of fa31_4, index_slice u29 sz3, buildSlice_of u29 bs3 rfl, append_s u29 sz3, fieldAddr_of fa31_3, load_agg ld41, bin_bool u4 .neq (Or.inr rfl), cz, cr, c4, c5, c6, c7, c8, c9, wi]
      exact ih _ _ _ _ ⟨i + 1, uses', A', L', Q', R', rfl, by omega, hu', B8, rfl⟩ (by omega) ⟨by rfl, by rfl, by rfl, by rfl, trivial⟩
    · have h60' : ¬ (i : Int) < 120 := by omega
      simp [-Int.natCast_add, -BitVec.toNat_or, -BitVec.toNat_ofInt, -BitVec.toNat_and, bin_ptr u24, build_of bo56, box_of b56, len_slice u22, index_slice u22 sz31, load_agg ld31, alloc_of zo31, store_of sz31, fieldAddr_of fa31_1, load_of ld3, fieldAddr_of fa31_2, fieldAddr_of fa31_0, alloc_of zo41, store_of sz41, bin_bool u4 .eql (Or.inl rfl), fieldAddr_of fa41_0, fieldAddr_of fa39_0, fieldAddr_of fa39_1, fieldAddr_of fa39_2, load_of ld35, len_slice u35, fieldAddr_of fa41_1, load_of ld29, len_slice u29, fieldAddr_of fa31_4, index_slice u29 sz3, buildSlice_of u29 bs3 rfl, append_s u29 sz3, fieldAddr_of fa31_3, load_agg ld41, bin_bool u4 .neq (Or.inr rfl), hlt, hlt', h60, h60']
  · have hlt' : ¬ (i : Int) < l.length := by omega
    simp [-Int.natCast_add, -BitVec.toNat_or, -BitVec.toNat_ofInt, -BitVec.toNat_and, bin_ptr u24, build_of bo56, box_of b56, len_slice u22, index_slice u22 sz31, load_agg ld31, alloc_of zo31, store_of sz31, fieldAddr_of fa31_1, load_of ld3, fieldAddr_of fa31_2, fieldAddr_of fa31_0, alloc_of zo41, store_of sz41, bin_bool u4 .eql (Or.inl rfl), fieldAddr_of fa41_0, fieldAddr_of fa39_0, fieldAddr_of fa39_1, fieldAddr_of fa39_2, load_of ld35, len_slice u35, fieldAddr_of fa41_1, load_of ld29, len_slice u29, fieldAddr_of fa31_4, index_slice u29 sz3, buildSlice_of u29 bs3 rfl, append_s u29 sz3, fieldAddr_of fa31_3, load_agg ld41, bin_bool u4 .neq (Or.inr rfl), hlt, hlt']

/- the row -/
open Go.ChangeShapes Go.WideShapes Go.ChangeAt Go.RowKit
theorem own : ownKnob Try.prog.godebug = none := by kernel_rfl
theorem mixed : Try.prog.follows .mixedOrders = true := by kernel_rfl
theorem tab : Sh.tabCheck Try.prog fns = true := by kernel_rfl
theorem known : Sh.isVal (.bool true) (Sh.call Try.prog (Sh.tabOf Try.prog fns) Sh.noSums 100000 9 [] (Sh.memG Try.prog [])) = true := by kernel_rfl
def sums : Sums := fun f => if f = 9 then [([], .bool true)] else []
theorem sumsOk : SumsOk Try.prog sums := by
  intro f p hp
  unfold sums at hp
  split at hp
  · rename_i hf
    subst hf
    simp only [List.mem_cons, List.not_mem_nil, or_false] at hp
    subst hp
    exact ⟨rfl, rfl, ⟨Try.f9, Try.func9, by kernel_rfl, by kernel_rfl⟩, fun w => Sh.closed_val mixed (Sh.tab_ok tab) (Sh.noSums_ok _) 100000 9 Try.func9 (by kernel_rfl) (gs := []) (by kernel_rfl) (by kernel_rfl) known w (fun p hp => by simp at hp)⟩
  · simp at hp

theorem walk (w : World) (x0 : Int) (hx0 : (Lit.int .i64 x0).wf = true) {v1 : Value} (h1 : DatArg Try.prog w (Ty.slice 31 (Ty.pair (Ty.int .i64) (Ty.pair (Ty.int .i64) (Ty.pair (Ty.int .i64) (Ty.pair (Ty.int .i64) (Ty.pair (Ty.slice 3 (Ty.int .i64)) Ty.unit)))))) v1) :
    Calls Try.prog 6 #[.int .i64 x0, v1] w fun e w' => e = .returned (.bool true) ∧ Below w.heap.size w w' := by
  have hM := start_rel Try.prog w
  obtain ⟨rs1, J1, m1, cs1, hw1, le1, hM1, vr1, hr1, hk1⟩ := h1 _ _ hM
  obtain ⟨v', m', h, rfl⟩ := law_run (S := sums) (m := m1) rfl rfl ⟨⟨rfl, rfl, rfl, rfl, rfl, rfl, rfl, rfl, rfl, rfl, rfl⟩, rfl, rfl, rfl, rfl, rfl, rfl, rfl, rfl, rfl, rfl, rfl, rfl, rfl, rfl, rfl, rfl, rfl, rfl, rfl, rfl, rfl, rfl, rfl, rfl⟩ ⟨rfl, rfl, rfl, rfl, rfl, rfl, rfl, rfl, rfl, rfl, rfl⟩ hx0 hw1 hr1
  exact calls_of mixed (Sh.tab_ok tab) sumsOk Try.func6 (by kernel_rfl) h rfl hM1 (.cons (.clo _ rfl) (.cons vr1 LRel.nil))

theorem laidOut : laidOutB Try.prog = true := by kernel_rfl

theorem lifted (os : Os) (started : os.Started) (H : Type) (enc : TypeId × Value → H) :
    ReturnsInHanded {} Try.checked os 6 .any (Rows.cachePlaysSpec.pre6 enc Try.prog Try.f6 Rows.cachePlaysRow.domain false) (Rows.cachePlaysSpec.post enc Try.prog Try.f6 false true false false) := by
  refine returnsInHanded_of_change (C := Try.checked) own started (by kernel_rfl) Try.func6
    (ChangeSpec.witness6 (enc := enc) (C := Try.checked) false ⟨#[], #[.int .i64 0, (tyVal (Ty.slice 31 (Ty.pair (Ty.int .i64) (Ty.pair (Ty.int .i64) (Ty.pair (Ty.int .i64) (Ty.pair (Ty.int .i64) (Ty.pair (Ty.slice 3 (Ty.int .i64)) Ty.unit)))))) ((Ty.slice 31 (Ty.pair (Ty.int .i64) (Ty.pair (Ty.int .i64) (Ty.pair (Ty.int .i64) (Ty.pair (Ty.int .i64) (Ty.pair (Ty.slice 3 (Ty.int .i64)) Ty.unit))))))).zeros)], []⟩ 8 (by kernel_rfl) (by kernel_rfl) (by kernel_rfl) (by kernel_rfl)) ?_
  intro W base args ds gs before hval0 hW hcnd _
  have hval : ∀ (j : Nat) t v, Try.f6.params[j]? = some t → args[j]? = some v → Value.okWide Try.prog W .any base t v := hval0
  have hW' := hW
  obtain ⟨p, q, hA0, hV, rfl, hfz, hnd⟩ := hW
  have hA : DataW.TrodAll enc Try.prog W 0 (fun _ => true) true Try.f6.params.toList args.toList ds p := hA0
  rw [Try.params6] at hA hval
  obtain ⟨v0, v1, d0, d1, p0, p1, rfl, rfl, rfl, t0, t1⟩ := trodAll_two hA
  obtain ⟨rfl, rfl⟩ := trodVars_none hV
  obtain ⟨x0, rfl, rfl, rfl, hx0⟩ := open_int u3 (hval 0 _ _ rfl rfl) t0
  have hv1 := dat_arg (ty := (Ty.slice 31 (Ty.pair (Ty.int .i64) (Ty.pair (Ty.int .i64) (Ty.pair (Ty.int .i64) (Ty.pair (Ty.int .i64) (Ty.pair (Ty.slice 3 (Ty.int .i64)) Ty.unit))))))) (t := 22) (by kernel_rfl) (hval 1 _ _ rfl rfl) t1
  clear hA0 hval0
  simp only [List.append_nil, List.nil_append] at hW'
  refine (walk W x0 hx0 hv1).mono fun e W' ⟨he, hg⟩ => ?_
  subst he
  have hlt1 : ∀ z ∈ p1, z.block < W.heap.size := fun z hz => hW'.lt z (by simp [hz])
  exact ⟨_, rfl, Sh.law_post (pa := ([] ++ p1)) (pv := []) hW' hg (by simp) (fun sp hsp => trodAll_mk2 (shut_int u3 hx0) (WideElems.Trod_stays laidOut (by kernel_rfl) (of_decide_eq_true (by kernel_rfl)) t1 (fun z hz => hg.same (hlt1 z hz)) (fun z hz => hsp z (by simp [hz])))) (fun _ _ => rfl) (fun _ _ _ => (trodAll_cons_mk (shut_bool u4 _) trodAll_mk0))
    (ok_one (by kernel_rfl) rfl (okWide_bool_mk u4 _))⟩

theorem over : Rows.cachePlaysRow.holds Try.pinned (OpenSpec.ofChange Rows.cachePlaysSpec) :=
  OpenClaim.holds_of_wide 6 Try.f6 rfl rfl rfl rfl rfl rfl rfl ⟨rfl, rfl, rfl, rfl, rfl⟩ rfl rfl rfl rfl rfl (by kernel_rfl) Try.func6 (by kernel_rfl)
    (of_decide_eq_true (by kernel_rfl)) (by unfold Func.isWrapper; first | (rw [if_pos (by decide +kernel)]; kernel_rfl) | (rw [if_neg (by decide +kernel)]; exact ⟨rfl, rfl⟩))
    (fun os started H enc _ => lifted os started H enc)

theorem proved : Rows.CachePlaysSaid :=
  over
#print axioms proved
end Go.Proofs.Ytljklfimdanmlaa.cachePlays

