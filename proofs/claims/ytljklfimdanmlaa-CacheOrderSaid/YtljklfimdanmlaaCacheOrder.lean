/-
  This text proves 'Rows.CacheOrderSaid': the law 'CacheOrder' returns true at any sizes, uses and number, in whatever memory and on every tape, and its input reads as it did.
  No condition.
-/
import Derived.Test.YtljklfimdanmlaaRows
import Derived.Test.YtljklfimdanmlaaCacJ
import Derived.HandedShaped
set_option maxRecDepth 100000
set_option linter.unusedSimpArgs false
set_option linter.unusedVariables false
namespace Go.Proofs.Ytljklfimdanmlaa.cacheOrder
open Go.Sh gen base
variable {S : Sums} {m : Mem}
theorem sizes_perm {l A : List Px} (h : l.Perm A) : sizes l = sizes A := (h.map Px.sz).sum_nat
theorem shed_fit (room n : Nat) (hn : n ≤ room) : ∀ A : List Px, sizes (shed room n A).2 + n ≤ room
  | [] => by simp [shed, sizes]; exact hn
  | x :: r => by
    unfold shed
    split
    · exact shed_fit room n hn r
    · rename_i h; simp only [not_or] at h; show sizes (x :: r) + n ≤ room; omega
theorem shed_app (room n : Nat) : ∀ A : List Px, (shed room n A).1 ++ (shed room n A).2 = A
  | [] => by simp [shed]
  | x :: r => by
    unfold shed
    split
    · simp only [List.cons_append, shed_app room n r]
    · rfl
theorem shed_why (room n : Nat) (A : List Px) (h : (shed room n A).1 ≠ []) : room < sizes A + n ∨ 8 ≤ A.length := by
  cases A with
  | nil => simp [shed] at h
  | cons x r =>
    unfold shed at h
    split at h
    · assumption
    · simp at h
theorem ic_flat (l : List Int) : (l.flatMap fun n : Int => [Value.int .i64 n]) = ic l := by
  induction l with
  | nil => rfl
  | cons a l ih => simp only [List.flatMap_cons, ih, List.map_cons, List.cons_append, List.nil_append]
theorem fr_sub {m0 m1 m2 : Mem} (h : m1.next ≤ m2.next) : ∀ f, Fr m0 m1 f → Fr m0 m2 f := fun f hf => ⟨hf.1, Nat.lt_of_lt_of_le hf.2 h⟩
theorem kq_fr {m0 m1 m2 : Mem} (k0 : Keeps m0 m1 []) (k : KQ (Fr m0 m1) m1 m2) : Keeps m0 m2 [] := by
  obtain ⟨fs, kk, hfs⟩ := k
  refine k0.fresh kk (fun f hf => ?_)
  have := k0.1
  rcases hfs f hf with h | h
  · exact h.1
  · omega
theorem kq_le {Q : Nat → Prop} {m1 m2 : Mem} (k : KQ Q m1 m2) : m1.next ≤ m2.next := by obtain ⟨fs, kk, _⟩ := k; exact kk.1
theorem cat_mono {Q R : Nat → Prop} {cb room uses : Nat} {A : List Px} (h : CAt Q m cb room uses A) (hq : ∀ f, Q f → R f) : CAt R m cb room uses A := by
  obtain ⟨f0, a, l, fa, h⟩ := h
  exact ⟨f0, a, l, fa, h.mono hq⟩
/-- one entry is put whose needs are none -/
theorem put0 (hN : Nc S) {Q : Nat → Prop} {cb room uses : Nat} {A : List Px} (hC : CAt Q m cb room uses A) (hQm : ∀ f, Q f → f < m.next) (hu : uses ≤ 1000000) (hroom : room ≤ 1048576) (f pc : Int) {sz : Nat} (hz : sz ≤ 1048576) :
    ∃ v2 m2 v3 m3, callw Try.prog TT S 11 [.int .i64 f, .int .i64 pc, .int .i64 (sz : Int), .slice none 0 0] m = some (v2, m2) ∧ callw Try.prog TT S 10 [.pointer (some ⟨cb, 0, none⟩), v2] m2 = some (v3, m3) ∧ m.next ≤ m3.next ∧ KQ Q m m3 ∧
      ((room < sz ∧ CAt Q m3 cb room uses A ∧ v3 = .tuple #[.slice none 0 0, .int .i64 2]) ∨ ∃ x o, sz ≤ room ∧ x.f = f ∧ x.pc = pc ∧ x.sz = sz ∧ x.needs = [] ∧ CAt (Qn Q m m3) m3 cb room (uses + 1) ((shed room sz (wo f pc A)).2 ++ [x]) ∧ KysR m m3 o (kys (shed room sz (wo f pc A)).1) ∧ v3 = .tuple #[o, .int .i64 0]) := by
  obtain ⟨f0, a, lh, fa, hC⟩ := hC
  obtain ⟨v2, m2, c2, ⟨ca, cf, rfl, hcr, hcf⟩, k2⟩ := entry_run (m := m) (sz := sz) (na := none) (k := 0) hN f pc hz
  have h2 := hC.keep0 k2
  have k2n := k2.1
  have hQ : ∀ f, Q f → f < m2.next := fun f hf => by have := hQm f hf; omega
  have hn0 : Rs m2 none 0 (ic []) 3 1 0 := ⟨by simp, Or.inl ⟨rfl, .nil⟩⟩
  obtain ⟨v3, m3, c3, hP, k3⟩ := put_run (needs := []) hN h2 hQ hu hroom f pc hcr hn0 (fun _ hq => by have := hQm _ hq; omega) (by simp) hz (by simp) (ea := none) (ga := none)
  have k3n := kq_le k3
  refine ⟨_, m2, v3, m3, c2, c3, by omega, ?_, ?_⟩
  · obtain ⟨fs, kk, hfs⟩ := k3
    exact ⟨fs, (k2.nil).trans kk, fun q hq => (hfs q hq).imp id (fun h => by omega)⟩
  · rcases hP with ⟨hb, C3, rfl⟩ | ⟨x, o, hle, hxf, hxp, hxs, hxn, hxu, C3, ⟨oa, of_, rfl, so, hof⟩, rfl⟩
    · exact Or.inl ⟨hb, C3, rfl⟩
    · refine Or.inr ⟨x, _, hle, hxf, hxp, hxs, hxn, cat_mono C3 (fun f hf => hf.imp id (fun h => ⟨by omega, h.2⟩)), ⟨oa, of_, rfl, so, fun h => by have := hof h; omega⟩, rfl⟩
theorem qn_fr {m0 m1 m2 : Mem} (h : m1.next ≤ m2.next) (h0 : m0.next ≤ m1.next) : ∀ f, Qn (Fr m0 m1) m1 m2 f → Fr m0 m2 f := fun f hf => by
  rcases hf with hf | hf
  · exact ⟨hf.1, by have := hf.2; omega⟩
  · exact ⟨by have := hf.1; omega, hf.2⟩
theorem get_sizes {A : List Px} {f pc : Int} {x : Px} {u : Nat} (hk : A.Pairwise (fun x y => ¬ (x.f = y.f ∧ x.pc = y.pc))) (hx : x ∈ A) (hm : mtk f pc x = true) : sizes (wo f pc A ++ [{ x with used := u }]) = sizes A := by
  obtain ⟨s, t, rfl⟩ := List.append_of_mem hx
  have hp : (s ++ x :: t).Perm (x :: (s ++ t)) := List.perm_middle
  have h1 := sizes_perm (rem_perm hk hm hp)
  have h2 := sizes_perm hp
  rw [h2]
  simp only [sizes, List.map_append, List.sum_append, List.map_cons, List.map_nil, List.sum_cons, List.sum_nil] at h1 ⊢
  omega
set_option maxHeartbeats 4000000 in
theorem law_run (hK : S 9 = [([], .bool true)]) (hS : S 4 = []) (hN : Nc S)
    {rs : List Int} {ao : Option Addr} {fr : Nat} (hr : Rs m ao rs.length (rs.flatMap fun n : Int => [Value.int .i64 n]) 3 1 fr) (hfr : fr < m.next) (hrl : rs.length ≤ 9223372036854775807) (hw : ∀ n ∈ rs, (Lit.int .i64 n).wf = true)
    {us : List Int} {bo : Option Addr} {fu : Nat} (hur : Rs m bo us.length (us.flatMap fun n : Int => [Value.int .i64 n]) 3 1 fu) (hfu : fu < m.next) (hul : us.length ≤ 9223372036854775807) (huw : ∀ n ∈ us, (Lit.int .i64 n).wf = true) {more : Int} (hm : (Lit.int .i64 more).wf = true) :
    ∃ v m', callw Try.prog TT S 4 [.slice ao rs.length rs.length, .slice bo us.length us.length, .int .i64 more] m = some (v, m') ∧ v = .bool true := by
  have hkn := fun m' => sum_ok (P := Try.prog) (T := TT) (m := m') hK
  rw [ic_flat] at hr hur
  obtain ⟨v1, m1, c1, ⟨cb, rfl, h1⟩, k1⟩ := new_run (m := m) (room := 100) hN (by omega)
  have c1 : callw Try.prog TT S 8 [.int .i64 100] m = some (.tuple #[.pointer (some ⟨cb, 0, none⟩), .int .i64 0], m1) := c1
  refine fn_w 18 [31, 39, 58, 94, 98, 109, 130, 135, 149] k4 hS rfl ?_
  simp [-Int.natCast_add, -BitVec.toNat_or, -BitVec.toNat_ofInt, -BitVec.toNat_and, bin_ptr u24, len_slice u29, index_slice u29 sz3, load_of ld3, len_slice u32, index_slice u32 sz50, load_agg ld50, bin_agg ag50 .neq (Or.inr rfl), scal_int u3, fieldAddr_of fa50_0, c1, hkn]
  refine wsem_loop 18 [31, 39, 58, 94, 98, 109, 130, 135, 149] (fun d E mF => ∃ (i uses : Nat) (A : List Px), 7 - i = d ∧ i ≤ 7 ∧ uses ≤ i ∧ CAt (Fr m mF) mF cb 100 uses A ∧ sizes A ≤ 100 ∧ (∀ x ∈ A, x.f < 7) ∧ Keeps m mF [] ∧
    E = [(0, .slice ao rs.length rs.length), (1, .slice bo us.length us.length), (2, .int .i64 more), (7, .pointer (some ⟨cb, 0, none⟩)), (9, .int .i64 (i : Int))]) _ ⟨_, ⟨0, 0, [], rfl, by omega, by omega, h1, by simp [sizes], by simp, k1, rfl⟩, ⟨by rfl, by rfl, by rfl, by rfl, by rfl, trivial⟩⟩ ?_
  rintro d E mF ih ⟨i, uses, A, hd, hi, hu, hC, hsz, hA7, kF, rfl⟩
  have im : (i : Int) ≤ 9223372036854775807 := by omega
  apply cut_
  case main =>
    by_cases hlt : i < rs.length
    · have hlt' : (i : Int) < rs.length := by omega
      by_cases h7 : i < 7
      · intro meth
        clear meth
        have h7' : (i : Int) < 7 := by omega
        have wi : IntKind.i64.wrap ((i : Int) + 1) = ((i + 1 : Nat) : Int) := by rw [wrap_i64 (by omega) (by omega)]; omega
        obtain ⟨b, hb, ob⟩ := (hr.keep kF (by simp)).rdo (by omega)
        have lb := ob.load1 (off := i) (v := .int .i64 rs[i]) (by simp [hlt])
        obtain ⟨z0, hz0⟩ : ∃ z : Int, rs[i] = z := ⟨_, rfl⟩
        rw [hz0] at lb
        have pk1 := pick_run (m := mF) hN.pick z0 14 (by omega) (by omega)
        obtain ⟨sz, hsm, hszl⟩ : ∃ sz : Nat, z0 % 14 = sz ∧ sz < 14 := ⟨(z0 % 14).toNat, by have := Int.emod_nonneg z0 (by omega : (14 : Int) ≠ 0); omega, by have := Int.emod_lt_of_pos z0 (by omega : (0 : Int) < 14); omega⟩
        rw [hsm] at pk1
        obtain ⟨v2, m2, v3, m3, c2, c3, n3, k3, hP⟩ := put0 hN hC (fun f hf => hf.2) (by omega) (by omega) (i : Int) 0 (sz := sz) (by omega)
        rcases hP with ⟨hbig, _, _⟩ | ⟨x, o, hle, hxf, hxp, hxs, hxn, C3, _, rfl⟩
        · omega
        simp [-Int.natCast_add, -w4_8, -BitVec.toNat_or, -BitVec.toNat_ofInt, -BitVec.toNat_and, bin_ptr u24, len_slice u29, index_slice u29 sz3, load_of ld3, len_slice u32, index_slice u32 sz50, load_agg ld50, bin_agg ag50 .neq (Or.inr rfl), scal_int u3, fieldAddr_of fa50_0, hlt, hlt', h7, h7', im, hb, lb, pk1, c2, c3, wi]
        rw [← hb]
        refine ih _ _ _ _ ⟨i + 1, uses + 1, _, rfl, by omega, by omega, cat_mono C3 (qn_fr n3 kF.1), ?_, ?_, kq_fr kF k3, rfl⟩ (by omega) ⟨by rfl, by rfl, by rfl, by rfl, by rfl, trivial⟩
        · have := shed_fit 100 sz hle (wo (i : Int) 0 A)
          simp only [sizes, List.map_append, List.sum_append, List.map_cons, List.map_nil, List.sum_cons, List.sum_nil, hxs] at this ⊢
          omega
        · intro y hy
          rcases List.mem_append.1 hy with hy | hy
          · exact hA7 y ((wo_sub _ _ _).subset ((shed_sub _ _ _).subset hy))
          · rw [List.mem_singleton.1 hy, hxf]; omega
      · have h7' : ¬ (i : Int) < 7 := by omega
        intro meth
        simp [-Int.natCast_add, -w4_8, -BitVec.toNat_or, -BitVec.toNat_ofInt, -BitVec.toNat_and, bin_ptr u24, len_slice u29, index_slice u29 sz3, load_of ld3, len_slice u32, index_slice u32 sz50, load_agg ld50, bin_agg ag50 .neq (Or.inr rfl), scal_int u3, fieldAddr_of fa50_0, hlt, hlt', h7, h7']
        exact w_sub (E := [(0, .slice ao rs.length rs.length), (1, .slice bo us.length us.length), (2, .int .i64 more), (7, .pointer (some ⟨cb, 0, none⟩)), (9, .int .i64 (i : Int))]) meth ⟨by rfl, by rfl, by rfl, by rfl, by rfl, trivial⟩
    · have hlt' : ¬ (i : Int) < rs.length := by omega
      intro meth
      simp [-Int.natCast_add, -w4_8, -BitVec.toNat_or, -BitVec.toNat_ofInt, -BitVec.toNat_and, bin_ptr u24, len_slice u29, index_slice u29 sz3, load_of ld3, len_slice u32, index_slice u32 sz50, load_agg ld50, bin_agg ag50 .neq (Or.inr rfl), scal_int u3, fieldAddr_of fa50_0, hlt, hlt']
      exact w_sub (E := [(0, .slice ao rs.length rs.length), (1, .slice bo us.length us.length), (2, .int .i64 more), (7, .pointer (some ⟨cb, 0, none⟩)), (9, .int .i64 (i : Int))]) meth ⟨by rfl, by rfl, by rfl, by rfl, by rfl, trivial⟩
  clear ih
  simp [-Int.natCast_add, -BitVec.toNat_or, -BitVec.toNat_ofInt, -BitVec.toNat_and, bin_ptr u24, len_slice u29, index_slice u29 sz3, load_of ld3, len_slice u32, index_slice u32 sz50, load_agg ld50, bin_agg ag50 .neq (Or.inr rfl), scal_int u3, fieldAddr_of fa50_0]
  have hu7 : uses ≤ 7 := by omega
  clear im hi hd hu
  revert hu7
  intro hu7
  refine wsem_loop 18 [31, 39, 58, 94, 98, 109, 130, 135, 149] (fun d E mG => ∃ (j uses : Nat) (A : List Px), 20 - j = d ∧ j ≤ 20 ∧ uses ≤ 7 + j ∧ CAt (Fr m mG) mG cb 100 uses A ∧ sizes A ≤ 100 ∧ (∀ x ∈ A, x.f < 7) ∧ Keeps m mG [] ∧
    E = [(0, .slice ao rs.length rs.length), (1, .slice bo us.length us.length), (2, .int .i64 more), (7, .pointer (some ⟨cb, 0, none⟩)), (10, .int .i64 (j : Int))]) _ ⟨_, ⟨0, uses, A, rfl, by omega, by omega, hC, hsz, hA7, kF, rfl⟩, ⟨by rfl, by rfl, by rfl, by rfl, by rfl, trivial⟩⟩ ?_
  clear hC hsz hA7 kF hu7
  clear uses A mF i
  rintro d E mF ih ⟨i, uses, A, hd, hi, hu, hC, hsz, hA7, kF, rfl⟩
  have im : (i : Int) ≤ 9223372036854775807 := by omega
  apply cut_
  case main =>
    by_cases hlt : i < us.length
    · have hlt' : (i : Int) < us.length := by omega
      by_cases h7 : i < 20
      · intro meth
        clear meth
        have h7' : (i : Int) < 20 := by omega
        have wi : IntKind.i64.wrap ((i : Int) + 1) = ((i + 1 : Nat) : Int) := by rw [wrap_i64 (by omega) (by omega)]; omega
        obtain ⟨b, hb, ob⟩ := (hur.keep kF (by simp)).rdo (by omega)
        have lb := ob.load1 (off := i) (v := .int .i64 us[i]) (by simp [hlt])
        obtain ⟨z0, hz0⟩ : ∃ z : Int, us[i] = z := ⟨_, rfl⟩
        rw [hz0] at lb
        have pk1 := pick_run (m := mF) hN.pick z0 8 (by omega) (by omega)
        obtain ⟨f, hf⟩ : ∃ f, z0 % 8 = f := ⟨_, rfl⟩
        rw [hf] at pk1
        obtain ⟨f0, a, lh, fa, hC⟩ := hC
        obtain ⟨v3, m3, c3, hG, k3⟩ := get_run hN hC (by omega) f 0
        have n3 := kq_le k3
        simp [-Int.natCast_add, -w4_12, -BitVec.toNat_or, -BitVec.toNat_ofInt, -BitVec.toNat_and, bin_ptr u24, len_slice u29, index_slice u29 sz3, load_of ld3, len_slice u32, index_slice u32 sz50, load_agg ld50, bin_agg ag50 .neq (Or.inr rfl), scal_int u3, fieldAddr_of fa50_0, hlt, hlt', h7, h7', im, hb, lb, pk1, c3, wi]
        rw [← hb]
        rcases hG with ⟨l', _, C3, rfl⟩ | ⟨l', x, hx, hxm, C3, _⟩
        · exact ih _ _ _ _ ⟨i + 1, uses, A, rfl, by omega, by omega, ⟨_, _, _, _, C3.mono (fr_sub n3)⟩, hsz, hA7, kq_fr kF k3, rfl⟩ (by omega) ⟨by rfl, by rfl, by rfl, by rfl, by rfl, trivial⟩
        · refine ih _ _ _ _ ⟨i + 1, uses + 1, _, rfl, by omega, by omega, ⟨_, _, _, _, C3.mono (fr_sub n3)⟩, ?_, fun y hy => ?_, kq_fr kF k3, rfl⟩ (by omega) ⟨by rfl, by rfl, by rfl, by rfl, by rfl, trivial⟩
          · rw [get_sizes hC.key hx hxm]; exact hsz
          · rcases List.mem_append.1 hy with hy | hy
            · exact hA7 y ((wo_sub _ _ _).subset hy)
            · rw [List.mem_singleton.1 hy]; exact hA7 x hx
      · have h7' : ¬ (i : Int) < 20 := by omega
        intro meth
        simp [-Int.natCast_add, -w4_12, -BitVec.toNat_or, -BitVec.toNat_ofInt, -BitVec.toNat_and, bin_ptr u24, len_slice u29, index_slice u29 sz3, load_of ld3, len_slice u32, index_slice u32 sz50, load_agg ld50, bin_agg ag50 .neq (Or.inr rfl), scal_int u3, fieldAddr_of fa50_0, hlt, hlt', h7, h7']
        exact w_sub (E := [(2, .int .i64 more), (7, .pointer (some ⟨cb, 0, none⟩))]) meth ⟨by rfl, by rfl, trivial⟩
    · have hlt' : ¬ (i : Int) < us.length := by omega
      intro meth
      simp [-Int.natCast_add, -w4_12, -BitVec.toNat_or, -BitVec.toNat_ofInt, -BitVec.toNat_and, bin_ptr u24, len_slice u29, index_slice u29 sz3, load_of ld3, len_slice u32, index_slice u32 sz50, load_agg ld50, bin_agg ag50 .neq (Or.inr rfl), scal_int u3, fieldAddr_of fa50_0, hlt, hlt']
      exact w_sub (E := [(2, .int .i64 more), (7, .pointer (some ⟨cb, 0, none⟩))]) meth ⟨by rfl, by rfl, trivial⟩
  clear ih
  obtain ⟨f0, a, lh, fa, hC⟩ := hC
  obtain ⟨v4, m4, c4, ⟨wa, wf, rfl, sW, hW⟩, k4⟩ := keys_run hN hC
  have C4 := hC.keep0 k4
  have h8 := hC.len
  have ep := hC.pm.length_eq
  have es := sizes_perm hC.pm
  have cz := size_run hN C4.h (by omega) (by omega)
  rw [es] at cz
  have pk := pick_run (m := m4) hN.pick more 101 (by omega) (by omega)
  obtain ⟨n, hnm, hnl⟩ : ∃ n : Nat, more % 101 = n ∧ n < 101 := ⟨(more % 101).toNat, by have := Int.emod_nonneg more (by omega : (101 : Int) ≠ 0); omega, by have := Int.emod_lt_of_pos more (by omega : (0 : Int) < 101); omega⟩
  rw [hnm] at pk
  have k4n := k4.1
  obtain ⟨v5, m5, v6, m6, c5, c6, n6, k6, hP⟩ := put0 hN ⟨_, _, _, _, C4⟩ (fun f hf => by have := hf.2; omega) (by omega) (by omega) 50 0 (sz := n) (by omega)
  rcases hP with ⟨hbig, _, _⟩ | ⟨x, o, hle, hxf, hxp, hxs, hxn, ⟨f1, a1, l1, fa1, C6⟩, ⟨ga, gf, rfl, sG, hG⟩, rfl⟩
  · omega
  have ew : wo 50 0 A = A := wo_none (fun y hy => by
    rw [← Bool.not_eq_true, mtk_iff]
    intro e
    have := hA7 y hy
    omega)
  rw [ew] at C6 sG
  rw [ew] at c6
  have eA := shed_app 100 n A
  have ewhy := shed_why 100 n A
  have efit := shed_fit 100 n hle A
  generalize (shed 100 n A).1 = g at *
  generalize (shed 100 n A).2 = k at *
  obtain ⟨K, hK'⟩ : ∃ K, kys g = K := ⟨_, rfl⟩
  obtain ⟨W, hW'⟩ : ∃ W, kys A = W := ⟨_, rfl⟩
  have eW : W = K ++ kys k := by rw [← hW', ← hK', ← eA]; simp [kys]
  have lK : g.length = K.length := by rw [← hK', kys_len]
  have lW : A.length = W.length := by rw [← hW', kys_len]
  have lk : (kys k).length = k.length := kys_len
  have lWK : W.length = K.length + k.length := by rw [eW, List.length_append, lk]
  rw [hK'] at c6 sG
  rw [hW'] at c4 sW
  have n1 : ¬ W.length < K.length := by omega
  have n1' : ¬ (W.length : Int) < K.length := by omega
  have h86 := C6.len
  have ep6 := C6.pm.length_eq
  have es6 := sizes_perm C6.pm
  have ef6 : sizes (k ++ [x]) ≤ 100 := by
    simp only [sizes, List.map_append, List.sum_append, List.map_cons, List.map_nil, List.sum_cons, List.sum_nil, hxs] at efit ⊢
    omega
  have cz6 := size_run hN C6.h (by omega) (by omega)
  rw [es6] at cz6
  have n2 : ¬ 100 < sizes (k ++ [x]) := by omega
  have n2' : ¬ 100 < (sizes (k ++ [x]) : Int) := by omega
  have sW6 : Sl m6 wa W.length (mvc W) 50 2 wf := by
    obtain ⟨fs, kk, hfs⟩ := k6
    refine sW.keepz kk (fun hn hm => ?_)
    have := hW hn
    have := sW.sr.flt hn
    rcases hfs _ hm with h | h
    · have := h.2; omega
    · omega
  simp [-Int.natCast_add, -w4_19, -BitVec.toNat_or, -BitVec.toNat_ofInt, -BitVec.toNat_and, bin_ptr u24, len_slice u29, index_slice u29 sz3, load_of ld3, len_slice u32, index_slice u32 sz50, load_agg ld50, bin_agg ag50 .neq (Or.inr rfl), scal_int u3, fieldAddr_of fa50_0, c4, cz, pk, c5, c6, n1, n1', cz6, n2, n2']
  refine wsem_loop 18 [31, 39, 58, 94, 98, 109, 130, 135, 149] (fun d E mG => ∃ (j : Nat), K.length - j = d ∧ j ≤ K.length ∧ mG = m6 ∧
    E = [(2, .int .i64 (n : Int)), (7, .pointer (some ⟨cb, 0, none⟩)), (11, .slice wa W.length W.length), (12, .int .i64 (sizes A : Nat)), (13, .slice ga K.length K.length), (15, .int .i64 (j : Int))]) _ ⟨_, ⟨0, rfl, by omega, rfl, rfl⟩, ⟨by rfl, by rfl, by rfl, by rfl, by rfl, by rfl, trivial⟩⟩ ?_
  rintro d E mG ih ⟨j, hd2, hj, hmG, rfl⟩
  rw [hmG]
  have jm : (j : Int) ≤ 9223372036854775807 := by omega
  by_cases hlt : j < K.length
  · have hlt' : (j : Int) < K.length := by omega
    have hltW : j < W.length := by omega
    have hltW' : (j : Int) < W.length := by omega
    have wj : IntKind.i64.wrap ((j : Int) + 1) = ((j + 1 : Nat) : Int) := by rw [wrap_i64 (by omega) (by omega)]; omega
    obtain ⟨b1, hb1, ob1⟩ := sG.own (by omega)
    obtain ⟨b2, hb2, ob2⟩ := sW6.own (by omega)
    have g1 := ob1.load (off := j * 2) 2 (by rw [mvc_len]; omega)
    have g2 := ob2.load (off := j * 2) 2 (by rw [mvc_len]; omega)
    rw [mvc_win hlt] at g1
    rw [mvc_win hltW] at g2
    have eq1 : W[j] = K[j] := by
      have : W[j]? = K[j]? := by rw [eW, List.getElem?_append_left hlt]
      simpa [hlt, hltW] using this
    rw [eq1] at g2
    obtain ⟨u1, hu1⟩ : ∃ u, K[j].1 = u := ⟨_, rfl⟩
    obtain ⟨u2, hu2⟩ : ∃ u, K[j].2 = u := ⟨_, rfl⟩
    rw [hu1, hu2] at g1 g2
    simp [-Int.natCast_add, -BitVec.toNat_or, -BitVec.toNat_ofInt, -BitVec.toNat_and, bin_ptr u24, len_slice u29, index_slice u29 sz3, load_of ld3, len_slice u32, index_slice u32 sz50, load_agg ld50, bin_agg ag50 .neq (Or.inr rfl), scal_int u3, fieldAddr_of fa50_0, hlt, hlt', hltW, hltW', jm, hb1, hb2, g1, g2, wj]
    rw [← hb1, ← hb2]
    exact ih _ _ _ _ ⟨j + 1, rfl, by omega, rfl, rfl⟩ (by omega) ⟨by rfl, by rfl, by rfl, by rfl, by rfl, by rfl, trivial⟩
  · have hlt' : ¬ (j : Int) < K.length := by omega
    clear ih
    obtain ⟨v7, m7, c7, ⟨na, nf, rfl, sN, hN7⟩, k7⟩ := keys_run hN C6
    obtain ⟨N, hN'⟩ : ∃ N, kys (k ++ [x]) = N := ⟨_, rfl⟩
    have eN : N = kys k ++ [(50, 0)] := by rw [← hN']; simp [kys, hxf, hxp]
    have lN : N.length = k.length + 1 := by rw [eN, List.length_append, lk]; rfl
    rw [hN'] at c7 sN
    have sW7 := sW6.keep k7 (by simp)
    obtain ⟨b3, hb3, ob3⟩ := sN.own (by omega)
    have wl1 : IntKind.i64.wrap ((W.length : Int) - (K.length : Int)) = (k.length : Int) := by rw [wrap_i64 (by omega) (by omega)]; omega
    have wl2 : IntKind.i64.wrap ((k.length : Int) + 1) = (N.length : Int) := by rw [wrap_i64 (by omega) (by omega)]; omega
    have wl3 : IntKind.i64.wrap ((N.length : Int) - 1) = (k.length : Int) := by rw [wrap_i64 (by omega) (by omega)]; omega
    have km : (k.length : Int) ≤ 9223372036854775807 := by omega
    have kN : k.length < N.length := by omega
    have kN' : (k.length : Int) < N.length := by omega
    have last : (N[k.length]'kN).1 = 50 := by
      have : N[k.length]? = some (50, 0) := by rw [eN, List.getElem?_append_right (by omega), lk]; simp
      rw [List.getElem?_eq_getElem kN] at this
      have := Option.some.inj this
      rw [this]
    have g3 := ob3.load1 (mvc_at0 kN)
    rw [last] at g3
    simp [-Int.natCast_add, -w4_26, -BitVec.toNat_or, -BitVec.toNat_ofInt, -BitVec.toNat_and, bin_ptr u24, len_slice u29, index_slice u29 sz3, load_of ld3, len_slice u32, index_slice u32 sz50, load_agg ld50, bin_agg ag50 .neq (Or.inr rfl), scal_int u3, fieldAddr_of fa50_0, hlt, hlt', c7, wl1, wl2, wl3, km, kN, kN', hb3, g3]
    simp [-Int.natCast_add, -BitVec.toNat_or, -BitVec.toNat_ofInt, -BitVec.toNat_and, bin_ptr u24, len_slice u29, index_slice u29 sz3, load_of ld3, len_slice u32, index_slice u32 sz50, load_agg ld50, bin_agg ag50 .neq (Or.inr rfl), scal_int u3, fieldAddr_of fa50_0]
    refine wsem_loop 18 [31, 39, 58, 94, 98, 109, 130, 135, 149] (fun d E mG => ∃ (j : Nat), k.length - j = d ∧ j ≤ k.length ∧ mG = m7 ∧
      E = [(2, .int .i64 (n : Int)), (11, .slice wa W.length W.length), (12, .int .i64 (sizes A : Nat)), (13, .slice ga K.length K.length), (16, .slice (some ⟨b3, 0, none⟩) N.length N.length), (17, .int .i64 (j : Int))]) _ ⟨_, ⟨0, rfl, by omega, rfl, rfl⟩, ⟨by rfl, by rfl, by rfl, by rfl, by rfl, by rfl, trivial⟩⟩ ?_
    clear jm hd2 hj hlt hlt' hmG mG
    clear j
    rintro d E mG ih ⟨j, hd2, hj, hmG, rfl⟩
    rw [hmG]
    have jm : (j : Int) ≤ 9223372036854775807 := by omega
    by_cases hlt : j < k.length
    · have hlt' : (j : Int) < k.length := by omega
      have hltN : j < N.length := by omega
      have hltN' : (j : Int) < N.length := by omega
      have wj : IntKind.i64.wrap ((j : Int) + 1) = ((j + 1 : Nat) : Int) := by rw [wrap_i64 (by omega) (by omega)]; omega
      obtain ⟨p, hp⟩ : ∃ p, K.length + j = p := ⟨_, rfl⟩
      have wp : IntKind.i64.wrap ((K.length : Int) + (j : Int)) = (p : Int) := by rw [wrap_i64 (by omega) (by omega)]; omega
      have hpW : p < W.length := by omega
      have hpW' : (p : Int) < W.length := by omega
      have pm : (p : Int) ≤ 9223372036854775807 := by omega
      obtain ⟨b2, hb2, ob2⟩ := sW7.own (by omega)
      have g1 := ob3.load (off := j * 2) 2 (by rw [mvc_len]; omega)
      have g2 := ob2.load (off := p * 2) 2 (by rw [mvc_len]; omega)
      rw [mvc_win hltN] at g1
      rw [mvc_win hpW] at g2
      have eq1 : W[p] = N[j] := by
        have : W[p]? = N[j]? := by
          rw [eW, eN, List.getElem?_append_right (by omega), List.getElem?_append_left (by omega)]
          congr 1; omega
        rw [List.getElem?_eq_getElem hpW, List.getElem?_eq_getElem hltN] at this
        exact Option.some.inj this
      rw [eq1] at g2
      obtain ⟨u1, hu1⟩ : ∃ u, N[j].1 = u := ⟨_, rfl⟩
      obtain ⟨u2, hu2⟩ : ∃ u, N[j].2 = u := ⟨_, rfl⟩
      rw [hu1, hu2] at g1 g2
      simp [-Int.natCast_add, -BitVec.toNat_or, -BitVec.toNat_ofInt, -BitVec.toNat_and, bin_ptr u24, len_slice u29, index_slice u29 sz3, load_of ld3, len_slice u32, index_slice u32 sz50, load_agg ld50, bin_agg ag50 .neq (Or.inr rfl), scal_int u3, fieldAddr_of fa50_0, wl3, hlt, hlt', hltN, hltN', hpW, hpW', pm, wp, jm, hb2, g1, g2, wj]
      rw [← hb2]
      exact ih _ _ _ _ ⟨j + 1, rfl, by omega, rfl, rfl⟩ (by omega) ⟨by rfl, by rfl, by rfl, by rfl, by rfl, by rfl, trivial⟩
    · have hlt' : ¬ (j : Int) < k.length := by omega
      clear ih
      have wS : IntKind.i64.wrap ((sizes A : Int) + (n : Int)) = (sizes A : Int) + (n : Int) := wrap_i64 (by omega) (by omega)
      by_cases hK0 : K.length = 0
      · have hK0' : (K.length : Int) = 0 := by omega
        simp [-Int.natCast_add, -BitVec.toNat_or, -BitVec.toNat_ofInt, -BitVec.toNat_and, bin_ptr u24, len_slice u29, index_slice u29 sz3, load_of ld3, len_slice u32, index_slice u32 sz50, load_agg ld50, bin_agg ag50 .neq (Or.inr rfl), scal_int u3, fieldAddr_of fa50_0, wl3, hlt, hlt', hK0, hK0']
      · have hK0' : ¬ (K.length : Int) = 0 := by omega
        have hwhy := ewhy (by intro e; rw [e] at lK; simp at lK; omega)
        by_cases hs : 100 < sizes A + n
        · have hs' : 100 < (sizes A : Int) + (n : Int) := by omega
          simp [-Int.natCast_add, -BitVec.toNat_or, -BitVec.toNat_ofInt, -BitVec.toNat_and, bin_ptr u24, len_slice u29, index_slice u29 sz3, load_of ld3, len_slice u32, index_slice u32 sz50, load_agg ld50, bin_agg ag50 .neq (Or.inr rfl), scal_int u3, fieldAddr_of fa50_0, wl3, hlt, hlt', hK0, hK0', wS, hs']
        · have hs' : ¬ 100 < (sizes A : Int) + (n : Int) := by omega
          have h8' : 8 ≤ W.length := by omega
          have h8'' : 8 ≤ (W.length : Int) := by omega
          simp [-Int.natCast_add, -BitVec.toNat_or, -BitVec.toNat_ofInt, -BitVec.toNat_and, bin_ptr u24, len_slice u29, index_slice u29 sz3, load_of ld3, len_slice u32, index_slice u32 sz50, load_agg ld50, bin_agg ag50 .neq (Or.inr rfl), scal_int u3, fieldAddr_of fa50_0, wl3, hlt, hlt', hK0, hK0', wS, hs', h8', h8'']

/- the row -/
open Go.ChangeShapes Go.WideShapes Go.ChangeAt Go.RowKit
theorem own : ownKnob Try.prog.godebug = none := by kernel_rfl
theorem mixed : Try.prog.follows .mixedOrders = true := by kernel_rfl
theorem tab : Sh.tabCheck Try.prog fns = true := by kernel_rfl
theorem known : Sh.isVal (.bool true) (Sh.call Try.prog (Sh.tabOf Try.prog fns) Sh.noSums 100000 9 [] (Sh.memG Try.prog [])) = true := by kernel_rfl
def sums : Sums := fun f => if f = 9 then [([], .bool true)] else []
theorem sumsOk : SumsOk Try.prog sums := by
  intro f p hp
  unfold sums at hp
  split at hp
  · rename_i hf
    subst hf
    simp only [List.mem_cons, List.not_mem_nil, or_false] at hp
    subst hp
    exact ⟨rfl, rfl, ⟨Try.f9, Try.func9, by kernel_rfl, by kernel_rfl⟩, fun w => Sh.closed_val mixed (Sh.tab_ok tab) (Sh.noSums_ok _) 100000 9 Try.func9 (by kernel_rfl) (gs := []) (by kernel_rfl) (by kernel_rfl) known w (fun p hp => by simp at hp)⟩
  · simp at hp

theorem walk (w : World) {v0 : Value} (h0 : RowArg Try.prog w (fun n : Int => [Value.int .i64 n]) (fun n => (Lit.int .i64 n).wf = true) 3 1 v0) {v1 : Value} (h1 : RowArg Try.prog w (fun n : Int => [Value.int .i64 n]) (fun n => (Lit.int .i64 n).wf = true) 3 1 v1) (x2 : Int) (hx2 : (Lit.int .i64 x2).wf = true) :
    Calls Try.prog 4 #[v0, v1, .int .i64 x2] w fun e w' => e = .returned (.bool true) ∧ Below w.heap.size w w' := by
  have hM := start_rel Try.prog w
  obtain ⟨rs0, J0, m0, ao0, fr0, le0, hM0, vr0, hr0, hg0, hl0, hk0, hz0, hw0⟩ := row_in hM sz3 (by omega) (fun _ => rfl) h0
  obtain ⟨rs1, J1, m1, ao1, fr1, le1, hM1, vr1, hr1, hg1, hl1, hk1, hz1, hw1⟩ := row_in hM0 sz3 (by omega) (fun _ => rfl) h1
  obtain ⟨v', m', h, rfl⟩ := law_run (S := sums) (m := m1) rfl rfl ⟨⟨rfl, rfl, rfl, rfl, rfl, rfl, rfl, rfl, rfl, rfl, rfl⟩, rfl, rfl, rfl, rfl, rfl, rfl, rfl, rfl, rfl, rfl, rfl, rfl, rfl, rfl, rfl, rfl, rfl, rfl, rfl, rfl, rfl, rfl, rfl, rfl⟩ (hr0.keep hk1 (by simp)) (by have := hk1.1; omega) hz0 hw0 hr1 hl1 hz1 hw1 hx2
  exact calls_of mixed (Sh.tab_ok tab) sumsOk Try.func4 (by kernel_rfl) h rfl hM1 (.cons (vr0.mono le1) (.cons vr1 (.cons (.clo _ rfl) LRel.nil)))

theorem laidOut : laidOutB Try.prog = true := by kernel_rfl

theorem lifted (os : Os) (started : os.Started) (H : Type) (enc : TypeId × Value → H) :
    ReturnsInHanded {} Try.checked os 4 .any (Rows.cacheOrderSpec.pre6 enc Try.prog Try.f4 Rows.cacheOrderRow.domain false) (Rows.cacheOrderSpec.post enc Try.prog Try.f4 false true false false) := by
  refine returnsInHanded_of_change (C := Try.checked) own started (by kernel_rfl) Try.func4
    (ChangeSpec.witness6 (enc := enc) (C := Try.checked) false ⟨#[], #[.slice none 0 0, .slice none 0 0, .int .i64 0], []⟩ 8 (by kernel_rfl) (by kernel_rfl) (by kernel_rfl) (by kernel_rfl)) ?_
  intro W base args ds gs before hval0 hW hcnd _
  have hval : ∀ (j : Nat) t v, Try.f4.params[j]? = some t → args[j]? = some v → Value.okWide Try.prog W .any base t v := hval0
  have hW' := hW
  obtain ⟨p, q, hA0, hV, rfl, hfz, hnd⟩ := hW
  have hA : DataW.TrodAll enc Try.prog W 0 (fun _ => true) true Try.f4.params.toList args.toList ds p := hA0
  rw [Try.params4] at hA hval
  obtain ⟨v0, v1, v2, d0, d1, d2, p0, p1, p2, rfl, rfl, rfl, t0, t1, t2⟩ := trodAll_three hA
  obtain ⟨rfl, rfl⟩ := trodVars_none hV
  have hv0 := ints_row u29 u3 sz3 (hval 0 _ _ rfl rfl) t0
  have hv1 := ints_row u29 u3 sz3 (hval 1 _ _ rfl rfl) t1
  obtain ⟨x2, rfl, rfl, rfl, hx2⟩ := open_int u3 (hval 2 _ _ rfl rfl) t2
  clear hA0 hval0
  simp only [List.append_nil, List.nil_append] at hW'
  refine (walk W hv0 hv1 x2 hx2).mono fun e W' ⟨he, hg⟩ => ?_
  subst he
  have hlt0 : ∀ z ∈ p0, z.block < W.heap.size := fun z hz => hW'.lt z (by simp [hz])
  have hlt1 : ∀ z ∈ p1, z.block < W.heap.size := fun z hz => hW'.lt z (by simp [hz])
  exact ⟨_, rfl, Sh.law_post (pa := (p0 ++ (p1 ++ []))) (pv := []) hW' hg (by simp) (fun sp hsp => trodAll_mk3 (WideElems.Trod_stays laidOut (by kernel_rfl) (of_decide_eq_true (by kernel_rfl)) t0 (fun z hz => hg.same (hlt0 z hz)) (fun z hz => hsp z (by simp [hz]))) (WideElems.Trod_stays laidOut (by kernel_rfl) (of_decide_eq_true (by kernel_rfl)) t1 (fun z hz => hg.same (hlt1 z hz)) (fun z hz => hsp z (by simp [hz]))) (shut_int u3 hx2)) (fun _ _ => rfl) (fun _ _ _ => (trodAll_cons_mk (shut_bool u4 _) trodAll_mk0))
    (ok_one (by kernel_rfl) rfl (okWide_bool_mk u4 _))⟩

theorem over : Rows.cacheOrderRow.holds Try.pinned (OpenSpec.ofChange Rows.cacheOrderSpec) :=
  OpenClaim.holds_of_wide 4 Try.f4 rfl rfl rfl rfl rfl rfl rfl ⟨rfl, rfl, rfl, rfl, rfl⟩ rfl rfl rfl rfl rfl (by kernel_rfl) Try.func4 (by kernel_rfl)
    (of_decide_eq_true (by kernel_rfl)) (by unfold Func.isWrapper; first | (rw [if_pos (by decide +kernel)]; kernel_rfl) | (rw [if_neg (by decide +kernel)]; exact ⟨rfl, rfl⟩))
    (fun os started H enc _ => lifted os started H enc)

theorem proved : Rows.CacheOrderSaid :=
  over
#print axioms proved
end Go.Proofs.Ytljklfimdanmlaa.cacheOrder

