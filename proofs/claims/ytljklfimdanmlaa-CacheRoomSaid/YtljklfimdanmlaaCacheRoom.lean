/-
  This text proves 'Rows.CacheRoomSaid': the law 'CacheRoom' returns true at any room and any steps, in whatever memory and on every tape, and its input reads as it did.
  No condition.
-/
import Derived.Test.YtljklfimdanmlaaRows
import Derived.Test.YtljklfimdanmlaaCacJ
import Derived.HandedShaped
set_option maxRecDepth 100000
set_option linter.unusedSimpArgs false
set_option linter.unusedVariables false
namespace Go.Proofs.Ytljklfimdanmlaa.cacheRoom
open Go.Sh gen base
variable {S : Sums} {m : Mem}
theorem sizes_perm {l A : List Px} (h : l.Perm A) : sizes l = sizes A := (h.map Px.sz).sum_nat
theorem shed_fit (room n : Nat) (hn : n ≤ room) : ∀ A : List Px, sizes (shed room n A).2 + n ≤ room
  | [] => by simp [shed, sizes]; exact hn
  | x :: r => by
    unfold shed
    split
    · exact shed_fit room n hn r
    · rename_i h; simp only [not_or] at h; show sizes (x :: r) + n ≤ room; omega
set_option maxHeartbeats 4000000 in
theorem law_run (hK : S 9 = [([], .bool true)]) (hS : S 3 = []) (hN : Nc S)
    {r : Int} (hr : (Lit.int .i64 r).wf = true) {l : List StT.D} {cs : List Value} (hl : (Ty.slice 31 StT).wf l) (ha : At m (Ty.slice 31 StT) l cs) :
    ∃ v m', callw Try.prog TT S 3 [.int .i64 r, tyVal (Ty.slice 31 StT) cs] m = some (v, m') ∧ v = .bool true := by
  have hkn := fun m' => sum_ok (P := Try.prog) (T := TT) (m := m') hK
  obtain ⟨ao, rfl, hst⟩ := st_arg ha
  show ∃ v m', callw Try.prog TT S 3 [.int .i64 r, .slice ao l.length l.length] m = some (v, m') ∧ v = .bool true
  clear ha hl
  have pk0 := pick_run (m := m) hN.pick r 200 (by omega) (by omega)
  obtain ⟨room, hrm, hroom⟩ : ∃ room : Nat, r % 200 = room ∧ room < 200 := ⟨(r % 200).toNat, by have := Int.emod_nonneg r (by omega : (200 : Int) ≠ 0); omega, by have := Int.emod_lt_of_pos r (by omega : (0 : Int) < 200); omega⟩
  rw [hrm] at pk0
  obtain ⟨v1, m1, c1, ⟨cb, rfl, h1⟩, k1⟩ := new_run (m := m) (room := room) hN (by omega)
  refine fn_w 12 [28, 36, 86] k3 hS rfl ?_
  simp [-Int.natCast_add, -BitVec.toNat_or, -BitVec.toNat_ofInt, -BitVec.toNat_and, bin_ptr u24, len_slice u22, index_slice u22 sz31, fieldAddr_of fa31_3, load_of ld3, fieldAddr_of fa31_2, bin_bool u4 .neq (Or.inr rfl), len_slice u32, pk0, c1, hkn]
  refine wsem_loop 12 [28, 36, 86] (fun d E mF => ∃ (i uses : Nat) (A : List Px), 60 - i = d ∧ i ≤ 60 ∧ uses ≤ i ∧ CAt (Fr m mF) mF cb room uses A ∧ sizes A ≤ room ∧ Keeps m mF [] ∧
    E = [(0, .int .i64 (room : Int)), (1, .slice ao l.length l.length), (5, .pointer (some ⟨cb, 0, none⟩)), (7, .int .i64 (i : Int))]) _ ⟨_, ⟨0, 0, [], rfl, by omega, by omega, h1, by simp [sizes], k1, rfl⟩, ⟨by rfl, by rfl, by rfl, by rfl, trivial⟩⟩ ?_
  rintro d E mF ih ⟨i, uses, A, hd, hi, hu, ⟨f0, a, lh, fa, hC⟩, hsz, kF, rfl⟩
  have im : (i : Int) ≤ 9223372036854775807 := by omega
  by_cases hlt : i < l.length
  · have hlt' : (i : Int) < l.length := by omega
    by_cases h60 : i < 60
    · have h60' : (i : Int) < 60 := by omega
      have wi : IntKind.i64.wrap ((i : Int) + 1) = ((i + 1 : Nat) : Int) := by rw [wrap_i64 (by omega) (by omega)]; omega
      obtain ⟨b, na, nf, rfl, s0, s1, s2, s3, s4, s5⟩ := hst mF kF i hlt
      obtain ⟨sz0, hs0⟩ : ∃ z : Int, l[i].2.2.2.1 = z := ⟨_, rfl⟩
      obtain ⟨pc0, hp0⟩ : ∃ z : Int, l[i].2.2.1 = z := ⟨_, rfl⟩
      rw [hs0] at s3
      rw [hp0] at s2
      have pk1 := pick_run (m := mF) hN.pick sz0 60 (by omega) (by omega)
      have pk2 := pick_run (m := mF) hN.pick pc0 20 (by omega) (by omega)
      obtain ⟨sz, hsm, hszl⟩ : ∃ sz : Nat, sz0 % 60 = sz ∧ sz < 60 := ⟨(sz0 % 60).toNat, by have := Int.emod_nonneg sz0 (by omega : (60 : Int) ≠ 0); omega, by have := Int.emod_lt_of_pos sz0 (by omega : (0 : Int) < 60); omega⟩
      rw [hsm] at pk1
      obtain ⟨pc, hpc⟩ : ∃ pc, pc0 % 20 = pc := ⟨_, rfl⟩
      rw [hpc] at pk2
      obtain ⟨v2, m2, c2, ⟨ca, cf, rfl, hcr, hcf⟩, k2⟩ := entry_run (m := mF) (sz := sz) (na := none) (k := 0) hN 1 pc (by omega)
      have h2 := hC.keep0 k2
      have hQ : ∀ f, Fr m mF f → f < m2.next := fun f hf => by have := hf.2; have := k2.1; omega
      have hn0 : Rs m2 none 0 (ic []) 3 1 0 := ⟨by simp, Or.inl ⟨rfl, .nil⟩⟩
      obtain ⟨v3, m3, c3, hP, k3⟩ := put_run (needs := []) hN h2 hQ (by omega) (by omega) 1 pc hcr hn0 (fun _ hq => by have := hq.2; omega) (by simp) (by omega) (by simp) (ea := none) (ga := none)
      have c3 : callw Try.prog TT S 10 [.pointer (some ⟨cb, 0, none⟩), ent 1 pc sz 0 ca none none none] m2 = some (v3, m3) := c3
      have k03 : Keeps m m3 [] := by
        obtain ⟨fs, kk, hfs⟩ := k3
        refine (kF.trans k2).fresh kk (fun f hf => ?_)
        have := kF.1
        have := k2.1
        rcases hfs f hf with h | h
        · exact h.1
        · omega
      have szx : l.length ≤ l.length := Nat.le_refl _
      rcases hP with ⟨hbig, ⟨f1, a1, l1, fa1, C3⟩, rfl⟩ | ⟨x, o, hle, hxf, hxp, hxs, hxn, hxu, ⟨f1, a1, l1, fa1, C3⟩, ⟨oa, of_, rfl, so, hof⟩, rfl⟩
      · have h8 := C3.len
        have ep := C3.pm.length_eq
        have es := sizes_perm C3.pm
        have cz := size_run hN C3.h (by omega) (by omega)
        rw [es] at cz
        obtain ⟨v4, m4, c4, ⟨ka, kf, rfl, s4', _⟩, k4⟩ := keys_run hN C3
        rw [kys_len] at c4
        have q1 : ¬ sz ≤ room := by omega
        have q1' : ¬ (sz : Int) ≤ (room : Int) := by omega
        have q2 : ¬ room < sizes A := by omega
        have q2' : ¬ (room : Int) < (sizes A : Int) := by omega
        have q3 : ¬ 8 < A.length := by omega
        have q3' : ¬ 8 < (A.length : Int) := by omega
        simp [-Int.natCast_add, -BitVec.toNat_or, -BitVec.toNat_ofInt, -BitVec.toNat_and, bin_ptr u24, len_slice u22, index_slice u22 sz31, fieldAddr_of fa31_3, load_of ld3, fieldAddr_of fa31_2, bin_bool u4 .neq (Or.inr rfl), len_slice u32, hlt, hlt', h60, h60', im, s2, s3, pk1, pk2, c2, c3, q1, q1', cz, q2, q2', c4, q3, q3', wi]
        exact ih _ _ _ _ ⟨i + 1, uses, A, rfl, by omega, by omega, ⟨_, _, _, _, (C3.keep0 k4).mono (fun f hf => ⟨hf.1, by have := hf.2; have := k2.1; have := k03.1; have := k4.1; obtain ⟨_, kk, _⟩ := k3; have := kk.1; omega⟩)⟩, hsz, k03.trans k4, rfl⟩ (by omega) ⟨by rfl, by rfl, by rfl, by rfl, trivial⟩
      · obtain ⟨B, hB⟩ : ∃ B, (shed room sz (wo 1 pc A)).2 ++ [x] = B := ⟨_, rfl⟩
        have hsB : sizes B ≤ room := by
          have := shed_fit room sz hle (wo 1 pc A)
          rw [← hB]
          simp only [sizes, List.map_append, List.sum_append, List.map_cons, List.map_nil, List.sum_cons, List.sum_nil, hxs] at this ⊢
          omega
        have hany : B.any (mtk 1 pc) = true := by
          rw [← hB]
          simp [mtk, hxf, hxp]
        rw [hB] at C3
        have h8 := C3.len
        have ep := C3.pm.length_eq
        have es := sizes_perm C3.pm
        have cz := size_run hN C3.h (by omega) (by omega)
        rw [es] at cz
        obtain ⟨v4, m4, c4, ⟨ka, kf, rfl, s4', _⟩, k4⟩ := keys_run hN C3
        rw [kys_len] at c4
        have C4 := C3.keep0 k4
        obtain ⟨v5, m5, c5, rfl, k5⟩ := has_run hN C4.h (by omega) (f := 1) (pc := pc)
        have ea : l1.any (mtk 1 pc) = true := by
          rw [List.any_eq_true] at hany ⊢
          obtain ⟨y, hy, hyy⟩ := hany
          exact ⟨y, C3.pm.mem_iff.2 hy, hyy⟩
        rw [ea] at c5
        have q1' : (sz : Int) ≤ (room : Int) := by omega
        have q2 : ¬ room < sizes B := by omega
        have q2' : ¬ (room : Int) < (sizes B : Int) := by omega
        have q3 : ¬ 8 < B.length := by omega
        have q3' : ¬ 8 < (B.length : Int) := by omega
        simp [-Int.natCast_add, -BitVec.toNat_or, -BitVec.toNat_ofInt, -BitVec.toNat_and, bin_ptr u24, len_slice u22, index_slice u22 sz31, fieldAddr_of fa31_3, load_of ld3, fieldAddr_of fa31_2, bin_bool u4 .neq (Or.inr rfl), len_slice u32, hlt, hlt', h60, h60', im, s2, s3, pk1, pk2, c2, c3, hle, q1', cz, q2, q2', c4, q3, q3', c5, wi]
        exact ih _ _ _ _ ⟨i + 1, uses + 1, B, rfl, by omega, by omega, ⟨_, _, _, _, (C4.keep0 k5).mono (fun f hf => by
          have := k2.1; have := kF.1; have := k4.1; have := k5.1; obtain ⟨_, kk, _⟩ := k3; have := kk.1
          rcases hf with hf | hf
          · exact ⟨hf.1, by have := hf.2; omega⟩
          · exact ⟨by have := hf.1; omega, by have := hf.2; omega⟩)⟩, hsB, (k03.trans k4).trans k5, rfl⟩ (by omega) ⟨by rfl, by rfl, by rfl, by rfl, trivial⟩
    · have h60' : ¬ (i : Int) < 60 := by omega
      simp [-Int.natCast_add, -BitVec.toNat_or, -BitVec.toNat_ofInt, -BitVec.toNat_and, bin_ptr u24, len_slice u22, index_slice u22 sz31, fieldAddr_of fa31_3, load_of ld3, fieldAddr_of fa31_2, bin_bool u4 .neq (Or.inr rfl), len_slice u32, hlt, hlt', h60, h60']
  · have hlt' : ¬ (i : Int) < l.length := by omega
    simp [-Int.natCast_add, -BitVec.toNat_or, -BitVec.toNat_ofInt, -BitVec.toNat_and, bin_ptr u24, len_slice u22, index_slice u22 sz31, fieldAddr_of fa31_3, load_of ld3, fieldAddr_of fa31_2, bin_bool u4 .neq (Or.inr rfl), len_slice u32, hlt, hlt']

/- the row -/
open Go.ChangeShapes Go.WideShapes Go.ChangeAt Go.RowKit
theorem own : ownKnob Try.prog.godebug = none := by kernel_rfl
theorem mixed : Try.prog.follows .mixedOrders = true := by kernel_rfl
theorem tab : Sh.tabCheck Try.prog fns = true := by kernel_rfl
theorem known : Sh.isVal (.bool true) (Sh.call Try.prog (Sh.tabOf Try.prog fns) Sh.noSums 100000 9 [] (Sh.memG Try.prog [])) = true := by kernel_rfl
def sums : Sums := fun f => if f = 9 then [([], .bool true)] else []
theorem sumsOk : SumsOk Try.prog sums := by
  intro f p hp
  unfold sums at hp
  split at hp
  · rename_i hf
    subst hf
    simp only [List.mem_cons, List.not_mem_nil, or_false] at hp
    subst hp
    exact ⟨rfl, rfl, ⟨Try.f9, Try.func9, by kernel_rfl, by kernel_rfl⟩, fun w => Sh.closed_val mixed (Sh.tab_ok tab) (Sh.noSums_ok _) 100000 9 Try.func9 (by kernel_rfl) (gs := []) (by kernel_rfl) (by kernel_rfl) known w (fun p hp => by simp at hp)⟩
  · simp at hp

theorem walk (w : World) (x0 : Int) (hx0 : (Lit.int .i64 x0).wf = true) {v1 : Value} (h1 : DatArg Try.prog w (Ty.slice 31 (Ty.pair (Ty.int .i64) (Ty.pair (Ty.int .i64) (Ty.pair (Ty.int .i64) (Ty.pair (Ty.int .i64) (Ty.pair (Ty.slice 3 (Ty.int .i64)) Ty.unit)))))) v1) :
    Calls Try.prog 3 #[.int .i64 x0, v1] w fun e w' => e = .returned (.bool true) ∧ Below w.heap.size w w' := by
  have hM := start_rel Try.prog w
  obtain ⟨rs1, J1, m1, cs1, hw1, le1, hM1, vr1, hr1, hk1⟩ := h1 _ _ hM
  obtain ⟨v', m', h, rfl⟩ := law_run (S := sums) (m := m1) rfl rfl ⟨⟨rfl, rfl, rfl, rfl, rfl, rfl, rfl, rfl, rfl, rfl, rfl⟩, rfl, rfl, rfl, rfl, rfl, rfl, rfl, rfl, rfl, rfl, rfl, rfl, rfl, rfl, rfl, rfl, rfl, rfl, rfl, rfl, rfl, rfl, rfl, rfl⟩ hx0 hw1 hr1
  exact calls_of mixed (Sh.tab_ok tab) sumsOk Try.func3 (by kernel_rfl) h rfl hM1 (.cons (.clo _ rfl) (.cons vr1 LRel.nil))

theorem laidOut : laidOutB Try.prog = true := by kernel_rfl

theorem lifted (os : Os) (started : os.Started) (H : Type) (enc : TypeId × Value → H) :
    ReturnsInHanded {} Try.checked os 3 .any (Rows.cacheRoomSpec.pre6 enc Try.prog Try.f3 Rows.cacheRoomRow.domain false) (Rows.cacheRoomSpec.post enc Try.prog Try.f3 false true false false) := by
  refine returnsInHanded_of_change (C := Try.checked) own started (by kernel_rfl) Try.func3
    (ChangeSpec.witness6 (enc := enc) (C := Try.checked) false ⟨#[], #[.int .i64 0, (tyVal (Ty.slice 31 (Ty.pair (Ty.int .i64) (Ty.pair (Ty.int .i64) (Ty.pair (Ty.int .i64) (Ty.pair (Ty.int .i64) (Ty.pair (Ty.slice 3 (Ty.int .i64)) Ty.unit)))))) ((Ty.slice 31 (Ty.pair (Ty.int .i64) (Ty.pair (Ty.int .i64) (Ty.pair (Ty.int .i64) (Ty.pair (Ty.int .i64) (Ty.pair (Ty.slice 3 (Ty.int .i64)) Ty.unit))))))).zeros)], []⟩ 8 (by kernel_rfl) (by kernel_rfl) (by kernel_rfl) (by kernel_rfl)) ?_
  intro W base args ds gs before hval0 hW hcnd _
  have hval : ∀ (j : Nat) t v, Try.f3.params[j]? = some t → args[j]? = some v → Value.okWide Try.prog W .any base t v := hval0
  have hW' := hW
  obtain ⟨p, q, hA0, hV, rfl, hfz, hnd⟩ := hW
  have hA : DataW.TrodAll enc Try.prog W 0 (fun _ => true) true Try.f3.params.toList args.toList ds p := hA0
  rw [Try.params3] at hA hval
  obtain ⟨v0, v1, d0, d1, p0, p1, rfl, rfl, rfl, t0, t1⟩ := trodAll_two hA
  obtain ⟨rfl, rfl⟩ := trodVars_none hV
  obtain ⟨x0, rfl, rfl, rfl, hx0⟩ := open_int u3 (hval 0 _ _ rfl rfl) t0
  have hv1 := dat_arg (ty := (Ty.slice 31 (Ty.pair (Ty.int .i64) (Ty.pair (Ty.int .i64) (Ty.pair (Ty.int .i64) (Ty.pair (Ty.int .i64) (Ty.pair (Ty.slice 3 (Ty.int .i64)) Ty.unit))))))) (t := 22) (by kernel_rfl) (hval 1 _ _ rfl rfl) t1
  clear hA0 hval0
  simp only [List.append_nil, List.nil_append] at hW'
  refine (walk W x0 hx0 hv1).mono fun e W' ⟨he, hg⟩ => ?_
  subst he
  have hlt1 : ∀ z ∈ p1, z.block < W.heap.size := fun z hz => hW'.lt z (by simp [hz])
  exact ⟨_, rfl, Sh.law_post (pa := ([] ++ p1)) (pv := []) hW' hg (by simp) (fun sp hsp => trodAll_mk2 (shut_int u3 hx0) (WideElems.Trod_stays laidOut (by kernel_rfl) (of_decide_eq_true (by kernel_rfl)) t1 (fun z hz => hg.same (hlt1 z hz)) (fun z hz => hsp z (by simp [hz])))) (fun _ _ => rfl) (fun _ _ _ => (trodAll_cons_mk (shut_bool u4 _) trodAll_mk0))
    (ok_one (by kernel_rfl) rfl (okWide_bool_mk u4 _))⟩

theorem over : Rows.cacheRoomRow.holds Try.pinned (OpenSpec.ofChange Rows.cacheRoomSpec) :=
  OpenClaim.holds_of_wide 3 Try.f3 rfl rfl rfl rfl rfl rfl rfl ⟨rfl, rfl, rfl, rfl, rfl⟩ rfl rfl rfl rfl rfl (by kernel_rfl) Try.func3 (by kernel_rfl)
    (of_decide_eq_true (by kernel_rfl)) (by unfold Func.isWrapper; first | (rw [if_pos (by decide +kernel)]; kernel_rfl) | (rw [if_neg (by decide +kernel)]; exact ⟨rfl, rfl⟩))
    (fun os started H enc _ => lifted os started H enc)

theorem proved : Rows.CacheRoomSaid :=
  over
#print axioms proved
end Go.Proofs.Ytljklfimdanmlaa.cacheRoom

