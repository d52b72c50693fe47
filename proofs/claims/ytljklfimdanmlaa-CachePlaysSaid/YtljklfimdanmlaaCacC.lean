/-
  This text proves what 'copied' makes, over the abstract run: an entry's own code and needs.
  Condition: nothing is known of the calls ahead ('S f = []').
-/
import Derived.Test.YtljklfimdanmlaaCacB
set_option maxRecDepth 100000
set_option linter.unusedSimpArgs false
set_option linter.unusedVariables false
namespace Go.Proofs.Ytljklfimdanmlaa.base
open Go.Sh gen
section
variable {P : Program} {ρ : Operand → Value} {m : Mem}
/-- what a slice that is laid in another one holds -/
def ldS (m : Mem) (v : Value) (z : Nat) : Option (List Value × Nat) := match v with
  | .slice (some a) k _ => if k = 0 then some ([], 0) else (loadRow m a (k * z)).map fun l => (l, k)
  | .slice none 0 0 => some ([], 0)
  | _ => none
theorem append_z {ty tx e2 : TypeId} {z : Nat} (htx : P.underlying tx = some (.slice e2)) (hz : sizeOfT P e2 = some z) (s x : Operand) : c_append P ρ #[s, x] #[ty, tx] m = match ldS m (ρ x) z with
    | some (news, k) => sappend P ty m (ρ s) news k
    | none => apF P ρ #[s, x] #[ty, tx] m := by
  cases h : ldS m (ρ x) z with
  | none => rfl
  | some r =>
    obtain ⟨news, k⟩ := r
    rw [append_s htx hz]
    cases hx : ρ x with
    | slice a q c =>
      rw [hx] at h
      cases a with
      | some a =>
        by_cases hk : q = 0
        · subst hk; simp [ldS] at h; simp [← h.1, ← h.2]
        · simp only [ldS, if_neg hk] at h
          cases hl : loadRow m a (q * z) with
          | none => rw [hl] at h; simp at h
          | some w => rw [hl] at h; simp at h; obtain ⟨rfl, rfl⟩ := h; simp [hk, hl]
      | none =>
        cases q with
        | zero =>
          cases c with
          | zero => simp [ldS] at h; simp [← h.1, ← h.2]
          | succ c => simp [ldS] at h
        | succ q => simp [ldS] at h
    | _ => rw [hx] at h; simp [ldS] at h
theorem ldS_rs {ao : Option Addr} {n : Nat} {cells : List Value} {e z fam : Nat} (h : Rs m ao n cells e z fam) : ldS m (.slice ao n n) z = some (cells, n) := by
  by_cases hn : n = 0
  · subst hn
    have hc : cells = [] := List.length_eq_zero_iff.1 (by rw [← h.1]; simp)
    subst hc
    cases ao <;> simp [ldS]
  · obtain ⟨b, rfl, r⟩ := h.rdo hn
    simp only [ldS, if_neg hn]
    rw [r.load (n * z) (by rw [h.1]; omega)]
    have e : window cells 0 (n * z) = cells := by rw [h.1]; simp [window]
    rw [e]; rfl
theorem ldS_0 {ao : Option Addr} {z : Nat} : ldS m (.slice ao 0 0) z = some ([], 0) := by
  cases ao <;> simp [ldS]
end
variable {S : Sums} {m : Mem} {cb f0 fa : Nat} {x0 x2 : Value} {a : Option Addr} {l : List Px}
set_option maxHeartbeats 4000000 in
theorem copied_run (hS : S 29 = []) {f pc : Int} {sz : Nat} {needs : List Int} {ca ea na ga : Option Addr} {cf nf : Nat} (hc0 : Rs m ca sz (List.replicate sz (.int .u8 0)) 5 1 cf) (hn0 : Rs m na needs.length (ic needs) 3 1 nf) (h1 : sz ≤ 1048576) (h2 : needs.length ≤ 1000) :
    ∃ v m1, callw Try.prog TT S 29 [.agg #[.int .i64 f, .int .i64 pc, .slice ca sz sz, .slice none 0 0, .slice ea 0 0, .slice na needs.length needs.length, .slice ga 0 0]] m = some (v, m1) ∧
      (∃ ca' cf' ea' na' nf' ga', v = .agg #[.int .i64 f, .int .i64 pc, .slice ca' sz sz, .slice none 0 0, .slice ea' 0 0, .slice na' needs.length needs.length, .slice ga' 0 0] ∧ Rs m1 ca' sz (List.replicate sz (.int .u8 0)) 5 1 cf' ∧ Rs m1 na' needs.length (ic needs) 3 1 nf' ∧ SpN ea' ∧ SpN ga' ∧ m.next ≤ cf' ∧ cf' < m1.next ∧ m.next ≤ nf' ∧ nf' < m1.next) ∧ Keeps m m1 [] := by
  refine fn_w 36 [36] k29 hS rfl ?_
  simp [-Int.natCast_add, -w29_1, -BitVec.toNat_or, -BitVec.toNat_ofInt, -BitVec.toNat_and, lres_agg ld41, box_of b41, alloc_of zo41, fieldAddr_of fa41_0, load_agg ld39, alloc_of zo39, store_of sz39, buildSlice_of u35 bs5 rfl, fieldAddr_of fa39_2, load_of ld35, append_z u35 sz5, buildSlice_of u37 bs132 rfl, fieldAddr_of fa39_4, load_of ld37, append_z u37 sz132, store_of sz35, store_of sz37, fieldAddr_of fa39_3, store_of sz36, load_of ld36, len_slice u36, index_slice u36 sz86, load_agg ld86, alloc_of zo86, store_of sz86, fieldAddr_of fa86_0, load_of ld84, store_of sz84, len_slice u84, index_slice u84 sz88, load_agg ld88, alloc_of zo88, store_of sz88, fieldAddr_of fa88_2, fieldAddr_of fa88_3, buildSlice_of u84 bs88 rfl, append_z u84 sz88, buildSlice_of u36 bs86 rfl, append_z u36 sz86, buildSlice_of u29 bs3 rfl, fieldAddr_of fa41_1, load_of ld29, append_z u29 sz3, fieldAddr_of fa41_2, build_of bo41, store_of sz41]
  generalize hq1 : m.new _ _ = m1
  obtain ⟨o1, k1, l1⟩ := new_own hq1
  generalize hq2 : m1.new _ _ = m2
  obtain ⟨o2, k2, l2⟩ := new_own hq2
  have o1 := o1.keep k2 (by simp)
  have e1 : loadRow m2 ⟨m.next, 0, none⟩ 5 = _ := o1.load 5 (by simp)
  simp only [window, List.drop_zero, List.take_succ_cons, List.take_zero] at e1
  have e1n := (o1.ln [.int .i64 0, .int .i64 0, .slice none 0 0, .slice none 0 0, .slice none 0 0] 39 0 5).trans e1
  simp [-Int.natCast_add, -w29_2, -BitVec.toNat_or, -BitVec.toNat_ofInt, -BitVec.toNat_and, lres_agg ld41, box_of b41, alloc_of zo41, fieldAddr_of fa41_0, load_agg ld39, alloc_of zo39, store_of sz39, buildSlice_of u35 bs5 rfl, fieldAddr_of fa39_2, load_of ld35, append_z u35 sz5, buildSlice_of u37 bs132 rfl, fieldAddr_of fa39_4, load_of ld37, append_z u37 sz132, store_of sz35, store_of sz37, fieldAddr_of fa39_3, store_of sz36, load_of ld36, len_slice u36, index_slice u36 sz86, load_agg ld86, alloc_of zo86, store_of sz86, fieldAddr_of fa86_0, load_of ld84, store_of sz84, len_slice u84, index_slice u84 sz88, load_agg ld88, alloc_of zo88, store_of sz88, fieldAddr_of fa88_2, fieldAddr_of fa88_3, buildSlice_of u84 bs88 rfl, append_z u84 sz88, buildSlice_of u36 bs86 rfl, append_z u36 sz86, buildSlice_of u29 bs3 rfl, fieldAddr_of fa41_1, load_of ld29, append_z u29 sz3, fieldAddr_of fa41_2, build_of bo41, store_of sz41, e1, e1n]
  generalize hq3 : m2.new _ _ = m3
  obtain ⟨o3, k3, l3⟩ := new_own hq3
  have o1 := o1.keep k3 (by simp)
  have o2 := o2.keep k3 (by simp)
  have hc := ((hc0.keep k1 (by simp)).keep k2 (by simp)).keep k3 (by simp)
  have hn := ((hn0.keep k1 (by simp)).keep k2 (by simp)).keep k3 (by simp)
  generalize hra : storeRow _ _ _ = ra
  obtain ⟨m4, rfl, o4, k4⟩ := store_own hra o3 (by simp) (by simp [one_int, one_slice])
  simp [over] at o4
  simp [-Int.natCast_add, -w29_2, -BitVec.toNat_or, -BitVec.toNat_ofInt, -BitVec.toNat_and, lres_agg ld41, box_of b41, alloc_of zo41, fieldAddr_of fa41_0, load_agg ld39, alloc_of zo39, store_of sz39, buildSlice_of u35 bs5 rfl, fieldAddr_of fa39_2, load_of ld35, append_z u35 sz5, buildSlice_of u37 bs132 rfl, fieldAddr_of fa39_4, load_of ld37, append_z u37 sz132, store_of sz35, store_of sz37, fieldAddr_of fa39_3, store_of sz36, load_of ld36, len_slice u36, index_slice u36 sz86, load_agg ld86, alloc_of zo86, store_of sz86, fieldAddr_of fa86_0, load_of ld84, store_of sz84, len_slice u84, index_slice u84 sz88, load_agg ld88, alloc_of zo88, store_of sz88, fieldAddr_of fa88_2, fieldAddr_of fa88_3, buildSlice_of u84 bs88 rfl, append_z u84 sz88, buildSlice_of u36 bs86 rfl, append_z u36 sz86, buildSlice_of u29 bs3 rfl, fieldAddr_of fa41_1, load_of ld29, append_z u29 sz3, fieldAddr_of fa41_2, build_of bo41, store_of sz41]
  have hc := hc.keep0 k4 (fun hz => by obtain ⟨_, _, r⟩ := hc0.rdo hz; have := r.flt; simp; omega)
  have hn := hn.keep0 k4 (fun hz => by obtain ⟨_, _, r⟩ := hn0.rdo hz; have := r.flt; simp; omega)
  have o1 := o1.keep k4 (by simp; omega)
  have o2 := o2.keep k4 (by simp; omega)
  generalize m1.next = p1 at *
  generalize m2.next = p3 at *
  have q3 : p3 < m4.next := o4.flt
  have a1 := o4.load1 (off := 2) rfl
  have a2 := o4.load1 (off := 4) rfl
  have b1 := (o4.ln [] 5 2 1).trans a1
  have b2 := (o4.ln [] 5 4 1).trans a2
  have hcn := ldS_rs (hc.keep (keeps_new _ [] 5 []) (by simp))
  have h00 : ∀ (mm : Mem) (z : Nat), ldS mm (.slice ea 0 0) z = some ([], 0) := fun mm z => ldS_0
  simp [-Int.natCast_add, -w29_3, -BitVec.toNat_or, -BitVec.toNat_ofInt, -BitVec.toNat_and, lres_agg ld41, box_of b41, alloc_of zo41, fieldAddr_of fa41_0, load_agg ld39, alloc_of zo39, store_of sz39, buildSlice_of u35 bs5 rfl, fieldAddr_of fa39_2, load_of ld35, append_z u35 sz5, buildSlice_of u37 bs132 rfl, fieldAddr_of fa39_4, load_of ld37, append_z u37 sz132, store_of sz35, store_of sz37, fieldAddr_of fa39_3, store_of sz36, load_of ld36, len_slice u36, index_slice u36 sz86, load_agg ld86, alloc_of zo86, store_of sz86, fieldAddr_of fa86_0, load_of ld84, store_of sz84, len_slice u84, index_slice u84 sz88, load_agg ld88, alloc_of zo88, store_of sz88, fieldAddr_of fa88_2, fieldAddr_of fa88_3, buildSlice_of u84 bs88 rfl, append_z u84 sz88, buildSlice_of u36 bs86 rfl, append_z u36 sz86, buildSlice_of u29 bs3 rfl, fieldAddr_of fa41_1, load_of ld29, append_z u29 sz3, fieldAddr_of fa41_2, build_of bo41, store_of sz41, a1, a2, b1, hcn, h00]
  generalize hrb : sappend _ _ _ _ _ _ = rb
  obtain ⟨m6, b6, rfl, o6, k6⟩ := app_own hrb u35 ap5 (Own.new m4 [] 5) (by simp) (by simp) (by simp [one_int]) (by omega) (by omega)
  clear hrb
  have k46 : Keeps m4 m6 [] := (keeps_new m4 [] 5 []).fresh k6 (by simp)
  have o4 := o4.keep k46 (by simp)
  have c1 := o4.load1 (off := 2) rfl
  have c2 := o4.load1 (off := 4) rfl
  have d2 := (o4.ln [] 132 4 1).trans c2
  simp [-Int.natCast_add, -w29_3, -BitVec.toNat_or, -BitVec.toNat_ofInt, -BitVec.toNat_and, lres_agg ld41, box_of b41, alloc_of zo41, fieldAddr_of fa41_0, load_agg ld39, alloc_of zo39, store_of sz39, buildSlice_of u35 bs5 rfl, fieldAddr_of fa39_2, load_of ld35, append_z u35 sz5, buildSlice_of u37 bs132 rfl, fieldAddr_of fa39_4, load_of ld37, append_z u37 sz132, store_of sz35, store_of sz37, fieldAddr_of fa39_3, store_of sz36, load_of ld36, len_slice u36, index_slice u36 sz86, load_agg ld86, alloc_of zo86, store_of sz86, fieldAddr_of fa86_0, load_of ld84, store_of sz84, len_slice u84, index_slice u84 sz88, load_agg ld88, alloc_of zo88, store_of sz88, fieldAddr_of fa88_2, fieldAddr_of fa88_3, buildSlice_of u84 bs88 rfl, append_z u84 sz88, buildSlice_of u36 bs86 rfl, append_z u36 sz86, buildSlice_of u29 bs3 rfl, fieldAddr_of fa41_1, load_of ld29, append_z u29 sz3, fieldAddr_of fa41_2, build_of bo41, store_of sz41, a1, a2, b1, b2, c1, c2, d2, hcn, h00]
  generalize hrc : sappend _ _ _ _ _ _ = rc
  obtain ⟨m8, b8, rfl, o8, k8⟩ := app_own hrc u37 ap132 (Own.new m6 [] 132) (by simp) (by simp) (by simp) (by omega) (by omega)
  clear hrc
  have k68 : Keeps m6 m8 [] := (keeps_new m6 [] 132 []).fresh k8 (by simp)
  have q4 := k46.1
  have q6 := k68.1
  have q7 : m4.next < m6.next := Nat.lt_of_lt_of_le (by simp [Mem.new]) k6.1
  have o4 := o4.keep k68 (by simp)
  have o6 := o6.keep k68 (by simp)
  have o1 := (o1.keep k46 (by simp)).keep k68 (by simp)
  have o2 := (o2.keep k46 (by simp)).keep k68 (by simp)
  have hn := (hn.keep k46 (by simp)).keep k68 (by simp)
  simp [-Int.natCast_add, -w29_3, -BitVec.toNat_or, -BitVec.toNat_ofInt, -BitVec.toNat_and, lres_agg ld41, box_of b41, alloc_of zo41, fieldAddr_of fa41_0, load_agg ld39, alloc_of zo39, store_of sz39, buildSlice_of u35 bs5 rfl, fieldAddr_of fa39_2, load_of ld35, append_z u35 sz5, buildSlice_of u37 bs132 rfl, fieldAddr_of fa39_4, load_of ld37, append_z u37 sz132, store_of sz35, store_of sz37, fieldAddr_of fa39_3, store_of sz36, load_of ld36, len_slice u36, index_slice u36 sz86, load_agg ld86, alloc_of zo86, store_of sz86, fieldAddr_of fa86_0, load_of ld84, store_of sz84, len_slice u84, index_slice u84 sz88, load_agg ld88, alloc_of zo88, store_of sz88, fieldAddr_of fa88_2, fieldAddr_of fa88_3, buildSlice_of u84 bs88 rfl, append_z u84 sz88, buildSlice_of u36 bs86 rfl, append_z u36 sz86, buildSlice_of u29 bs3 rfl, fieldAddr_of fa41_1, load_of ld29, append_z u29 sz3, fieldAddr_of fa41_2, build_of bo41, store_of sz41, a1, a2, b1, b2, c1, c2, d2, hcn, h00]
  generalize hrd : storeRow _ _ _ = rd
  obtain ⟨m9, rfl, o4, k9⟩ := store_own hrd o4 (by simp) (by simp [one_slice])
  simp [over] at o4
  simp [-Int.natCast_add, -w29_3, -BitVec.toNat_or, -BitVec.toNat_ofInt, -BitVec.toNat_and, lres_agg ld41, box_of b41, alloc_of zo41, fieldAddr_of fa41_0, load_agg ld39, alloc_of zo39, store_of sz39, buildSlice_of u35 bs5 rfl, fieldAddr_of fa39_2, load_of ld35, append_z u35 sz5, buildSlice_of u37 bs132 rfl, fieldAddr_of fa39_4, load_of ld37, append_z u37 sz132, store_of sz35, store_of sz37, fieldAddr_of fa39_3, store_of sz36, load_of ld36, len_slice u36, index_slice u36 sz86, load_agg ld86, alloc_of zo86, store_of sz86, fieldAddr_of fa86_0, load_of ld84, store_of sz84, len_slice u84, index_slice u84 sz88, load_agg ld88, alloc_of zo88, store_of sz88, fieldAddr_of fa88_2, fieldAddr_of fa88_3, buildSlice_of u84 bs88 rfl, append_z u84 sz88, buildSlice_of u36 bs86 rfl, append_z u36 sz86, buildSlice_of u29 bs3 rfl, fieldAddr_of fa41_1, load_of ld29, append_z u29 sz3, fieldAddr_of fa41_2, build_of bo41, store_of sz41, a1, a2, b1, b2, c1, c2, d2, hcn, h00]
  generalize hre : storeRow _ _ _ = re
  obtain ⟨m10, rfl, o4, k10⟩ := store_own hre o4 (by simp) (by simp [one_slice])
  simp [over] at o4
  simp [-Int.natCast_add, -w29_4, -BitVec.toNat_or, -BitVec.toNat_ofInt, -BitVec.toNat_and, lres_agg ld41, box_of b41, alloc_of zo41, fieldAddr_of fa41_0, load_agg ld39, alloc_of zo39, store_of sz39, buildSlice_of u35 bs5 rfl, fieldAddr_of fa39_2, load_of ld35, append_z u35 sz5, buildSlice_of u37 bs132 rfl, fieldAddr_of fa39_4, load_of ld37, append_z u37 sz132, store_of sz35, store_of sz37, fieldAddr_of fa39_3, store_of sz36, load_of ld36, len_slice u36, index_slice u36 sz86, load_agg ld86, alloc_of zo86, store_of sz86, fieldAddr_of fa86_0, load_of ld84, store_of sz84, len_slice u84, index_slice u84 sz88, load_agg ld88, alloc_of zo88, store_of sz88, fieldAddr_of fa88_2, fieldAddr_of fa88_3, buildSlice_of u84 bs88 rfl, append_z u84 sz88, buildSlice_of u36 bs86 rfl, append_z u36 sz86, buildSlice_of u29 bs3 rfl, fieldAddr_of fa41_1, load_of ld29, append_z u29 sz3, fieldAddr_of fa41_2, build_of bo41, store_of sz41, a1, a2, b1, b2, c1, c2, d2, hcn, h00]
  generalize hrf : storeRow _ _ _ = rf
  obtain ⟨m11, rfl, o4, k11⟩ := store_own hrf o4 (by simp) (by simp [one_slice])
  simp [over] at o4
  have kA : Keeps m8 m11 [p3] := (k9.trans k10).trans k11
  clear k9 k10 k11 hrd hre hrf
  have o1 := o1.keep kA (by simp; omega)
  have o2 := o2.keep kA (by simp; omega)
  have o6 := o6.keep kA (by simp; omega)
  have hn := hn.keep0 kA (fun hz => by obtain ⟨_, _, r⟩ := hn0.rdo hz; have := r.flt; simp; omega)
  have g1 := o1.load1 (off := 3) rfl
  simp [-Int.natCast_add, -w29_5, -BitVec.toNat_or, -BitVec.toNat_ofInt, -BitVec.toNat_and, lres_agg ld41, box_of b41, alloc_of zo41, fieldAddr_of fa41_0, load_agg ld39, alloc_of zo39, store_of sz39, buildSlice_of u35 bs5 rfl, fieldAddr_of fa39_2, load_of ld35, append_z u35 sz5, buildSlice_of u37 bs132 rfl, fieldAddr_of fa39_4, load_of ld37, append_z u37 sz132, store_of sz35, store_of sz37, fieldAddr_of fa39_3, store_of sz36, load_of ld36, len_slice u36, index_slice u36 sz86, load_agg ld86, alloc_of zo86, store_of sz86, fieldAddr_of fa86_0, load_of ld84, store_of sz84, len_slice u84, index_slice u84 sz88, load_agg ld88, alloc_of zo88, store_of sz88, fieldAddr_of fa88_2, fieldAddr_of fa88_3, buildSlice_of u84 bs88 rfl, append_z u84 sz88, buildSlice_of u36 bs86 rfl, append_z u36 sz86, buildSlice_of u29 bs3 rfl, fieldAddr_of fa41_1, load_of ld29, append_z u29 sz3, fieldAddr_of fa41_2, build_of bo41, store_of sz41, g1]
  refine wsem_loop 36 [36] (fun d E m2 => d = 0 ∧ m2 = m11 ∧ E = [(1, Value.pointer (some ⟨m.next, 0, none⟩)), (2, .pointer (some ⟨p1, 0, none⟩)), (3, .pointer (some ⟨p3, 0, none⟩)), (25, .int .i64 0), (26, .int .i64 0)]) _ ⟨_, ⟨rfl, rfl, rfl⟩, ⟨by rfl, by rfl, by rfl, by rfl, by rfl, trivial⟩⟩ ?_
  rintro d E mm ih ⟨rfl, hmm, rfl⟩
  rw [hmm]
  clear ih
  have kB : Keeps m m11 [] := by
    refine ((((k1.trans k2).trans k3).fresh k4 (by simp; omega)).trans (k46.trans k68)).fresh kA (by simp; omega)
  have e1 : loadRow m11 ⟨p3, 0, none⟩ 5 = _ := o4.load 5 (by simp)
  simp only [window, List.drop_zero, List.take_succ_cons, List.take_zero] at e1
  have e2 := o1.load1 (off := 5) rfl
  have e3 := o1.load1 (off := 6) rfl
  have e1n := (o4.ln [] 3 0 5).trans e1
  have e2n := (o1.ln [] 3 5 1).trans e2
  have e3n := (o1.ln [] 3 6 1).trans e3
  have hnn := ldS_rs (hn.keep (keeps_new _ [] 3 []) (by simp))
  have h00 : ∀ (mm : Mem) (z : Nat), ldS mm (.slice ga 0 0) z = some ([], 0) := fun mm z => ldS_0
  simp [-Int.natCast_add, -w29_6, -BitVec.toNat_or, -BitVec.toNat_ofInt, -BitVec.toNat_and, lres_agg ld41, box_of b41, alloc_of zo41, fieldAddr_of fa41_0, load_agg ld39, alloc_of zo39, store_of sz39, buildSlice_of u35 bs5 rfl, fieldAddr_of fa39_2, load_of ld35, append_z u35 sz5, buildSlice_of u37 bs132 rfl, fieldAddr_of fa39_4, load_of ld37, append_z u37 sz132, store_of sz35, store_of sz37, fieldAddr_of fa39_3, store_of sz36, load_of ld36, len_slice u36, index_slice u36 sz86, load_agg ld86, alloc_of zo86, store_of sz86, fieldAddr_of fa86_0, load_of ld84, store_of sz84, len_slice u84, index_slice u84 sz88, load_agg ld88, alloc_of zo88, store_of sz88, fieldAddr_of fa88_2, fieldAddr_of fa88_3, buildSlice_of u84 bs88 rfl, append_z u84 sz88, buildSlice_of u36 bs86 rfl, append_z u36 sz86, buildSlice_of u29 bs3 rfl, fieldAddr_of fa41_1, load_of ld29, append_z u29 sz3, fieldAddr_of fa41_2, build_of bo41, store_of sz41, e1, e2, e3, e1n, e2n, e3n, hnn, h00]
  generalize hra : sappend _ _ _ _ _ _ = ra
  obtain ⟨m12, b12, rfl, o12, k12⟩ := app_own hra u29 ap3 (Own.new m11 [] 3) (by simp) (by simp) (by simp [one_int]) (by omega) (by omega)
  clear hra
  have kC : Keeps m11 m12 [] := (keeps_new m11 [] 3 []).fresh k12 (by simp)
  have o1 := o1.keep kC (by simp)
  have o2 := o2.keep kC (by simp)
  have o4 := o4.keep kC (by simp)
  have f1 : loadRow m12 ⟨p3, 0, none⟩ 5 = _ := o4.load 5 (by simp)
  simp only [window, List.drop_zero, List.take_succ_cons, List.take_zero] at f1
  have f2 := o1.load1 (off := 5) rfl
  have f3 := o1.load1 (off := 6) rfl
  have f1n := (o4.ln [] 3 0 5).trans f1
  have f2n := (o1.ln [] 3 5 1).trans f2
  have f3n := (o1.ln [] 3 6 1).trans f3
  simp [-Int.natCast_add, -w29_6, -BitVec.toNat_or, -BitVec.toNat_ofInt, -BitVec.toNat_and, lres_agg ld41, box_of b41, alloc_of zo41, fieldAddr_of fa41_0, load_agg ld39, alloc_of zo39, store_of sz39, buildSlice_of u35 bs5 rfl, fieldAddr_of fa39_2, load_of ld35, append_z u35 sz5, buildSlice_of u37 bs132 rfl, fieldAddr_of fa39_4, load_of ld37, append_z u37 sz132, store_of sz35, store_of sz37, fieldAddr_of fa39_3, store_of sz36, load_of ld36, len_slice u36, index_slice u36 sz86, load_agg ld86, alloc_of zo86, store_of sz86, fieldAddr_of fa86_0, load_of ld84, store_of sz84, len_slice u84, index_slice u84 sz88, load_agg ld88, alloc_of zo88, store_of sz88, fieldAddr_of fa88_2, fieldAddr_of fa88_3, buildSlice_of u84 bs88 rfl, append_z u84 sz88, buildSlice_of u36 bs86 rfl, append_z u36 sz86, buildSlice_of u29 bs3 rfl, fieldAddr_of fa41_1, load_of ld29, append_z u29 sz3, fieldAddr_of fa41_2, build_of bo41, store_of sz41, e1, e2, e3, e1n, e2n, e3n, hnn, h00, f1, f2, f3, f1n, f2n, f3n]
  generalize hra : sappend _ _ _ _ _ _ = ra
  obtain ⟨m13, b13, rfl, o13, k13⟩ := app_own hra u29 ap3 (Own.new m12 [] 3) (by simp) (by simp) (by simp) (by omega) (by omega)
  clear hra
  have kD : Keeps m12 m13 [] := (keeps_new m12 [] 3 []).fresh k13 (by simp)
  have q8 := kD.1
  have q9 : m11.next < m12.next := Nat.lt_of_lt_of_le (by simp [Mem.new]) k12.1
  have q10 : m8.next ≤ m11.next := kA.1
  have q11 : m6.next < m8.next := Nat.lt_of_lt_of_le (by simp [Mem.new]) k8.1
  have o2 := o2.keep kD (by simp)
  have o4 := o4.keep kD (by simp)
  have h1 : loadRow m13 ⟨p3, 0, none⟩ 5 = _ := o4.load 5 (by simp)
  simp only [window, List.drop_zero, List.take_succ_cons, List.take_zero] at h1
  simp [-Int.natCast_add, -w29_6, -BitVec.toNat_or, -BitVec.toNat_ofInt, -BitVec.toNat_and, lres_agg ld41, box_of b41, alloc_of zo41, fieldAddr_of fa41_0, load_agg ld39, alloc_of zo39, store_of sz39, buildSlice_of u35 bs5 rfl, fieldAddr_of fa39_2, load_of ld35, append_z u35 sz5, buildSlice_of u37 bs132 rfl, fieldAddr_of fa39_4, load_of ld37, append_z u37 sz132, store_of sz35, store_of sz37, fieldAddr_of fa39_3, store_of sz36, load_of ld36, len_slice u36, index_slice u36 sz86, load_agg ld86, alloc_of zo86, store_of sz86, fieldAddr_of fa86_0, load_of ld84, store_of sz84, len_slice u84, index_slice u84 sz88, load_agg ld88, alloc_of zo88, store_of sz88, fieldAddr_of fa88_2, fieldAddr_of fa88_3, buildSlice_of u84 bs88 rfl, append_z u84 sz88, buildSlice_of u36 bs86 rfl, append_z u36 sz86, buildSlice_of u29 bs3 rfl, fieldAddr_of fa41_1, load_of ld29, append_z u29 sz3, fieldAddr_of fa41_2, build_of bo41, store_of sz41, e1, e2, e3, e1n, e2n, e3n, hnn, h00, f1, f2, f3, f1n, f2n, f3n, h1]
  generalize hrz : storeRow _ _ _ = rz
  obtain ⟨m14, rfl, o14, k14⟩ := store_own hrz o2 (by simp) (by simp [one_slice, one_int])
  simp [over] at o14
  have rl : loadRow m14 ⟨p1, 0, none⟩ 7 = _ := o14.load 7 (by simp)
  simp only [window, List.drop_zero, List.take_succ_cons, List.take_zero] at rl
  simp [-Int.natCast_add, -w29_6, -BitVec.toNat_or, -BitVec.toNat_ofInt, -BitVec.toNat_and, lres_agg ld41, box_of b41, alloc_of zo41, fieldAddr_of fa41_0, load_agg ld39, alloc_of zo39, store_of sz39, buildSlice_of u35 bs5 rfl, fieldAddr_of fa39_2, load_of ld35, append_z u35 sz5, buildSlice_of u37 bs132 rfl, fieldAddr_of fa39_4, load_of ld37, append_z u37 sz132, store_of sz35, store_of sz37, fieldAddr_of fa39_3, store_of sz36, load_of ld36, len_slice u36, index_slice u36 sz86, load_agg ld86, alloc_of zo86, store_of sz86, fieldAddr_of fa86_0, load_of ld84, store_of sz84, len_slice u84, index_slice u84 sz88, load_agg ld88, alloc_of zo88, store_of sz88, fieldAddr_of fa88_2, fieldAddr_of fa88_3, buildSlice_of u84 bs88 rfl, append_z u84 sz88, buildSlice_of u36 bs86 rfl, append_z u36 sz86, buildSlice_of u29 bs3 rfl, fieldAddr_of fa41_1, load_of ld29, append_z u29 sz3, fieldAddr_of fa41_2, build_of bo41, store_of sz41, e1, e2, e3, e1n, e2n, e3n, hnn, h00, f1, f2, f3, f1n, f2n, f3n, h1, rl]
  have q1 : m.next < p1 := l1
  have q2 : p1 < p3 := l2
  have q12 := k14.1
  have q13 := k4.1
  have o6 := ((o6.keep kC (by simp)).keep kD (by simp)).keep k14 (by simp; omega)
  have o12 := (o12.keep kD (by simp)).keep k14 (by simp; omega)
  refine ⟨⟨_, m4.next, _, _, m11.next, _, ⟨rfl, rfl, rfl, rfl⟩, ⟨by simp, Or.inr ⟨_, rfl, by simpa using o6.rdo⟩⟩, ⟨by simp, Or.inr ⟨_, rfl, by simpa using o12.rdo⟩⟩, .blk _, .blk _, by omega, by omega, by omega, by omega⟩, ?_⟩
  exact ((kB.trans kC).trans kD).fresh k14 (by simp; omega)
end Go.Proofs.Ytljklfimdanmlaa.base

