/-
  This text proves that turnstonehand.SameWords compares, and that turnstonehand.Heap gives the program's heap with the same words, over the abstract run.
  Condition: nothing is known of their calls ahead ('S f = []').
-/
import Derived.Test.YtlogdohlcdhepaaDoorEvM
set_option maxRecDepth 100000
set_option linter.unusedSimpArgs false
set_option linter.unusedVariables false
namespace Go.Proofs.YtlogdohlcdhepaaDoor.base
open Go.Sh gen
variable {S : Sums} {m : Mem}
def wO (os : List (Int × List Int)) : List Int := 0 :: os.flatMap fun o => headOf o.1 o.2.length :: o.2
structure OkO (os : List (Int × List Int)) (room : Int) : Prop where
  r : 1 ≤ room ∧ room ≤ 65536
  l : (wO os).length ≤ room
  n : os.length ≤ 8
  o : ∀ o ∈ os, 5 ≤ o.1 ∧ o.1 ≤ 7 ∧ o.2.length ≤ 100 ∧ Wd o.2
theorem wO_snoc (os : List (Int × List Int)) (t : Int) (B : List Int) : wO (os ++ [(t, B)]) = wO os ++ headOf t B.length :: B := by
  simp [wO]
theorem wO_wd {os : List (Int × List Int)} {room : Int} (h : OkO os room) : Wd (wO os) := by
  have h2 := h.o
  clear h
  refine wd_cons.2 ⟨by omega, ?_⟩
  induction os with
  | nil => intro w hw; simp at hw
  | cons o os ih =>
    have h1 := h2 o (by simp)
    rw [List.flatMap_cons]
    exact wd_app.2 ⟨wd_cons.2 ⟨head_wd (by omega) (by omega), h1.2.2.2⟩, ih (fun o ho => h2 o (by simp [ho]))⟩
theorem take_ne {α : Type} {a b : List α} {i : Nat} (ha : i < a.length) (hb : i < b.length) (h : a[i] ≠ b[i]) : a ≠ b := fun e => by subst e; exact h rfl
theorem samew_run (hS : S 19 = []) {ao bo : Option Addr} {a b : List Int} {af bf ae be : Nat} (ha : Rs m ao a.length (words a) ae 1 af) (hb : Rs m bo b.length (words b) be 1 bf) (hal : a.length ≤ 4611686018427387904) (hbl : b.length ≤ 4611686018427387904) :
    ∃ q : Bool, callw Tryd.prog TT S 19 [.slice ao a.length a.length, .slice bo b.length b.length] m = some (.bool q, m) ∧ (q = true ↔ a = b) := by
  suffices h : ∃ v m1, callw Tryd.prog TT S 19 [.slice ao a.length a.length, .slice bo b.length b.length] m = some (v, m1) ∧ ∃ q : Bool, v = .bool q ∧ (q = true ↔ a = b) ∧ m1 = m by
    obtain ⟨_, _, h, q, rfl, hq, rfl⟩ := h
    exact ⟨q, h, hq⟩
  refine fn_w 6 [10, 14, 25] k19 hS rfl ?_
  by_cases hll : a.length = b.length
  · simp [-Int.natCast_add, len_slice u42, hll]
    rw [hll] at ha
    refine wsem_loop 6 [10, 14, 25] (fun d E m2 => ∃ i : Nat, b.length - i = d ∧ i ≤ b.length ∧ a.take i = b.take i ∧ m2 = m ∧ E = [(0, .slice ao b.length b.length), (1, .slice bo b.length b.length), (5, .int .i64 i)]) _ ⟨_, ⟨0, rfl, by omega, by simp, rfl, rfl⟩, ⟨by rfl, by rfl, by rfl, trivial⟩⟩ ?_
    rintro d E m2 ih ⟨i, hd, hi, heq, rfl, rfl⟩
    by_cases hlt : i < b.length
    · have em : (i : Int) ≤ 9223372036854775807 := by omega
      have hlt' : (i : Int) < b.length := by omega
      have wi : IntKind.i64.wrap ((i : Int) + 1) = ((i + 1 : Nat) : Int) := by rw [wrap_i64 (by omega) (by omega)]; omega
      have hla : i < a.length := by omega
      obtain ⟨ab, rfl, oa⟩ := ha.rdo (by omega)
      obtain ⟨bb, rfl, ob⟩ := hb.rdo (by omega)
      have la : loadRow m2 ⟨ab, i, none⟩ 1 = some [.int .u64 a[i]] := oa.load1 (by simp [words, hla])
      have lb : loadRow m2 ⟨bb, i, none⟩ 1 = some [.int .u64 b[i]] := ob.load1 (by simp [words, hlt])
      have ta : a.take (i + 1) = a.take i ++ [a[i]] := List.take_succ_eq_append_getElem hla
      have tb : b.take (i + 1) = b.take i ++ [b[i]] := List.take_succ_eq_append_getElem hlt
      have hne := take_ne hla hlt
      generalize a[i] = x at *
      generalize b[i] = y at *
      by_cases c : x = y
      · subst c
        simp [-Int.natCast_add, len_slice u42, index_slice u42 sz45, load_of ld45, hlt, hlt', em, la, lb, wi]
        exact ih _ _ _ _ ⟨i + 1, rfl, by omega, by rw [ta, tb, heq], rfl, rfl⟩ (by omega) ⟨by rfl, by rfl, by rfl, trivial⟩
      · simp [-Int.natCast_add, len_slice u42, index_slice u42 sz45, load_of ld45, hlt, hlt', em, la, lb, c]
        exact hne c
    · have hlt' : ¬ (i : Int) < b.length := by omega
      have e1 : a = b := by
        have h1 : a.take i = a := List.take_of_length_le (by omega)
        have h2 : b.take i = b := List.take_of_length_le (by omega)
        rw [← h1, heq, h2]
      simp [-Int.natCast_add, len_slice u42, hlt']
      exact e1
  · have hll' : ¬ (a.length : Int) = (b.length : Int) := by omega
    simp [-Int.natCast_add, len_slice u42, hll']
    exact fun e => hll (by rw [e])
structure Hp (S : Sums) : Prop where
  new : S 9 = []
  alloc : S 37 = []
  put : S 38 = []
  words : S 20 = []
  len : S 60 = []
  word : S 55 = []
  type : S 59 = []
  head : S 77 = []
  same : S 19 = []
theorem take_step {B : List Int} {k : Nat} (h : k < B.length) : (B.take k ++ List.replicate (B.length - k) 0).set k B[k] = B.take (k + 1) ++ List.replicate (B.length - (k + 1)) 0 := by
  have e : (B.take k).length = k := by simp; omega
  rw [List.set_append_right _ _ (by omega), e, Nat.sub_self]
  obtain ⟨c, hc⟩ : ∃ c, B.length - k = c + 1 := ⟨B.length - k - 1, by omega⟩
  rw [hc, List.replicate_succ, List.set_cons_zero, show B.length - (k + 1) = c by omega]
  rw [List.take_succ_eq_append_getElem h]
  simp only [List.append_assoc, List.cons_append, List.nil_append]
theorem wO_split {os : List (Int × List Int)} {j : Nat} (h : j < os.length) : ∃ R, wO os = wO (os.take j) ++ headOf os[j].1 os[j].2.length :: (os[j].2 ++ R) := by
  refine ⟨(os.drop (j + 1)).flatMap fun o => headOf o.1 o.2.length :: o.2, ?_⟩
  have e : os = os.take j ++ os[j] :: os.drop (j + 1) := by rw [List.getElem_cons_drop, List.take_append_drop]
  generalize os[j] = o at *
  have e2 := congrArg wO e
  rw [e2]
  simp only [wO, List.flatMap_append, List.flatMap_cons, List.cons_append]
set_option maxHeartbeats 4000000 in
theorem heap_run (hS : S 15 = []) (hH : Hp S) {rb rf vb vf : Nat} {os : List (Int × List Int)} {room : Int} (hos : OkO os room) (hr : RefAt m rb rf vb vf (wO os) room) :
    ∃ v m1, callw Tryd.prog TT S 15 [.pointer (some ⟨rb, 0, none⟩)] m = some (v, m1) ∧ (∃ hb hf wb wf, v = .tuple #[.pointer (some ⟨hb, 0, none⟩), .bool true] ∧ HeapAt m1 hb hf wb wf (wO os) room ∧ m.next ≤ hf ∧ m.next ≤ wf) ∧ Keeps m m1 [] := by
  obtain ⟨_, m1, c1, ⟨hb, wf, rfl, h1, n1, n2, k1⟩⟩ := new_run (m := m) hH.new room hos.r.1 hos.r.2
  have r0 := hr.h.load1 (off := 0) rfl
  have r1 := hr.h.load1 (off := 1) rfl
  have hwl := hos.l
  have h8 := hos.n
  have hrr := hos.r
  have hmx : (if 1 < room then room else 1) = room := by split <;> omega
  refine fn_w 11 [25, 32, 67, 70] k15 hS rfl ?_
  simp [-Int.natCast_add, fieldAddr_of fa59_0, load_of ld3, bin_ptr u22, r0, hmx, c1]
  refine wsem_loop 11 [25, 32, 67, 70] (fun d E m2 => ∃ (j wb : Nat), os.length - j = d ∧ j ≤ os.length ∧ HeapAt m2 hb hb wb wf (wO (os.take j)) room ∧ Keeps m m2 [] ∧ E = [(0, .pointer (some ⟨rb, 0, none⟩)), (4, .pointer (some ⟨hb, 0, none⟩)), (6, .int .i64 (wO (os.take j)).length)]) _ ⟨_, ⟨0, wf, rfl, by omega, h1, k1, rfl⟩, ⟨by rfl, by rfl, by rfl, trivial⟩⟩ ?_
  rintro d E m2 ih ⟨j, wb, hd, hj, h2, k2, rfl⟩
  have r12 := (hr.h.keep k2 (by simp)).load1 (off := 1) rfl
  by_cases hlt : j < os.length
  · obtain ⟨R, hR⟩ := wO_split hlt
    have ho := hos.o _ (List.getElem_mem hlt)
    have ets : os.take (j + 1) = os.take j ++ [(os[j].1, os[j].2)] := List.take_succ_eq_append_getElem hlt
    generalize os[j] = o at *
    obtain ⟨t, B⟩ := o
    simp only at hR ho ets
    obtain ⟨A, hA⟩ : ∃ A, wO (os.take j) = A := ⟨_, rfl⟩
    have eA : wO (os.take (j + 1)) = A ++ headOf t B.length :: B := by rw [ets, wO_snoc, hA]
    rw [hA] at hR h2
    rw [hA]
    have hWl : (wO os).length = A.length + 1 + B.length + R.length := by rw [hR]; simp; omega
    have hvw : ∀ (m' : Mem), Keeps m m' [] → loadRow m' ⟨vb, A.length, none⟩ 1 = some [.int .u64 (headOf t B.length)] := fun m' k' => by
      have e := obj_head A (headOf t B.length) (B ++ R)
      rw [← hR] at e
      rw [← e]
      exact (hr.w.keep k' (by simp)).load1 (words_at (by omega))
    have l2 := hvw m2 k2
    have hval := head_val (t := t) (n := B.length) (by omega) (by omega)
    have hA1 : A.length < (wO os).length := by omega
    have hA2 : (A.length : Int) < (wO os).length := by omega
    have em : (A.length : Int) ≤ 9223372036854775807 := by omega
    obtain ⟨hd1, hhd⟩ : ∃ hd1, headOf t B.length = hd1 := ⟨_, rfl⟩
    rw [hhd] at l2 hval
    have m1' : IntKind.i64.wrap (hd1.tmod 4294967296) = (B.length : Int) := by rw [Int.tmod_eq_emod_of_nonneg (by omega), wrap_i64 (by omega) (by omega)]; omega
    have e3 : (2 : Int) ^ min 32 IntKind.u64.bits = 4294967296 := by decide
    have s1 : IntKind.i64.wrap (hd1.fdiv (2 ^ min 32 IntKind.u64.bits)) = t := by rw [e3, shr_32 (by omega), wrap_i64 (by omega) (by omega)]; omega
    obtain ⟨BR, hBR⟩ : ∃ BR, B.length + R.length = BR := ⟨_, rfl⟩
    have w1 : IntKind.i64.wrap (((wO os).length : Int) - A.length) = ((BR + 1 : Nat) : Int) := by rw [wrap_i64 (by omega) (by omega)]; omega
    have w2 : IntKind.i64.wrap (((BR + 1 : Nat) : Int) - 1) = (BR : Int) := by rw [wrap_i64 (by omega) (by omega)]; omega
    have nl : ¬ BR < B.length := by omega
    have nl' : ¬ (BR : Int) < B.length := by omega
    obtain ⟨_, m3, c3, rfl, ⟨wb3, h3⟩, k3⟩ := alloc_yes (t := t) (n := B.length) hH.alloc h2 (by omega) (by omega) (by unfold noRoom; omega)
    rw [List.append_assoc, List.singleton_append] at h3
    simp [-Int.natCast_add, fieldAddr_of fa59_1, load_of ld42, len_slice u42, index_slice u42 sz45, load_of ld45, conv_i u45 u3, r12, hA1, hA2, em, l2, m1', s1, w1, w2, nl', c3]
    refine wsem_loop 11 [25, 32, 67, 70] (fun d2 E m4 => ∃ k : Nat, B.length - k = d2 ∧ k ≤ B.length ∧ HeapAt m4 hb hb wb3 wf (A ++ headOf t B.length :: (B.take k ++ List.replicate (B.length - k) 0)) room ∧ Keeps m m4 [] ∧ E = [(0, .pointer (some ⟨rb, 0, none⟩)), (4, .pointer (some ⟨hb, 0, none⟩)), (6, .int .i64 A.length), (7, .int .i64 B.length), (10, .int .i64 ((k + 1 : Nat) : Int))]) _ ⟨_, ⟨0, rfl, by omega, by simpa using h3, k2.fresh k3 (by simp; omega), rfl⟩, ⟨by rfl, by rfl, by rfl, by rfl, by rfl, trivial⟩⟩ ?_
    rintro d2 E m4 ih2 ⟨k, hd2, hk, h4, k4, rfl⟩
    by_cases hkn : k < B.length
    · have hk1 : ((k + 1 : Nat) : Int) ≤ B.length := by omega
      have hk2 : k + 1 ≤ B.length := by omega
      have r14 := (hr.h.keep k4 (by simp)).load1 (off := 1) rfl
      obtain ⟨p, hp⟩ : ∃ p, A.length + 1 + k = p := ⟨_, rfl⟩
      have w3 : IntKind.i64.wrap ((A.length : Int) + ((k + 1 : Nat) : Int)) = (p : Int) := by rw [wrap_i64 (by omega) (by omega)]; omega
      have up3 : IntKind.u64.wrap (p : Int) = (p : Int) := wrap_u64 (by omega) (by omega)
      have w4 : IntKind.i64.wrap (((k + 1 : Nat) : Int) + 1) = ((k + 1 + 1 : Nat) : Int) := by rw [wrap_i64 (by omega) (by omega)]; omega
      have pl : p < (wO os).length := by omega
      have ep : (p : Int) ≤ 9223372036854775807 := by omega
      have lp : loadRow m4 ⟨vb, p, none⟩ 1 = some [.int .u64 B[k]] := by
        have e := obj_word A (headOf t B.length) (B ++ R) k
        rw [← hR, hp] at e
        have e2 : (B ++ R).getD k 0 = B[k] := by simp [List.getD_eq_getElem?_getD, List.getElem?_append_left hkn, hkn]
        rw [← e2, ← e]
        exact (hr.w.keep k4 (by simp)).load1 (words_at pl)
      obtain ⟨_, m5, c5, rfl, h5, k5⟩ := put_yes (i := p) (v := B[k]) hH.put h4 (by omega) (by simp; omega) (by simp; omega)
      rw [← hp, obj_set, take_step hkn] at h5
      simp [-Int.natCast_add, fieldAddr_of fa59_1, load_of ld42, index_slice u42 sz45, load_of ld45, conv_i u3 u45, hk1, r14, w3, up3, w4, pl, ep, lp, c5]
      exact ih2 _ _ _ _ ⟨k + 1, rfl, by omega, h5, k4.fresh k5 (by simp; omega), rfl⟩ (by omega) ⟨by rfl, by rfl, by rfl, by rfl, by rfl, trivial⟩
    · have ek : k = B.length := by omega
      subst ek
      have hk1 : ¬ ((B.length + 1 : Nat) : Int) ≤ B.length := by omega
      have w5 : IntKind.i64.wrap ((A.length : Int) + B.length) = ((A.length + B.length : Nat) : Int) := by rw [wrap_i64 (by omega) (by omega)]; omega
      have w6 : IntKind.i64.wrap (((A.length + B.length : Nat) : Int) + 1) = ((A.length + B.length + 1 : Nat) : Int) := by rw [wrap_i64 (by omega) (by omega)]; omega
      simp [-Int.natCast_add, hk1, w5, w6]
      refine ih _ _ _ _ ⟨j + 1, wb3, rfl, by omega, by rw [eA]; simpa using h4, k4, rfl⟩ (by omega) ⟨by rfl, by rfl, by rw [eA]; simp [lget]; omega, trivial⟩
  · have ej : os.take j = os := List.take_of_length_le (by omega)
    rw [ej] at h2 ⊢
    obtain ⟨_, m3, c3, nb, nf, rfl, o3, n3, k3⟩ := words_run hH.words h2 (by simp [wO]) (by omega)
    have s3 : Rs m3 (some ⟨nb, 0, none⟩) (wO os).length (words (wO os)) 45 1 nf := (Sl.of o3 (by rw [words_len]; simp)).rs
    have kk := k2.trans k3
    have r13 := (hr.h.keep kk (by simp)).load1 (off := 1) rfl
    have sr : Rs m3 (some ⟨vb, 0, none⟩) (wO os).length (words (wO os)) 45 1 vf := (Sl.of (hr.w.keep kk (by simp)) (by rw [words_len]; simp)).rs
    obtain ⟨q, c4, hq⟩ := samew_run (m := m3) hH.same s3 sr (by omega) (by omega)
    have hqt := hq.2 rfl
    subst hqt
    simp [-Int.natCast_add, fieldAddr_of fa59_1, load_of ld42, len_slice u42, r12, c3, r13, c4]
    exact ⟨⟨hb, wb, wf, h2.keep k3 (by simp) (by simp), n1, n2⟩, kk⟩
end Go.Proofs.YtlogdohlcdhepaaDoor.base

