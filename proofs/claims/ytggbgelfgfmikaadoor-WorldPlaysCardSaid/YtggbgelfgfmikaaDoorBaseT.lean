/-
  This text proves what Text and String of package heap do over the abstract run.
  Condition: nothing is known of their calls ahead ('S f = []').
-/
import Derived.Test.YtggbgelfgfmikaaDoorBaseH
set_option maxRecDepth 100000
set_option linter.unusedSimpArgs false
set_option linter.unusedVariables false
namespace Go.Proofs.YtggbgelfgfmikaaDoor.base
open Go.Sh gen
variable {S : Sums} {m : Mem}
theorem obj_head (A : List Int) (x : Int) (B : List Int) : (A ++ x :: B).getD A.length 0 = x := by
  rw [List.getD_eq_getElem?_getD, List.getElem?_append_right (Nat.le_refl _), Nat.sub_self]
  rfl
theorem obj_set (A : List Int) (x : Int) (B : List Int) (j : Nat) (v : Int) : (A ++ x :: B).set (A.length + 1 + j) v = A ++ x :: B.set j v := by
  rw [List.set_append_right _ _ (by omega), show A.length + 1 + j - A.length = j + 1 by omega, List.set_cons_succ]
theorem atV_obj {A B : List Int} {t : Int} {n j : Nat} (ht : 0 ≤ t ∧ t ≤ 1048576) (hn : n ≤ 1048576) (hj : j < n) (hA : A.length ≤ 1000000) : atV (A ++ headOf t n :: B) A.length j = ((A.length + 1 + j : Nat) : Int) := by
  unfold atV
  rw [Int.toNat_natCast, obj_head, head_val ht ⟨by omega, by omega⟩]
  have e : (t * 4294967296 + (n : Int)) % 4294967296 = n := by
    rw [Int.add_comm, Int.add_mul_emod_self_right]
    exact Int.emod_eq_of_lt (by omega) (by omega)
  rw [e, if_pos ⟨by omega, by omega⟩, wrap_u64 (x := (A.length : Int) + 1) (by omega) (by omega), wrap_u64 (x := (j : Int)) (by omega) (by omega), wrap_u64 (by omega) (by omega)]
  omega
def byts (l : List UInt8) : List Int := l.map fun b => (b.toNat : Int)
def txt (l : List UInt8) : List Int := if l = [] then [] else headOf 3 l.length :: byts l
theorem head_wd {t n : Int} (ht : 0 ≤ t ∧ t ≤ 1048576) (hn : 0 ≤ n ∧ n ≤ 1048576) : 0 ≤ headOf t n ∧ headOf t n ≤ 18446744073709551615 := by
  rw [head_val ht hn]; omega
theorem wd_app {A B : List Int} : Wd (A ++ B) ↔ Wd A ∧ Wd B := by
  unfold Wd
  constructor
  · intro h; exact ⟨fun w hw => h w (by simp [hw]), fun w hw => h w (by simp [hw])⟩
  · rintro ⟨h1, h2⟩ w hw
    rcases List.mem_append.1 hw with h | h
    · exact h1 w h
    · exact h2 w h
theorem wd_byts (l : List UInt8) : Wd (byts l) := by
  intro w hw
  simp only [byts, List.mem_map] at hw
  obtain ⟨b, _, rfl⟩ := hw
  have := b.toNat_lt
  omega
theorem wd_cons {x : Int} {B : List Int} : Wd (x :: B) ↔ (0 ≤ x ∧ x ≤ 18446744073709551615) ∧ Wd B := by
  unfold Wd; simp
theorem wd_rep (n : Nat) : Wd (List.replicate n 0) := by
  intro w hw
  have := List.eq_of_mem_replicate hw
  omega
theorem text_step {l : List UInt8} {i : Nat} (h : i < l.length) : (byts (l.take i) ++ List.replicate (l.length - i) 0).set i ((l[i]).toNat : Int) = byts (l.take (i + 1)) ++ List.replicate (l.length - (i + 1)) 0 := by
  have e : (byts (l.take i)).length = i := by simp [byts]; omega
  rw [List.set_append_right _ _ (by omega), e, Nat.sub_self]
  obtain ⟨k, hk⟩ : ∃ k, l.length - i = k + 1 := ⟨l.length - i - 1, by omega⟩
  rw [hk, List.replicate_succ, List.set_cons_zero, show l.length - (i + 1) = k by omega]
  rw [List.take_succ_eq_append_getElem h]
  simp only [byts, List.map_append, List.append_assoc, List.map_cons, List.map_nil, List.cons_append, List.nil_append]
theorem text_run (hS23 : S 41 = []) (hS12 : S 48 = []) (hS17 : S 63 = []) (hS18 : S 56 = []) (hS36 : S 64 = []) (hS20 : S 20 = []) (hS37 : S 47 = []) (hS22 : S 60 = [])
    {hb hf wb wf : Nat} {A : List Int} {room : Int} {l : List UInt8} (h : HeapAt m hb hf wb wf A room) (hr : 0 < room ∧ room ≤ 65536) (hfit : ((A.length + l.length + 1 : Nat) : Int) ≤ room) (hd : Wd A) :
    ∃ v m1, callw Tryd.prog TT S 41 [.pointer (some ⟨hb, 0, none⟩), .string ⟨l.toArray⟩] m = some (v, m1) ∧ v = .tuple #[.int .u64 (if l = [] then 0 else A.length), .bool true] ∧
      (∃ wb', HeapAt m1 hb hf wb' wf (A ++ txt l) room) ∧ Keeps m m1 [hf, wf] := by
  refine fn_w 9 [10, 24] k41 hS23 rfl ?_
  by_cases hl : l = []
  · subst hl
    simp [-BitVec.toNat_or, -BitVec.toNat_ofInt, -BitVec.toNat_and, len_string u9, index_str u9, conv_i u5 u22]
    exact ⟨⟨wb, by simpa [txt] using h⟩, .refl _ _⟩
  have hn0 : l.length ≠ 0 := by simpa using hl
  obtain ⟨v, m1, hc, rfl, ⟨wb1, h1⟩, k1⟩ := alloc_yes (t := 3) (n := l.length) hS12 h hr (by omega) (by unfold noRoom; omega)
  simp only [List.append_assoc, List.cons_append, List.nil_append] at h1
  have he : l.isEmpty = false := by simpa using hl
  simp [-BitVec.toNat_or, -BitVec.toNat_ofInt, -BitVec.toNat_and, len_string u9, index_str u9, conv_i u5 u22, hc, he]
  have hwd := wd_app.2 ⟨hd, wd_cons.2 ⟨head_wd (t := 3) (n := l.length) (by omega) (by omega), wd_rep l.length⟩⟩
  refine wsem_loop 9 [10, 24] (fun d E m2 => ∃ i : Nat, l.length - i = d ∧ i ≤ l.length ∧ E = [(0, .pointer (some ⟨hb, 0, none⟩)), (1, .string ⟨l.toArray⟩), (6, .int .u64 A.length), (7, .bool true), (8, .int .i64 i)] ∧
    HeapAt m2 hb hf wb1 wf (A ++ headOf 3 l.length :: (byts (l.take i) ++ List.replicate (l.length - i) 0)) room ∧ Keeps m m2 [hf, wf]) _ ⟨_, ⟨0, rfl, by omega, rfl, by simpa [byts] using h1, k1⟩, ⟨rfl, rfl, rfl, rfl, rfl, trivial⟩⟩ ?_
  rintro d E m2 ih ⟨i, hdi, hi, rfl, h2, k2⟩
  by_cases hlt : i < l.length
  · have e1 : (i : Int) < l.length := by omega
    have hmax : (i : Int) ≤ 9223372036854775807 := by omega
    have w1 : IntKind.i64.wrap ((i : Int) + 1) = ((i + 1 : Nat) : Int) := by rw [wrap_i64 (by omega) (by omega)]; omega
    have hb8 := (l[i]).toNat_lt
    have w2 : IntKind.u64.wrap ((l[i]).toNat : Int) = (l[i]).toNat := wrap_u64 (by omega) (by omega)
    have hw2 : Wd (A ++ headOf 3 l.length :: (byts (l.take i) ++ List.replicate (l.length - i) 0)) := wd_app.2 ⟨hd, wd_cons.2 ⟨head_wd (by omega) (by omega), wd_app.2 ⟨wd_byts _, wd_rep _⟩⟩⟩
    have hlen : (A ++ headOf 3 l.length :: (byts (l.take i) ++ List.replicate (l.length - i) 0)).length = A.length + 1 + l.length := by simp [byts]; omega
    obtain ⟨r, m3, hp, rfl, h3, k3⟩ := put_yes (v := ((l[i]).toNat : Int)) (i := A.length + 1 + i) hS17 h2 (by omega) (by omega) (by omega)
    have hs := set_run (i := (i : Int)) (r := (A.length : Int)) hS18 hS36 hS20 hS37 hS22 h2 (by omega) (by omega) hw2 (by rw [atV_obj (by omega) (by omega) hlt (by omega)]; exact hp)
    rw [obj_set, text_step hlt] at h3
    simp [-BitVec.toNat_or, -BitVec.toNat_ofInt, -BitVec.toNat_and, len_string u9, index_str u9, conv_i u5 u22, e1, hmax, hlt, w2, hs, w1]
    refine ih _ _ _ _ ⟨i + 1, rfl, by omega, rfl, h3, k2.trans (k3.mono (by simp))⟩ (by omega) ⟨rfl, rfl, rfl, rfl, ?_, trivial⟩
    simp [lget]
  · have hil : i = l.length := by omega
    subst hil
    simp [-BitVec.toNat_or, -BitVec.toNat_ofInt, -BitVec.toNat_and, len_string u9, index_str u9, conv_i u5 u22, hl]
    exact ⟨⟨wb1, by simpa [txt, hl] using h2⟩, k2⟩
end Go.Proofs.YtggbgelfgfmikaaDoor.base

