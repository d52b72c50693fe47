/-
  This text proves, in plain Lean, that chapter 25's code and its bytes tell one another.
  No condition but what the theorems themselves say.
-/
import Derived.Test.YtkcehgajpalgnaaDoorShD
set_option linter.unusedVariables false
set_option linter.unusedSimpArgs false
namespace Go.Proofs.YtkcehgajpalgnaaDoor.base
open Go.Sh
/-- an instruction: op, three registers, a number -/
abbrev In5 := Int × Int × Int × Int × Int
def regsP (op : Int) : Nat := if op = 1 ∨ op = 3 ∨ op = 4 ∨ op = 24 ∨ op = 25 then 1 else if op = 2 ∨ op = 10 ∨ op = 11 ∨ op = 17 ∨ op = 18 ∨ op = 19 ∨ op = 21 then 2 else if op = 23 ∨ op = 26 ∨ op = 27 then 0 else 3
def numP (op n : Int) (size : Nat) : Prop := if op = 1 ∨ op = 19 ∨ op = 21 then True else if op = 3 ∨ op = 4 then 0 ≤ n ∧ n < 400 else if op = 23 ∨ op = 24 then 0 ≤ n ∧ n ≤ size else if op = 25 ∨ op = 26 ∨ op = 27 then 0 ≤ n ∧ n ≤ 1048576 else n = 0
def regP (i : Nat) (op r : Int) : Prop := 0 ≤ r ∧ r ≤ 15 ∧ (regsP op ≤ i → r = 0)
/-- may an instruction be, in code of so many? -/
def RightI (x : In5) (size : Nat) : Prop := 1 ≤ x.1 ∧ x.1 ≤ 27 ∧ numP x.1 x.2.2.2.2 size ∧ regP 0 x.1 x.2.1 ∧ regP 1 x.1 x.2.2.1 ∧ regP 2 x.1 x.2.2.2.1
def RightC (l : List In5) : Prop := l.length ≤ 32768 ∧ ∀ x ∈ l, RightI x l.length
def u8 (z : Int) : UInt8 := UInt8.ofNat (z % 256).toNat
theorem u8_nat (z : Int) : ((u8 z).toNat : Int) = z % 256 := by
  have h1 := Int.emod_nonneg z (by omega : (256 : Int) ≠ 0)
  have h2 := Int.emod_lt_of_pos z (by omega : (0 : Int) < 256)
  simp only [u8, UInt8.toNat_ofNat']
  omega
theorem u8_wrap (z : Int) : IntKind.u8.wrap z = ((u8 z).toNat : Int) := by
  have e1 : (2 : Int) ^ IntKind.u8.bits = 256 := by decide
  have e3 : IntKind.u8.signed = false := rfl
  rw [u8_nat]
  simp only [IntKind.wrap, e1, e3]
  simp
theorem u64_mod (z : Int) : IntKind.u64.wrap z = z % 18446744073709551616 := by
  have e1 : (2 : Int) ^ IntKind.u64.bits = 18446744073709551616 := by decide
  have e3 : IntKind.u64.signed = false := rfl
  simp only [IntKind.wrap, e1, e3]
  simp
theorem i64_mod (z : Int) : IntKind.i64.wrap z = if z % 18446744073709551616 < 9223372036854775808 then z % 18446744073709551616 else z % 18446744073709551616 - 18446744073709551616 := by
  have e1 : (2 : Int) ^ IntKind.i64.bits = 18446744073709551616 := by decide
  have e2 : (2 : Int) ^ (IntKind.i64.bits - 1) = 9223372036854775808 := by decide
  have e3 : IntKind.i64.signed = true := rfl
  simp only [IntKind.wrap, e1, e2, e3, Bool.true_and, decide_eq_true_eq]
  split <;> split <;> omega
/-- a number's k-th byte -/
def nb (n : Int) (k : Nat) : UInt8 := u8 (n % 18446744073709551616 / 2 ^ (8 * k))
def encI (x : In5) : List UInt8 := [u8 x.1, u8 (16 * x.2.1 + x.2.2.1), u8 x.2.2.2.1] ++ (List.range 8).map (nb x.2.2.2.2)
def encP (l : List In5) : List UInt8 := l.flatMap encI
theorem encI_len (x : In5) : (encI x).length = 11 := by simp [encI]
theorem encP_len (l : List In5) : (encP l).length = 11 * l.length := by
  induction l with
  | nil => rfl
  | cons a l ih => simp only [encP, List.flatMap_cons, List.length_append, encI_len, List.length_cons] at ih ⊢; omega
/-- bytes as a number, the least first -/
def valB : List UInt8 → Nat
  | [] => 0
  | b :: r => b.toNat + 256 * valB r
theorem valB_lt : ∀ l : List UInt8, valB l < 256 ^ l.length
  | [] => by simp [valB]
  | b :: r => by
    have h1 := valB_lt r
    have h2 : b.toNat < 256 := b.toNat_lt
    simp only [valB, List.length_cons, Nat.pow_succ]
    omega
theorem valB_snoc : ∀ (l : List UInt8) (b : UInt8), valB (l ++ [b]) = valB l + b.toNat * 256 ^ l.length
  | [], b => by simp [valB]
  | a :: r, b => by
    simp only [List.cons_append, valB, valB_snoc r b, List.length_cons, Nat.pow_succ]
    rw [Nat.mul_add, ← Nat.add_assoc]
    congr 1
    rw [Nat.mul_comm 256, Nat.mul_assoc]
def at8 (l : List UInt8) (i : Nat) : Nat := (l.getD i 0).toNat
def decI (l : List UInt8) : In5 := ((at8 l 0 : Int), ((at8 l 1 / 16 : Nat) : Int), ((at8 l 1 % 16 : Nat) : Int), (at8 l 2 : Int), IntKind.i64.wrap (valB ((l.drop 3).take 8) : Nat))
def decL (l : List UInt8) (k : Nat) : List In5 := (List.range k).map fun i => decI (l.drop (11 * i))
def opsOk (l : List UInt8) (k : Nat) : Prop := ∀ i, i < k → 1 ≤ at8 l (11 * i) ∧ at8 l (11 * i) ≤ 27
theorem decL_succ (l : List UInt8) (k : Nat) : decL l (k + 1) = decL l k ++ [decI (l.drop (11 * k))] := by simp [decL, List.range_succ]
theorem decL_len (l : List UInt8) (k : Nat) : (decL l k).length = k := by simp [decL]
theorem at8_app (a b : List UInt8) (i : Nat) (h : i < a.length) : at8 (a ++ b) i = at8 a i := by simp [at8, List.getD_eq_getElem?_getD, List.getElem?_append_left h]
/-- what a right instruction's bytes tell -/
theorem dec_enc {x : In5} {size : Nat} (h : RightI x size) (hn : -9223372036854775808 ≤ x.2.2.2.2 ∧ x.2.2.2.2 ≤ 9223372036854775807) (r : List UInt8) : decI (encI x ++ r) = x := by
  obtain ⟨op, a, b, c, n⟩ := x
  obtain ⟨h1, h2, _, ⟨a1, a2, _⟩, ⟨b1, b2, _⟩, ⟨c1, c2, _⟩⟩ := h
  simp only at h1 h2 a1 a2 b1 b2 c1 c2 hn
  have e0 : at8 (encI (op, a, b, c, n) ++ r) 0 = (u8 op).toNat := by rw [at8_app _ _ _ (by rw [encI_len]; omega)]; rfl
  have e1 : at8 (encI (op, a, b, c, n) ++ r) 1 = (u8 (16 * a + b)).toNat := by rw [at8_app _ _ _ (by rw [encI_len]; omega)]; rfl
  have e2 : at8 (encI (op, a, b, c, n) ++ r) 2 = (u8 c).toNat := by rw [at8_app _ _ _ (by rw [encI_len]; omega)]; rfl
  have e3 : ((encI (op, a, b, c, n) ++ r).drop 3).take 8 = (List.range 8).map (nb n) := by
    have hl : ((List.range 8).map (nb n)).length = 8 := by simp
    simp only [encI, List.cons_append, List.nil_append, List.drop_succ_cons, List.drop_zero]
    exact List.take_left' hl
  have ev : ((valB ((List.range 8).map (nb n)) : Nat) : Int) = n % 18446744073709551616 := by
    have hr : List.range 8 = [0, 1, 2, 3, 4, 5, 6, 7] := by decide
    rw [hr]
    simp only [List.map_cons, List.map_nil, valB, nb]
    have hk : ∀ z : Int, ((u8 z).toNat : Int) = z % 256 := u8_nat
    generalize hz : n % 18446744073709551616 = z
    have hz1 : 0 ≤ z ∧ z < 18446744073709551616 := by omega
    simp only [Int.natCast_add, Int.natCast_mul, hk, Int.natCast_zero]
    have p0 : (2 : Int) ^ (8 * 0) = 1 := by decide
    have p1 : (2 : Int) ^ (8 * 1) = 256 := by decide
    have p2 : (2 : Int) ^ (8 * 2) = 65536 := by decide
    have p3 : (2 : Int) ^ (8 * 3) = 16777216 := by decide
    have p4 : (2 : Int) ^ (8 * 4) = 4294967296 := by decide
    have p5 : (2 : Int) ^ (8 * 5) = 1099511627776 := by decide
    have p6 : (2 : Int) ^ (8 * 6) = 281474976710656 := by decide
    have p7 : (2 : Int) ^ (8 * 7) = 72057594037927936 := by decide
    rw [p0, p1, p2, p3, p4, p5, p6, p7]
    omega
  have k0 := u8_nat op
  have k1 := u8_nat (16 * a + b)
  have k2 := u8_nat c
  unfold decI
  rw [e0, e1, e2, e3, i64_mod, ev]
  refine Prod.ext ?_ (Prod.ext ?_ (Prod.ext ?_ (Prod.ext ?_ ?_)))
  · simp only; omega
  · simp only; omega
  · simp only; omega
  · simp only; omega
  · simp only; split <;> omega
theorem RightI.op {x : In5} {size : Nat} (h : RightI x size) : at8 (encI x) 0 = x.1.toNat := by
  have e : at8 (encI x) 0 = (u8 x.1).toNat := rfl
  have := u8_nat x.1
  have h1 := h.1
  have h2 := h.2.1
  rw [e]; omega
theorem encP_drop (l : List In5) : ∀ (i : Nat) (h : i < l.length), (encP l).drop (11 * i) = encI l[i] ++ encP (l.drop (i + 1))
  | 0, h => by
    cases l with
    | nil => simp at h
    | cons a l => simp [encP]
  | i + 1, h => by
    cases l with
    | nil => simp at h
    | cons a l =>
      have ih := encP_drop l i (by simpa using h)
      have e : encP (a :: l) = encI a ++ encP l := by simp [encP]
      rw [e, show 11 * (i + 1) = (encI a).length + 11 * i by rw [encI_len]; omega, List.drop_length_add_append]
      simpa using ih
/-- code that is encoded is decoded to the same -/
theorem dec_all {l : List In5} (h : RightC l) (hn : ∀ x ∈ l, -9223372036854775808 ≤ x.2.2.2.2 ∧ x.2.2.2.2 ≤ 9223372036854775807) : decL (encP l) l.length = l ∧ opsOk (encP l) l.length := by
  constructor
  · refine List.ext_getElem (by simp [decL]) fun i h1 h2 => ?_
    simp only [decL, List.getElem_map, List.getElem_range]
    rw [encP_drop l i h2]
    exact dec_enc (h.2 _ (List.getElem_mem h2)) (hn _ (List.getElem_mem h2)) _
  · intro i hi
    have e := encP_drop l i hi
    have hr := h.2 _ (List.getElem_mem hi)
    have : at8 (encP l) (11 * i) = at8 (encI l[i]) 0 := by
      have : at8 ((encP l).drop (11 * i)) 0 = at8 (encP l) (11 * i) := by simp [at8, List.getD_eq_getElem?_getD, List.getElem?_drop]
      rw [← this, e, at8_app _ _ _ (by rw [encI_len]; omega)]
    rw [this, hr.op]
    have := hr.1
    have := hr.2.1
    omega
/-- bytes that are decoded are encoded to the same -/
theorem enc_dec {l : List UInt8} (h : 11 ≤ l.length) : encI (decI l) = l.take 11 := by
  obtain ⟨b0, l, rfl⟩ : ∃ a r, l = a :: r := by cases l with | nil => simp at h | cons a r => exact ⟨a, r, rfl⟩
  obtain ⟨b1, l, rfl⟩ : ∃ a r, l = a :: r := by cases l with | nil => simp at h | cons a r => exact ⟨a, r, rfl⟩
  obtain ⟨b2, l, rfl⟩ : ∃ a r, l = a :: r := by cases l with | nil => simp at h | cons a r => exact ⟨a, r, rfl⟩
  obtain ⟨c0, l, rfl⟩ : ∃ a r, l = a :: r := by cases l with | nil => simp at h | cons a r => exact ⟨a, r, rfl⟩
  obtain ⟨c1, l, rfl⟩ : ∃ a r, l = a :: r := by cases l with | nil => simp at h | cons a r => exact ⟨a, r, rfl⟩
  obtain ⟨c2, l, rfl⟩ : ∃ a r, l = a :: r := by cases l with | nil => simp at h | cons a r => exact ⟨a, r, rfl⟩
  obtain ⟨c3, l, rfl⟩ : ∃ a r, l = a :: r := by cases l with | nil => simp at h | cons a r => exact ⟨a, r, rfl⟩
  obtain ⟨c4, l, rfl⟩ : ∃ a r, l = a :: r := by cases l with | nil => simp at h | cons a r => exact ⟨a, r, rfl⟩
  obtain ⟨c5, l, rfl⟩ : ∃ a r, l = a :: r := by cases l with | nil => simp at h | cons a r => exact ⟨a, r, rfl⟩
  obtain ⟨c6, l, rfl⟩ : ∃ a r, l = a :: r := by cases l with | nil => simp at h | cons a r => exact ⟨a, r, rfl⟩
  obtain ⟨c7, l, rfl⟩ : ∃ a r, l = a :: r := by cases l with | nil => simp at h | cons a r => exact ⟨a, r, rfl⟩
  have byte : ∀ (z : Int) (b : UInt8), z % 256 = (b.toNat : Int) → u8 z = b := fun z b hz => by
    apply UInt8.toNat_inj.1
    have := u8_nat z
    omega
  have q0 := b0.toNat_lt
  have q1 := b1.toNat_lt
  have q2 := b2.toNat_lt
  have r0 := c0.toNat_lt
  have r1 := c1.toNat_lt
  have r2 := c2.toNat_lt
  have r3 := c3.toNat_lt
  have r4 := c4.toNat_lt
  have r5 := c5.toNat_lt
  have r6 := c6.toNat_lt
  have r7 := c7.toNat_lt
  have hv : ∀ v : Nat, v < 18446744073709551616 → IntKind.i64.wrap (v : Int) % 18446744073709551616 = (v : Int) := fun v hv => by
    rw [i64_mod]; split <;> omega
  have e28 : (2 : Nat) ^ 8 = 256 := by decide
  rw [e28] at q0 q1 q2 r0 r1 r2 r3 r4 r5 r6 r7
  have hvl := valB_lt [c0, c1, c2, c3, c4, c5, c6, c7]
  simp only [List.length_cons, List.length_nil] at hvl
  have hvl2 : valB [c0, c1, c2, c3, c4, c5, c6, c7] < 18446744073709551616 := by
    have : (256 : Nat) ^ (0 + 1 + 1 + 1 + 1 + 1 + 1 + 1 + 1) = 18446744073709551616 := by decide
    omega
  have hr : List.range 8 = [0, 1, 2, 3, 4, 5, 6, 7] := by decide
  have p0 : (2 : Int) ^ (8 * 0) = 1 := by decide
  have p1 : (2 : Int) ^ (8 * 1) = 256 := by decide
  have p2 : (2 : Int) ^ (8 * 2) = 65536 := by decide
  have p3 : (2 : Int) ^ (8 * 3) = 16777216 := by decide
  have p4 : (2 : Int) ^ (8 * 4) = 4294967296 := by decide
  have p5 : (2 : Int) ^ (8 * 5) = 1099511627776 := by decide
  have p6 : (2 : Int) ^ (8 * 6) = 281474976710656 := by decide
  have p7 : (2 : Int) ^ (8 * 7) = 72057594037927936 := by decide
  have hv2 := hv _ hvl2
  simp only [encI, decI, at8, List.getD_cons_zero, List.getD_cons_succ, List.drop_succ_cons, List.drop_zero, List.take_succ_cons, List.take_zero, hr, List.map_cons, List.map_nil, nb, hv2, p0, p1, p2, p3, p4, p5, p6, p7, List.cons_append, List.nil_append, List.cons.injEq, and_true]
  refine ⟨byte _ _ ?_, byte _ _ ?_, byte _ _ ?_, byte _ _ ?_, byte _ _ ?_, byte _ _ ?_, byte _ _ ?_, byte _ _ ?_, byte _ _ ?_, byte _ _ ?_, byte _ _ ?_⟩ <;> first | (simp only [valB]; omega) | omega
theorem enc_all {l : List UInt8} : ∀ k, 11 * k ≤ l.length → encP (decL l k) = l.take (11 * k)
  | 0, _ => by simp [decL, encP]
  | k + 1, h => by
    have ih := enc_all (l := l) k (by omega)
    rw [decL_succ]
    have e : encP (decL l k ++ [decI (l.drop (11 * k))]) = encP (decL l k) ++ encI (decI (l.drop (11 * k))) := by simp [encP]
    rw [e, ih, enc_dec (by simp; omega), show 11 * (k + 1) = 11 * k + 11 by omega, List.take_add]
noncomputable instance rightCDec (l : List In5) : Decidable (RightC l) := Classical.propDecidable _
noncomputable instance opsOkDec (l : List UInt8) (k : Nat) : Decidable (opsOk l k) := Classical.propDecidable _
/-- what Decode answers -/
noncomputable def decP (l : List UInt8) : List In5 × Int :=
  if l.length % 11 ≠ 0 then ([], 7) else if opsOk l (l.length / 11) then (if RightC (decL l (l.length / 11)) then (decL l (l.length / 11), 0) else ([], 5)) else ([], 30)
theorem decP_encP {l : List In5} (h : RightC l) (hn : ∀ x ∈ l, -9223372036854775808 ≤ x.2.2.2.2 ∧ x.2.2.2.2 ≤ 9223372036854775807) : decP (encP l) = (l, 0) := by
  obtain ⟨h1, h2⟩ := dec_all h hn
  have e : (encP l).length = 11 * l.length := encP_len l
  have e1 : (encP l).length % 11 = 0 := by omega
  have e2 : (encP l).length / 11 = l.length := by omega
  unfold decP
  rw [if_neg (by omega), e2, if_pos h2, h1, if_pos h]
theorem encP_decP {l : List UInt8} (h : (decP l).2 = 0) : RightC (decP l).1 ∧ encP (decP l).1 = l := by
  unfold decP at h ⊢
  by_cases h1 : l.length % 11 ≠ 0
  · rw [if_pos h1] at h; simp at h
  · rw [if_neg h1] at h ⊢
    by_cases h2 : opsOk l (l.length / 11)
    · rw [if_pos h2] at h ⊢
      by_cases h3 : RightC (decL l (l.length / 11))
      · rw [if_pos h3]
        refine ⟨h3, ?_⟩
        simp only
        rw [enc_all _ (by omega)]
        exact List.take_of_length_le (by omega)
      · rw [if_neg h3] at h; simp at h
    · rw [if_neg h2] at h; simp at h
end Go.Proofs.YtkcehgajpalgnaaDoor.base

