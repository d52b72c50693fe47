/-
  This text proves, in plain Lean, that chapter 25's code and its bytes tell one another.
  No condition but what the theorems themselves say.
-/
import Derived.Test.YtkcehgajpalgnaaDoorShD
set_option linter.unusedVariables false
set_option linter.unusedSimpArgs false
namespace Go.Proofs.YtkcehgajpalgnaaDoor.base
open Go.Sh
abbrev In5 := Int × Int × Int × Int × Int
def regsP (op : Int) : Nat := if op = 1 ∨ op = 3 ∨ op = 4 ∨ op = 24 ∨ op = 25 then 1 else if op = 2 ∨ op = 10 ∨ op = 11 ∨ op = 17 ∨ op = 18 ∨ op = 19 ∨ op = 21 then 2 else if op = 23 ∨ op = 26 ∨ op = 27 then 0 else 3
def numP (op n : Int) (size : Nat) : Prop := if op = 1 ∨ op = 19 ∨ op = 21 then True else if op = 3 ∨ op = 4 then 0 ≤ n ∧ n < 400 else if op = 23 ∨ op = 24 then 0 ≤ n ∧ n ≤ size else if op = 25 ∨ op = 26 ∨ op = 27 then 0 ≤ n ∧ n ≤ 1048576 else n = 0
def regP (i : Nat) (op r : Int) : Prop := 0 ≤ r ∧ r ≤ 15 ∧ (regsP op ≤ i → r = 0)
def RightI (x : In5) (size : Nat) : Prop := 1 ≤ x.1 ∧ x.1 ≤ 27 ∧ numP x.1 x.2.2.2.2 size ∧ regP 0 x.1 x.2.1 ∧ regP 1 x.1 x.2.2.1 ∧ regP 2 x.1 x.2.2.2.1
def RightC (l : List In5) : Prop := l.length ≤ 32768 ∧ ∀ x ∈ l, RightI x l.length
def u8 (z : Int) : UInt8 := UInt8.ofNat (z % 256).toNat
theorem u8_nat (z : Int) : ((u8 z).toNat : Int) = z % 256 := by
  have h1 := Int.emod_nonneg z (by omega : (256 : Int) ≠ 0)
  have h2 := Int.emod_lt_of_pos z (by omega : (0 : Int) < 256)
  simp only [u8, UInt8.toNat_ofNat']
  omega
theorem u64_mod (z : Int) : IntKind.u64.wrap z = z % 18446744073709551616 := by
  have e1 : (2 : Int) ^ IntKind.u64.bits = 18446744073709551616 := by decide
  have e3 : IntKind.u64.signed = false := rfl
  simp only [IntKind.wrap, e1, e3]
  simp
theorem i64_mod (z : Int) : IntKind.i64.wrap z = if z % 18446744073709551616 < 9223372036854775808 then z % 18446744073709551616 else z % 18446744073709551616 - 18446744073709551616 := by
  have e1 : (2 : Int) ^ IntKind.i64.bits = 18446744073709551616 := by decide
  have e2 : (2 : Int) ^ (IntKind.i64.bits - 1) = 9223372036854775808 := by decide
  have e3 : IntKind.i64.signed = true := rfl
  simp only [IntKind.wrap, e1, e2, e3, Bool.true_and, decide_eq_true_eq]
  split <;> split <;> omega
def nb (n : Int) (k : Nat) : UInt8 := u8 (n % 18446744073709551616 / 2 ^ (8 * k))
def encI (x : In5) : List UInt8 := [u8 x.1, u8 (16 * x.2.1 + x.2.2.1), u8 x.2.2.2.1] ++ (List.range 8).map (nb x.2.2.2.2)
def at8 (l : List UInt8) (i : Nat) : Nat := (l.getD i 0).toNat
def opsOk (l : List UInt8) (k : Nat) : Prop := ∀ i, i < k → 1 ≤ at8 l (11 * i) ∧ at8 l (11 * i) ≤ 27
theorem RightI.op {x : In5} {size : Nat} (h : RightI x size) : at8 (encI x) 0 = x.1.toNat := by
  have e : at8 (encI x) 0 = (u8 x.1).toNat := rfl
  have := u8_nat x.1
  have h1 := h.1
  have h2 := h.2.1
  rw [e]; omega
noncomputable instance rightCDec (l : List In5) : Decidable (RightC l) := Classical.propDecidable _
noncomputable instance opsOkDec (l : List UInt8) (k : Nat) : Decidable (opsOk l k) := Classical.propDecidable _
end Go.Proofs.YtkcehgajpalgnaaDoor.base

