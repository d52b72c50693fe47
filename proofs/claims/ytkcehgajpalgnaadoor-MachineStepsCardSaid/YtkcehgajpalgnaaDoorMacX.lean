/-
  This text proves what '==' and '!=' give of two arrays of integers that hold the same, over the abstract run.
  No condition but what the theorems themselves say.
-/
import Derived.Test.YtkcehgajpalgnaaDoorMasF
set_option maxRecDepth 100000
set_option linter.unusedSimpArgs false
set_option linter.unusedVariables false
namespace Go.Proofs.YtkcehgajpalgnaaDoor.base
open Go.Sh gen
section
variable {P : Program} {m : Mem} {ρ : Operand → Value} {d : Option Tmp} {ty : TypeId} {pos : String} {af : Array Edge} {g : Option (Nat × Bool)}
theorem prun_size {t : TypeId} {z : Nat} (h : sizeOfT P t = some z) : prun P (sizeOf t) = some z := by
  unfold sizeOfT at h
  cases hi : P.info? t with
  | none => rw [hi] at h; cases h
  | some i =>
    rw [hi] at h
    simp only [Option.map_some, Option.some.injEq] at h
    unfold sizeOf typeInfo
    rw [prunB, prunB]
    show ((some P).bind _).bind _ = _
    simp [hi, h]
    subst h
    rfl
theorem prun_eqArr {t e : TypeId} {n : Nat} {k : IntKind} (ht : P.underlying t = some (.array n e)) (he : P.underlying e = some (.int k)) (hz : sizeOfT P e = some 1) (hl : ldOk P e = true) {xs : Array Value} (hx : ∀ i, i < n → ∃ z, xs[i]? = some (.int k z)) (dd : Nat) : prun P (Op.equalIn (dd + 2) t (.agg xs) (.agg xs)) = some true := by
  unfold Op.equalIn
  rw [prunB, prun_under ht]
  simp only [Option.bind_some]
  rw [prunB, prun_size hz]
  simp only [Option.bind_some]
  rw [prunB, Std.Legacy.Range.forIn_eq_forIn_range']
  have key : ∀ (c s : Nat), s + c ≤ n →
      prun P (forIn (List.range' s c) ((none, ()) : Option Bool × Unit) fun i __s => do
              let a ← part e xs (i * 1)
              let c ← part e xs (i * 1)
              let q ← Op.equalIn (dd + 1) e a c
              if (!q) = true then pure (ForInStep.done (some false, ())) else pure (ForInStep.yield (none, ()))) = some (none, ()) := by
    intro c
    induction c with
    | zero => intro s _; rfl
    | succ c ih =>
      intro s hs
      obtain ⟨z, hv⟩ := hx s (by omega)
      rw [List.range'_succ, List.forIn_cons, prunB]
      rw [prunB, prun_part hl (by rw [Nat.mul_one]; exact hv)]
      simp only [Option.bind_some]
      rw [prunB, prun_part hl (by rw [Nat.mul_one]; exact hv)]
      simp only [Option.bind_some]
      rw [prunB, prun_scalar (r := true) dd (by simp [scalarEq, he])]
      exact ih (s + 1) (by omega)
  have h := key n 0 (by omega)
  simp only [Std.Legacy.Range.size]
  simp at h ⊢
  rw [h]
  rfl
def intsOk (k : IntKind) (l : List Value) : Bool := l.all fun v => match v with | .int j _ => j == k | _ => false
theorem intsOk_at {k : IntKind} {l : List Value} (h : intsOk k l = true) {i : Nat} (hi : i < l.length) : ∃ z, l[i]? = some (.int k z) := by
  have h1 := List.all_eq_true.1 h l[i] (List.getElem_mem hi)
  rw [List.getElem?_eq_getElem hi]
  generalize l[i] = v at *
  cases v <;> simp at h1
  subst h1
  exact ⟨_, rfl⟩
theorem intsOk_map (k : IntKind) (l : List Int) : intsOk k (l.map (Value.int k)) = true := by simp [intsOk]
theorem closedL_ints {k : IntKind} {l : List Value} (h : intsOk k l = true) : closedL l = true := by
  induction l with
  | nil => rfl
  | cons v l ih =>
    simp only [intsOk, List.all_cons, Bool.and_eq_true] at h
    have hv : closedV v = true := by cases v <;> simp at h <;> rfl
    show (closedV v && closedL l) = true
    rw [hv, ih (by simpa [intsOk] using h.2)]; rfl
def arrOk (P : Program) (t e : TypeId) (n : Nat) (k : IntKind) : Bool := (match P.underlying t with | some (.array n' e') => n' == n && e' == e | _ => false) && (match P.underlying e with | some (.int j) => j == k | _ => false) && (sizeOfT P e == some 1) && ldOk P e && !P.eqGuardType P.depth t
theorem bin_arr {t e : TypeId} {n : Nat} {k : IntKind} (h : arrOk P t e n k = true) {l : List Value} (hl : l.length = n) (hk : intsOk k l = true) (op : BinOp) (hop : op = .eql ∨ op = .neq) (x y : Operand) {yt : TypeId} (hx : ρ x = .agg l.toArray) (hy : ρ y = .agg l.toArray) :
    s_binOp0 P ρ ⟨d, .binOp op t x y yt, ty, pos, af, g⟩ op t x y m = (boolEq op true).map (·, m) := by
  unfold arrOk at h
  simp only [Bool.and_eq_true, beq_iff_eq, Bool.not_eq_true'] at h
  obtain ⟨⟨⟨⟨h1, h2⟩, h3⟩, h4⟩, hg⟩ := h
  have hu : P.underlying t = some (.array n e) := by
    split at h1
    · rename_i a b hu; simp at h1; obtain ⟨rfl, rfl⟩ := h1; exact hu
    · cases h1
  have he : P.underlying e = some (.int k) := by
    split at h2
    · rename_i j hu2; simp at h2; subst h2; exact hu2
    · cases h2
  have heq : prun P (Op.equal t (.agg l.toArray) (.agg l.toArray)) = some true := prun_eqArr hu he h3 h4 (fun i hi => by
    obtain ⟨z, hz⟩ := intsOk_at hk (i := i) (by omega)
    exact ⟨z, by simpa using hz⟩) 9998
  have hgd : prun P (eqGuard op t x y (.agg l.toArray) (.agg l.toArray)) = some () := by
    unfold eqGuard
    rcases hop with rfl | rfl
    · show prun P (do if !(← program).eqGuardType (← program).depth t then return else (do if ← Op.eqGuardIn Op.maxDepth t (.agg l.toArray) (.agg l.toArray) then unsupported (.noEntry "binop/eql: two nil values of an interface type with methods, in a part of a struct or an array"))) = _
      rw [prunB]
      show (some P).bind _ = _
      simp only [Option.bind_some]
      rw [prunB]
      show (some P).bind _ = _
      simp only [Option.bind_some, hg, Bool.not_false, if_true]
      rfl
    · show prun P (do if !(← program).eqGuardType (← program).depth t then return else (do if ← Op.eqGuardIn Op.maxDepth t (.agg l.toArray) (.agg l.toArray) then unsupported (.noEntry "binop/eql: two nil values of an interface type with methods, in a part of a struct or an array"))) = _
      rw [prunB]
      show (some P).bind _ = _
      simp only [Option.bind_some]
      rw [prunB]
      show (some P).bind _ = _
      simp only [Option.bind_some, hg, Bool.not_false, if_true]
      rfl
  have hcl : closedA l.toArray = true := by rw [closedA_l]; exact closedL_ints hk
  have hc : closedOp P ρ ⟨d, .binOp op t x y yt, ty, pos, af, g⟩ = boolEq op true := by
    refine closed_of (by simp [Op.operands, hx, hy, closedV, hcl]) ?_ (by intro u hu; rcases hop with rfl | rfl <;> simp [boolEq] at hu <;> subst hu <;> rfl)
    have ee : execOp ρ ⟨d, .binOp op t x y yt, ty, pos, af, g⟩ = (Next.value <$> (do eqGuard op t x y (ρ x) (ρ y); binOp op t (ρ x) (ρ y))) := by
      rcases hop with rfl | rfl <;> rfl
    rw [ee, prunM, hx, hy, prunB, hgd]
    simp only [Option.bind_some]
    rcases hop with rfl | rfl
    · have : prun P (binOp .eql t (.agg l.toArray) (.agg l.toArray)) = some (.bool true) := by
        show prun P (Op.equal t (.agg l.toArray) (.agg l.toArray) >>= fun r => pure (Value.bool r)) = _
        rw [prunB, heq]; rfl
      rw [this]; rfl
    · have : prun P (binOp .neq t (.agg l.toArray) (.agg l.toArray)) = some (.bool !true) := by
        show prun P (Op.equal t (.agg l.toArray) (.agg l.toArray) >>= fun r => pure (Value.bool !r)) = _
        rw [prunB, heq]; rfl
      rw [this]; rfl
  simp only [s_binOp0, hu, hx, hy, hc]
theorem ok_a16 : arrOk Tryd.prog 34 33 16 .u64 = true := by kernel_rfl
theorem ok_a400 : arrOk Tryd.prog 35 33 400 .u64 = true := by kernel_rfl
end
end Go.Proofs.YtkcehgajpalgnaaDoor.base

