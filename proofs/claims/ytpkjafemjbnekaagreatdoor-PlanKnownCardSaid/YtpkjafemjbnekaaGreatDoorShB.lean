/-
  This text proves that an abstract, deterministic run of the model's code (logical blocks in the place of addresses, no capacities) is sound: where it answers, every run of the model answers alike and leaves all older memory as it was ('closed_true', 'call_sound').
  No condition but what the theorems themselves say: the program's orders are mixed, and the functions that are run pass the static check 'funcOk'.
-/
import Derived.Test.YtpkjafemjbnekaaGreatDoorSh
import Derived.Laws.IdiomStrings
import Derived.Laws.BytesString
import Derived.Lib.Builder
import Derived.Lib.UnsafeStr
import Derived.LoopN
import Derived.Orders
import Derived.WalkKit
import Derived.ProofKit
import Derived.OpenShut
import Derived.ChangeSame
import Derived.Lib.LaidTab
import GoSem.ClaimJoined

/- One operation: the rest, and all together. -/
namespace Go.Sh
open Go.RowKit
set_option linter.unusedVariables false
set_option linter.unusedSimpArgs false

variable {P : Program} {J : Inj} {m m' : Mem} {B : Frame} {W w w' : World}
section
variable {o : Oper} {a : Act} {v : Value} {ρ : Operand → Value}

theorem zerosOf_inv {e : TypeId} {k : Nat} {zl : List Value} (h : zerosOf P e k = some zl) : ∃ i z, P.info? e = some i ∧ i.zero = some z ∧ closedA z.cells = true ∧ z.cells.size = i.size ∧ k * i.bytes ≤ 281474976710656 ∧ zl = (Builtin.zeroCells z.cells k).toList := by
  unfold zerosOf at h
  split at h
  · rename_i i hi
    split at h
    · rename_i z hz
      split at h
      · rename_i hc
        simp only [Bool.and_eq_true, beq_iff_eq, decide_eq_true_eq] at hc
        simp only [Option.some.injEq] at h
        exact ⟨i, z, hi, hz, hc.1.1, hc.1.2, hc.2, by rw [zeroCells_flatten]; exact h.symm⟩
      · cases h
    · cases h
  · cases h

theorem closed_zeros {z : Value} (hc : closedA z.cells = true) (k : Nat) : LRel J (Builtin.zeroCells z.cells k).toList (Builtin.zeroCells z.cells k).toList := by
  rw [zeroCells_flatten]
  refine LRel.of_closed ?_
  rw [closedL_iff]
  intro v hv
  obtain ⟨l, hl, hv⟩ := List.mem_flatten.1 hv
  have := (List.mem_replicate.1 hl).2
  subst this
  obtain ⟨i, hi⟩ := List.getElem?_of_mem hv
  exact (closedA_iff _).1 hc i v (by simpa using hi)

theorem call_append_run {s x : Operand} {ts tx : TypeId} (ho : o.op = .call { callee := .builtin .append, args := #[s, x], argTypes := #[ts, tx] }) {v' : Value}
    (hr : (Builtin.append_ #[ts, tx] o.type #[a.eval s, a.eval x]).run P w = .ok v' w') : (execOp a.eval o).run P w = .ok (.value v') w' := by
  simp [execOp, ho, resolve, invoke, builtin, hr]

theorem y_append_zeros (h : MRel P J m B W w) {s x : Operand} {ts tx e : TypeId} {dx : IntKind} (ho : o.op = .call { callee := .builtin .append, args := #[s, x], argTypes := #[ts, tx] }) (hs : VRel J (ρ s) (a.eval s)) (hx : VRel J (ρ x) (a.eval x))
    (ht : P.underlying ts = some (.slice e)) (htx : P.underlying tx = some (.int dx)) {k : Nat} (hk : natOf (ρ x) = some k) {zl : List Value} (hz : zerosOf P e k = some zl) (he : sappend P ts m (ρ s) zl k = some (v, m')) : Yields P J m' B W o a w v := by
  obtain ⟨i, z, q1, q2, q3, q4, q5, rfl⟩ := zerosOf_inv hz
  obtain ⟨kd, hx', hkb⟩ := hx.nat_inv hk
  obtain ⟨J', v', w', r1, r2, r3, r4⟩ := append_core (ty := o.type) h ht q1 q2 htx hs (closed_zeros q3 k) (x' := a.eval x) (by rw [hx']; exact .int dx kd k hkb (by rw [← Int.natCast_mul]; omega)) he
  exact ⟨J', _, v', w', r1, call_append_run ho r2, .inl rfl, r3, r4⟩

theorem sappend_len {t e : TypeId} {i : TypeInfo} {s : Value} {news : List Value} {k : Nat} (ht : P.underlying t = some (.slice e)) (hi : P.info? e = some i) (he : sappend P t m s news k = some (v, m')) : news.length = k * i.size ∧ 0 < i.size ∧ ∃ z, i.zero = some z := by
  unfold sappend at he
  rw [ht] at he
  simp only [hi] at he
  split at he
  · cases he
  · rename_i hchk
    simp only [Bool.not_eq_true, Bool.not_eq_false', Bool.and_eq_true, decide_eq_true_eq, beq_iff_eq] at hchk
    refine ⟨hchk.1.2, hchk.1.1.1, ?_⟩
    have := hchk.1.1.2
    cases hz : i.zero with
    | none => simp [hz] at this
    | some z => exact ⟨z, rfl⟩

theorem y_append_news (h : MRel P J m B W w) {s x : Operand} {ts tx : TypeId} (ho : o.op = .call { callee := .builtin .append, args := #[s, x], argTypes := #[ts, tx] }) (hs : VRel J (ρ s) (a.eval s)) (hx : VRel J (ρ x) (a.eval x))
    {news : List Value} {k : Nat} (hn : newsOf P m tx (ρ x) = some (news, k)) (he : sappend P ts m (ρ s) news k = some (v, m')) : Yields P J m' B W o a w v := by
  have ht : ∃ e i, P.underlying ts = some (.slice e) ∧ P.info? e = some i := by
    unfold sappend at he
    split at he
    · rename_i e ht
      cases hi : P.info? e with
      | none => simp [hi] at he
      | some i => exact ⟨e, i, ht, hi⟩
    · cases he
  obtain ⟨e, i, ht, hi⟩ := ht
  obtain ⟨hlen, hpos, z, hz⟩ := sappend_len ht hi he
  unfold newsOf at hn
  split at hn
  · rename_i e' htx
    split at hn
    · -- nil
      rename_i hx0
      simp only [Option.some.injEq, Prod.mk.injEq] at hn
      obtain ⟨rfl, rfl⟩ := hn
      have hx' := hx.closed_eq (by rw [hx0]; rfl)
      rw [hx0] at hx'
      obtain ⟨J', v', w', r1, r2, r3, r4⟩ := append_core (ty := o.type) h ht hi hz htx hs LRel.nil (x' := a.eval x) (by rw [hx']; exact .slice e' none 0 0 [] (by simp [Builtin.firstCells]) (by simp [Builtin.firstCells])) he
      exact ⟨J', _, v', w', r1, call_append_run ho r2, .inl rfl, r3, r4⟩
    · rename_i z' ad n c hz' hx0
      split at hn
      · rename_i hn0
        have hn0' : n = 0 := by simpa using hn0
        simp only [Option.some.injEq, Prod.mk.injEq] at hn
        obtain ⟨rfl, rfl⟩ := hn
        subst hn0'
        rw [hx0] at hx
        obtain ⟨s1, s2, a', c', s3, s4, s5, s7⟩ := hx.wslice_inv
        have hsrc : Src P w i z (.slice e') (a.eval x) 0 [] := by
          rw [s3]
          exact .slice e' _ 0 c' [] (run_firstCells_some (P := P) w i.size 0 _ 0 c' [] (by simp) fun j v hv => by simp at hv)
            (run_firstCells_some (P := P) w.drew i.size 0 _ 0 c' [] (by simp) fun j v hv => by simp at hv)
        obtain ⟨J', v', w', r1, r2, r3, r4⟩ := append_core (ty := o.type) h ht hi hz htx hs LRel.nil (x' := a.eval x) hsrc he
        exact ⟨J', _, v', w', r1, call_append_run ho r2, .inl rfl, r3, r4⟩
      · rename_i hn0
        have hn0' : n ≠ 0 := by simpa using hn0
        simp only [Option.map_eq_some_iff, Prod.mk.injEq] at hn
        obtain ⟨cs, hl, rfl, rfl⟩ := hn
        rw [hx0] at hx
        obtain ⟨s1, s2, a', c', s3, s4, s5, s7⟩ := hx.wslice_inv
        have ha' := s7.resolve_left hn0'
        obtain ⟨q1, cs', q2, q3⟩ := h.loadRow hl
        have hcl : cs'.length = n * i.size := by rw [← q2.1]; exact hlen
        have hsrc : Src P w i z (.slice e') (a.eval x) n cs' := by
          rw [s3, ha']
          exact .slice e' _ n c' cs' (run_firstCells_some (P := P) w i.size n _ n c' cs' hcl fun j v hv => by rw [Addr.add_lit]; exact q3 j v hv)
            (run_firstCells_some (P := P) w.drew i.size n _ n c' cs' hcl fun j v hv => by rw [Addr.add_lit]; exact q3 j v hv)
        obtain ⟨J', v', w', r1, r2, r3, r4⟩ := append_core (ty := o.type) h ht hi hz htx hs q2 (x' := a.eval x) hsrc he
        exact ⟨J', _, v', w', r1, call_append_run ho r2, .inl rfl, r3, r4⟩
    · cases hn
  · rename_i htx
    split at hn
    · rename_i s0 hx0
      simp only [Option.some.injEq, Prod.mk.injEq] at hn
      obtain ⟨rfl, rfl⟩ := hn
      have hx' := hx.closed_eq (by rw [hx0]; rfl)
      rw [hx0] at hx'
      have hcl : LRel J (s0.data.map fun b => Value.int .u8 b.toNat).toList (s0.data.map fun b => Value.int .u8 b.toNat).toList := by
        refine LRel.of_closed ?_
        rw [closedL_iff]
        intro u hu
        simp at hu
        obtain ⟨b, _, rfl⟩ := hu
        rfl
      obtain ⟨J', v', w', r1, r2, r3, r4⟩ := append_core (ty := o.type) h ht hi hz htx hs hcl (x' := a.eval x) (by rw [hx']; exact .string s0) he
      exact ⟨J', _, v', w', r1, call_append_run ho r2, .inl rfl, r3, r4⟩
    · cases hn
  · cases hn

theorem y_len_slice (h : MRel P J m B W w) {x : Operand} {t e : TypeId} (ho : o.op = .call { callee := .builtin .len, args := #[x], argTypes := #[t] }) {ao : Option Addr} {n c : Nat} (hx : VRel J (.slice ao n c) (a.eval x)) (ht : P.underlying t = some (.slice e)) :
    Yields P J m B W o a w (.int .i64 n) := by
  have hx' : ∃ ao' c', a.eval x = .slice ao' n c' := by
    cases ao with
    | none => generalize a.eval x = y at hx; cases hx with | clo _ hc => exact ⟨_, _, rfl⟩
    | some ad => obtain ⟨_, _, a', c', h3, _⟩ := hx.wslice_inv; exact ⟨_, _, h3⟩
  obtain ⟨ao', c', hx'⟩ := hx'
  refine yields_same h (.clo _ rfl) (v' := .int .i64 n) ?_
  simp [execOp, ho, resolve, invoke, builtin, Builtin.len_, run_underlying ht, hx', goInt]

theorem y_len_string (h : MRel P J m B W w) {x : Operand} {t : TypeId} (ho : o.op = .call { callee := .builtin .len, args := #[x], argTypes := #[t] }) {s : ByteArray} (hx : VRel J (.string s) (a.eval x)) (ht : P.underlying t = some .string) :
    Yields P J m B W o a w (.int .i64 s.size) := by
  have hx' := hx.closed_eq rfl
  refine yields_same h (.clo _ rfl) (v' := .int .i64 s.size) ?_
  simp [execOp, ho, resolve, invoke, builtin, Builtin.len_, run_underlying ht, hx', goInt]

theorem y_copy0 (h : MRel P J m B W w) {d x : Operand} {ts tx e : TypeId} (ho : o.op = .call { callee := .builtin .copy, args := #[d, x], argTypes := #[ts, tx] }) {da sa : Addr} {dn dc sn sc z : Nat} (hd : VRel J (.slice (some da) dn dc) (a.eval d)) (hx : VRel J (.slice (some sa) sn sc) (a.eval x))
    (ht : P.underlying ts = some (.slice e)) (hz : sizeOfT P e = some z) (h0 : Nat.min sn dn = 0) : Yields P J m B W o a w (.int .i64 0) := by
  obtain ⟨_, _, da', dc', d3, _⟩ := hd.wslice_inv
  obtain ⟨_, _, sa', sc', s3, _⟩ := hx.wslice_inv
  refine yields_same h (.clo _ rfl) (v' := .int .i64 0) ?_
  have hf : (Builtin.firstCells z 0 (.slice (some sa') sn sc')).run P w = .ok #[] w := by simp [Builtin.firstCells, loadCells, loadCellsFrom]
  simp [execOp, ho, resolve, invoke, builtin, Builtin.copy_, run_underlying ht, d3, s3, Builtin.lenOf, h0, run_sizeOf hz, hf, storeCells, goInt]

theorem y_copy (h : MRel P J m B W w) {d x : Operand} {ts tx e : TypeId} (ho : o.op = .call { callee := .builtin .copy, args := #[d, x], argTypes := #[ts, tx] }) {da sa : Addr} {dn dc sn sc z : Nat} (hd : VRel J (.slice (some da) dn dc) (a.eval d)) (hx : VRel J (.slice (some sa) sn sc) (a.eval x))
    (ht : P.underlying ts = some (.slice e)) (hz : sizeOfT P e = some z) (h0 : Nat.min sn dn ≠ 0) {cs : List Value} (hl : loadRow m sa (Nat.min sn dn * z) = some cs) (hst : storeRow m da cs = some m') : Yields P J m' B W o a w (.int .i64 (Nat.min sn dn)) := by
  obtain ⟨_, _, da', dc', d3, d4, _, d7⟩ := hd.wslice_inv
  obtain ⟨_, _, sa', sc', s3, s4, _, s7⟩ := hx.wslice_inv
  have hmin : Nat.min sn dn ≤ sn ∧ Nat.min sn dn ≤ dn := ⟨Nat.min_le_left _ _, Nat.min_le_right _ _⟩
  have hda := d7.resolve_left (by omega)
  have hsa := s7.resolve_left (by omega)
  obtain ⟨q1, cs', q2, q3⟩ := h.loadRow hl
  obtain ⟨_, b, hw, hlen, h1s, rfl⟩ := storeRow_inv hst
  obtain ⟨w1, w2, w3, w4⟩ := h.wr _ _ hw
  have hcl : cs'.length = Nat.min sn dn * z := by rw [← q2.1]; exact q1
  have hf := run_firstCells_some (P := P) w z (Nat.min sn dn) sa' sn sc' cs' hcl fun j v hv => by rw [hsa, Addr.add_lit]; exact q3 j v hv
  have hrun := run_storeCells_rel h hw q2 hlen h1s
  refine ⟨J, .value (.int .i64 (Nat.min sn dn)), _, _, .rfl J, ?_, .inl rfl, .clo _ rfl, h.setCells hw q2 hlen⟩
  simp [execOp, ho, resolve, invoke, builtin, Builtin.copy_, run_underlying ht, d3, s3, Builtin.lenOf, run_sizeOf hz, hf, hda, hrun, goInt]

theorem yf_makeSlice (w : World) {t e : TypeId} {l c : Operand} (ho : o.op = .makeSlice t l c) {xl xc : Value} {ln cp : Nat} {i : TypeInfo} {zl : List Value} (hl : VRel J xl (a.eval l)) (hc : VRel J xc (a.eval c)) (hln : natOf xl = some ln) (hcp : natOf xc = some cp)
    (ht : P.underlying t = some (.slice e)) (hi : P.info? e = some i) (hz : zerosOf P e ln = some zl) (hpos : 0 < i.size) (hle : ln ≤ cp) (h48 : cp * i.bytes ≤ 281474976710656) :
    YFloat P J o a w (fun n => .slice (some ⟨n, 0, none⟩) ln ln) zl e := by
  obtain ⟨i', z, q1, q2, q3, q4, q5, rfl⟩ := zerosOf_inv hz
  rw [hi] at q1
  simp only [Option.some.injEq] at q1
  subst q1
  obtain ⟨kl, hl', hlb⟩ := hl.nat_inv hln
  obtain ⟨kc, hc', hcb⟩ := hc.nat_inv hcp
  have hsplit : (Builtin.zeroCells z.cells ln).toList ++ (Builtin.zeroCells z.cells (cp - ln)).toList = (Builtin.zeroCells z.cells cp).toList := by
    rw [zeroCells_flatten, zeroCells_flatten, zeroCells_flatten, ← List.flatten_append, List.replicate_append_replicate, show ln + (cp - ln) = cp by omega]
  have h48' : ¬ (281474976710656 < (i.bytes : Int) * (cp : Int)) := by
    have : (i.bytes : Int) * (cp : Int) = ((cp * i.bytes : Nat) : Int) := by rw [Int.natCast_mul, Int.mul_comm]
    omega
  have hlc : ¬ ((cp : Int) < ln) := by omega
  have hn1 : ¬ ((cp : Int) < 0) := by omega
  have hn2 : ¬ ((ln : Int) < 0) := by omega
  refine ⟨i, (Builtin.zeroCells z.cells ln).toList, (Builtin.zeroCells z.cells (cp - ln)).toList, .slice (some ⟨w.heap.size, 0, none⟩) ln cp, hi, closed_zeros q3 ln, ?_, fun K => ?_⟩
  · have har : (execOp a.eval o).run P w = .ok (.value (.slice (some ⟨w.heap.size, 0, none⟩) ln cp)) (w.alloc (.cells (Builtin.zeroCells z.cells cp) e)) := by
      by_cases hz0 : cp * i.size = 0
      · have hzc : Builtin.zeroCells z.cells cp = #[] := zeroCells_zero _ _ (by rw [q4]; exact hz0)
        have hr0 : (Array.range 0 : Array Nat) = #[] := rfl
        rw [hzc]
        by_cases hroom : roomBytes < cp * i.bytes <;>
          simp [execOp, ho, Instr.makeSlice, run_underlying ht, hl', hc', asInt, asIntOf, typeInfo, sizeOf, hi, wrap_nat hlb, wrap_nat hcb, h48', hlc, hn1, hn2, askRoom, hroom, mark, Sem.run, hz0, hr0, newRow]
      · by_cases hroom : roomBytes < cp * i.bytes <;>
          simp [execOp, ho, Instr.makeSlice, run_underlying ht, hl', hc', asInt, asIntOf, typeInfo, sizeOf, zeroValue, hi, q2, wrap_nat hlb, wrap_nat hcb, h48', hlc, hn1, hn2, askRoom, hroom, mark, Sem.run, hz0, newRow, Builtin.zeroCells, q4]
    rw [hsplit]
    simpa using har
  · have := snoc_slice0 K w.heap.size ((Builtin.zeroCells z.cells ln).toList.length + (Builtin.zeroCells z.cells (cp - ln)).toList.length) i.size 0 ln cp hle (by omega) (by rw [zeroCells_len q4, zeroCells_len q4, ← Nat.add_mul, Nat.zero_add]; congr 1; omega)
    exact this

theorem y_makeSlice (h : MRel P J m B W w) {t e : TypeId} {l c : Operand} (ho : o.op = .makeSlice t l c) {xl xc : Value} {ln cp : Nat} {i : TypeInfo} {zl : List Value} (hl : VRel J xl (a.eval l)) (hc : VRel J xc (a.eval c)) (hln : natOf xl = some ln) (hcp : natOf xc = some cp)
    (ht : P.underlying t = some (.slice e)) (hi : P.info? e = some i) (hz : zerosOf P e ln = some zl) (hpos : 0 < i.size) (hle : ln ≤ cp) (h48 : cp * i.bytes ≤ 281474976710656) :
    Yields P J (m.new zl e) B W o a w (.slice (some ⟨m.next, 0, none⟩) ln ln) := (yf_makeSlice w ho hl hc hln hcp ht hi hz hpos hle h48).yields h

theorem run_sliceBound (k : IntKind) {i y : Nat} (code : BoundsCode) (h : i ≤ y) : (Instr.sliceBound (.int k i) y code).run P w = .ok i w := by
  have hc : (0 : Int) ≤ i ∧ (i : Int) ≤ y := by omega
  simp only [Instr.sliceBound, asIntOf, Sem.run_bind, Sem.run_pure, Result.andThen_ok, if_pos hc, Int.toNat_natCast]

theorem slice_run {t e : TypeId} {x : Operand} {lo hi : Option Operand} (ho : o.op = .slice t x lo hi none) {a' : Addr} {n c' z l k : Nat} (ht : P.underlying t = some (.slice e)) (hz : sizeOfT P e = some z) (s3 : a.eval x = .slice (some a') n c')
    (hlo : (∃ y xl, lo = some y ∧ VRel J xl (a.eval y) ∧ natOf xl = some l) ∨ (lo = none ∧ l = 0)) (hhi : (∃ y xh, hi = some y ∧ VRel J xh (a.eval y) ∧ natOf xh = some k) ∨ (hi = none ∧ k = n)) (h1 : l ≤ k) (hkc : k ≤ c') :
    (execOp a.eval o).run P w = .ok (.value (.slice (some (if c' = l then a' else a'.add (l * z))) (k - l) (c' - l))) w := by
    rcases hlo with ⟨y, xl, rfl, g1, g2⟩ | ⟨rfl, rfl⟩ <;> rcases hhi with ⟨y2, xh, rfl, g3, g4⟩ | ⟨rfl, rfl⟩
    · obtain ⟨k1, e1, _⟩ := g1.nat_inv g2
      obtain ⟨k2, e2, _⟩ := g3.nat_inv g4
      have B1 := fun cd => run_sliceBound (P := P) (w := w) k2 (i := k) (y := c') cd (by omega)
      have B2 := fun cd => run_sliceBound (P := P) (w := w) k1 (i := l) (y := k) cd h1
      by_cases hc : c' = l <;> simp [execOp, ho, Instr.sliceAt, Instr.slice, Instr.sliceBounds, run_underlying ht, s3, e1, e2, B1, B2, hc, run_sizeOf hz]
      subst hc
      simp [B1, B2, run_sizeOf hz]
    · obtain ⟨k1, e1, _⟩ := g1.nat_inv g2
      have B2 := fun cd => run_sliceBound (P := P) (w := w) k1 (i := l) (y := k) cd h1
      by_cases hc : c' = l <;> simp [execOp, ho, Instr.sliceAt, Instr.slice, Instr.sliceBounds, run_underlying ht, s3, e1, B2, hc, run_sizeOf hz]
    · obtain ⟨k2, e2, _⟩ := g3.nat_inv g4
      have B1 := fun cd => run_sliceBound (P := P) (w := w) k2 (i := k) (y := c') cd (by omega)
      by_cases hc : c' = 0 <;> simp [execOp, ho, Instr.sliceAt, Instr.slice, Instr.sliceBounds, run_underlying ht, s3, e2, B1, hc, run_sizeOf hz]
      subst hc
      simp [B1, run_sizeOf hz]
    · by_cases hc : c' = 0 <;> simp [execOp, ho, Instr.sliceAt, Instr.slice, Instr.sliceBounds, run_underlying ht, s3, hc, run_sizeOf hz]

theorem y_slice_weak (h : MRel P J m B W w) {t e : TypeId} {x : Operand} {lo hi : Option Operand} (ho : o.op = .slice t x lo hi none) {ad : Addr} {n c z l k : Nat} (hx : VRel J (.slice (some ad) n c) (a.eval x)) (ht : P.underlying t = some (.slice e)) (hz : sizeOfT P e = some z)
    (hlo : (∃ y xl, lo = some y ∧ VRel J xl (a.eval y) ∧ natOf xl = some l) ∨ (lo = none ∧ l = 0)) (hhi : (∃ y xh, hi = some y ∧ VRel J xh (a.eval y) ∧ natOf xh = some k) ∨ (hi = none ∧ k = n)) (h1 : l ≤ k) (h2 : k ≤ n) :
    Yields P J m B W o a w (.slice (some { ad with off := ad.off + l * z }) (k - l) (k - l + 1)) := by
  obtain ⟨s1, s2, a', c', s3, s4, s5, s7⟩ := hx.wslice_inv
  obtain ⟨bl, of, sp⟩ := ad
  simp only at s1 s2 s7 ⊢
  subst s1
  refine yields_same h ?_ (slice_run (P := P) (w := w) ho ht hz s3 hlo hhi h1 (by omega))
  refine .wslice bl (of + l * z) (k - l) _ (c' - l) s2 (by omega) (by omega) ?_
  by_cases hn : n = 0
  · exact Or.inl (by omega)
  · by_cases hc : c' = l
    · exact Or.inl (by omega)
    · refine Or.inr ?_
      rw [if_neg hc, s7.resolve_left hn, Addr.add_lit, Nat.add_assoc]

theorem y_slice_array (h : MRel P J m B W w) {t e : TypeId} {x : Operand} {lo hi : Option Operand} (ho : o.op = .slice t x lo hi none) {ad : Addr} {n z l k : Nat} (hx : VRel J (.pointer (some ad)) (a.eval x)) (ht : P.underlying t = some (.array n e)) (hz : sizeOfT P e = some z)
    (hlo : (∃ y xl, lo = some y ∧ VRel J xl (a.eval y) ∧ natOf xl = some l) ∨ (lo = none ∧ l = 0)) (hhi : (∃ y xh, hi = some y ∧ VRel J xh (a.eval y) ∧ natOf xh = some k) ∨ (hi = none ∧ k = n)) (h1 : l ≤ k) (h2 : k ≤ n) (h63 : n ≤ 9223372036854775807) :
    Yields P J m B W o a w (.slice (some { ad with off := ad.off + l * z }) (k - l) (k - l + 1)) := by
  obtain ⟨s1, s2, s3⟩ := hx.ptr_inv
  obtain ⟨bl, of, sp⟩ := ad
  simp only at s1 s2 s3 ⊢
  subst s1
  have hrun : (execOp a.eval o).run P w = .ok (.value (.slice (some (if n = l then ⟨J.blk bl, J.base bl + of, none⟩ else (⟨J.blk bl, J.base bl + of, none⟩ : Addr).add (l * z))) (k - l) (n - l))) w := by
    rcases hlo with ⟨y, xl, rfl, g1, g2⟩ | ⟨rfl, rfl⟩ <;> rcases hhi with ⟨y2, xh, rfl, g3, g4⟩ | ⟨rfl, rfl⟩
    · obtain ⟨k1, e1, _⟩ := g1.nat_inv g2
      obtain ⟨k2, e2, _⟩ := g3.nat_inv g4
      have B1 := fun cd => run_sliceBound (P := P) (w := w) k2 (i := k) (y := n) cd (by omega)
      have B2 := fun cd => run_sliceBound (P := P) (w := w) k1 (i := l) (y := k) cd h1
      simp [execOp, ho, Instr.sliceAt, Instr.sureAddr, Instr.sliceBounds, run_underlying ht, s3, e1, e2, B1, B2, run_sizeOf hz]
    · obtain ⟨k1, e1, _⟩ := g1.nat_inv g2
      have B2 := fun cd => run_sliceBound (P := P) (w := w) k1 (i := l) (y := k) cd h1
      simp [execOp, ho, Instr.sliceAt, Instr.sureAddr, Instr.sliceBounds, run_underlying ht, s3, e1, B2, run_sizeOf hz]
    · obtain ⟨k2, e2, _⟩ := g3.nat_inv g4
      have B1 := fun cd => run_sliceBound (P := P) (w := w) k2 (i := k) (y := n) cd (by omega)
      simp [execOp, ho, Instr.sliceAt, Instr.sureAddr, Instr.sliceBounds, run_underlying ht, s3, e2, B1, run_sizeOf hz]
    · simp [execOp, ho, Instr.sliceAt, Instr.sureAddr, Instr.sliceBounds, run_underlying ht, s3, run_sizeOf hz]
  refine yields_same h ?_ hrun
  refine .wslice bl (of + l * z) (k - l) _ (n - l) s2 (by omega) (by omega) ?_
  by_cases hc : n = l
  · exact Or.inl (by omega)
  · refine Or.inr ?_
    rw [if_neg hc, Addr.add_lit, Nat.add_assoc]

theorem y_slice_str (h : MRel P J m B W w) {t : TypeId} {x : Operand} {lo hi : Option Operand} (ho : o.op = .slice t x lo hi none) {s : ByteArray} {l k : Nat} (hx : VRel J (.string s) (a.eval x)) (ht : P.underlying t = some .string)
    (hlo : (∃ y xl, lo = some y ∧ VRel J xl (a.eval y) ∧ natOf xl = some l) ∨ (lo = none ∧ l = 0)) (hhi : (∃ y xh, hi = some y ∧ VRel J xh (a.eval y) ∧ natOf xh = some k) ∨ (hi = none ∧ k = s.data.toList.length)) (h1 : l ≤ k) (hkc : k ≤ s.data.toList.length) :
    Yields P J m B W o a w (.string ⟨⟨(s.data.toList.drop l).take (k - l)⟩⟩) := by
  have s3 := hx.closed_eq rfl
  have hsz : s.size = s.data.toList.length := (Array.length_toList).symm
  have hex : s.extract l k = ⟨⟨(s.data.toList.drop l).take (k - l)⟩⟩ := by
    have h1 : (s.extract l k).data.toList = (s.data.toList.drop l).take (k - l) := by
      rw [ByteArray.data_extract, Array.toList_extract]
    have h2 : ∀ (b : ByteArray) (l : List UInt8), b.data.toList = l → b = ⟨⟨l⟩⟩ := by
      intro b l hb
      obtain ⟨⟨d⟩⟩ := b
      simp only at hb
      rw [hb]
    exact h2 _ _ h1
  have hkc' : k ≤ s.size := by omega
  refine yields_same h (.clo _ rfl) ?_
  rw [← hex]
  rcases hlo with ⟨y, xl, rfl, g1, g2⟩ | ⟨rfl, rfl⟩ <;> rcases hhi with ⟨y2, xh, rfl, g3, g4⟩ | ⟨rfl, rfl⟩
  · obtain ⟨k1, e1, _⟩ := g1.nat_inv g2
    obtain ⟨k2, e2, _⟩ := g3.nat_inv g4
    have B1 := fun cd => run_sliceBound (P := P) (w := w) k2 (i := k) (y := s.size) cd (by omega)
    have B2 := fun cd => run_sliceBound (P := P) (w := w) k1 (i := l) (y := k) cd h1
    simp [execOp, ho, Instr.sliceAt, Instr.slice, Instr.sliceBounds, run_underlying ht, s3, e1, e2, B1, B2]
  · obtain ⟨k1, e1, _⟩ := g1.nat_inv g2
    have B2 := fun cd => run_sliceBound (P := P) (w := w) k1 (i := l) (y := s.size) cd (by omega)
    simp [execOp, ho, Instr.sliceAt, Instr.slice, Instr.sliceBounds, run_underlying ht, s3, e1, B2]
  · obtain ⟨k2, e2, _⟩ := g3.nat_inv g4
    have B1 := fun cd => run_sliceBound (P := P) (w := w) k2 (i := k) (y := s.size) cd (by omega)
    simp [execOp, ho, Instr.sliceAt, Instr.slice, Instr.sliceBounds, run_underlying ht, s3, e2, B1]
  · simp [execOp, ho, Instr.sliceAt, Instr.slice, Instr.sliceBounds, run_underlying ht, s3]

theorem y_slice (h : MRel P J m B W w) {t e : TypeId} {x : Operand} {lo hi : Option Operand} (ho : o.op = .slice t x lo hi none) {ad : Addr} {n z l k : Nat} (hx : VRel J (.slice (some ad) n n) (a.eval x)) (ht : P.underlying t = some (.slice e)) (hz : sizeOfT P e = some z)
    (hlo : (∃ y xl, lo = some y ∧ VRel J xl (a.eval y) ∧ natOf xl = some l) ∨ (lo = none ∧ l = 0)) (hhi : (∃ y xh, hi = some y ∧ VRel J xh (a.eval y) ∧ natOf xh = some k) ∨ (hi = none ∧ k = n)) (hb0 : l = 0 ∨ elemIs m ad.block e = true) (h1 : l ≤ k) (h2 : k ≤ n) :
    Yields P J m B W o a w (.slice (some { ad with off := ad.off + l * z }) (k - l) (k - l)) := by
  obtain ⟨s1, s2, a', c', s3, s4, s5, s6, s7⟩ := hx.slice_inv
  obtain ⟨bl, of, sp⟩ := ad
  simp only at s1 s2 s6 s7 hb0 ⊢
  subst s1
  have key : l * z = l * J.esz bl := by
    rcases hb0 with rfl | hb1
    · simp
    · unfold elemIs at hb1
      split at hb1
      · rename_i b hb
        have hbe : b.elem = e := by simpa using hb1
        obtain ⟨i, q1, q2⟩ := h.esz _ _ hb
        have hzi : z = J.esz bl := by
          rw [hbe] at q1
          unfold sizeOfT at hz
          rw [q1] at hz
          simp at hz
          rw [← hz, q2]
        rw [hzi]
      · cases hb1
  have hrun := slice_run (P := P) (w := w) ho ht hz s3 hlo hhi h1 (by omega)
  rw [key] at hrun ⊢
  refine yields_same h ?_ hrun
  refine .slice bl (of + l * J.esz bl) (k - l) _ (c' - l) s2 (by omega) (by omega) ?_ ?_
  · rw [Nat.add_assoc, ← Nat.add_mul, show l + (c' - l) = c' by omega]; exact s6
  · by_cases hc : c' = l
    · exact Or.inl (by omega)
    · refine Or.inr ?_
      rw [if_neg hc, s7.resolve_left (by omega), Addr.add_lit, Nat.add_assoc]

theorem y_slice_nil (h : MRel P J m B W w) {t e : TypeId} {x : Operand} {lo hi : Option Operand} (ho : o.op = .slice t x lo hi none) {z : Nat} (hx : VRel J (.slice none 0 0) (a.eval x)) (ht : P.underlying t = some (.slice e)) (hz : sizeOfT P e = some z)
    (hlo : (∃ y xl, lo = some y ∧ VRel J xl (a.eval y) ∧ natOf xl = some 0) ∨ lo = none) (hhi : (∃ y xh, hi = some y ∧ VRel J xh (a.eval y) ∧ natOf xh = some 0) ∨ hi = none) :
    Yields P J m B W o a w (.slice none 0 0) := by
  have s3 := hx.closed_eq rfl
  refine yields_same h (.clo _ rfl) (v' := .slice none 0 0) ?_
  rcases hlo with ⟨y, xl, rfl, g1, g2⟩ | rfl <;> rcases hhi with ⟨y2, xh, rfl, g3, g4⟩ | rfl
  · obtain ⟨k1, e1, _⟩ := g1.nat_inv g2
    obtain ⟨k2, e2, _⟩ := g3.nat_inv g4
    have B1 := fun cd => run_sliceBound (P := P) (w := w) k2 (i := 0) (y := 0) cd (by omega)
    have B2 := fun cd => run_sliceBound (P := P) (w := w) k1 (i := 0) (y := 0) cd (by omega)
    simp at e1 e2 B1 B2
    simp [execOp, ho, Instr.sliceAt, Instr.slice, Instr.sliceBounds, run_underlying ht, s3, e1, e2, B1, B2, run_sizeOf hz]
  · obtain ⟨k1, e1, _⟩ := g1.nat_inv g2
    have B2 := fun cd => run_sliceBound (P := P) (w := w) k1 (i := 0) (y := 0) cd (by omega)
    simp at e1 B2
    simp [execOp, ho, Instr.sliceAt, Instr.slice, Instr.sliceBounds, run_underlying ht, s3, e1, B2, run_sizeOf hz]
  · obtain ⟨k2, e2, _⟩ := g3.nat_inv g4
    have B1 := fun cd => run_sliceBound (P := P) (w := w) k2 (i := 0) (y := 0) cd (by omega)
    simp at e2 B1
    simp [execOp, ho, Instr.sliceAt, Instr.slice, Instr.sliceBounds, run_underlying ht, s3, e2, B1, run_sizeOf hz]
  · simp [execOp, ho, Instr.sliceAt, Instr.slice, Instr.sliceBounds, run_underlying ht, s3, run_sizeOf hz]

theorem run_eql_of {t : TypeId} {x y : Value} {b : Bool} (hm : binOp .eql t x y = (do pure (.bool (← Op.equal t x y)))) (hn : binOp .neq t x y = (do pure (.bool (!(← Op.equal t x y))))) (hq : (Op.equal t x y).run P w = .ok b w) :
    ∀ op', op' = BinOp.eql ∨ op' = BinOp.neq → (binOp op' t x y).run P w = .ok (.bool (if op' = .eql then b else !b)) w := by
  intro op' hop
  rcases hop with rfl | rfl
  · rw [hm]; simp [hq]
  · rw [hn]; simp [hq]

theorem equal_step (t : TypeId) (x y : Value) : Op.equal t x y = Op.equalIn (9999 + 1) t x y := rfl

theorem y_boolEq (h : MRel P J m B W w) {op : BinOp} {t yt : TypeId} {x y : Operand} (ho : o.op = .binOp op t x y yt) {b : Bool} (hb : boolEq op b = some v) (hg : (eqGuard op t x y (a.eval x) (a.eval y)).run P w = .ok () w)
    (he : ∀ op', op' = .eql ∨ op' = .neq → (binOp op' t (a.eval x) (a.eval y)).run P w = .ok (.bool (if op' = .eql then b else !b)) w) : Yields P J m B W o a w v := by
  unfold boolEq at hb
  cases op <;> simp at hb
  · subst hb
    refine yields_same h (.clo _ rfl) (v' := .bool b) ?_
    simp [execOp, ho, hg, he .eql (Or.inl rfl)]
  · subst hb
    refine yields_same h (.clo _ rfl) (v' := .bool (!b)) ?_
    simp [execOp, ho, hg, he .neq (Or.inr rfl)]

theorem y_eq_ptr (h : MRel P J m B W w) {op : BinOp} {t yt e : TypeId} {x y : Operand} (ho : o.op = .binOp op t x y yt) (ht : P.underlying t = some (.pointer e)) (hb : boolEq op false = some v)
    (hxy : (∃ ad, VRel J (.pointer (some ad)) (a.eval x) ∧ VRel J (.pointer none) (a.eval y)) ∨ (∃ ad, VRel J (.pointer none) (a.eval x) ∧ VRel J (.pointer (some ad)) (a.eval y))) : Yields P J m B W o a w v := by
  rcases hxy with ⟨ad, g1, g2⟩ | ⟨ad, g1, g2⟩
  · obtain ⟨_, _, e1⟩ := g1.ptr_inv
    have e2 := g2.closed_eq rfl
    refine y_boolEq h ho hb ?_ ?_
    · rw [e1, e2]; unfold eqGuard; split <;> simp
    · intro op' hop
      rw [e1, e2]
      exact run_eql_of rfl rfl (by rw [equal_step, Op.equalIn]; simp [run_underlying ht]) op' hop
  · obtain ⟨_, _, e2⟩ := g2.ptr_inv
    have e1 := g1.closed_eq rfl
    refine y_boolEq h ho hb ?_ ?_
    · rw [e1, e2]; unfold eqGuard; split <;> simp
    · intro op' hop
      rw [e1, e2]
      exact run_eql_of rfl rfl (by rw [equal_step, Op.equalIn]; simp [run_underlying ht]) op' hop

theorem y_eq_slice (h : MRel P J m B W w) {op : BinOp} {t yt e : TypeId} {x y : Operand} (ho : o.op = .binOp op t x y yt) (ht : P.underlying t = some (.slice e)) (hb : boolEq op false = some v)
    (hxy : (∃ ad n c, VRel J (.slice (some ad) n c) (a.eval x) ∧ VRel J (.slice none 0 0) (a.eval y)) ∨ (∃ ad n c, VRel J (.slice none 0 0) (a.eval x) ∧ VRel J (.slice (some ad) n c) (a.eval y))) : Yields P J m B W o a w v := by
  rcases hxy with ⟨ad, n, c, g1, g2⟩ | ⟨ad, n, c, g1, g2⟩
  · obtain ⟨_, _, a', c', e1, _⟩ := g1.wslice_inv
    have e2 := g2.closed_eq rfl
    refine y_boolEq h ho hb ?_ ?_
    · rw [e1, e2]; unfold eqGuard; split <;> simp
    · intro op' hop
      rw [e1, e2]
      exact run_eql_of rfl rfl (by rw [equal_step, Op.equalIn]; simp [run_underlying ht]) op' hop
  · obtain ⟨_, _, a', c', e2, _⟩ := g2.wslice_inv
    have e1 := g1.closed_eq rfl
    refine y_boolEq h ho hb ?_ ?_
    · rw [e1, e2]; unfold eqGuard; split <;> simp
    · intro op' hop
      rw [e1, e2]
      exact run_eql_of rfl rfl (by rw [equal_step, Op.equalIn]; simp [run_underlying ht]) op' hop

theorem VRel.iface_inv {t : TypeId} {u : Value} {v' : Value} (r : VRel J (.iface t u) v') : ∃ u', v' = .iface t u' ∧ VRel J u u' := by
  cases r with
  | clo _ h => exact ⟨u, rfl, .clo _ (by simpa [closedV] using h)⟩
  | iface t v v' h => exact ⟨v', rfl, h⟩

theorem y_eq_iface (h : MRel P J m B W w) {op : BinOp} {t yt : TypeId} {ms : Array (String × TypeId)} {x y : Operand} (ho : o.op = .binOp op t x y yt) (ht : P.underlying t = some (.interface ms)) (hb : boolEq op false = some v)
    (hxy : (∃ q u, VRel J (.iface q u) (a.eval x) ∧ VRel J .nilIface (a.eval y)) ∨ (∃ q u, VRel J .nilIface (a.eval x) ∧ VRel J (.iface q u) (a.eval y))) : Yields P J m B W o a w v := by
  rcases hxy with ⟨q, u, g1, g2⟩ | ⟨q, u, g1, g2⟩
  · obtain ⟨u', e1, _⟩ := g1.iface_inv
    have e2 := g2.closed_eq rfl
    refine y_boolEq h ho hb ?_ ?_
    · rw [e1, e2]; unfold eqGuard; split <;> simp
    · intro op' hop
      rw [e1, e2]
      exact run_eql_of rfl rfl (by rw [equal_step, Op.equalIn]; simp [run_underlying ht]) op' hop
  · obtain ⟨u', e2, _⟩ := g2.iface_inv
    have e1 := g1.closed_eq rfl
    refine y_boolEq h ho hb ?_ ?_
    · rw [e1, e2]; unfold eqGuard; split <;> simp
    · intro op' hop
      rw [e1, e2]
      exact run_eql_of rfl rfl (by rw [equal_step, Op.equalIn]; simp [run_underlying ht]) op' hop

theorem bytesOf_inv : ∀ {cs : List Value} {l : List UInt8}, bytesOf cs = some l → cs = l.map fun b => Value.int .u8 (b.toNat : Int)
  | [], l, h => by simp [bytesOf] at h; subst h; rfl
  | c :: r, l, h => by
    unfold bytesOf at h
    split at h
    · rename_i heq; cases heq
    · rename_i n r' heq
      simp only [List.cons.injEq] at heq
      obtain ⟨rfl, rfl⟩ := heq
      split at h
      · rename_i hc
        simp only [Bool.and_eq_true, decide_eq_true_eq] at hc
        simp only [Option.map_eq_some_iff] at h
        obtain ⟨l', hl', rfl⟩ := h
        rw [bytesOf_inv hl']
        simp only [List.map_cons]
        congr 2
        have : n.toNat < 256 := by omega
        simp [UInt8.toNat_ofNat', Nat.mod_eq_of_lt this]
        omega
      · cases h
    · cases h

theorem y_bytesToString (h : MRel P J m B W w) {src dst e : TypeId} {x : Operand} (ho : o.op = .convert src dst x) {ad : Addr} {n c : Nat} (hx : VRel J (.slice (some ad) n c) (a.eval x)) (hs : P.underlying src = some (.slice e)) (he : P.underlying e = some (.int .u8)) (hd : P.underlying dst = some .string)
    {l : List UInt8} (hl : (n = 0 ∧ l = []) ∨ (n ≠ 0 ∧ ∃ cs, loadRow m ad n = some cs ∧ bytesOf cs = some l)) : Yields P J m B W o a w (.string ⟨l.toArray⟩) := by
  obtain ⟨s1, s2, a', c', s3, s4, s5, s7⟩ := hx.wslice_inv
  refine yields_same h (.clo _ rfl) (v' := .string ⟨l.toArray⟩) ?_
  rcases hl with ⟨rfl, rfl⟩ | ⟨hn, cs, hl, hb⟩
  · have := run_convert_bytes_back (P := P) w src dst e a' c' [] hs he hd (fun j hj => by simp at hj)
    simp only [List.length_nil] at this
    simp [execOp, ho, s3, this]
  · have ha := s7.resolve_left hn
    obtain ⟨q1, cs', q2, q3⟩ := h.loadRow hl
    have hcs := bytesOf_inv hb
    have hlen : l.length = n := by rw [hcs] at q1; simpa using q1
    have := run_convert_bytes_back (P := P) w src dst e a' c' l hs he hd (fun j hj => by
      rw [ha, Addr.add_lit]
      refine q3 j _ ?_
      have hx : cs[j]? = some (Value.int .u8 ((l[j]'hj).toNat : Int)) := by rw [hcs]; simp [hj]
      obtain ⟨y, hy, hxy⟩ := q2.get hx
      rw [hy, hxy.closed_eq rfl])
    rw [hlen] at this
    simp [execOp, ho, s3, this]

theorem y_stringToBytes (h : MRel P J m B W w) {src dst e : TypeId} {x : Operand} (ho : o.op = .convert src dst x) {s : ByteArray} (hx : VRel J (.string s) (a.eval x)) (hs : P.underlying src = some .string) (he : P.underlying e = some (.int .u8)) (hd : P.underlying dst = some (.slice e))
    {i : TypeInfo} (hi : P.info? e = some i) (h1 : i.size = 1) (h63 : s.size ≤ 9223372036854775807) : Yields P J (m.new (s.data.map fun b : UInt8 => Value.int .u8 b.toNat).toList e) B W o a w (.slice (some ⟨m.next, 0, none⟩) s.size s.size) := by
  have hx' := hx.closed_eq rfl
  have hrun := run_bytes_of_string (P := P) w src dst e s hs hd he
  have hge := grownCap_ge w s.size 0 e
  have hle := grownCap_le_maxLen w s.size 0 e (by simp only [maxLen]; omega)
  simp only [maxLen] at hle
  have hcl : LRel J (s.data.map fun b : UInt8 => Value.int .u8 b.toNat).toList (s.data.map fun b : UInt8 => Value.int .u8 b.toNat).toList := by
    refine LRel.of_closed ?_
    rw [closedL_iff]
    intro u hu
    simp at hu
    obtain ⟨b, _, rfl⟩ := hu
    rfl
  have hsz : s.data.size = s.size := rfl
  have hm := h.drew.allocF hcl (List.replicate (grownCap w s.size 0 e - s.size) (.int .u8 0)) e i hi ((bytesRow s (grownCap w s.size 0 e)).size, (bytesRow s (grownCap w s.size 0 e)).size + 1) (Or.inl (by simp [bytesRow]))
  have hrow : ((s.data.map fun b : UInt8 => Value.int .u8 b.toNat).toList ++ List.replicate (grownCap w s.size 0 e - s.size) (Value.int .u8 0)).toArray = bytesRow s (grownCap w s.size 0 e) := by
    apply Array.ext'; simp [bytesRow]
  rw [hrow] at hm
  refine ⟨_, .value (.slice (some ⟨w.heap.size, 0, none⟩) s.size (grownCap w s.size 0 e)), _, _, J.le_snoc _ _ _ _, ?_, .inl rfl, ?_, hm⟩
  · simp [execOp, ho, hx', hrun]
  · have := snoc_slice h.drew w.heap.size ((s.data.map fun b : UInt8 => Value.int .u8 b.toNat).toList.length + (List.replicate (grownCap w s.size 0 e - s.size) (Value.int .u8 0)).length) i.size 0 s.size (grownCap w s.size 0 e) hge hle (by rw [h1]; simp [hsz]; omega)
    exact this
end
end Go.Sh

/- One operation: maps and interface values. -/
namespace Go.Sh
open Go.RowKit
set_option linter.unusedVariables false
set_option linter.unusedSimpArgs false

variable {P : Program} {J : Inj} {m m' : Mem} {B : Frame} {W w w' : World}

theorem prun_bind {α β : Type} : ∀ (s : Sem α) (f : α → Sem β) (b : β), prun P (s >>= f) = some b → ∃ a, prun P s = some a ∧ prun P (f a) = some b := by
  intro s
  induction s with
  | pure a => intro f b h; exact ⟨a, rfl, h⟩
  | program k ih => intro f b h; exact ih P f b h
  | mark k s ih => intro f b h; exact ih f b h
  | _ => intro f b h; simp [bind, Sem.bind, prun] at h

theorem prun_underlying {t : TypeId} {d : TypeDesc} (h : prun P (underlying t) = some d) : P.underlying t = some d := by
  unfold underlying at h
  obtain ⟨p, h1, h2⟩ := prun_bind _ _ _ h
  simp [program, prun] at h1
  subst h1
  cases hu : P.underlying t with
  | none => simp [hu, stuck, prun] at h2
  | some d' => simp [hu] at h2; simpa [pure, prun] using h2

def FRel (J : Inj) : Option (Nat × Value) → Option (Nat × Value) → Prop
  | none, none => True
  | some (i, v), some (j, u) => i = j ∧ VRel J v u
  | _, _ => False

theorem EsRel.tail {e e' : MapEntry} {es es' : List MapEntry} (h : EsRel J (e :: es) (e' :: es')) : EsRel J es es' :=
  ⟨by have := h.1; simpa using this, fun i x y hx hy => h.2 (i + 1) x y (by simpa using hx) (by simpa using hy)⟩

theorem findNow_rel (d : TypeDesc) (k : Value) : ∀ (es es' : List MapEntry) (i : Nat), EsRel J es es' → (∀ e ∈ es, closedV e.key = true) →
    (Instr.findNow d k es i = none ∧ Instr.findNow d k es' i = none) ∨ (∃ r r', Instr.findNow d k es i = some r ∧ Instr.findNow d k es' i = some r' ∧ FRel J r r')
  | [], es', i, h, _ => by
    have : es' = [] := List.length_eq_zero_iff.1 h.1.symm
    subst this
    exact Or.inr ⟨none, none, rfl, rfl, trivial⟩
  | e :: es, [], i, h, _ => by have := h.1; simp at this
  | e :: es, e' :: es', i, h, hc => by
    obtain ⟨h1, h2, h3⟩ := h.2 0 e e' rfl rfl
    have hk := h1.closed_eq (hc e (by simp))
    simp only [Instr.findNow, hk]
    cases Instr.sameNow d k e.key with
    | none => exact Or.inl ⟨rfl, rfl⟩
    | some b =>
      cases b with
      | true => exact Or.inr ⟨_, _, rfl, rfl, rfl, h3⟩
      | false => exact findNow_rel d k es es' (i + 1) h.tail fun x hx => hc x (by simp [hx])

theorem findAsking_rel (kt : TypeId) (k : Value) : ∀ (es es' : List MapEntry) (i : Nat) (r : Option (Nat × Value)), EsRel J es es' → (∀ e ∈ es, closedV e.key = true) → prun P (Instr.findAsking kt k es i) = some r →
    ∃ r', FRel J r r' ∧ ∀ w, (Instr.findAsking kt k es' i).run P w = .ok r' w
  | [], es', i, r, h, _, hp => by
    have : es' = [] := List.length_eq_zero_iff.1 h.1.symm
    subst this
    simp [Instr.findAsking, pure, prun] at hp
    subst hp
    exact ⟨none, trivial, fun w => rfl⟩
  | e :: es, [], i, r, h, _, hp => by have := h.1; simp at this
  | e :: es, e' :: es', i, r, h, hc, hp => by
    obtain ⟨h1, h2, h3⟩ := h.2 0 e e' rfl rfl
    have hk := h1.closed_eq (hc e (by simp))
    simp only [Instr.findAsking] at hp
    obtain ⟨b, hb, hp⟩ := prun_bind _ _ _ hp
    have hrun := prun_run _ _ hb
    cases b with
    | true =>
      simp [pure, prun] at hp
      subst hp
      refine ⟨some (i, e'.val), ⟨rfl, h3⟩, fun w => ?_⟩
      simp only [Instr.findAsking, hk, Sem.run_bind, hrun, Result.andThen_ok, if_true, Sem.run_pure]
    | false =>
      simp only [Bool.false_eq_true, if_false] at hp
      obtain ⟨r', q1, q2⟩ := findAsking_rel kt k es es' (i + 1) r h.tail (fun x hx => hc x (by simp [hx])) hp
      refine ⟨r', q1, fun w => ?_⟩
      simp only [Instr.findAsking, hk, Sem.run_bind, hrun, Result.andThen_ok, Bool.false_eq_true, if_false, q2]

theorem findKey_rel {kt : TypeId} {k : Value} {es es' : List MapEntry} {r : Option (Nat × Value)} (h : EsRel J es es') (hc : ∀ e ∈ es, closedV e.key = true) (hp : prun P (Instr.findKey kt k es) = some r) :
    ∃ r', FRel J r r' ∧ ∀ w, (Instr.findKey kt k es').run P w = .ok r' w := by
  unfold Instr.findKey at hp
  obtain ⟨d, hd, hp⟩ := prun_bind _ _ _ hp
  have hu := prun_underlying hd
  have hcases := findNow_rel d k es es' 0 h hc
  rcases hcases with ⟨h1, h2⟩ | ⟨q, q', h1, h2, h3⟩
  · rw [h1] at hp
    simp only at hp
    obtain ⟨r', g1, g2⟩ := findAsking_rel kt k es es' 0 r h hc hp
    exact ⟨r', g1, fun w => by simp only [Instr.findKey, Sem.run_bind, run_underlying hu, Result.andThen_ok, h2, g2]⟩
  · rw [h1] at hp
    simp [pure, prun] at hp
    subst hp
    exact ⟨q', h3, fun w => by simp only [Instr.findKey, Sem.run_bind, run_underlying hu, Result.andThen_ok, h2, Sem.run_pure]⟩

/-- a look-up, opened -/
theorem sfind_inv {empty : Bool} {kt : TypeId} {k : Value} {es es' : List MapEntry} {r : Option (Nat × Value)} (he : sfind P empty kt k es = some r) (h : EsRel J es es') :
    closedV k = true ∧ (∀ e ∈ es, closedV e.key = true) ∧ (∀ w, (Instr.checkKey empty 10000 kt k).run P w = .ok () w) ∧ ∃ r', FRel J r r' ∧ ∀ w, (Instr.findKey kt k es').run P w = .ok r' w := by
  unfold sfind at he
  split at he
  · rename_i hc
    simp only [Bool.and_eq_true, List.all_eq_true] at hc
    split at he
    · rename_i u hu
      exact ⟨hc.1, hc.2, prun_run _ _ hu, findKey_rel h hc.2 he⟩
    · cases he
  · cases he

/-- the index that a look-up finds lies in the list, with that value -/
theorem findNow_at (d : TypeDesc) (k : Value) : ∀ (es : List MapEntry) (i j : Nat) (v : Value), Instr.findNow d k es i = some (some (j, v)) → i ≤ j ∧ ∃ e, es[j - i]? = some e ∧ e.val = v
  | [], i, j, v, h => by simp [Instr.findNow] at h
  | e :: es, i, j, v, h => by
    simp only [Instr.findNow] at h
    cases hs : Instr.sameNow d k e.key with
    | none => rw [hs] at h; simp at h
    | some b =>
      rw [hs] at h
      cases b with
      | true => simp at h; obtain ⟨rfl, rfl⟩ := h; exact ⟨Nat.le_refl _, e, by simp, rfl⟩
      | false =>
        simp only at h
        obtain ⟨g1, e', g2, g3⟩ := findNow_at d k es (i + 1) j v h
        exact ⟨by omega, e', by rw [show j - i = j - (i + 1) + 1 by omega]; simpa using g2, g3⟩

theorem EsRel.get {es es' : List MapEntry} (h : EsRel J es es') {i : Nat} {e : MapEntry} (he : es[i]? = some e) : ∃ e', es'[i]? = some e' ∧ VRel J e.key e'.key ∧ e'.born = e.born ∧ VRel J e.val e'.val := by
  have hi := (List.getElem?_eq_some_iff.1 he).1
  have hi' : i < es'.length := h.1 ▸ hi
  exact ⟨es'[i], by simp [hi'], h.2 i e _ he (by simp [hi'])⟩

theorem EsRel.set {es es' : List MapEntry} (h : EsRel J es es') {i : Nat} {f f' : MapEntry → MapEntry} {e e' : MapEntry} (he : es[i]? = some e) (he' : es'[i]? = some e')
    (hf : VRel J (f e).key (f' e').key ∧ (f' e').born = (f e).born ∧ VRel J (f e).val (f' e').val) : EsRel J (setEntry es i f) (es'.modify i f') := by
  unfold setEntry
  rw [he]
  simp only
  refine ⟨by simp [h.1], fun j x y hx hy => ?_⟩
  rw [List.getElem?_set] at hx
  rw [List.getElem?_modify] at hy
  by_cases e1 : i = j
  · subst e1
    have hi := (List.getElem?_eq_some_iff.1 he).1
    simp [hi] at hx
    simp [he'] at hy
    subst hx; subst hy
    exact hf
  · simp [e1] at hx hy
    exact h.2 j x y hx hy

theorem EsRel.push {es es' : List MapEntry} (h : EsRel J es es') {e e' : MapEntry} (hf : VRel J e.key e'.key ∧ e'.born = e.born ∧ VRel J e.val e'.val) : EsRel J (es ++ [e]) (es' ++ [e']) := by
  refine ⟨by simp [h.1], fun j x y hx hy => ?_⟩
  by_cases hj : j < es.length
  · rw [List.getElem?_append_left hj] at hx
    rw [List.getElem?_append_left (by rw [← h.1]; exact hj)] at hy
    exact h.2 j x y hx hy
  · rw [List.getElem?_append_right (by omega)] at hx
    rw [List.getElem?_append_right (by rw [← h.1]; omega), ← h.1] at hy
    have h0 : j - es.length = 0 := by have := (List.getElem?_eq_some_iff.1 hx).1; simp at this; omega
    rw [h0] at hx hy
    simp at hx hy
    subst hx; subst hy
    exact hf

theorem EsRel.erase {es es' : List MapEntry} (h : EsRel J es es') (i : Nat) : EsRel J (es.eraseIdx i) (es'.eraseIdx i) := by
  refine ⟨by simp [List.length_eraseIdx, h.1], fun j x y hx hy => ?_⟩
  rw [List.getElem?_eraseIdx] at hx hy
  split at hx <;> rename_i hc
  · rw [if_pos hc] at hy; exact h.2 _ x y hx hy
  · rw [if_neg hc] at hy; exact h.2 _ x y hx hy

theorem VRel.map_inv {l : Nat} {v' : Value} (r : VRel J (.map (some l)) v') : v' = .map (some (J.blk l)) := by
  cases r with
  | clo _ h => simp [closedV] at h
  | map l h => rfl

theorem run_getMap {r : Nat} {es : Array MapEntry} {c : Nat} (h : w.heap[r]? = some (.map es c)) : (getObj r).run P w = .ok (.map es c) w := by
  simp [getObj, Sem.run, h]

theorem run_setMap {r : Nat} {es es2 : Array MapEntry} {c c2 : Nat} (h : w.heap[r]? = some (.map es c)) : (setObj r (.map es2 c2)).run P w = .ok () { w with heap := w.heap.setIfInBounds r (.map es2 c2) } := by
  simp [setObj, Sem.run, h]

section
variable {o : Oper} {a : Act} {v : Value} {ρ : Operand → Value}

theorem y_len_map (h : MRel P J m B W w) {x : Operand} {t k e : TypeId} (ho : o.op = .call { callee := .builtin .len, args := #[x], argTypes := #[t] }) {l : Nat} {s : SMap} (hx : VRel J (.map (some l)) (a.eval x)) (ht : P.underlying t = some (.map k e)) (hs : m.maps.get l = some s) :
    Yields P J m B W o a w (.int .i64 s.entries.length) := by
  obtain ⟨_, _, es', q3, q4⟩ := h.mp l s hs
  have hx' := hx.map_inv
  refine yields_same h (.clo _ rfl) (v' := .int .i64 s.entries.length) ?_
  have hl : es'.size = s.entries.length := by have := q4.1; simpa using this.symm
  simp [execOp, ho, resolve, invoke, builtin, Builtin.len_, run_underlying ht, hx', run_getMap q3, goInt, hl]

theorem y_len_nilmap (h : MRel P J m B W w) {x : Operand} {t k e : TypeId} (ho : o.op = .call { callee := .builtin .len, args := #[x], argTypes := #[t] }) (hx : VRel J (.map none) (a.eval x)) (ht : P.underlying t = some (.map k e)) :
    Yields P J m B W o a w (.int .i64 0) := by
  have hx' := hx.closed_eq rfl
  refine yields_same h (.clo _ rfl) (v' := .int .i64 0) ?_
  simp [execOp, ho, resolve, invoke, builtin, Builtin.len_, run_underlying ht, hx', goInt]

theorem y_makeMap (h : MRel P J m B W w) {t k e : TypeId} {r : Option Operand} (ho : o.op = .makeMap t r) (ht : P.underlying t = some (.map k e)) (hr : r = none ∨ ∃ x q n, r = some x ∧ VRel J (.int q n) (a.eval x)) :
    Yields P J m.newMap B W o a w (.map (some m.next)) := by
  refine ⟨_, .value (.map (some w.heap.size)), _, _, J.le_snoc _ _ _ _, ?_, .inl rfl, ?_, h.newMap⟩
  · rcases hr with rfl | ⟨x, q, n, rfl, hx⟩
    · simp [execOp, ho, Instr.makeMap]
    · have hx' := hx.closed_eq rfl
      simp [execOp, ho, Instr.makeMap, run_underlying ht, hx', asInt, asIntOf]
  · have := VRel.map (J := J.snoc w.heap.size 0 0 0) m.next (by simp [Inj.snoc, h.n])
    simpa [Inj.snoc, h.n] using this

/-- the entries that a map value has -/
theorem entries_rel (h : MRel P J m B W w) {x x' : Value} {es : List MapEntry} (hx : VRel J x x') (he : entriesOf m x = some es) :
    (x' = .map none ∧ es = []) ∨ ∃ r es' c, x' = .map (some r) ∧ w.heap[r]? = some (.map es' c) ∧ EsRel J es es'.toList := by
  unfold entriesOf at he
  split at he
  · simp only [Option.some.injEq] at he
    subst he
    exact Or.inl ⟨hx.closed_eq rfl, rfl⟩
  · rename_i l
    simp only [Option.map_eq_some_iff] at he
    obtain ⟨s, hs, rfl⟩ := he
    obtain ⟨_, _, es', q3, q4⟩ := h.mp l s hs
    exact Or.inr ⟨_, es', s.clock, hx.map_inv, q3, q4⟩
  · cases he

theorem isEmpty_rel {es : List MapEntry} {es' : Array MapEntry} (h : EsRel J es es'.toList) : es'.isEmpty = es.isEmpty := by
  have := h.1
  cases es with
  | nil =>
    have h0 : es' = #[] := Array.eq_empty_of_size_eq_zero (by simpa using this.symm)
    rw [h0]; rfl
  | cons e r =>
    have hne : es'.size ≠ 0 := by simp at this; omega
    simp only [List.isEmpty_cons]
    rw [Array.isEmpty_eq_false_iff_exists_mem]
    exact ⟨es'[0]'(by omega), by simp⟩

theorem y_lookup (h : MRel P J m B W w) {t kt e : TypeId} {x y : Operand} {ok : Bool} (ho : o.op = .lookup t x y ok) (ht : P.underlying t = some (.map kt e)) {xv k : Value} {es : List MapEntry} (hx : VRel J xv (a.eval x)) (hk : VRel J k (a.eval y)) (hes : entriesOf m xv = some es)
    {r : Option (Nat × Value)} (hf : sfind P es.isEmpty kt k es = some r)
    (hv : (∃ i u, r = some (i, u) ∧ v = if ok then .tuple #[u, .bool true] else u) ∨ (r = none ∧ ∃ i z, P.info? e = some i ∧ i.zero = some z ∧ closedV z = true ∧ v = if ok then .tuple #[z, .bool false] else z)) : Yields P J m B W o a w v := by
  have hfin : ∃ v', VRel J v v' ∧ (Instr.lookup t (a.eval x) (a.eval y) ok).run P w = .ok v' w := by
    have hE : ∃ es' : Array MapEntry, EsRel J es es'.toList ∧ ((a.eval x = .map none ∧ es' = #[]) ∨ ∃ rr c, a.eval x = .map (some rr) ∧ w.heap[rr]? = some (.map es' c)) := by
      rcases entries_rel h hx hes with ⟨e1, rfl⟩ | ⟨rr, es', c, e1, e2, e3⟩
      · exact ⟨#[], ⟨rfl, fun i x y h => by simp at h⟩, Or.inl ⟨e1, rfl⟩⟩
      · exact ⟨es', e3, Or.inr ⟨rr, c, e1, e2⟩⟩
    obtain ⟨es', hr, hE⟩ := hE
    obtain ⟨f1, f2, f3, r', f4, f5⟩ := sfind_inv hf hr
    have hk' := hk.closed_eq f1
    have hem := isEmpty_rel hr
    rcases hv with ⟨i, u, rfl, rfl⟩ | ⟨rfl, i, z, g1, g2, g3, rfl⟩
    · cases r' with
      | none => exact f4.elim
      | some p =>
        obtain ⟨j, u'⟩ := p
        obtain ⟨rfl, hu⟩ := f4
        refine ⟨if ok then .tuple #[u', .bool true] else u', ?_, ?_⟩
        · cases ok
          · exact hu
          · refine .tuple _ _ rfl fun q p1 p2 e1 e2 => ?_
            match q, e1, e2 with
            | 0, e1, e2 => simp at e1 e2; subst e1; subst e2; exact hu
            | 1, e1, e2 => simp at e1 e2; subst e1; subst e2; exact .clo _ rfl
            | q + 2, e1, e2 => simp at e1
        · unfold Instr.lookup
          rcases hE with ⟨e1, rfl⟩ | ⟨rr, c, e1, e2⟩
          · have hem' : es.isEmpty = true := by rw [← hem]; rfl
            rw [hem'] at f3
            simp at f5
            simp [run_underlying ht, e1, hk', f3, f5]
          · simp [run_underlying ht, e1, run_getMap e2, hk', hem, f3, f5]
    · cases r' with
      | some p => exact f4.elim
      | none =>
        refine ⟨if ok then .tuple #[z, .bool false] else z, ?_, ?_⟩
        · cases ok
          · exact .clo _ g3
          · exact .clo _ (by simp [closedV, closedA, closedL, g3])
        · unfold Instr.lookup
          rcases hE with ⟨e1, rfl⟩ | ⟨rr, c, e1, e2⟩
          · have hem' : es.isEmpty = true := by rw [← hem]; rfl
            rw [hem'] at f3
            simp at f5
            simp [run_underlying ht, e1, hk', f3, f5, zeroValue, typeInfo, g1, g2]
          · simp [run_underlying ht, e1, run_getMap e2, hk', hem, f3, f5, zeroValue, typeInfo, g1, g2]
  obtain ⟨v', q1, q2⟩ := hfin
  refine yields_same h q1 ?_
  simp [execOp, ho, q2]
end
end Go.Sh

/- One operation: maps that turn; interface values. -/
namespace Go.Sh
open Go.RowKit
set_option linter.unusedVariables false
set_option linter.unusedSimpArgs false

variable {P : Program} {J : Inj} {m m' : Mem} {B : Frame} {W w w' : World}
section
variable {o : Oper} {a : Act} {v : Value} {ρ : Operand → Value}

theorem run_keyStays {old new : Value} (h : Instr.sameBits 10000 old new = true) : (Instr.keyThatStays old new).run P w = .ok new w := by
  unfold Instr.keyThatStays
  simp [h]

theorem mapUpdate_run (h : MRel P J m B W w) {t kt e : TypeId} {l : Nat} {s s' : SMap} {k k' x x' : Value} (ht : P.underlying t = some (.map kt e)) (hs : m.maps.get l = some s) (hk : VRel J k k') (hx : VRel J x x') (hp : sput P kt k x s = some s') :
    ∃ w', (Instr.mapUpdate t (.map (some (J.blk l))) k' x').run P w = .ok () w' ∧ MRel P J (m.setMap l s') B W w' := by
  obtain ⟨_, _, es', q3, q4⟩ := h.mp l s hs
  unfold sput at hp
  split at hp
  · rename_i i u hf
    obtain ⟨f1, f2, f3, r', f4, f5⟩ := sfind_inv hf q4
    have hk' := hk.closed_eq f1
    split at hp
    · rename_i en hen
      split at hp
      · rename_i hsb
        simp only [Option.some.injEq] at hp
        subst hp
        cases r' with
        | none => exact f4.elim
        | some p =>
          obtain ⟨j, u'⟩ := p
          obtain ⟨rfl, hu⟩ := f4
          obtain ⟨en', g1, g2, g3, g4⟩ := q4.get hen
          have hkey : en'.key = en.key := g2.closed_eq (f2 en (List.mem_of_getElem? hen))
          have hm := h.setMap (s := ⟨setEntry s.entries i fun e => { e with key := k, val := x }, s.clock⟩) hs (es' := es'.modify i fun e => { e with key := k, val := x' }) (by
            rw [Array.toList_modify]
            exact q4.set hen g1 ⟨.clo _ f1, g3, hx⟩)
          refine ⟨_, ?_, hm⟩
          have g1' : es'[i]? = some en' := by simpa using g1
          unfold Instr.mapUpdate
          simp [run_underlying ht, run_getMap q3, hk', f3, f5, g1', hkey, run_keyStays hsb, run_setMap q3]
      · cases hp
    · cases hp
  · rename_i hf
    obtain ⟨f1, f2, f3, r', f4, f5⟩ := sfind_inv hf q4
    have hk' := hk.closed_eq f1
    simp only [Option.some.injEq] at hp
    subst hp
    cases r' with
    | some p => exact f4.elim
    | none =>
      have hm := h.setMap (s := ⟨s.entries ++ [{ key := k, val := x, born := s.clock }], s.clock + 1⟩) hs (es' := es'.push { key := k, val := x', born := s.clock }) (by
        rw [Array.toList_push]
        exact q4.push ⟨.clo _ f1, rfl, hx⟩)
      refine ⟨_, ?_, hm⟩
      unfold Instr.mapUpdate
      simp [run_underlying ht, run_getMap q3, hk', f3, f5, run_setMap q3]
  · cases hp

theorem y_mapUpdate (h : MRel P J m B W w) {t kt e : TypeId} {x k y : Operand} (ho : o.op = .mapUpdate t x k y ∨ o.op = .insert t x k y) (ht : P.underlying t = some (.map kt e)) {l : Nat} {s s' : SMap} {kv xv : Value} (hx : VRel J (.map (some l)) (a.eval x)) (hk : VRel J kv (a.eval k)) (hy : VRel J xv (a.eval y))
    (hs : m.maps.get l = some s) (hp : sput P kt kv xv s = some s') : Yields P J (m.setMap l s') B W o a w undef := by
  obtain ⟨w', g1, g2⟩ := mapUpdate_run h ht hs hk hy hp
  refine ⟨J, .skip, undef, w', .rfl J, ?_, .inr ⟨rfl, rfl⟩, .undef J, g2⟩
  have hx' := hx.map_inv
  rcases ho with ho | ho <;> simp [execOp, ho, hx', g1]

theorem y_mapEntry (h : MRel P J m B W w) {t kt e : TypeId} {x k : Operand} (ho : o.op = .mapEntry t x k) (ht : P.underlying t = some (.map kt e)) {l b : Nat} {s s' : SMap} {kv z u : Value} {i : TypeInfo} (hx : VRel J (.map (some l)) (a.eval x)) (hk : VRel J kv (a.eval k))
    (hs : m.maps.get l = some s) (hi : P.info? e = some i) (hz : i.zero = some z) (hcz : closedV z = true) (hp : sentry P kt kv s z = some (s', u, b)) : Yields P J (m.setMap l s') B W o a w (.tuple #[u, .int .i64 b]) := by
  obtain ⟨_, _, es', q3, q4⟩ := h.mp l s hs
  have hx' := hx.map_inv
  have two : ∀ u u' : Value, VRel J u u' → VRel J (.tuple #[u, .int .i64 b]) (.tuple #[u', .int .i64 b]) := by
    intro u u' hu
    refine .tuple _ _ rfl fun q p1 p2 e1 e2 => ?_
    match q, e1, e2 with
    | 0, e1, e2 => simp at e1 e2; subst e1; subst e2; exact hu
    | 1, e1, e2 => simp at e1 e2; subst e1; subst e2; exact .clo _ rfl
    | q + 2, e1, e2 => simp at e1
  unfold sentry at hp
  split at hp
  · rename_i j u0 hf
    obtain ⟨f1, f2, f3, r', f4, f5⟩ := sfind_inv hf q4
    have hk' := hk.closed_eq f1
    split at hp
    · rename_i en hen
      split at hp
      · rename_i hsb
        simp only [Option.some.injEq, Prod.mk.injEq] at hp
        obtain ⟨rfl, rfl, rfl⟩ := hp
        cases r' with
        | none => exact f4.elim
        | some p =>
          obtain ⟨j2, u'⟩ := p
          obtain ⟨rfl, hu⟩ := f4
          obtain ⟨en', g1, g2, g3, g4⟩ := q4.get hen
          have hkey : en'.key = en.key := g2.closed_eq (f2 en (List.mem_of_getElem? hen))
          have hm := h.setMap (s := ⟨setEntry s.entries j fun e => { e with key := kv }, s.clock⟩) hs (es' := es'.modify j fun e => { e with key := kv }) (by
            rw [Array.toList_modify]
            exact q4.set hen g1 ⟨.clo _ f1, g3, g4⟩)
          have g1' : es'[j]? = some en' := by simpa using g1
          refine ⟨J, .value (.tuple #[u', .int .i64 en'.born]), _, _, .rfl J, ?_, .inl rfl, by rw [g3]; exact two _ _ hu, hm⟩
          unfold execOp Instr.mapEntry
          simp [ho, run_underlying ht, hx', run_getMap q3, hk', f3, f5, g1', hkey, run_keyStays hsb, run_setMap q3, goInt]
      · cases hp
    · cases hp
  · rename_i hf
    obtain ⟨f1, f2, f3, r', f4, f5⟩ := sfind_inv hf q4
    have hk' := hk.closed_eq f1
    simp only [Option.some.injEq, Prod.mk.injEq] at hp
    obtain ⟨rfl, rfl, rfl⟩ := hp
    cases r' with
    | some p => exact f4.elim
    | none =>
      have hm := h.setMap (s := ⟨s.entries ++ [{ key := kv, val := z, born := s.clock }], s.clock + 1⟩) hs (es' := es'.push { key := kv, val := z, born := s.clock }) (by
        rw [Array.toList_push]
        exact q4.push ⟨.clo _ f1, rfl, .clo _ hcz⟩)
      refine ⟨J, .value (.tuple #[z, .int .i64 s.clock]), _, _, .rfl J, ?_, .inl rfl, two _ _ (.clo _ hcz), hm⟩
      unfold execOp Instr.mapEntry
      simp [ho, run_underlying ht, hx', run_getMap q3, hk', f3, f5, zeroValue, typeInfo, hi, hz, run_setMap q3, goInt]
  · cases hp

theorem findIdx_rel {es : List MapEntry} {es' : Array MapEntry} (h : EsRel J es es'.toList) (st : Nat) {i : Nat} (hi : es.findIdx? (fun e => e.born == st) = some i) : es'.findIdx? (fun e => (e.born : Int) == (st : Int)) = some i := by
  have hb : es'.toList.map (·.born) = es.map (·.born) := by
    apply List.ext_getElem?
    intro j
    simp only [List.getElem?_map]
    by_cases hj : j < es.length
    · obtain ⟨e', g1, _, g3, _⟩ := h.get (List.getElem?_eq_getElem hj)
      rw [g1, List.getElem?_eq_getElem hj]
      simp [g3]
    · rw [List.getElem?_eq_none (by rw [← h.1]; omega), List.getElem?_eq_none (by omega)]
  have key : ∀ (l : List MapEntry), l.findIdx? (fun e => (e.born : Int) == (st : Int)) = (l.map (·.born)).findIdx? (fun b => b == st) := by
    intro l
    rw [List.findIdx?_map]
    congr 1
    funext e
    simp only [Function.comp]
    rw [Bool.eq_iff_iff]
    simp only [beq_iff_eq]
    omega
  have key2 : ∀ (l : List MapEntry), l.findIdx? (fun e => e.born == st) = (l.map (·.born)).findIdx? (fun b => b == st) := by
    intro l
    rw [List.findIdx?_map]
    rfl
  rw [key2, ← hb, ← key] at hi
  obtain ⟨l⟩ := es'
  simpa using hi

theorem y_entryStore (h : MRel P J m B W w) {t : TypeId} {x b y : Operand} (ho : o.op = .entryStore t x b y) {l st i : Nat} {s : SMap} {bv xv : Value} (hx : VRel J (.map (some l)) (a.eval x)) (hb : VRel J bv (a.eval b)) (hst : natOf bv = some st) (hy : VRel J xv (a.eval y))
    (hs : m.maps.get l = some s) (hi : s.entries.findIdx? (fun e => e.born == st) = some i) : Yields P J (m.setMap l ⟨setEntry s.entries i fun e => { e with val := xv }, s.clock⟩) B W o a w undef := by
  obtain ⟨_, _, es', q3, q4⟩ := h.mp l s hs
  have hx' := hx.map_inv
  obtain ⟨kk, hb', _⟩ := hb.nat_inv hst
  have hfi := findIdx_rel q4 st hi
  have hil : i < s.entries.length := by
    rw [List.findIdx?_eq_some_iff_getElem] at hi
    exact hi.1
  obtain ⟨en', g1, g2, g3, g4⟩ := q4.get (List.getElem?_eq_getElem hil)
  have hm := h.setMap (s := ⟨setEntry s.entries i fun e => { e with val := xv }, s.clock⟩) hs (es' := es'.modify i fun e => { e with val := a.eval y }) (by
    rw [Array.toList_modify]
    exact q4.set (List.getElem?_eq_getElem hil) g1 ⟨g2, g3, hy⟩)
  refine ⟨J, .skip, undef, _, .rfl J, ?_, .inr ⟨rfl, rfl⟩, .undef J, hm⟩
  simp [execOp, ho, Instr.entryStore, hx', run_getMap q3, hb', asInt, asIntOf, hfi, run_setMap q3]

theorem y_delete (h : MRel P J m B W w) {t kt e : TypeId} {x k : Operand} {rest : List TypeId} {tys : Array TypeId} (htys : tys.toList = t :: rest) (ho : o.op = .call { callee := .builtin .delete, args := #[x, k], argTypes := tys }) (ht : P.underlying t = some (.map kt e)) {l : Nat} {s : SMap} {kv : Value} (hx : VRel J (.map (some l)) (a.eval x)) (hk : VRel J kv (a.eval k))
    (hs : m.maps.get l = some s) {r : Option (Nat × Value)} (hf : sfind P s.entries.isEmpty kt kv s.entries = some r) (hm' : (∃ i u, r = some (i, u) ∧ m' = m.setMap l ⟨s.entries.eraseIdx i, s.clock⟩) ∨ (r = none ∧ m' = m.setMap l s)) : Yields P J m' B W o a w (.tuple #[]) := by
  obtain ⟨_, _, es', q3, q4⟩ := h.mp l s hs
  have hx' := hx.map_inv
  obtain ⟨f1, f2, f3, r', f4, f5⟩ := sfind_inv hf q4
  have hk' := hk.closed_eq f1
  have hem := isEmpty_rel q4
  have h0 : tys[0]? = some t := by
    have : tys.toList[0]? = some t := by rw [htys]; rfl
    simpa using this
  rcases hm' with ⟨i, u, rfl, rfl⟩ | ⟨rfl, rfl⟩
  · cases r' with
    | none => exact f4.elim
    | some p =>
      obtain ⟨j, u'⟩ := p
      obtain ⟨rfl, hu⟩ := f4
      have hm := h.setMap (s := ⟨s.entries.eraseIdx i, s.clock⟩) hs (es' := es'.eraseIdxIfInBounds i) (by
        rw [Array.toList_eraseIdxIfInBounds]
        exact q4.erase i)
      refine ⟨J, .value (.tuple #[]), _, _, .rfl J, ?_, .inl rfl, .clo _ rfl, hm⟩
      simp [execOp, ho, resolve, invoke, builtin, Builtin.delete_, h0, run_underlying ht, hx', run_getMap q3, hk', hem, f3, f5, run_setMap q3]
  · cases r' with
    | some p => exact f4.elim
    | none =>
      have hm := h.setMap (s := s) hs (es' := es') q4
      refine ⟨J, .value (.tuple #[]), _, _, .rfl J, ?_, .inl rfl, .clo _ rfl, hm⟩
      simp [execOp, ho, resolve, invoke, builtin, Builtin.delete_, h0, run_underlying ht, hx', run_getMap q3, hk', hem, f3, f5, run_setMap q3]

theorem y_makeInterface (h : MRel P J m B W w) {t : TypeId} {x : Operand} (ho : o.op = .makeInterface t x) {d : TypeDesc} (ht : P.underlying t = some d) (hni : ∀ ms, d ≠ .interface ms) {u : Value} (hx : VRel J u (a.eval x)) : Yields P J m B W o a w (.iface t u) := by
  refine yields_same h (.iface t _ _ hx) ?_
  unfold execOp Instr.makeInterface
  simp only [ho, Sem.run_bind, run_underlying ht, Result.andThen_ok]
  cases d <;> first
    | exact absurd rfl (hni _)
    | simp

theorem y_typeAssert (h : MRel P J m B W w) {x : Operand} {xt t : TypeId} {ok : Bool} (ho : o.op = .typeAssert x xt t ok) {d : TypeDesc} (ht : P.underlying t = some d) (hni : ∀ ms, d ≠ .interface ms) {u : Value} (hx : VRel J (.iface t u) (a.eval x)) :
    Yields P J m B W o a w (if ok then .tuple #[u, .bool true] else u) := by
  obtain ⟨u', e1, hu⟩ := hx.iface_inv
  refine yields_same h (v' := if ok then .tuple #[u', .bool true] else u') ?_ ?_
  · cases ok
    · exact hu
    · refine .tuple _ _ rfl fun q p1 p2 e1 e2 => ?_
      match q, e1, e2 with
      | 0, e1, e2 => simp at e1 e2; subst e1; subst e2; exact hu
      | 1, e1, e2 => simp at e1 e2; subst e1; subst e2; exact .clo _ rfl
      | q + 2, e1, e2 => simp at e1
  · unfold execOp Instr.typeAssert
    simp only [ho, e1, Sem.run_bind, run_underlying ht, Result.andThen_ok]
    cases d <;> first
      | exact absurd rfl (hni _)
      | simp

theorem sload_run (h : MRel P J m B W w) {t : TypeId} {ad : Addr} {v : Value} (hl : sload P m t ad = some v) :
    ∃ v', VRel J v v' ∧ (loadVar t ⟨J.blk ad.block, J.base ad.block + ad.off, none⟩).run P w = .ok v' w := by
  unfold sload at hl
  split at hl
  · cases hl
  · rename_i d hd
    split at hl
    · rename_i hagg
      split at hl
      · rename_i z hz
        simp only [Option.map_eq_some_iff] at hl
        obtain ⟨cs, hl, rfl⟩ := hl
        obtain ⟨cs', hr, hrun⟩ := run_loadVar_agg h hd hagg hz hl
        exact ⟨_, .agg_of hr, hrun⟩
      · cases hl
    · rename_i hagg
      split at hl
      · rename_i u hl
        simp only [Option.some.injEq] at hl
        subst hl
        exact run_loadVar_one h hd (by simpa using hagg) hl
      · cases hl

theorem wrapChk {ts : Array TypeId} {t : TypeId} {a : Addr} {x y : ByteArray} : Builtin.ssaWrapNilChk_ ts t #[.pointer (some a), .string x, .string y] = pure (.pointer (some a)) := rfl

theorem smethod_run (h : MRel P J m B W w) {t : TypeId} {u u' recv : Value} {name : String} {f : FuncId} (hm : smethod P m t u name = some (f, recv)) (hu : VRel J u u') (n : Nat) :
    ∃ recv', VRel J recv recv' ∧ (method (n + 1) t u' name).run P w = .ok (f, recv') w := by
  unfold smethod at hm
  split at hm
  · rename_i i hi
    split at hm
    · rename_i mt hmt
      split at hm
      · rename_i hp
        have hpl : mt.path.toList = [] := by simpa using hp
        have hpe : mt.path = #[] := by simpa using hp
        split at hm
        · rename_i f0 e hfn hun
          simp only [Option.some.injEq, Prod.mk.injEq] at hm
          obtain ⟨rfl, rfl⟩ := hm
          refine ⟨u', hu, ?_⟩
          simp [method, typeInfo, hi, hmt, hpl, follow, hfn, receiverAt, run_underlying hun, Place.get]
        · rename_i f0 e hfn hun
          unfold sderef at hm
          split at hm
          · rename_i ad
            simp only [Option.map_eq_some_iff, Prod.mk.injEq] at hm
            obtain ⟨r, hr, rfl, rfl⟩ := hm
            obtain ⟨h1, h2, h3⟩ := hu.ptr_inv
            subst h3
            obtain ⟨v', q1, q2⟩ := sload_run h hr
            refine ⟨v', q1, ?_⟩
            simp [method, typeInfo, hi, hmt, hpl, hpe, follow, hfn, receiverAt, run_underlying hun, Place.get, strVal, wrapChk, asAddr, q2]
          · cases hm
        · cases hm
        · rename_i f0 d hnp hfn hun
          simp only [Option.some.injEq, Prod.mk.injEq] at hm
          obtain ⟨rfl, rfl⟩ := hm
          refine ⟨u', hu, ?_⟩
          have hd : ∀ e, d ≠ .pointer e := fun e he => hnp e he
          unfold method
          simp only [typeInfo, Sem.run_bind, run_program, Result.andThen_ok, hi, Sem.run_pure, hmt, hpl, follow, hfn, receiverAt, run_underlying hun]
          cases d <;> first
            | exact absurd rfl (hd _)
            | simp [Place.get]
        · cases hm
      · cases hm
    · cases hm
  · cases hm
end
end Go.Sh

/- One operation: the theorem. -/
namespace Go.Sh
open Go.RowKit
set_option linter.unusedVariables false
set_option linter.unusedSimpArgs false

variable {P : Program} {J : Inj} {m m' : Mem} {B : Frame} {W w w' : World}

/-- What is asked of the calls: a call of Go code, or of a function that the model itself stands in for. -/
def HSound (P : Program) (B : Frame) (W : World) (H : CallH) : Prop :=
  ∀ f args m v m', H f args m = some (v, m') →
    ((∃ fn, P.funcs[f]? = some fn ∧ fn.body.isSome = true ∧ (fn.name == "runtime.NumGoroutine") = false) ∧
      ∀ (J : Inj) (args' : List Value) (w : World), LRel J args args' → MRel P J m B W w →
        Calls P f args'.toArray w fun e w' => ∃ J' v', J.le J' ∧ e = .returned v' ∧ VRel J' v v' ∧ MRel P J' m' B W w') ∨
    (m' = m ∧ ∀ (J : Inj) (args' : List Value), LRel J args args' → ∃ v', VRel J v v' ∧ ∀ w, (callFunc f args'.toArray).run P w = .ok (.value v') w)

theorem LRel.closed_eq {J : Inj} {xs ys : List Value} (h : LRel J xs ys) (hc : ∀ x ∈ xs, closedV x = true) : ys = xs := by
  apply List.ext_getElem? 
  intro i
  by_cases hi : i < xs.length
  · obtain ⟨y, hy, hxy⟩ := h.get (List.getElem?_eq_getElem hi)
    rw [hy, List.getElem?_eq_getElem hi, hxy.closed_eq (hc _ (List.getElem_mem hi))]
  · rw [List.getElem?_eq_none (by rw [← h.1]; omega), List.getElem?_eq_none (by omega)]

section
variable {o : Oper} {a : Act} {v : Value} {ρ : Operand → Value} {H : CallH}

theorem Yields.wp {next : Act → World → Prop} {Q : Exit → Act → World → Prop} (hy : Yields P J m' B W o a w v)
    (hn : ∀ J' v' w', J.le J' → VRel J' v v' → MRel P J' m' B W w' → next (a.put o.dst v') w') : o.wp P a w next Q := by
  obtain ⟨J', n, v', w', h1, h2, h3, h4, h5⟩ := hy
  unfold Oper.wp
  rw [h2]
  rcases h3 with rfl | ⟨rfl, rfl⟩
  · exact hn J' v' w' h1 h4 h5
  · exact hn J' _ w' h1 h4 h5

theorem lrel_map (l : List Operand) (hρ : ∀ x ∈ l, VRel J (ρ x) (a.eval x)) : LRel J (l.map ρ) (l.map a.eval) := by
  induction l with
  | nil => exact LRel.nil
  | cons x r ih => exact .cons (hρ x (by simp)) (ih fun y hy => hρ y (by simp [hy]))

theorem VRel.func_inv {f : FuncId} {x y : Array Value} {v' : Value} (r : VRel J (.func (.func f) x y) v') : ∃ x' y', v' = .func (.func f) x' y' ∧ LRel J x.toList x'.toList ∧ LRel J y.toList y'.toList := by
  cases r with
  | clo _ h =>
    simp only [closedV, Bool.and_eq_true] at h
    exact ⟨x, y, rfl, closedA_list h.1.2, closedA_list h.2⟩
  | func f a b a' b' h1 h2 h3 h4 =>
    exact ⟨a', b', rfl, ⟨by simpa using h1, fun i x y hx hy => h2 i x y (by simpa using hx) (by simpa using hy)⟩, ⟨by simpa using h3, fun i x y hx hy => h4 i x y (by simpa using hx) (by simpa using hy)⟩⟩

/-- a call, its function and arguments reckoned -/
theorem enter_wp {next : Act → World → Prop} {Q : Exit → Act → World → Prop} (hH : HSound P B W H) (h : MRel P J m B W w) {fid : FuncId} {args args' : List Value} (hl : LRel J args args') (he : H fid args m = some (v, m'))
    (hrun : (execOp a.eval o).run P w = (callFunc fid args'.toArray).run P w)
    (hn : ∀ J' v' w', J.le J' → VRel J' v v' → MRel P J' m' B W w' → next (a.put o.dst v') w') : o.wp P a w next Q := by
  rcases hH _ _ _ _ _ he with ⟨⟨fn, q1, q2, q3⟩, hc⟩ | ⟨rfl, hx⟩
  · have hcall := hc J _ w hl h
    have hb : fn.body ≠ none := by intro hb; simp [hb] at q2
    have q3' : ¬ (fn.name = "runtime.NumGoroutine") := by simpa using q3
    have hrun2 : (execOp a.eval o).run P w = .ok (.enter fid args'.toArray) w := by
      rw [hrun]
      simp [callFunc, q1, q3', hb]
    unfold Oper.wp
    rw [hrun2, Oper.upon_enter]
    refine hcall.mono ?_
    rintro e w' ⟨J', v', g1, rfl, g2, g3⟩
    exact hn J' v' w' g1 g2 g3
  · obtain ⟨v', hv', hx⟩ := hx J _ hl
    unfold Oper.wp
    rw [hrun, hx w, Oper.upon_value]
    exact hn J v' w (.rfl J) hv' h

theorem call_wp {next : Act → World → Prop} {Q : Exit → Act → World → Prop} (hH : HSound P B W H) (h : MRel P J m B W w) {f : Operand} {args : Array Operand} {tys : Array TypeId} (ho : o.op = .call { callee := .value f, args := args, argTypes := tys }) {fid : FuncId} {first captured : Array Value}
    (hf : VRel J (.func (.func fid) first captured) (a.eval f)) (hargs : ∀ x ∈ args, VRel J (ρ x) (a.eval x)) (he : H fid (first.toList ++ args.toList.map ρ ++ captured.toList) m = some (v, m'))
    (hn : ∀ J' v' w', J.le J' → VRel J' v v' → MRel P J' m' B W w' → next (a.put o.dst v') w') : o.wp P a w next Q := by
  obtain ⟨x', y', e1, l1, l2⟩ := hf.func_inv
  have hl : LRel J (first.toList ++ args.toList.map ρ ++ captured.toList) (x'.toList ++ args.toList.map a.eval ++ y'.toList) :=
    (l1.append (lrel_map _ fun z hz => hargs z (by simpa using hz))).append l2
  have harr : (x'.toList ++ args.toList.map a.eval ++ y'.toList).toArray = x' ++ args.map a.eval ++ y' := by
    apply Array.ext'; simp
  refine enter_wp hH h hl he ?_ hn
  rw [harr]
  simp [execOp, ho, resolve, Deferred.ofValue, e1, invoke]

theorem invoke_wp {next : Act → World → Prop} {Q : Exit → Act → World → Prop} (hH : HSound P B W H) (h : MRel P J m B W w) {r : Operand} {name : String} {args : Array Operand} {tys : Array TypeId} (ho : o.op = .call { callee := .invoke r name, args := args, argTypes := tys }) {t : TypeId} {u recv : Value} {f : FuncId}
    (hr : VRel J (.iface t u) (a.eval r)) (hargs : ∀ x ∈ args, VRel J (ρ x) (a.eval x)) (hm : smethod P m t u name = some (f, recv)) (he : H f (recv :: args.toList.map ρ) m = some (v, m'))
    (hn : ∀ J' v' w', J.le J' → VRel J' v v' → MRel P J' m' B W w' → next (a.put o.dst v') w') : o.wp P a w next Q := by
  obtain ⟨u', e1, hu⟩ := hr.iface_inv
  obtain ⟨recv', g1, g2⟩ := smethod_run h hm hu (P.types.size + Made.depth - 1)
  have hpos : P.types.size + Made.depth - 1 + 1 = P.types.size + Made.depth := by
    have : 0 < Made.depth := by decide
    omega
  rw [hpos] at g2
  have hl : LRel J (recv :: args.toList.map ρ) (recv' :: args.toList.map a.eval) := .cons g1 (lrel_map _ fun z hz => hargs z (by simpa using hz))
  refine enter_wp hH h hl he ?_ hn
  have harr : (recv' :: args.toList.map a.eval).toArray = #[recv'] ++ args.map a.eval := by
    apply Array.ext'; simp
  rw [harr]
  have hex : (#[Value.iface t u'] ++ args.map a.eval).extract 1 (#[Value.iface t u'] ++ args.map a.eval).size = args.map a.eval := by
    apply Array.ext'; simp
    exact List.take_of_length_le (by simp)
  have h0 : (#[Value.iface t u'] ++ args.map a.eval)[0]? = some (Value.iface t u') := by
    rw [Array.getElem?_append_left (by simp)]; rfl
  simp only [execOp, ho, resolve, Sem.run_bind, Sem.run_pure, Result.andThen_ok, invoke, e1, h0]
  rw [hex]
  simp [callMethod, g2]

theorem y_fastBin (h : MRel P J m B W w) {op : BinOp} {t yt : TypeId} {x y : Operand} (ho : o.op = .binOp op t x y yt) {xv yv : Value} (hx : VRel J xv (a.eval x)) (hy : VRel J yv (a.eval y)) (hf : fastBin op xv yv = some v) : Yields P J m B W o a w v := by
  unfold fastBin at hf
  split at hf
  · rename_i k p j q
    have e1 := hx.closed_eq rfl
    have e2 := hy.closed_eq rfl
    cases op <;> simp only [reduceCtorEq] at hf <;> (repeat' split at hf) <;> first
      | (cases hf; done)
      | (rename_i hkj
         simp only [Option.some.injEq] at hf
         subst hf
         refine yields_same h (.clo _ rfl) ?_
         simp [execOp, ho, eqGuard, binOp, e1, e2, Op.intArith, Op.intCmp, Op.intDiv, Op.intBits, Op.shift, hkj]
         done)
      | (rename_i hkj hb
         simp only [Option.some.injEq] at hf
         subst hf
         refine yields_same h (.clo _ rfl) ?_
         simp [execOp, ho, eqGuard, binOp, e1, e2, Op.intDiv, hkj, hb]
         done)
  · rename_i p q
    have e1 := hx.closed_eq rfl
    have e2 := hy.closed_eq rfl
    cases op <;> simp at hf <;> (subst hf; refine yields_same h (.clo _ rfl) ?_; simp [execOp, ho, eqGuard, binOp, e1, e2, Op.stringOp])
  · cases hf

theorem y_fastUn (h : MRel P J m B W w) {op : UnOp} {t : TypeId} {x : Operand} (ho : o.op = .unOp op t x) {xv : Value} (hx : VRel J xv (a.eval x)) (hf : fastUn op xv = some v) : Yields P J m B W o a w v := by
  unfold fastUn at hf
  split at hf
  · rename_i b
    have e1 := hx.closed_eq rfl
    simp only [Option.some.injEq] at hf
    subst hf
    refine yields_same h (.clo _ rfl) ?_
    simp [execOp, ho, Op.unary, e1]
  · cases hf

theorem toArray_two {α : Type} {xs : Array α} {x y : α} (h : xs.toList = [x, y]) : xs = #[x, y] := by
  apply Array.ext'; simpa using h
theorem toArray_one {α : Type} {xs : Array α} {x : α} (h : xs.toList = [x]) : xs = #[x] := by
  apply Array.ext'; simpa using h

theorem y_eq_map (h : MRel P J m B W w) {op : BinOp} {t yt kt vt : TypeId} {x y : Operand} (ho : o.op = .binOp op t x y yt) (ht : P.underlying t = some (.map kt vt)) (hb : boolEq op false = some v)
    (hxy : (∃ l, VRel J (.map (some l)) (a.eval x) ∧ VRel J (.map none) (a.eval y)) ∨ (∃ l, VRel J (.map none) (a.eval x) ∧ VRel J (.map (some l)) (a.eval y))) : Yields P J m B W o a w v := by
  rcases hxy with ⟨l, g1, g2⟩ | ⟨l, g1, g2⟩
  · have e1 := g1.map_inv
    have e2 := g2.closed_eq rfl
    refine y_boolEq h ho hb ?_ ?_
    · rw [e1, e2]; unfold eqGuard; split <;> simp
    · intro op' hop
      rw [e1, e2]
      exact run_eql_of rfl rfl (by rw [equal_step, Op.equalIn]; simp [run_underlying ht]) op' hop
  · have e2 := g2.map_inv
    have e1 := g1.closed_eq rfl
    refine y_boolEq h ho hb ?_ ?_
    · rw [e1, e2]; unfold eqGuard; split <;> simp
    · intro op' hop
      rw [e1, e2]
      exact run_eql_of rfl rfl (by rw [equal_step, Op.equalIn]; simp [run_underlying ht]) op' hop

theorem isIntT_inv {t : TypeId} (h : isIntT P t = true) : ∃ k, P.underlying t = some (.int k) := by
  unfold isIntT at h
  split at h
  · exact ⟨_, by assumption⟩
  · cases h

theorem shape_ge {k i n : Nat} {e : TypeId} (hn : w.shape? k = some (e, n)) (hc : (w.cell? ⟨k, i, none⟩).isSome = true) : i < n := by
  unfold World.shape? at hn
  unfold World.cell? at hc
  cases hq : w.heap[k]? with
  | none => rw [hq] at hn; cases hn
  | some ob =>
    rw [hq] at hn hc
    cases ob with
    | cells cs t f =>
      simp only [Option.some.injEq, Prod.mk.injEq] at hn
      simp at hc
      omega
    | _ => cases hn

/-- two pointers into one block -/
theorem y_eq_same (h : MRel P J m B W w) {op : BinOp} {t yt e : TypeId} {x y : Operand} (ho : o.op = .binOp op t x y yt) (ht : P.underlying t = some (.pointer e)) {z : Nat} (hz : sizeOfT P e = some (z + 1)) {ad ac : Addr} (hbl : ad.block = ac.block) (hb : boolEq op (ad.off == ac.off) = some v)
    (hx : VRel J (.pointer (some ad)) (a.eval x)) (hy : VRel J (.pointer (some ac)) (a.eval y)) : Yields P J m B W o a w v := by
  obtain ⟨_, _, e1⟩ := hx.ptr_inv
  obtain ⟨_, _, e2⟩ := hy.ptr_inv
  rw [hbl] at e1
  refine y_boolEq h ho hb ?_ ?_
  · rw [e1, e2]; unfold eqGuard; split <;> simp
  · intro op' hop
    rw [e1, e2]
    refine run_eql_of rfl rfl ?_ op' hop
    have hd : ((⟨J.blk ac.block, J.base ac.block + ad.off, none⟩ : Addr) == ⟨J.blk ac.block, J.base ac.block + ac.off, none⟩) = (ad.off == ac.off) := by
      by_cases e : ad.off = ac.off
      · rw [e]; simp
      · have h1 : ¬ ((⟨J.blk ac.block, J.base ac.block + ad.off, none⟩ : Addr) = ⟨J.blk ac.block, J.base ac.block + ac.off, none⟩) := by
          intro h
          simp only [Addr.mk.injEq] at h
          omega
        rw [beq_eq_false_iff_ne.2 h1, beq_eq_false_iff_ne.2 e]
    rw [equal_step, Op.equalIn]
    have hs : (sameAddr ⟨J.blk ac.block, J.base ac.block + ad.off, none⟩ ⟨J.blk ac.block, J.base ac.block + ac.off, none⟩).run P w = .ok (ad.off == ac.off) w := by
      rw [← hd]
      simp [sameAddr]
    simp [run_underlying ht, run_sizeOf hz, hs]

/-- a pointer as an unsafe.Pointer -/
theorem y_toUnsafe (h : MRel P J m B W w) {src dst t : TypeId} {x : Operand} (ho : o.op = .convert src dst x) (hs : P.underlying src = some (.pointer t)) (hd : P.underlying dst = some .unsafePointer) {z : Nat} (hz : sizeOfT P t = some (z + 1)) {ad : Addr} {b : Blk} (hw : m.writable ad.block = some b) (hlt : ad.off < b.cells.length)
    (hx : VRel J (.pointer (some ad)) (a.eval x)) : Yields P J m B W o a w (.pointer (some ad)) := by
  obtain ⟨g1, _, e1⟩ := hx.ptr_inv
  refine yields_same h hx ?_
  obtain ⟨_, _, w3, w4⟩ := h.wr _ _ hw
  obtain ⟨n, hn⟩ := h.sh _ _ hw
  have hc := (w4 ad.off (by omega)).1
  have hin : J.base ad.block + ad.off < n := shape_ge hn hc
  unfold sizeOfT at hz
  cases hi : P.info? t with
  | none => rw [hi] at hz; cases hz
  | some j =>
    rw [hi] at hz
    simp only [Option.map_some, Option.some.injEq] at hz
    have := Lib.run_to_unsafe (P := P) w (e := b.elem) (cells := n) ⟨J.blk ad.block, J.base ad.block + ad.off, none⟩ hs hd hi (by omega) hn (by show J.base ad.block + ad.off < n; omega)
    simp [execOp, ho, e1, this]

/-- an unsafe.Pointer as a pointer to what lies there -/
theorem y_fromUnsafe (h : MRel P J m B W w) {src dst u : TypeId} {x : Operand} (ho : o.op = .convert src dst x) (hs : P.underlying src = some .unsafePointer) (hd : P.underlying dst = some (.pointer u)) {z : Nat} (hz : sizeOfT P u = some (z + 1)) {ad : Addr} {b : Blk} (hw : m.writable ad.block = some b) (h0 : ad.off = 0) (hel : b.elem = u) (hc0 : 0 < P.cellsOf u) (hcl : P.cellsOf u ≤ b.cells.length) (hi64 : isI64 P u = false)
    (hx : VRel J (.pointer (some ad)) (a.eval x)) : Yields P J m B W o a w (.pointer (some ad)) := by
  obtain ⟨g1, _, e1⟩ := hx.ptr_inv
  refine yields_same h hx ?_
  obtain ⟨_, w2, w3, w4⟩ := h.wr _ _ hw
  replace w2 := w2.resolve_right (by rw [hel, hi64]; decide)
  rw [w2] at w4
  simp only [Nat.zero_add] at w4
  obtain ⟨n, hn⟩ := h.sh _ _ hw
  have hc := (w4 (b.cells.length - 1) (by omega)).1
  have hin : b.cells.length ≤ n := by have := shape_ge hn hc; omega
  unfold sizeOfT at hz
  cases hi : P.info? u with
  | none => rw [hi] at hz; cases hz
  | some j =>
    rw [hel] at hn
    have hk : 1 ≤ n / P.cellsOf u := (Nat.le_div_iff_mul_le hc0).2 (by omega)
    have hlies : liesAt P P.depth u (n / P.cellsOf u) 0 u 1 = true := by
      have hd : P.depth = (2 * (P.types.size + Made.depth) + 1) + 1 := rfl
      rw [hd]
      simp only [liesAt, Bool.or_eq_true]
      left
      rw [hd]
      have : ¬ P.cellsOf u = 0 := by omega
      simp [rowAt, this, sameLayout, hk]
    have := Lib.run_from_unsafe (P := P) w (e := u) (cells := n) ⟨J.blk ad.block, J.base ad.block + ad.off, none⟩ hs hd hi hn (by simp only [w2, h0]; exact hlies)
    simp [execOp, ho, e1, this]

theorem y_sliceData (h : MRel P J m B W w) {x : Operand} {ts : Array TypeId} (ho : o.op = .call { callee := .builtin .unsafeSliceData, args := #[x], argTypes := ts }) {ad : Addr} {n c : Nat} (hn : n ≠ 0) (hx : VRel J (.slice (some ad) n c) (a.eval x)) : Yields P J m B W o a w (.pointer (some ad)) := by
  obtain ⟨s1, s2, a', c', s3, s4, s5, s7⟩ := hx.wslice_inv
  have ha := s7.resolve_left hn
  obtain ⟨b, off, sp⟩ := ad
  simp only at s1
  subst s1
  refine yields_same h (.ptr b off s2) ?_
  have := Lib.run_unsafeSliceData_row (P := P) w ts o.type a' n c' (by omega)
  simp [execOp, ho, resolve, invoke, builtin, s3, this]
  exact ha

theorem y_sliceData_nil (h : MRel P J m B W w) {x : Operand} {ts : Array TypeId} (ho : o.op = .call { callee := .builtin .unsafeSliceData, args := #[x], argTypes := ts }) (hx : VRel J (.slice none 0 0) (a.eval x)) : Yields P J m B W o a w (.pointer none) := by
  have e1 := hx.closed_eq rfl
  refine yields_same h (.clo _ rfl) (v' := .pointer none) ?_
  have := Lib.run_unsafeSliceData_nil (P := P) w ts o.type 0 0
  simp [execOp, ho, resolve, invoke, builtin, e1, this]

theorem y_unsafeString_none (h : MRel P J m B W w) {p n : Operand} {tp ti : TypeId} (ho : o.op = .call { callee := .builtin .unsafeString, args := #[p, n], argTypes := #[tp, ti] }) (hp : VRel J (.pointer none) (a.eval p)) (hn : VRel J (.int .i64 0) (a.eval n)) : Yields P J m B W o a w (.string ⟨#[]⟩) := by
  have e1 := hp.closed_eq rfl
  have e2 := hn.closed_eq rfl
  refine yields_same h (.clo _ rfl) (v' := .string ⟨#[]⟩) ?_
  have := Lib.run_unsafeString_none (P := P) w tp ti o.type none
  simp [execOp, ho, resolve, invoke, builtin, e1, e2, this]
  rfl

theorem y_unsafeString (h : MRel P J m B W w) {p n : Operand} {tp ti e : TypeId} (ho : o.op = .call { callee := .builtin .unsafeString, args := #[p, n], argTypes := #[tp, ti] }) {ad : Addr} {k : Int} (hp : VRel J (.pointer (some ad)) (a.eval p)) (hn : VRel J (.int .i64 k) (a.eval n)) (ht : P.underlying tp = some (.pointer e))
    {b : Blk} (hw : m.writable ad.block = some b) (h0 : 0 < k) (h63 : k ≤ 9223372036854775807) (hoff : ad.off = 0) (hel : b.elem = e) (hc1 : P.cellsOf e = 1) (hkl : k.toNat ≤ b.cells.length) {l : List UInt8} (hb : bytesOf (window b.cells 0 k.toNat) = some l) (hi64 : isI64 P e = false) :
    Yields P J (m.frz b) B W o a w (.string ⟨l.toArray⟩) := by
  obtain ⟨g1, _, e1⟩ := hp.ptr_inv
  have e2 := hn.closed_eq rfl
  obtain ⟨_, w2, w3, w4⟩ := h.wr _ _ hw
  replace w2 := w2.resolve_right (by rw [hel, hi64]; decide)
  rw [w2] at w4
  simp only [Nat.zero_add] at w4
  obtain ⟨cn, hsh⟩ := h.sh _ _ hw
  have hrd := Mem.readable_of_writable hw
  have hcs := bytesOf_inv hb
  have hll : l.length = k.toNat := by
    have := window_length (cs := b.cells) (off := 0) (k := k.toNat) (by omega)
    rw [hcs] at this
    simpa using this
  have hc := (w4 (k.toNat - 1) (by omega)).1
  have hin : k.toNat ≤ cn := by have := shape_ge hsh hc; omega
  have hcell : ∀ j x, l[j]? = some x → w.cell? ((⟨J.blk ad.block, 0, none⟩ : Addr).add j) = some (.int .u8 x.toNat) := by
    intro j x hx
    have hj := (List.getElem?_eq_some_iff.1 hx).1
    have hq : (window b.cells 0 k.toNat)[j]? = some (.int .u8 x.toNat) := by rw [hcs]; simp [hx]
    obtain ⟨_, hq⟩ := window_get hq
    obtain ⟨v', r1, r2⟩ := h.rd _ _ hrd _ _ hq
    rw [w2] at r1
    rw [Addr.add_lit]
    have := r2.closed_eq rfl
    subst this
    simpa using r1
  have hrun := Lib.run_unsafeString_row (P := P) w tp ti o.type e ht hc1 (J.blk ad.block) cn (by rw [← hel]; exact hsh) l (by intro e; rw [e] at hll; simp at hll; omega) (by omega) (by omega) hcell
  refine ⟨J, .value (.string ⟨l.toArray⟩), _, _, .rfl J, ?_, .inl rfl, .clo _ rfl, h.frz hw 0 l.length⟩
  have hk : (l.length : Int) = k := by omega
  rw [hk] at hrun
  simp [execOp, ho, resolve, invoke, builtin, e1, e2, w2, hoff, hrun]

theorem sopCall_wp {next : Act → World → Prop} {Q : Exit → Act → World → Prop} (hH : HSound P B W H) (h : MRel P J m B W w) {c : Call} (ho : o.op = .call c) (hρ : ∀ x ∈ o.op.operands, VRel J (ρ x) (a.eval x)) (he : sopCall P H ρ o c m = some (v, m'))
    (hn : ∀ J' v' w', J.le J' → VRel J' v v' → MRel P J' m' B W w' → next (a.put o.dst v') w') : o.wp P a w next Q := by
  have hclo : (closedOp P ρ o).map (·, m) = some (v, m') → o.wp P a w next Q := by
    intro hc
    simp only [Option.map_eq_some_iff, Prod.mk.injEq] at hc
    obtain ⟨u, hu, rfl, rfl⟩ := hc
    exact (y_closed h hρ (by rw [ho]; intro cs b; simp) hu).wp hn
  obtain ⟨callee, args, argTypes⟩ := c
  unfold sopCall at he
  simp only at he
  split at he
  · -- a function value
    rename_i f
    unfold c_value at he
    split at he
    · rename_i fid first captured hf
      refine call_wp hH h ho (hf ▸ hρ f (by simp [ho, Op.operands, Call.operands])) (fun x hx => hρ x (by simp [ho, Op.operands, Call.operands, hx])) he hn
    · cases he
  · -- through an interface value
    rename_i r name
    unfold c_invoke at he
    split at he
    · rename_i t u hv
      split at he
      · rename_i f recv hsm
        exact invoke_wp hH h ho (hv ▸ hρ r (by simp [ho, Op.operands, Call.operands])) (fun x hx => hρ x (by simp [ho, Op.operands, Call.operands, hx])) hsm he hn
      · cases he
    · cases he
  · -- delete
    unfold c_delete at he
    split at he
    · rename_i x y tm rest ha ht
      rw [toArray_two ha] at ho
      have hx := hρ x (by simp [ho, Op.operands, Call.operands])
      have hy := hρ y (by simp [ho, Op.operands, Call.operands])
      split at he
      · rename_i kt e l hu hv
        rw [hv] at hx
        split at he
        · rename_i s hs
          split at he
          · rename_i i u hf
            simp only [Option.some.injEq, Prod.mk.injEq] at he
            obtain ⟨rfl, rfl⟩ := he
            exact (y_delete h ht ho hu hx hy hs hf (Or.inl ⟨i, u, rfl, rfl⟩)).wp hn
          · rename_i hf
            simp only [Option.some.injEq, Prod.mk.injEq] at he
            obtain ⟨rfl, rfl⟩ := he
            exact (y_delete h ht ho hu hx hy hs hf (Or.inr ⟨rfl, rfl⟩)).wp hn
          · cases he
        · cases he
      · cases he
    · cases he
  · -- append
    unfold c_append at he
    split at he
    · rename_i s x ts tx ha ht
      rw [toArray_two ha, toArray_two ht] at ho
      have hs := hρ s (by simp [ho, Op.operands, Call.operands])
      have hx := hρ x (by simp [ho, Op.operands, Call.operands])
      split at he
      · rename_i hi
        obtain ⟨k0, hi⟩ := isIntT_inv hi
        split at he
        · rename_i e k hu hk
          split at he
          · rename_i z hz
            exact (y_append_zeros h ho hs hx hu hi hk hz he).wp hn
          · cases he
        · cases he
      · split at he
        · rename_i news k hnw
          exact (y_append_news h ho hs hx hnw he).wp hn
        · cases he
    · cases he
  · -- len
    unfold c_len at he
    split at he
    · rename_i x t ha ht
      rw [toArray_one ha, toArray_one ht] at ho
      have hx := hρ x (by simp [ho, Op.operands, Call.operands])
      split at he
      · rename_i e ao n c hu hv
        rw [hv] at hx
        simp only [Option.some.injEq, Prod.mk.injEq] at he
        obtain ⟨rfl, rfl⟩ := he
        exact (y_len_slice h ho hx hu).wp hn
      · rename_i s hu hv
        rw [hv] at hx
        simp only [Option.some.injEq, Prod.mk.injEq] at he
        obtain ⟨rfl, rfl⟩ := he
        exact (y_len_string h ho hx hu).wp hn
      · rename_i k e l hu hv
        rw [hv] at hx
        split at he
        · rename_i s hs
          simp only [Option.some.injEq, Prod.mk.injEq] at he
          obtain ⟨rfl, rfl⟩ := he
          exact (y_len_map h ho hx hu hs).wp hn
        · cases he
      · rename_i k e hu hv
        rw [hv] at hx
        simp only [Option.some.injEq, Prod.mk.injEq] at he
        obtain ⟨rfl, rfl⟩ := he
        exact (y_len_nilmap h ho hx hu).wp hn
      · cases he
    · cases he
  · -- copy
    unfold c_copy at he
    split at he
    · rename_i d x ts tx ha ht
      rw [toArray_two ha, toArray_two ht] at ho
      have hd := hρ d (by simp [ho, Op.operands, Call.operands])
      have hx := hρ x (by simp [ho, Op.operands, Call.operands])
      split at he
      · rename_i e e2 da dn dc sa sn sc hu hu2 hvd hvx
        rw [hvd] at hd
        rw [hvx] at hx
        split at he
        · rename_i z hz
          split at he
          · rename_i h0
            simp only [Option.some.injEq, Prod.mk.injEq] at he
            obtain ⟨rfl, rfl⟩ := he
            exact (y_copy0 h ho hd hx hu hz (by simpa using h0)).wp hn
          · rename_i h0
            split at he
            · rename_i cs hl
              split at he
              · rename_i m2 hst
                simp only [Option.some.injEq, Prod.mk.injEq] at he
                obtain ⟨rfl, rfl⟩ := he
                exact (y_copy h ho hd hx hu hz (by simpa using h0) hl hst).wp hn
              · cases he
            · cases he
        · cases he
      · cases he
    · cases he
  · -- unsafeSliceData
    unfold c_sliceData at he
    split at he
    · rename_i x ha
      rw [toArray_one ha] at ho
      have hx := hρ x (by simp [ho, Op.operands, Call.operands])
      split at he
      · rename_i hv
        rw [hv] at hx
        simp only [Option.some.injEq, Prod.mk.injEq] at he
        obtain ⟨rfl, rfl⟩ := he
        exact (y_sliceData_nil h ho hx).wp hn
      · rename_i ad n c hv
        rw [hv] at hx
        split at he
        · cases he
        · rename_i h0
          simp only [Option.some.injEq, Prod.mk.injEq] at he
          obtain ⟨rfl, rfl⟩ := he
          exact (y_sliceData h ho (by simpa using h0) hx).wp hn
      · cases he
    · cases he
  · -- unsafeString
    unfold c_unsafeString at he
    split at he
    · rename_i p n tp ti ha ht
      rw [toArray_two ha, toArray_two ht] at ho
      have hp := hρ p (by simp [ho, Op.operands, Call.operands])
      have hx := hρ n (by simp [ho, Op.operands, Call.operands])
      split at he
      · rename_i hvp hvn
        rw [hvp] at hp
        rw [hvn] at hx
        simp only [Option.some.injEq, Prod.mk.injEq] at he
        obtain ⟨rfl, rfl⟩ := he
        exact (y_unsafeString_none h ho hp hx).wp hn
      · rename_i ad k hvp hvn
        rw [hvp] at hp
        rw [hvn] at hx
        split at he
        · rename_i e b hu hw
          split at he
          · rename_i hc
            simp only [Bool.and_eq_true, decide_eq_true_eq, beq_iff_eq] at hc
            split at he
            · rename_i l hb
              simp only [Option.some.injEq, Prod.mk.injEq] at he
              obtain ⟨rfl, rfl⟩ := he
              exact (y_unsafeString h ho hp hx hu hw hc.1.1.1.1.1.2 hc.1.1.1.1.2 hc.1.1.1.2 hc.1.1.2 hc.1.2 hc.2 hb (by simpa using hc.1.1.1.1.1.1)).wp hn
            · cases he
          · cases he
        · cases he
      · cases he
    · cases he
  · exact hclo he

theorem sop_wp {next : Act → World → Prop} {Q : Exit → Act → World → Prop} (hH : HSound P B W H) (h : MRel P J m B W w) (hρ : ∀ x ∈ o.op.operands, VRel J (ρ x) (a.eval x)) (he : sop P H ρ o m = some (v, m'))
    (hn : ∀ J' v' w', J.le J' → VRel J' v v' → MRel P J' m' B W w' → next (a.put o.dst v') w') : o.wp P a w next Q := by
  have hclo : (∀ cs b, o.op ≠ .select cs b) → (closedOp P ρ o).map (·, m) = some (v, m') → o.wp P a w next Q := by
    intro hs hc
    simp only [Option.map_eq_some_iff, Prod.mk.injEq] at hc
    obtain ⟨u, hu, rfl, rfl⟩ := hc
    exact (y_closed h hρ hs hu).wp hn
  unfold sop at he
  split at he
  · -- move
    rename_i x ho
    simp only [Option.some.injEq, Prod.mk.injEq] at he
    obtain ⟨rfl, rfl⟩ := he
    exact (yields_same h (hρ x (by simp [ho, Op.operands])) (by simp [execOp, ho])).wp hn
  · -- assign
    rename_i x ho
    simp only [Option.some.injEq, Prod.mk.injEq] at he
    obtain ⟨rfl, rfl⟩ := he
    exact (yields_same h (hρ x (by simp [ho, Op.operands])) (by simp [execOp, ho])).wp hn
  · -- pick
    rename_i c x y ho
    unfold s_pick at he
    split at he
    · rename_i t hc
      simp only [Option.some.injEq, Prod.mk.injEq] at he
      obtain ⟨rfl, rfl⟩ := he
      have h1 := (hc ▸ hρ c (by simp [ho, Op.operands])).closed_eq rfl
      have h2 := hρ x (by simp [ho, Op.operands])
      have h3 := hρ y (by simp [ho, Op.operands])
      refine (yields_same h (v' := if t then a.eval x else a.eval y) ?_ ?_).wp hn
      · cases t
        · exact h3
        · exact h2
      · cases t <;> simp [execOp, ho, h1, asBool]
    · cases he
  · -- nilCheck
    rename_i x ho
    unfold s_nilCheck at he
    have hx := hρ x (by simp [ho, Op.operands])
    split at he
    · rename_i ad hv
      simp only [Option.some.injEq, Prod.mk.injEq] at he
      obtain ⟨rfl, rfl⟩ := he
      rw [hv] at hx
      obtain ⟨_, _, e1⟩ := hx.ptr_inv
      exact (yields_same h hx (by simp [execOp, ho, e1])).wp hn
    · rename_i f p q hv
      simp only [Option.some.injEq, Prod.mk.injEq] at he
      obtain ⟨rfl, rfl⟩ := he
      rw [hv] at hx
      obtain ⟨x', y', e1, _⟩ := hx.func_inv
      exact (yields_same h hx (by simp [execOp, ho, e1])).wp hn
    · rename_i t u hv
      simp only [Option.some.injEq, Prod.mk.injEq] at he
      obtain ⟨rfl, rfl⟩ := he
      rw [hv] at hx
      obtain ⟨u', e1, _⟩ := hx.iface_inv
      exact (yields_same h hx (by simp [execOp, ho, e1])).wp hn
    · cases he
  · -- alloc
    rename_i e ho
    unfold s_alloc at he
    split at he
    · rename_i i hi
      split at he
      · rename_i z hz
        split at he
        · rename_i hc
          simp only [Option.some.injEq, Prod.mk.injEq] at he
          obtain ⟨rfl, rfl⟩ := he
          exact (y_alloc h ho hi hz hc).wp hn
        · cases he
      · cases he
    · cases he
  · -- box
    rename_i e x ho
    unfold s_box at he
    split at he
    · rename_i i hi
      simp only [Option.some.injEq, Prod.mk.injEq] at he
      obtain ⟨rfl, rfl⟩ := he
      exact (y_box h ho hi (hρ x (by simp [ho, Op.operands]))).wp hn
    · cases he
  · -- build
    rename_i t parts ho
    unfold s_build at he
    have hp : ∀ p ∈ parts, VRel J (ρ p.2) (a.eval p.2) := fun p hp => hρ p.2 (by simp only [ho, Op.operands]; simp; exact ⟨p.1, by simpa using hp⟩)
    split at he
    · rename_i i hi
      split at he
      · rename_i z hz
        split at he
        · rename_i hc
          split at he
          · rename_i fields hu
            split at he
            · rename_i places hpl
              simp only [Option.map_eq_some_iff, Prod.mk.injEq] at he
              obtain ⟨cs, hf, rfl, rfl⟩ := he
              exact (y_build_struct h ho hp hi hz hc hu hpl hf).wp hn
            · cases he
          · rename_i n e hu
            split at he
            · rename_i size hs
              simp only [Option.map_eq_some_iff, Prod.mk.injEq] at he
              obtain ⟨cs, hf, rfl, rfl⟩ := he
              exact (y_build_array h ho hp hi hz hc hu hs hf).wp hn
            · cases he
          · cases he
        · cases he
      · cases he
    · cases he
  · -- buildSlice
    rename_i t len parts ho
    unfold s_buildSlice at he
    have hp : ∀ p ∈ parts, VRel J (ρ p.2) (a.eval p.2) := fun p hp => hρ p.2 (by simp only [ho, Op.operands]; simp; exact ⟨p.1, by simpa using hp⟩)
    split at he
    · rename_i e hu
      split at he
      · rename_i i hi
        split at he
        · rename_i z hz
          split at he
          · rename_i hc
            simp only [Bool.and_eq_true, decide_eq_true_eq, beq_iff_eq] at hc
            split at he
            · rename_i cells hf
              simp only [Option.some.injEq, Prod.mk.injEq] at he
              obtain ⟨rfl, rfl⟩ := he
              exact (y_buildSlice h ho hp hu hi hz hc.1.1.1 hc.1.1.2 hc.1.2 hc.2 hf).wp hn
            · cases he
          · cases he
        · cases he
      · cases he
    · cases he
  · -- load
    rename_i t x ho
    unfold s_load at he
    split at he
    · rename_i ad hv
      split at he
      · cases he
      · rename_i d hd
        exact (y_load h ho (hv ▸ hρ x (by simp [ho, Op.operands])) hd he).wp hn
    · cases he
  · -- store
    rename_i t x y ho
    unfold s_store at he
    split at he
    · rename_i ad hv
      split at he
      · rename_i hz
        simp only [Option.map_eq_some_iff, Prod.mk.injEq] at he
        obtain ⟨m2, hst, rfl, rfl⟩ := he
        exact (y_store h ho (hv ▸ hρ x (by simp [ho, Op.operands])) (hρ y (by simp [ho, Op.operands])) (by simpa using hz) hst).wp hn
      · cases he
    · cases he
  · -- fieldAddr
    rename_i s x f ho
    unfold s_fieldAddr at he
    split at he
    · rename_i fl ad hf hv
      split at he
      · rename_i z hz
        split at he
        · simp only [Option.some.injEq, Prod.mk.injEq] at he
          obtain ⟨rfl, rfl⟩ := he
          exact (y_fieldAddr h ho hf (hv ▸ hρ x (by simp [ho, Op.operands])) hz).wp hn
        · cases he
      · cases he
    · cases he
  · -- field
    rename_i s x f ho
    unfold s_field at he
    split at he
    · rename_i fl cs hf hv
      simp only [Option.map_eq_some_iff, Prod.mk.injEq] at he
      obtain ⟨u, hp, rfl, rfl⟩ := he
      exact (y_field h ho hf (hv ▸ hρ x (by simp [ho, Op.operands])) hp).wp hn
    · cases he
  · -- indexAddr
    rename_i t x ix ho
    unfold s_indexAddr at he
    have hx := hρ x (by simp [ho, Op.operands])
    have hi := hρ ix (by simp [ho, Op.operands])
    split at he
    · cases he
    · rename_i i hni
      split at he
      · rename_i e ad n c hu hv
        rw [hv] at hx
        split at he
        · rename_i z hz
          split at he
          · rename_i hc
            simp only [Bool.and_eq_true, decide_eq_true_eq] at hc
            simp only [Option.some.injEq, Prod.mk.injEq] at he
            obtain ⟨rfl, rfl⟩ := he
            exact (y_indexAddr_slice h ho hi hni hu hx hz hc.1).wp hn
          · cases he
        · cases he
      · rename_i n e ad hu hv
        rw [hv] at hx
        split at he
        · rename_i z hz
          split at he
          · rename_i hc
            simp only [Bool.and_eq_true, decide_eq_true_eq] at hc
            simp only [Option.some.injEq, Prod.mk.injEq] at he
            obtain ⟨rfl, rfl⟩ := he
            exact (y_indexAddr_array h ho hi hni hu hx hz hc.1).wp hn
          · cases he
        · cases he
      · cases he
  · -- index
    rename_i t x ix ho
    unfold s_index at he
    have hx := hρ x (by simp [ho, Op.operands])
    have hi := hρ ix (by simp [ho, Op.operands])
    split at he
    · cases he
    · rename_i i hni
      split at he
      · rename_i n e cs hu hv
        rw [hv] at hx
        split at he
        · rename_i z hz
          split at he
          · rename_i hc
            simp only [Option.map_eq_some_iff, Prod.mk.injEq] at he
            obtain ⟨u, hp, rfl, rfl⟩ := he
            exact (y_index_array h ho hi hni hu hx hz hc hp).wp hn
          · cases he
        · cases he
      · rename_i s hu hv
        rw [hv] at hx
        split at he
        · rename_i b hb
          simp only [Option.some.injEq, Prod.mk.injEq] at he
          obtain ⟨rfl, rfl⟩ := he
          exact (y_index_string h ho hi hni hu hx hb).wp hn
        · cases he
      · cases he
  · -- extract
    rename_i x i ho
    unfold s_extract at he
    split at he
    · rename_i vs hv
      simp only [Option.map_eq_some_iff, Prod.mk.injEq] at he
      obtain ⟨u, hu, rfl, rfl⟩ := he
      exact (y_extract h ho (hv ▸ hρ x (by simp [ho, Op.operands])) hu).wp hn
    · cases he
  · -- makeSlice
    rename_i t l c ho
    unfold s_makeSlice at he
    split at he
    · rename_i e hu
      split at he
      · rename_i i ln cp hi hl hc
        split at he
        · rename_i z hz
          split at he
          · rename_i hcnd
            simp only [Bool.and_eq_true, decide_eq_true_eq] at hcnd
            simp only [Option.some.injEq, Prod.mk.injEq] at he
            obtain ⟨rfl, rfl⟩ := he
            exact (y_makeSlice h ho (hρ l (by simp [ho, Op.operands])) (hρ c (by simp [ho, Op.operands])) hl hc hu hi hz hcnd.1.1 hcnd.1.2 hcnd.2).wp hn
          · cases he
        · cases he
      · cases he
    · cases he
  · -- slice
    rename_i t x lo hi ho
    unfold s_slice at he
    have hx := hρ x (by simp [ho, Op.operands])
    split at he
    · rename_i e ad n c hu hv
      rw [hv] at hx
      split at he
      · rename_i z l k hz hlo hhi
        have hlo' : (∃ y xl, lo = some y ∧ VRel J xl (a.eval y) ∧ natOf xl = some l) ∨ (lo = none ∧ l = 0) := by
          cases lo with
          | none => simp only [Option.some.injEq] at hlo; exact Or.inr ⟨rfl, hlo.symm⟩
          | some y => exact Or.inl ⟨y, _, rfl, hρ y (by simp [ho, Op.operands]), hlo⟩
        have hhi' : (∃ y xh, hi = some y ∧ VRel J xh (a.eval y) ∧ natOf xh = some k) ∨ (hi = none ∧ k = n) := by
          cases hi with
          | none => simp only [Option.some.injEq] at hhi; exact Or.inr ⟨rfl, hhi.symm⟩
          | some y => exact Or.inl ⟨y, _, rfl, hρ y (by simp [ho, Op.operands]), hhi⟩
        split at he
        · rename_i hc
          simp only [Bool.and_eq_true, decide_eq_true_eq] at hc
          split at he
          · rename_i hcn
            have hcn' : c = n := by simpa using hcn
            subst hcn'
            split at he
            · rename_i hbe
              simp only [Option.some.injEq, Prod.mk.injEq] at he
              obtain ⟨rfl, rfl⟩ := he
              exact (y_slice h ho hx hu hz hlo' hhi' (by simpa using hbe) hc.1.1 hc.1.2).wp hn
            · cases he
          · split at he
            · simp only [Option.some.injEq, Prod.mk.injEq] at he
              obtain ⟨rfl, rfl⟩ := he
              exact (y_slice_weak h ho hx hu hz hlo' hhi' hc.1.1 hc.1.2).wp hn
            · cases he
        · cases he
      · cases he
    · rename_i e hu hv
      rw [hv] at hx
      split at he
      · rename_i z hz hlo hhi
        have hlo' : (∃ y xl, lo = some y ∧ VRel J xl (a.eval y) ∧ natOf xl = some 0) ∨ lo = none := by
          cases lo with
          | none => exact Or.inr rfl
          | some y => exact Or.inl ⟨y, _, rfl, hρ y (by simp [ho, Op.operands]), hlo⟩
        have hhi' : (∃ y xh, hi = some y ∧ VRel J xh (a.eval y) ∧ natOf xh = some 0) ∨ hi = none := by
          cases hi with
          | none => exact Or.inr rfl
          | some y => exact Or.inl ⟨y, _, rfl, hρ y (by simp [ho, Op.operands]), hhi⟩
        simp only [Option.some.injEq, Prod.mk.injEq] at he
        obtain ⟨rfl, rfl⟩ := he
        exact (y_slice_nil h ho hx hu hz hlo' hhi').wp hn
      · cases he
    · rename_i nn e ad hu hv
      rw [hv] at hx
      split at he
      · rename_i z l k hz hlo hhi
        have hlo' : (∃ y xl, lo = some y ∧ VRel J xl (a.eval y) ∧ natOf xl = some l) ∨ (lo = none ∧ l = 0) := by
          cases lo with
          | none => simp only [Option.some.injEq] at hlo; exact Or.inr ⟨rfl, hlo.symm⟩
          | some y => exact Or.inl ⟨y, _, rfl, hρ y (by simp [ho, Op.operands]), hlo⟩
        have hhi' : (∃ y xh, hi = some y ∧ VRel J xh (a.eval y) ∧ natOf xh = some k) ∨ (hi = none ∧ k = nn) := by
          cases hi with
          | none => simp only [Option.some.injEq] at hhi; exact Or.inr ⟨rfl, hhi.symm⟩
          | some y => exact Or.inl ⟨y, _, rfl, hρ y (by simp [ho, Op.operands]), hhi⟩
        split at he
        · rename_i hc
          simp only [Bool.and_eq_true, decide_eq_true_eq] at hc
          simp only [Option.some.injEq, Prod.mk.injEq] at he
          obtain ⟨rfl, rfl⟩ := he
          exact (y_slice_array h ho hx hu hz hlo' hhi' hc.1.1.1 hc.1.1.2 hc.1.2).wp hn
        · cases he
      · cases he
    · rename_i s0 hu hv
      rw [hv] at hx
      split at he
      · rename_i l k hlo hhi
        have hlo' : (∃ y xl, lo = some y ∧ VRel J xl (a.eval y) ∧ natOf xl = some l) ∨ (lo = none ∧ l = 0) := by
          cases lo with
          | none => simp only [Option.some.injEq] at hlo; exact Or.inr ⟨rfl, hlo.symm⟩
          | some y => exact Or.inl ⟨y, _, rfl, hρ y (by simp [ho, Op.operands]), hlo⟩
        have hhi' : (∃ y xh, hi = some y ∧ VRel J xh (a.eval y) ∧ natOf xh = some k) ∨ (hi = none ∧ k = s0.data.toList.length) := by
          cases hi with
          | none => simp only [Option.some.injEq] at hhi; exact Or.inr ⟨rfl, hhi.symm⟩
          | some y => exact Or.inl ⟨y, _, rfl, hρ y (by simp [ho, Op.operands]), hhi⟩
        split at he
        · rename_i hc
          simp only [Bool.and_eq_true, decide_eq_true_eq] at hc
          simp only [Option.some.injEq, Prod.mk.injEq] at he
          obtain ⟨rfl, rfl⟩ := he
          exact (y_slice_str h ho hx hu hlo' hhi' hc.1 hc.2).wp hn
        · cases he
      · cases he
    · exact hclo (by rw [ho]; intro cs b; simp) he
    · cases he
  · -- binOp
    rename_i op t x y yt ho
    unfold s_binOp at he
    split at he
    · rename_i u hfb
      simp only [Option.some.injEq, Prod.mk.injEq] at he
      obtain ⟨rfl, rfl⟩ := he
      exact (y_fastBin h ho (hρ x (by simp [ho, Op.operands])) (hρ y (by simp [ho, Op.operands])) hfb).wp hn
    unfold s_binOp0 at he
    have hx := hρ x (by simp [ho, Op.operands])
    have hy := hρ y (by simp [ho, Op.operands])
    split at he
    · rename_i e ad hu hvx hvy
      rw [hvx] at hx; rw [hvy] at hy
      simp only [Option.map_eq_some_iff, Prod.mk.injEq] at he
      obtain ⟨u, hb, rfl, rfl⟩ := he
      exact (y_eq_ptr h ho hu hb (Or.inl ⟨_, hx, hy⟩)).wp hn
    · rename_i e ad hu hvx hvy
      rw [hvx] at hx; rw [hvy] at hy
      simp only [Option.map_eq_some_iff, Prod.mk.injEq] at he
      obtain ⟨u, hb, rfl, rfl⟩ := he
      exact (y_eq_ptr h ho hu hb (Or.inr ⟨_, hx, hy⟩)).wp hn
    · rename_i e ad n c hu hvx hvy
      rw [hvx] at hx; rw [hvy] at hy
      simp only [Option.map_eq_some_iff, Prod.mk.injEq] at he
      obtain ⟨u, hb, rfl, rfl⟩ := he
      exact (y_eq_slice h ho hu hb (Or.inl ⟨_, _, _, hx, hy⟩)).wp hn
    · rename_i e ad n c hu hvx hvy
      rw [hvx] at hx; rw [hvy] at hy
      simp only [Option.map_eq_some_iff, Prod.mk.injEq] at he
      obtain ⟨u, hb, rfl, rfl⟩ := he
      exact (y_eq_slice h ho hu hb (Or.inr ⟨_, _, _, hx, hy⟩)).wp hn
    · rename_i ms q u0 hu hvx hvy
      rw [hvx] at hx; rw [hvy] at hy
      simp only [Option.map_eq_some_iff, Prod.mk.injEq] at he
      obtain ⟨u, hb, rfl, rfl⟩ := he
      exact (y_eq_iface h ho hu hb (Or.inl ⟨_, _, hx, hy⟩)).wp hn
    · rename_i ms q u0 hu hvx hvy
      rw [hvx] at hx; rw [hvy] at hy
      simp only [Option.map_eq_some_iff, Prod.mk.injEq] at he
      obtain ⟨u, hb, rfl, rfl⟩ := he
      exact (y_eq_iface h ho hu hb (Or.inr ⟨_, _, hx, hy⟩)).wp hn
    · rename_i kt vt l0 hu hvx hvy
      rw [hvx] at hx; rw [hvy] at hy
      simp only [Option.map_eq_some_iff, Prod.mk.injEq] at he
      obtain ⟨u, hb, rfl, rfl⟩ := he
      exact (y_eq_map h ho hu hb (Or.inl ⟨_, hx, hy⟩)).wp hn
    · rename_i kt vt l0 hu hvx hvy
      rw [hvx] at hx; rw [hvy] at hy
      simp only [Option.map_eq_some_iff, Prod.mk.injEq] at he
      obtain ⟨u, hb, rfl, rfl⟩ := he
      exact (y_eq_map h ho hu hb (Or.inr ⟨_, hx, hy⟩)).wp hn
    · rename_i e ad ac hu hvx hvy
      rw [hvx] at hx; rw [hvy] at hy
      have hk : ∃ z, sizeOfT P e = some (z + 1) ∧ ad.block = ac.block ∧ (boolEq op (ad.off == ac.off)).map (·, m) = some (v, m') := by
        cases hz : sizeOfT P e with
        | none => rw [hz] at he; simp at he
        | some z =>
          rw [hz] at he
          cases z with
          | zero => simp at he
          | succ z =>
            by_cases hc : ad.block = ac.block
            · exact ⟨z, rfl, hc, by simpa [hc] using he⟩
            · simp [hc] at he
      obtain ⟨z, hz, hc1, he⟩ := hk
      simp only [Option.map_eq_some_iff, Prod.mk.injEq] at he
      obtain ⟨u, hb, rfl, rfl⟩ := he
      exact (y_eq_same h ho hu hz hc1 hb hx hy).wp hn
    · exact hclo (by rw [ho]; intro cs b; simp) he
  · -- unOp
    rename_i op t x ho
    unfold s_unOp at he
    split at he
    · rename_i u hfb
      simp only [Option.some.injEq, Prod.mk.injEq] at he
      obtain ⟨rfl, rfl⟩ := he
      exact (y_fastUn h ho (hρ x (by simp [ho, Op.operands])) hfb).wp hn
    · exact hclo (by rw [ho]; intro cs b; simp) he
  · -- makeFunc
    rename_i f first captured ho
    simp only [Option.some.injEq, Prod.mk.injEq] at he
    obtain ⟨rfl, rfl⟩ := he
    refine (yields_same h (v' := .func (.func f) (first.map a.eval) (captured.map a.eval)) (.func f _ _ _ _ (by simp) ?_ (by simp) ?_) (by simp [execOp, ho, Instr.makeFunc])).wp hn
    · intro i x y hx hy
      simp only [Array.getElem?_map, Option.map_eq_some_iff] at hx hy
      obtain ⟨p, hp, rfl⟩ := hx
      obtain ⟨q, hq, rfl⟩ := hy
      rw [hp] at hq
      simp only [Option.some.injEq] at hq
      subst hq
      exact hρ p (by simp [ho, Op.operands, Array.mem_of_getElem? hp])
    · intro i x y hx hy
      simp only [Array.getElem?_map, Option.map_eq_some_iff] at hx hy
      obtain ⟨p, hp, rfl⟩ := hx
      obtain ⟨q, hq, rfl⟩ := hy
      rw [hp] at hq
      simp only [Option.some.injEq] at hq
      subst hq
      exact hρ p (by simp [ho, Op.operands, Array.mem_of_getElem? hp])
  · -- convert
    rename_i src dst x ho
    unfold s_convert at he
    have hx := hρ x (by simp [ho, Op.operands])
    split at he
    · rename_i ks k kk n hs hd hv
      rw [hv] at hx
      simp only [Option.some.injEq, Prod.mk.injEq] at he
      obtain ⟨rfl, rfl⟩ := he
      have e1 := hx.closed_eq rfl
      exact (yields_same h (.clo _ rfl) (by simp [execOp, ho, convert, run_underlying hs, run_underlying hd, e1, Conv.intToInt])).wp hn
    · rename_i e ad n c hs hd hv
      rw [hv] at hx
      split at he
      · rename_i hue
        split at he
        · rename_i h0
          simp only [Option.some.injEq, Prod.mk.injEq] at he
          obtain ⟨rfl, rfl⟩ := he
          exact (y_bytesToString (l := []) h ho hx hs hue hd (Or.inl ⟨by simpa using h0, rfl⟩)).wp hn
        · rename_i h0
          split at he
          · rename_i cs hl
            simp only [Option.map_eq_some_iff, Prod.mk.injEq] at he
            obtain ⟨l, hb, rfl, rfl⟩ := he
            exact (y_bytesToString h ho hx hs hue hd (Or.inr ⟨by simpa using h0, cs, hl, hb⟩)).wp hn
          · cases he
      · cases he
    · rename_i e s hs hd hv
      rw [hv] at hx
      split at he
      · rename_i i hue hi
        split at he
        · rename_i hc
          simp only [Bool.and_eq_true, decide_eq_true_eq, beq_iff_eq] at hc
          simp only [Option.some.injEq, Prod.mk.injEq] at he
          obtain ⟨rfl, rfl⟩ := he
          exact (y_stringToBytes h ho hx hs hue hd hi hc.2 hc.1).wp hn
        · cases he
      · cases he
    · rename_i t ad hs hd hv
      rw [hv] at hx
      split at he
      · rename_i z b hz hw
        split at he
        · rename_i hc
          simp only [Option.some.injEq, Prod.mk.injEq] at he
          obtain ⟨rfl, rfl⟩ := he
          exact (y_toUnsafe h ho hs hd hz hw hc hx).wp hn
        · cases he
      · cases he
    · rename_i u ad hs hd hv
      rw [hv] at hx
      split at he
      · rename_i z b hz hw
        split at he
        · rename_i hc
          simp only [Bool.and_eq_true, decide_eq_true_eq, beq_iff_eq] at hc
          simp only [Option.some.injEq, Prod.mk.injEq] at he
          obtain ⟨rfl, rfl⟩ := he
          exact (y_fromUnsafe h ho hs hd hz hw hc.1.1.1.2 hc.1.1.2 hc.1.2 hc.2 (by simpa using hc.1.1.1.1) hx).wp hn
        · cases he
      · cases he
    · exact hclo (by rw [ho]; intro cs b; simp) he
  · -- makeInterface
    rename_i t x ho
    unfold s_makeInterface at he
    split at he
    · cases he
    · rename_i d hni hu
      simp only [Option.some.injEq, Prod.mk.injEq] at he
      obtain ⟨rfl, rfl⟩ := he
      exact (y_makeInterface h ho hu (fun ms e => by first | exact hni ms e | exact hni ms (by rw [hu, e])) (hρ x (by simp [ho, Op.operands]))).wp hn
    · cases he
  · -- typeAssert
    rename_i x xt t ok ho
    unfold s_typeAssert at he
    have hx := hρ x (by simp [ho, Op.operands])
    split at he
    · cases he
    · rename_i d t2 u hni hu hv
      rw [hv] at hx
      split at he
      · rename_i ht2
        have ht2' : t2 = t := by simpa using ht2
        subst ht2'
        simp only [Option.some.injEq, Prod.mk.injEq] at he
        obtain ⟨rfl, rfl⟩ := he
        exact (y_typeAssert h ho hu (fun ms e => by first | exact hni ms e | exact hni ms (by rw [hu, e])) hx).wp hn
      · cases he
    · cases he
  · -- makeMap
    rename_i t r ho
    unfold s_makeMap at he
    split at he
    · rename_i k e hu
      split at he
      · simp only [Option.some.injEq, Prod.mk.injEq] at he
        obtain ⟨rfl, rfl⟩ := he
        exact (y_makeMap h ho hu (Or.inl rfl)).wp hn
      · rename_i x
        split at he
        · rename_i q n hv
          simp only [Option.some.injEq, Prod.mk.injEq] at he
          obtain ⟨rfl, rfl⟩ := he
          exact (y_makeMap h ho hu (Or.inr ⟨x, q, n, rfl, hv ▸ hρ x (by simp [ho, Op.operands])⟩)).wp hn
        · cases he
    · cases he
  · -- lookup
    rename_i t x y ok ho
    unfold s_lookup at he
    have hx := hρ x (by simp [ho, Op.operands])
    have hy := hρ y (by simp [ho, Op.operands])
    split at he
    · rename_i kt e es hu hes
      split at he
      · rename_i i u hf
        simp only [Option.some.injEq, Prod.mk.injEq] at he
        obtain ⟨rfl, rfl⟩ := he
        exact (y_lookup h ho hu hx hy hes hf (Or.inl ⟨_, _, rfl, rfl⟩)).wp hn
      · rename_i hf
        split at he
        · rename_i i hi
          split at he
          · rename_i z hz
            split at he
            · rename_i hcz
              simp only [Option.some.injEq, Prod.mk.injEq] at he
              obtain ⟨rfl, rfl⟩ := he
              exact (y_lookup h ho hu hx hy hes hf (Or.inr ⟨rfl, _, _, hi, hz, hcz, rfl⟩)).wp hn
            · cases he
          · cases he
        · cases he
      · cases he
    · cases he
  · -- mapUpdate
    rename_i t x k y ho
    unfold s_mapUpdate at he
    have hx := hρ x (by simp [ho, Op.operands])
    split at he
    · rename_i kt e l hu hv
      rw [hv] at hx
      split at he
      · rename_i s hs
        split at he
        · rename_i s' hp
          simp only [Option.some.injEq, Prod.mk.injEq] at he
          obtain ⟨rfl, rfl⟩ := he
          exact (y_mapUpdate h (Or.inl ho) hu hx (hρ k (by simp [ho, Op.operands])) (hρ y (by simp [ho, Op.operands])) hs hp).wp hn
        · cases he
      · cases he
    · cases he
  · -- insert
    rename_i t x k y ho
    unfold s_mapUpdate at he
    have hx := hρ x (by simp [ho, Op.operands])
    split at he
    · rename_i kt e l hu hv
      rw [hv] at hx
      split at he
      · rename_i s hs
        split at he
        · rename_i s' hp
          simp only [Option.some.injEq, Prod.mk.injEq] at he
          obtain ⟨rfl, rfl⟩ := he
          exact (y_mapUpdate h (Or.inr ho) hu hx (hρ k (by simp [ho, Op.operands])) (hρ y (by simp [ho, Op.operands])) hs hp).wp hn
        · cases he
      · cases he
    · cases he
  · -- mapEntry
    rename_i t x k ho
    unfold s_mapEntry at he
    have hx := hρ x (by simp [ho, Op.operands])
    split at he
    · rename_i kt e l hu hv
      rw [hv] at hx
      split at he
      · rename_i s i hs hi
        split at he
        · rename_i z hz
          split at he
          · rename_i hcz
            split at he
            · rename_i s' u b hp
              simp only [Option.some.injEq, Prod.mk.injEq] at he
              obtain ⟨rfl, rfl⟩ := he
              exact (y_mapEntry h ho hu hx (hρ k (by simp [ho, Op.operands])) hs hi hz hcz hp).wp hn
            · cases he
          · cases he
        · cases he
      · cases he
    · cases he
  · -- entryStore
    rename_i t x b y ho
    unfold s_entryStore at he
    have hx := hρ x (by simp [ho, Op.operands])
    split at he
    · rename_i l st hv hst
      rw [hv] at hx
      split at he
      · rename_i s hs
        split at he
        · rename_i i hi
          simp only [Option.some.injEq, Prod.mk.injEq] at he
          obtain ⟨rfl, rfl⟩ := he
          exact (y_entryStore h ho hx (hρ b (by simp [ho, Op.operands])) hst (hρ y (by simp [ho, Op.operands])) hs hi).wp hn
        · cases he
      · cases he
    · cases he
  · -- call
    rename_i c ho
    exact sopCall_wp hH h ho hρ he hn
  · cases he
  · rename_i hsel
    exact hclo (fun cs b e => hsel cs b e) he
end
end Go.Sh

/- Code: what the abstract run does, the model does too. -/
namespace Go.Sh
open Go.RowKit
set_option linter.unusedVariables false
set_option linter.unusedSimpArgs false

def conv : SExit → Exit
  | .normal => .normal
  | .exit id => .exit id
  | .ret => .ret

def SRel (J : Inj) (t : Tree Value) (a : Act) : Prop := ∀ i, i < a.tmps.size → VRel J ((t.get i).getD undef) (a.tmps.getD i undef)

variable {P : Program} {J : Inj} {m m' : Mem} {B : Frame} {W w w' : World} {t t' : Tree Value} {a : Act}

theorem SRel.mono {J K : Inj} (h : J.le K) (r : SRel J t a) : SRel K t a := fun i hi => (r i hi).mono h

theorem SRel.put {J : Inj} (r : SRel J t a) {v v' : Value} (hv : VRel J v v') (dst : Option Tmp) (hd : ∀ d, dst = some d → d < a.tmps.size) : SRel J (Sh.put t dst v) (a.put dst v') := by
  cases dst with
  | none => exact r
  | some d =>
    have hlt := hd d rfl
    intro i hi
    simp only [Act.put, Array.size_setIfInBounds] at hi
    simp only [Sh.put, Act.put, Tree.get_set]
    by_cases e : i = d
    · subst e
      simp [hi]
      exact hv
    · simp [e]
      have hne : d ≠ i := fun h => e h.symm
      have := r i hi
      simp at this
      rw [Array.getElem?_setIfInBounds_ne hne]
      exact this

theorem put_size (a : Act) (dst : Option Tmp) (v : Value) : (a.put dst v).tmps.size = a.tmps.size := by
  cases dst <;> simp [Act.put]

theorem put_defers (a : Act) (dst : Option Tmp) (v : Value) : (a.put dst v).defers = a.defers := by
  cases dst <;> simp [Act.put]

/-- the variables' numbers -/
def GOk (P : Program) (J : Inj) : Prop := ∀ g, g < P.globals.size → g < J.n ∧ J.blk g = g ∧ J.base g = 0

theorem glob_rel (hg : GOk P J) {g : Nat} (h : g < P.globals.size) : VRel J (.pointer (some ⟨g, 0, none⟩)) (.pointer (some ⟨g, 0, none⟩)) := by
  obtain ⟨h1, h2, h3⟩ := hg g h
  have := VRel.ptr (J := J) g 0 h1
  rwa [h2, h3] at this

theorem opd_rel (hg : GOk P J) (r : SRel J t a) {x : Operand} (h : opdOk P.globals.size a.tmps.size x = true) : VRel J (ev t x) (a.eval x) := by
  cases x with
  | tmp i => simp only [opdOk, decide_eq_true_eq] at h; exact r i h
  | const v => exact .clo _ h
  | global g => simp only [opdOk, decide_eq_true_eq] at h; exact glob_rel hg h
  | func f => exact .clo _ rfl

theorem oper_rel (hg : GOk P J) (r : SRel J t a) {o : Oper} (h : operOk P.globals.size a.tmps.size o = true) : ∀ x ∈ o.op.operands, VRel J (ev t x) (a.eval x) := by
  intro x hx
  simp only [operOk, Bool.and_eq_true] at h
  exact opd_rel hg r (Array.all_eq_true'.1 h.1 x hx)

theorem oper_dst {G n : Nat} {o : Oper} (h : operOk G n o = true) : ∀ d, o.dst = some d → d < n := by
  intro d hd
  simp only [operOk, Bool.and_eq_true, hd, decide_eq_true_eq] at h
  exact h.2

/-- is the operation wanted: the two runs agree -/
theorem wanted_rel (r : SRel J t a) {ops : Array Oper} {o : Oper} {G : Nat} (hops : ∀ x ∈ ops.toList, operOk G a.tmps.size x = true) : Region.wanted o (yielded ops a.tmps) = swanted ops.toList t o := by
  unfold Region.wanted swanted
  cases o.guard with
  | none => rfl
  | some g =>
    obtain ⟨j, want⟩ := g
    simp only
    congr 1
    unfold yielded syield
    simp only [Array.getElem?_toList]
    cases hj : ops[j]? with
    | none => rfl
    | some oj =>
      simp only [Option.bind_some]
      cases hd : oj.dst with
      | none => rfl
      | some d =>
        simp only [Option.bind_some]
        have hlt := oper_dst (hops oj (by simpa using Array.mem_of_getElem? hj)) d hd
        have hr := r d hlt
        have ha : a.tmps[d]? = some (a.tmps.getD d undef) := by simp [hlt]
        rw [ha]
        generalize a.tmps.getD d undef = y at hr
        cases ht : t.get d with
        | none =>
          rw [ht] at hr
          have := hr.closed_eq rfl
          simp only [Option.getD_none] at this
          rw [this]
          rfl
        | some x =>
          rw [ht] at hr
          simp only [Option.getD_some] at hr
          cases hr with
          | clo _ _ => rfl
          | _ => rfl

section
variable {H : CallH}

/-- one operation of a region, wanted or not -/
theorem sop1_wp (hH : HSound P B W H) (h : MRel P J m B W w) (r : SRel J t a) {ops : Array Oper} (hops : ∀ x ∈ ops.toList, operOk P.globals.size a.tmps.size x = true) {i : Nat} {o : Oper} (hi : ops[i]? = some o) {v : Value}
    (he : sop1 P H ops.toList o t m = some (v, m')) {K : Act → World → Prop} {Q : Exit → Act → World → Prop}
    (hn : ∀ J' a' w', J.le J' → a'.tmps.size = a.tmps.size → a'.defers = a.defers → SRel J' (put t o.dst v) a' → (∃ v', a' = a.put o.dst v' ∧ VRel J' v v') → MRel P J' m' B W w' → K a' w') : wpOp P ops Q i K a w := by
  have ho := hops o (by simpa using Array.mem_of_getElem? hi)
  unfold sop1 at he
  unfold wpOp
  simp only [hi]
  rw [wanted_rel r hops]
  split at he
  · rename_i hw
    rw [if_pos hw]
    refine Or.inl (sop_wp hH h (oper_rel h.glob r ho) he fun J' v' w' h1 h2 h3 => ?_)
    exact hn J' _ w' h1 (put_size _ _ _) (put_defers _ _ _) ((r.mono h1).put h2 _ (oper_dst ho)) ⟨v', rfl, h2⟩ h3
  · rename_i hw
    rw [if_neg hw]
    simp only [Option.some.injEq, Prod.mk.injEq] at he
    obtain ⟨rfl, rfl⟩ := he
    exact hn J _ w (.rfl J) (put_size _ _ _) (put_defers _ _ _) (r.put (.undef J) _ (oper_dst ho)) ⟨undef, rfl, .undef J⟩ h

theorem sops_wp (hH : HSound P B W H) {ops : Array Oper} {Q : Exit → Act → World → Prop} : ∀ (rest : List Oper) (k : Nat), ops.toList.drop k = rest → ∀ (t : Tree Value) (m : Mem) (t' : Tree Value) (m' : Mem),
    sops P H ops.toList rest t m = some (t', m') → ∀ (J : Inj) (a : Act) (w : World), (∀ x ∈ ops.toList, operOk P.globals.size a.tmps.size x = true) → MRel P J m B W w → SRel J t a →
    (∀ J' a' w', J.le J' → a'.tmps.size = a.tmps.size → a'.defers = a.defers → SRel J' t' a' → MRel P J' m' B W w' → Q .normal a' w') → wpOps P ops Q ((List.range' k rest.length)) a w
  | [], k, _, t, m, t', m', he, J, a, w, _, h, r, hn => by
    simp only [sops, Option.some.injEq, Prod.mk.injEq] at he
    obtain ⟨rfl, rfl⟩ := he
    exact hn J a w (.rfl J) rfl rfl r h
  | o :: rest, k, hk, t, m, t', m', he, J, a, w, hops, h, r, hn => by
    have hlt : k < ops.toList.length := by
      rcases Nat.lt_or_ge k ops.toList.length with g | g
      · exact g
      · rw [List.drop_eq_nil_of_le g] at hk; cases hk
    have hko := List.drop_eq_getElem_cons hlt
    rw [hk] at hko
    simp only [List.cons.injEq] at hko
    have hi : ops[k]? = some o := by rw [hko.1]; simp at hlt ⊢
    simp only [sops] at he
    split at he
    · rename_i v m1 h1
      rw [List.length_cons, List.range'_succ, wpOps_cons]
      refine sop1_wp hH h r hops hi h1 fun J' a' w' g1 g2 g3 g4 _ g5 => ?_
      exact sops_wp hH rest (k + 1) hko.2.symm _ _ _ _ he J' a' w' (by rw [g2]; exact hops) g5 g4
        fun J'' a'' w'' q1 q2 q3 q4 q5 => hn J'' a'' w'' (g1.trans q1) (q2.trans g2) (q3.trans g3) q4 q5
    · cases he
end
end Go.Sh

/- Regions that draw their order. -/
namespace Go.Sh
open Go.RowKit
set_option linter.unusedVariables false
set_option linter.unusedSimpArgs false

variable {P : Program} {H : CallH}

theorem map_same {α : Type} (x : Option α) (m m2 : Mem) : x.map (fun u => (u, m2)) = (x.map fun u => (u, m)).map fun p => (p.1, m2) := by
  cases x <;> rfl

/-- A silent operation that doesn't look at the memory. -/
theorem map_same_ite {c : Prop} [Decidable c] (x : Option Value) (m m2 : Mem) : (if c then x.map (fun u => (u, m2)) else none) = (if c then x.map (fun u => (u, m)) else none).map fun p => (p.1, m2) := by
  split
  · exact map_same _ _ _
  · rfl

theorem silent_eq {o : Oper} (hl : loudB P o = false) (hr : readsB o = false) (ρ : Operand → Value) (m m2 : Mem) : sop P H ρ o m2 = (sop P H ρ o m).map fun p => (p.1, m2) := by
  obtain ⟨dst, op, type, pos, after, guard⟩ := o
  cases op with
  | move x => rfl
  | assign x => rfl
  | pick c a b => simp only [sop, s_pick]; split <;> rfl
  | nilCheck x => simp only [sop, s_nilCheck]; split <;> rfl
  | fieldAddr s x f =>
    simp only [sop, s_fieldAddr, s_field, s_indexAddr, s_index, s_extract, s_binOp, s_binOp0, s_build, s_makeInterface, s_typeAssert]
    split
    · split
      · split <;> rfl
      · rfl
    · rfl
  | field s x f =>
    simp only [sop, s_fieldAddr, s_field, s_indexAddr, s_index, s_extract, s_binOp, s_binOp0, s_build, s_makeInterface, s_typeAssert]
    split
    · exact map_same _ _ _
    · rfl
  | indexAddr t x i =>
    simp only [sop, s_fieldAddr, s_field, s_indexAddr, s_index, s_extract, s_binOp, s_binOp0, s_build, s_makeInterface, s_typeAssert]
    split
    · rfl
    · split
      · split
        · split <;> rfl
        · rfl
      · split
        · split <;> rfl
        · rfl
      · rfl
  | index t x i =>
    simp only [sop, s_fieldAddr, s_field, s_indexAddr, s_index, s_extract, s_binOp, s_binOp0, s_build, s_makeInterface, s_typeAssert]
    split
    · rfl
    · split
      · split
        · split
          · exact map_same _ _ _
          · rfl
        · rfl
      · split <;> rfl
      · rfl
  | extract x i =>
    simp only [sop, s_fieldAddr, s_field, s_indexAddr, s_index, s_extract, s_binOp, s_binOp0, s_build, s_makeInterface, s_typeAssert]
    split
    · exact map_same _ _ _
    · rfl
  | binOp op t x y yt =>
    simp only [sop, s_fieldAddr, s_field, s_indexAddr, s_index, s_extract, s_binOp, s_binOp0, s_build, s_makeInterface, s_typeAssert]
    split
    · rfl
    · split <;> first | exact map_same _ _ _ | exact map_same_ite _ _ _
  | unOp op t x =>
    simp only [sop, s_unOp]
    split
    · rfl
    · exact map_same _ _ _
  | makeInterface t x =>
    simp only [sop, s_fieldAddr, s_field, s_indexAddr, s_index, s_extract, s_binOp, s_binOp0, s_build, s_makeInterface, s_typeAssert]
    split <;> rfl
  | typeAssert x xt t ok =>
    simp only [sop, s_fieldAddr, s_field, s_indexAddr, s_index, s_extract, s_binOp, s_binOp0, s_build, s_makeInterface, s_typeAssert]
    split
    · rfl
    · split <;> rfl
    · rfl
  | makeFunc f first captured =>
    cases f with
    | func f => rfl
    | _ => exact map_same _ _ _
  | build t parts =>
    simp only [sop, s_fieldAddr, s_field, s_indexAddr, s_index, s_extract, s_binOp, s_binOp0, s_build, s_makeInterface, s_typeAssert]
    split
    · split
      · split
        · split
          · split
            · cases Instr.fill _ _ _ <;> rfl
            · rfl
          · split
            · cases Instr.fill _ _ _ <;> rfl
            · rfl
          · rfl
        · rfl
      · rfl
    · rfl
  | call c =>
    obtain ⟨callee, args, argTypes⟩ := c
    cases callee with
    | value f => simp [loudB] at hl
    | invoke r n => simp [loudB] at hl
    | builtin b =>
      cases b <;> first
        | (simp [loudB] at hl; done)
        | exact map_same _ _ _
        | (simp [readsB] at hr; done)
  | _ => first
    | (simp [loudB] at hl; done)
    | (simp [readsB] at hr; done)

theorem silent_mem {o : Oper} (hl : loudB P o = false) {ρ : Operand → Value} {m m' : Mem} {v : Value} (he : sop P H ρ o m = some (v, m')) : m' = m := by
  by_cases hr : readsB o = false
  · have := silent_eq (H := H) hl hr ρ m m
    rw [he] at this
    simp only [Option.map_some, Option.some.injEq, Prod.mk.injEq, true_and] at this
    exact this
  · obtain ⟨dst, op, type, pos, after, guard⟩ := o
    cases op with
    | load t x =>
      simp only [sop, s_load, s_slice, s_convert, s_lookup] at he
      split at he
      · split at he
        · cases he
        · split at he
          · split at he
            · simp only [Option.map_eq_some_iff, Prod.mk.injEq] at he
              obtain ⟨_, _, _, h⟩ := he
              exact h.symm
            · cases he
          · split at he
            · simp only [Option.some.injEq, Prod.mk.injEq] at he; exact he.2.symm
            · cases he
      · cases he
    | slice t x lo hi mx =>
      cases mx with
      | some z =>
        simp only [sop, s_slice, Option.map_eq_some_iff, Prod.mk.injEq] at he
        obtain ⟨_, _, _, h⟩ := he
        exact h.symm
      | none =>
        simp only [sop, s_load, s_slice, s_convert, s_lookup] at he
        split at he
        · split at he
          · split at he
            · split at he
              · split at he
                · simp only [Option.some.injEq, Prod.mk.injEq] at he; exact he.2.symm
                · cases he
              · split at he
                · simp only [Option.some.injEq, Prod.mk.injEq] at he; exact he.2.symm
                · cases he
            · cases he
          · cases he
        · split at he
          · simp only [Option.some.injEq, Prod.mk.injEq] at he; exact he.2.symm
          · cases he
        · split at he
          · split at he
            · simp only [Option.some.injEq, Prod.mk.injEq] at he; exact he.2.symm
            · cases he
          · cases he
        · split at he
          · split at he
            · simp only [Option.some.injEq, Prod.mk.injEq] at he; exact he.2.symm
            · cases he
          · cases he
        · simp only [Option.map_eq_some_iff, Prod.mk.injEq] at he
          obtain ⟨_, _, _, h⟩ := he
          exact h.symm
        · cases he
    | convert src dst x =>
      simp only [loudB] at hl
      simp only [sop, s_load, s_slice, s_convert, s_lookup] at he
      split at he
      · simp only [Option.some.injEq, Prod.mk.injEq] at he; exact he.2.symm
      · split at he
        · split at he
          · simp only [Option.some.injEq, Prod.mk.injEq] at he; exact he.2.symm
          · split at he
            · simp only [Option.map_eq_some_iff, Prod.mk.injEq] at he
              obtain ⟨_, _, _, h⟩ := he
              exact h.symm
            · cases he
        · cases he
      · rename_i hd _
        rw [hd] at hl
        simp at hl
      · split at he
        · split at he
          · simp only [Option.some.injEq, Prod.mk.injEq] at he; exact he.2.symm
          · cases he
        · cases he
      · split at he
        · split at he
          · simp only [Option.some.injEq, Prod.mk.injEq] at he; exact he.2.symm
          · cases he
        · cases he
      · simp only [Option.map_eq_some_iff, Prod.mk.injEq] at he
        obtain ⟨_, _, _, h⟩ := he
        exact h.symm
    | lookup t x y ok =>
      simp only [sop, s_load, s_slice, s_convert, s_lookup] at he
      split at he
      · split at he
        · simp only [Option.some.injEq, Prod.mk.injEq] at he; exact he.2.symm
        · split at he
          · split at he
            · split at he
              · simp only [Option.some.injEq, Prod.mk.injEq] at he; exact he.2.symm
              · cases he
            · cases he
          · cases he
        · cases he
      · cases he
    | call c =>
      obtain ⟨callee, args, argTypes⟩ := c
      cases callee with
      | value f => simp [loudB] at hl
      | invoke r n => simp [loudB] at hl
      | builtin b =>
        cases b <;> first
          | (simp [loudB] at hl; done)
          | (simp [readsB] at hr; done)
          | (simp only [sop, sopCall, c_len] at he
             split at he
             · split at he
               · simp only [Option.some.injEq, Prod.mk.injEq] at he; exact he.2.symm
               · simp only [Option.some.injEq, Prod.mk.injEq] at he; exact he.2.symm
               · split at he
                 · simp only [Option.some.injEq, Prod.mk.injEq] at he; exact he.2.symm
                 · cases he
               · simp only [Option.some.injEq, Prod.mk.injEq] at he; exact he.2.symm
               · cases he
             · cases he)
    | _ => simp [readsB] at hr

theorem silent1_eq {o : Oper} (hl : loudB P o = false) (hr : readsB o = false) (all : List Oper) (t : Tree Value) (m m2 : Mem) : sop1 P H all o t m2 = (sop1 P H all o t m).map fun p => (p.1, m2) := by
  unfold sop1
  split
  · exact silent_eq hl hr _ _ _
  · rfl

theorem silent1_mem {o : Oper} (hl : loudB P o = false) {all : List Oper} {t : Tree Value} {m m' : Mem} {v : Value} (he : sop1 P H all o t m = some (v, m')) : m' = m := by
  unfold sop1 at he
  split at he
  · exact silent_mem hl he
  · simp only [Option.some.injEq, Prod.mk.injEq] at he; exact he.2.symm

/- what stands ahead of what -/
def mask (o : Oper) (acc : List Nat) : Nat := o.after.toList.foldl (fun s e => if Region.binds .any e then s ||| 2 ^ e.on ||| acc.getD e.on 0 else s) 0

theorem mask_bit {acc : List Nat} : ∀ (es : List Edge) (s i : Nat), (es.foldl (fun s e => if Region.binds .any e then s ||| 2 ^ e.on ||| acc.getD e.on 0 else s) s).testBit i = true →
    s.testBit i = true ∨ ∃ e ∈ es, Region.binds .any e = true ∧ (i = e.on ∨ (acc.getD e.on 0).testBit i = true)
  | [], s, i, h => Or.inl h
  | e :: r, s, i, h => by
    simp only [List.foldl_cons] at h
    rcases mask_bit r _ i h with g | ⟨x, hx, g⟩
    · split at g
      · rename_i hb
        rw [Nat.testBit_or, Nat.testBit_or, Bool.or_eq_true, Bool.or_eq_true] at g
        rcases g with (g | g) | g
        · exact Or.inl g
        · rw [Nat.testBit_two_pow, decide_eq_true_eq] at g
          exact Or.inr ⟨e, by simp, hb, Or.inl g.symm⟩
        · exact Or.inr ⟨e, by simp, hb, Or.inr g⟩
      · exact Or.inl g
    · exact Or.inr ⟨x, by simp [hx], g⟩

theorem ancs_spec : ∀ (ops : List Oper) (acc : List Nat), (ancs ops acc).take acc.length = acc ∧ ∀ j o, ops[j]? = some o → (ancs ops acc).getD (acc.length + j) 0 = mask o ((ancs ops acc).take (acc.length + j))
  | [], acc => ⟨by simp [ancs], fun j o h => by simp at h⟩
  | x :: r, acc => by
    have hun : ancs (x :: r) acc = ancs r (acc ++ [mask x acc]) := rfl
    obtain ⟨h1, h2⟩ := ancs_spec r (acc ++ [mask x acc])
    rw [hun]
    simp only [List.length_append, List.length_singleton] at h1 h2
    have htk : (ancs r (acc ++ [mask x acc])).take acc.length = acc := by
      have := congrArg (List.take acc.length) h1
      rw [List.take_take, Nat.min_eq_left (by omega)] at this
      rw [this]
      simp
    refine ⟨htk, fun j o hj => ?_⟩
    cases j with
    | zero =>
      simp at hj
      subst hj
      rw [Nat.add_zero, htk]
      have hg : (ancs r (acc ++ [mask x acc]))[acc.length]? = (acc ++ [mask x acc])[acc.length]? := by
        conv => rhs; rw [← h1]
        rw [List.getElem?_take, if_pos (by omega)]
      rw [List.getD_eq_getElem?_getD, hg]
      simp
    | succ j =>
      simp at hj
      have := h2 j o hj
      rw [show acc.length + 1 + j = acc.length + (j + 1) by omega] at this
      exact this

theorem getD_take {l : List Nat} {k i : Nat} (h : i < k) : (l.take k).getD i 0 = l.getD i 0 := by
  simp only [List.getD_eq_getElem?_getD, List.getElem?_take, if_pos h]

/-- the bits of operation j: an edge's end, or a bit of it -/
theorem anc_bit {ops : List Oper} {j i : Nat} {o : Oper} (ho : ops[j]? = some o) (hback : ∀ e ∈ o.after.toList, Region.binds .any e = true → e.on < j) (h : ((ancs ops []).getD j 0).testBit i = true) :
    ∃ e ∈ o.after.toList, Region.binds .any e = true ∧ e.on < j ∧ (i = e.on ∨ ((ancs ops []).getD e.on 0).testBit i = true) := by
  have := (ancs_spec ops []).2 j o ho
  simp only [List.length_nil, Nat.zero_add] at this
  rw [this] at h
  rcases mask_bit _ _ _ h with g | ⟨e, he, hb, g⟩
  · simp at g
  · have hlt := hback e he hb
    refine ⟨e, he, hb, hlt, ?_⟩
    rw [getD_take hlt] at g
    exact g

/-- what is closed under the edges is closed under the bits -/
theorem anc_closed {ops : List Oper} (hback : ∀ j o, ops[j]? = some o → ∀ e ∈ o.after.toList, Region.binds .any e = true → e.on < j) {L : Nat → Prop}
    (hcl : ∀ j o, ops[j]? = some o → L j → ∀ e ∈ o.after.toList, Region.binds .any e = true → L e.on) :
    ∀ (j : Nat) (o : Oper), ops[j]? = some o → (∀ e ∈ o.after.toList, Region.binds .any e = true → L e.on) → ∀ i, ((ancs ops []).getD j 0).testBit i = true → L i := by
  intro j
  induction j using Nat.strongRecOn with
  | _ j ih =>
    intro o ho hd i hi
    obtain ⟨e, he, hb, hlt, g⟩ := anc_bit ho (hback j o ho) hi
    rcases g with rfl | g
    · exact hd e he hb
    · have hjl : j < ops.length := (List.getElem?_eq_some_iff.1 ho).1
      have hel : e.on < ops.length := by omega
      exact ih e.on hlt ops[e.on] (by simp [hel]) (hcl e.on _ (by simp [hel]) (hd e he hb)) i g
end Go.Sh

/- Regions that draw their order: the theorem. -/
namespace Go.Sh
open Go.RowKit
set_option linter.unusedVariables false
set_option linter.unusedSimpArgs false

mutual
theorem eqV_eq : ∀ (v w : Value), eqV v w = true → v = w
  | .bool a, w, h => by cases w <;> simp_all [eqV]
  | .int k a, w, h => by cases w <;> simp_all [eqV]
  | .float k a, w, h => by cases w <;> simp_all [eqV]
  | .complex k a b, w, h => by cases w <;> simp_all [eqV]
  | .string a, w, h => by
    cases w <;> first
      | (simp [eqV] at h; done)
      | (rename_i b
         simp only [eqV, beq_iff_eq] at h
         obtain ⟨a⟩ := a
         obtain ⟨b⟩ := b
         simp only at h
         rw [h])
  | .pointer a, w, h => by cases w <;> simp_all [eqV]
  | .slice a n c, w, h => by cases w <;> simp_all [eqV]
  | .map a, w, h => by cases w <;> simp_all [eqV]
  | .chan a, w, h => by cases w <;> simp_all [eqV]
  | .nilFunc, w, h => by cases w <;> simp_all [eqV]
  | .nilIface, w, h => by cases w <;> simp_all [eqV]
  | .func f a b, w, h => by
    cases w <;> cases f <;> first
      | (simp [eqV] at h; done)
      | (rename_i g c d; cases g <;> first
          | (simp [eqV] at h; done)
          | (simp only [eqV, Bool.and_eq_true, beq_iff_eq] at h
             rw [eqA_eq a _ h.1.2, eqA_eq b _ h.2, h.1.1]))
      | (rename_i g c d _; cases g <;> first
          | (simp [eqV] at h; done)
          | (simp only [eqV, Bool.and_eq_true, beq_iff_eq] at h
             rw [eqA_eq a _ h.1.2, eqA_eq b _ h.2, h.1.1]))
  | .iface t v, w, h => by
    cases w <;> first
      | (simp [eqV] at h; done)
      | (simp only [eqV, Bool.and_eq_true, beq_iff_eq] at h
         rw [eqV_eq v _ h.2, h.1])
  | .agg a, w, h => by
    cases w <;> first
      | (simp [eqV] at h; done)
      | (simp only [eqV] at h; rw [eqA_eq a _ h])
  | .tuple a, w, h => by
    cases w <;> first
      | (simp [eqV] at h; done)
      | (simp only [eqV] at h; rw [eqA_eq a _ h])
theorem eqA_eq : ∀ (a b : Array Value), eqA a b = true → a = b
  | ⟨l⟩, ⟨r⟩, h => by
    simp only [eqA] at h
    rw [eqL_eq l r h]
theorem eqL_eq : ∀ (a b : List Value), eqL a b = true → a = b
  | [], b, h => by cases b <;> simp_all [eqL]
  | x :: r, b, h => by
    cases b with
    | nil => simp [eqL] at h
    | cons y s =>
      simp only [eqL, Bool.and_eq_true] at h
      rw [eqV_eq x y h.1, eqL_eq r s h.2]
end

variable {P : Program} {H : CallH} {B : Frame} {W : World}

/-- the states: how one leads to the next -/
theorem states_spec {all : List Oper} : ∀ (rest : List Oper) (t : Tree Value) (m : Mem) (S : List (Tree Value × Mem)), states P H all rest t m = some S →
    S.length = rest.length + 1 ∧ S[0]? = some (t, m) ∧ ∀ i o, rest[i]? = some o → ∃ ti mi v m1, S[i]? = some (ti, mi) ∧ sop1 P H all o ti mi = some (v, m1) ∧ S[i + 1]? = some (put ti o.dst v, m1)
  | [], t, m, S, h => by
    simp only [states, Option.some.injEq] at h
    subst h
    exact ⟨rfl, rfl, fun i o h => by simp at h⟩
  | x :: r, t, m, S, h => by
    simp only [states] at h
    split at h
    · rename_i v m' h1
      split at h
      · rename_i l hl
        simp only [Option.some.injEq] at h
        subst h
        obtain ⟨g1, g2, g3⟩ := states_spec r _ _ l hl
        refine ⟨by simp [g1], rfl, fun i o hi => ?_⟩
        cases i with
        | zero =>
          simp at hi
          subst hi
          exact ⟨t, m, v, m', rfl, h1, by simpa using g2⟩
        | succ i =>
          simp at hi
          obtain ⟨ti, mi, v', m1, q1, q2, q3⟩ := g3 i o hi
          exact ⟨ti, mi, v', m1, by simpa using q1, q2, by simpa using q3⟩
      · cases h
    · cases h

/-- a slot that no operation from i to k writes -/
theorem slot_kept {ops : List Oper} {S : List (Tree Value × Mem)} (hS : ∀ i o, ops[i]? = some o → ∃ ti mi v m1, S[i]? = some (ti, mi) ∧ sop1 P H ops o ti mi = some (v, m1) ∧ S[i + 1]? = some (put ti o.dst v, m1))
    {d : Nat} : ∀ (n i : Nat), i + n ≤ ops.length → (∀ x, i ≤ x → x < i + n → ∀ o, ops[x]? = some o → o.dst ≠ some d) → ∀ ti mi tk mk, S[i]? = some (ti, mi) → S[i + n]? = some (tk, mk) → tk.get d = ti.get d
  | 0, i, _, _, ti, mi, tk, mk, h1, h2 => by
    rw [Nat.add_zero, h1] at h2
    simp only [Option.some.injEq, Prod.mk.injEq] at h2
    rw [h2.1]
  | n + 1, i, hle, hno, ti, mi, tk, mk, h1, h2 => by
    have hlt : i + n < ops.length := by omega
    obtain ⟨tj, mj, v, m1, q1, _, q3⟩ := hS (i + n) ops[i + n] (by simp [hlt])
    rw [show i + (n + 1) = i + n + 1 by omega, q3] at h2
    simp only [Option.some.injEq, Prod.mk.injEq] at h2
    have hd := hno (i + n) (by omega) (by omega) ops[i + n] (by simp [hlt])
    have ih := slot_kept hS n i (by omega) (fun x hx1 hx2 => hno x hx1 (by omega)) ti mi tj mj h1 q1
    rw [← h2.1, ← ih]
    cases hdst : ops[i + n].dst with
    | none => rfl
    | some d' =>
      rw [hdst] at hd
      exact Tree.get_set_ne _ _ (fun e => hd (by rw [e]))

/-- a stretch without a loud operation leaves the memory -/
theorem mem_kept {ops : List Oper} {S : List (Tree Value × Mem)} (hS : ∀ i o, ops[i]? = some o → ∃ ti mi v m1, S[i]? = some (ti, mi) ∧ sop1 P H ops o ti mi = some (v, m1) ∧ S[i + 1]? = some (put ti o.dst v, m1)) :
    ∀ (n i : Nat), i + n ≤ ops.length → (∀ x, i ≤ x → x < i + n → ∀ o, ops[x]? = some o → loudB P o = false) → ∀ ti mi tk mk, S[i]? = some (ti, mi) → S[i + n]? = some (tk, mk) → mk = mi
  | 0, i, _, _, ti, mi, tk, mk, h1, h2 => by
    rw [Nat.add_zero, h1] at h2
    simp only [Option.some.injEq, Prod.mk.injEq] at h2
    exact h2.2.symm
  | n + 1, i, hle, hno, ti, mi, tk, mk, h1, h2 => by
    have hlt : i + n < ops.length := by omega
    obtain ⟨tj, mj, v, m1, q1, q2, q3⟩ := hS (i + n) ops[i + n] (by simp [hlt])
    rw [show i + (n + 1) = i + n + 1 by omega, q3] at h2
    simp only [Option.some.injEq, Prod.mk.injEq] at h2
    have ih := mem_kept hS n i (by omega) (fun x hx1 hx2 => hno x hx1 (by omega)) ti mi tj mj h1 q1
    rw [← h2.2, ← ih]
    exact silent1_mem (hno (i + n) (by omega) (by omega) ops[i + n] (by simp [hlt])) q2

def loudAt (P : Program) (ops : List Oper) (i : Nat) : Bool := (ops[i]?).any (loudB P)

/-- the first loud operation that has not been carried out -/
def Front (P : Program) (ops : List Oper) (L : Nat → Prop) (p : Nat) : Prop :=
  p ≤ ops.length ∧ (∀ k, k < p → loudAt P ops k = true → L k) ∧ (p < ops.length → loudAt P ops p = true ∧ ¬ L p)

theorem front_exists (ops : List Oper) (L : Nat → Prop) : ∃ p, Front P ops L p := by
  by_cases h : ∃ p, p < ops.length ∧ loudAt P ops p = true ∧ ¬ L p
  · obtain ⟨p, hp⟩ := h
    induction p using Nat.strongRecOn with
    | _ p ih =>
      by_cases g : ∃ q, q < p ∧ loudAt P ops q = true ∧ ¬ L q
      · obtain ⟨q, q1, q2, q3⟩ := g
        exact ih q q1 ⟨by omega, q2, q3⟩
      · refine ⟨p, by omega, fun k hk hl => ?_, fun _ => hp.2⟩
        exact Classical.byContradiction fun hn => g ⟨k, hk, hl, hn⟩
  · refine ⟨ops.length, Nat.le_refl _, fun k hk hl => ?_, fun hlt => absurd hlt (by omega)⟩
    exact Classical.byContradiction fun hn => h ⟨k, hk, hl, hn⟩

/-- the static facts, in words -/
structure Static (P : Program) (ops : List Oper) : Prop where
  back : ∀ j o, ops[j]? = some o → ∀ e ∈ o.after.toList, Region.binds .any e = true → e.on < j
  wr : ∀ i j x y d, i < j → ops[i]? = some x → ops[j]? = some y → x.dst = some d → (d ∈ namesOf ops y ∨ y.dst = some d) → ((ancs ops []).getD j 0).testBit i = true
  rd : ∀ i j x y d, i < j → ops[i]? = some x → ops[j]? = some y → y.dst = some d → d ∈ namesOf ops x → ((ancs ops []).getD j 0).testBit i = true
  loud : ∀ i j x y, i < j → ops[i]? = some x → ops[j]? = some y → loudB P x = true → loudB P y = true → floatB y = false → ((ancs ops []).getD j 0).testBit i = true
  fl : ∀ i j x y d, i < j → ops[i]? = some x → ops[j]? = some y → x.dst = some d → (d ∈ namesOf ops y ∨ y.dst = some d) → floatB x = true → (loudB P y = false ∨ floatB y = true) → ¬ (j = i + 1 ∧ cvB P ops j = true) →
    ∀ k, k < i → loudAt P ops k = true → ((ancs ops []).getD j 0).testBit k = true

theorem static_of {ops : List Oper} (h : drawOk0 P ops = true) : Static P ops := by
  unfold drawOk0 at h
  simp only [Bool.and_eq_true] at h
  obtain ⟨⟨h1, h2⟩, _⟩ := h
  have hback : ∀ j o, ops[j]? = some o → ∀ e ∈ o.after.toList, Region.binds .any e = true → e.on < j := by
    intro j o ho e he hb
    have hm : (o, j) ∈ ops.zipIdx := by
      rw [List.mem_zipIdx_iff_getElem?]; exact ho
    have := List.all_eq_true.1 h2 _ hm
    simp only at this
    have := Array.all_eq_true'.1 this e (by simpa using he)
    simpa [hb] using this
  have hpair : ∀ i j, i < j → j < ops.length → pairOk P ops (ancs ops []) i j = true := by
    intro i j hij hj
    unfold ordOk at h1
    have := List.all_eq_true.1 h1 j (by simpa using hj)
    exact List.all_eq_true.1 this i (by simpa using hij)
  have hlen : ∀ j o, ops[j]? = some o → j < ops.length := fun j o ho => (List.getElem?_eq_some_iff.1 ho).1
  have htouch : ∀ {d : Nat} {y : Oper}, (d ∈ namesOf ops y ∨ y.dst = some d) → ((namesOf ops y).contains d || y.dst == some d) = true := by
    intro d y h
    rw [Bool.or_eq_true]
    rcases h with h | h
    · exact Or.inl (by simpa using h)
    · exact Or.inr (by simpa using h)
  refine ⟨hback, ?_, ?_, ?_, ?_⟩
  · intro i j x y d hij hx hy hd hn
    have := hpair i j hij (hlen j y hy)
    unfold pairOk at this
    simp only [hx, hy, hd, Bool.and_eq_true] at this
    have := this.1.1.1
    rw [htouch hn] at this
    simpa using this
  · intro i j x y d hij hx hy hd hn
    have := hpair i j hij (hlen j y hy)
    unfold pairOk at this
    simp only [hx, hy, hd, Bool.and_eq_true] at this
    have := this.1.2
    rw [Bool.or_eq_true] at this
    rcases this with g | g
    · have : (namesOf ops x).contains d = true := by simpa using hn
      rw [this] at g; simp at g
    · exact g
  · intro i j x y hij hx hy h3 h4 h5
    have := hpair i j hij (hlen j y hy)
    unfold pairOk at this
    simp only [hx, hy, Bool.and_eq_true] at this
    have := this.2
    rw [Bool.or_eq_true] at this
    rcases this with g | g
    · simp [h3, h4, h5] at g
    · exact g
  · intro i j x y d hij hx hy hd hn hf hs hnc k hk hl
    have := hpair i j hij (hlen j y hy)
    unfold pairOk at this
    simp only [hx, hy, hd, Bool.and_eq_true] at this
    have := this.1.1.2
    have hnc' : (j == i + 1 && cvB P ops j) = false := by
      cases h : (j == i + 1 && cvB P ops j) with
      | false => rfl
      | true => rw [Bool.and_eq_true] at h; exact absurd ⟨by simpa using h.1, h.2⟩ hnc
    rw [htouch hn, hf, hnc'] at this
    have hs' : (loudB P y && !floatB y) = false := by rcases hs with hs | hs <;> simp [hs]
    rw [hs'] at this
    simp only [Bool.not_true, Bool.false_or, Bool.or_false] at this
    have := List.all_eq_true.1 this k (by simpa using hk)
    unfold loudAt at hl
    rw [hl] at this
    simpa using this
theorem cvB_spec {ops : List Oper} {j : Nat} {y : Oper} (h : cvB P ops j = true) (hy : ops[j]? = some y) : ∃ i x d a b el, j = i + 1 ∧ ops[i]? = some x ∧ x.dst = some d ∧ y.op = .convert a b (.tmp d) ∧ y.guard = none ∧ floatB x = true ∧ y.dst ≠ some d ∧ (∃ t n ps, x.op = .buildSlice t n ps) ∧ P.underlying b = some .string ∧ P.underlying a = some (.slice el) ∧ P.underlying el = some (.int .u8) := by
  cases j with
  | zero => simp [cvB] at h
  | succ i =>
    unfold cvB at h
    simp only [hy] at h
    split at h
    · rename_i x y' hx hy'
      simp only [Option.some.injEq] at hy'
      subst hy'
      split at h
      · rename_i d a b e hd hop
        simp only [Bool.and_eq_true, beq_iff_eq, Option.isNone_iff_eq_none, Bool.not_eq_true', beq_eq_false_iff_ne] at h
        obtain ⟨⟨⟨⟨⟨⟨rfl, h2⟩, h3⟩, h4⟩, h5⟩, h6⟩, h7⟩ := h
        split at h5
        · rename_i t n ps hxo
          split at h6
          · rename_i hb
            split at h7
            · rename_i el ha
              split at h7
              · rename_i hel
                exact ⟨i, x, e, a, b, el, rfl, hx, hd, hop, h2, h3, h4, ⟨t, n, ps, hxo⟩, hb, ha, hel⟩
              · cases h7
            · cases h7
          · cases h6
        · cases h5
      · cases h
    · cases h
end Go.Sh

/- Operations that float: what they lay hangs on their operands alone. -/
namespace Go.Sh
open Go.RowKit
set_option linter.unusedVariables false
set_option linter.unusedSimpArgs false

variable {P : Program} {H : CallH} {J : Inj} {m m' : Mem} {o : Oper} {a : Act} {v : Value} {ρ : Operand → Value}

theorem float_yields (hf : floatB o = true) (he : sop P H ρ o m = some (v, m')) (hρ : ∀ x ∈ o.op.operands, VRel J (ρ x) (a.eval x)) (w : World) :
    ∃ mk cells e, v = mk m.next ∧ m' = m.new cells e ∧ YFloat P J o a w mk cells e := by
  unfold floatB at hf
  rw [Bool.and_eq_true] at hf
  have hf2 := hf.2
  cases hop : o.op with
  | alloc e =>
    simp only [sop, hop] at he
    unfold s_alloc at he
    split at he
    · rename_i i hi
      split at he
      · rename_i z hz
        split at he
        · rename_i hc
          simp only [Option.some.injEq, Prod.mk.injEq] at he
          obtain ⟨rfl, rfl⟩ := he
          exact ⟨_, _, _, rfl, rfl, yf_alloc J w hop hi hz hc⟩
        · cases he
      · cases he
    · cases he
  | box e x =>
    simp only [sop, hop] at he
    unfold s_box at he
    split at he
    · rename_i i hi
      simp only [Option.some.injEq, Prod.mk.injEq] at he
      obtain ⟨rfl, rfl⟩ := he
      exact ⟨_, _, _, rfl, rfl, yf_box w hop hi (hρ x (by simp [hop, Op.operands]))⟩
    · cases he
  | buildSlice t len parts =>
    simp only [sop, hop] at he
    unfold s_buildSlice at he
    have hp : ∀ p ∈ parts, VRel J (ρ p.2) (a.eval p.2) := fun p hp => hρ p.2 (by simp only [hop, Op.operands]; simp; exact ⟨p.1, by simpa using hp⟩)
    split at he
    · rename_i e hu
      split at he
      · rename_i i hi
        split at he
        · rename_i z hz
          split at he
          · rename_i hc
            simp only [Bool.and_eq_true, decide_eq_true_eq, beq_iff_eq] at hc
            split at he
            · rename_i cells hfl
              simp only [Option.some.injEq, Prod.mk.injEq] at he
              obtain ⟨rfl, rfl⟩ := he
              exact ⟨_, _, _, rfl, rfl, yf_buildSlice w hop hp hu hi hz hc.1.1.1 hc.1.1.2 hc.1.2 hc.2 hfl⟩
            · cases he
          · cases he
        · cases he
      · cases he
    · cases he
  | makeSlice t l c =>
    simp only [sop, hop] at he
    unfold s_makeSlice at he
    split at he
    · rename_i e hu
      split at he
      · rename_i i ln cp hi hl hc
        split at he
        · rename_i z hz
          split at he
          · rename_i hcnd
            simp only [Bool.and_eq_true, decide_eq_true_eq] at hcnd
            simp only [Option.some.injEq, Prod.mk.injEq] at he
            obtain ⟨rfl, rfl⟩ := he
            exact ⟨_, _, _, rfl, rfl, yf_makeSlice w hop (hρ l (by simp [hop, Op.operands])) (hρ c (by simp [hop, Op.operands])) hl hc hu hi hz hcnd.1.1 hcnd.1.2 hcnd.2⟩
          · cases he
        · cases he
      · cases he
    · cases he
  | _ => simp [hop] at hf2
end Go.Sh

/- Regions that draw their order: the theorem. -/
namespace Go.Sh
open Go.RowKit
set_option linter.unusedVariables false
set_option linter.unusedSimpArgs false

variable {P : Program} {H : CallH} {B : Frame} {W : World}

theorem countP_lt {α : Type} {p q : α → Bool} : ∀ (l : List α), (∀ x ∈ l, q x = true → p x = true) → (∃ x ∈ l, p x = true ∧ q x = false) → l.countP q < l.countP p
  | [], _, ⟨x, hx, _⟩ => by simp at hx
  | y :: r, h, ⟨x, hx, h1, h2⟩ => by
    have hle : r.countP q ≤ r.countP p := List.countP_mono_left fun z hz => h z (by simp [hz])
    rw [List.countP_cons, List.countP_cons]
    rcases List.mem_cons.1 hx with rfl | hx
    · simp [h1, h2]; omega
    · have := countP_lt r (fun z hz => h z (by simp [hz])) ⟨x, hx, h1, h2⟩
      by_cases g : q y = true
      · simp [g, h y (by simp) g]; omega
      · simp [g]; split <;> omega

theorem mem_names_tmp {ops : List Oper} {o : Oper} {d : Nat} (h : Operand.tmp d ∈ o.op.operands) : d ∈ namesOf ops o := by
  unfold namesOf
  rw [List.mem_append]
  exact Or.inl (List.mem_filterMap.2 ⟨.tmp d, by simpa using h, rfl⟩)

theorem mem_names_guard {ops : List Oper} {o : Oper} {g : Nat} {want : Bool} {d : Nat} (hg : o.guard = some (g, want)) (h : (ops[g]?).bind (·.dst) = some d) : d ∈ namesOf ops o := by
  unfold namesOf
  rw [List.mem_append, hg]
  simp only [h]
  exact Or.inr (by simp)

variable {J : Inj} {m m' : Mem} {w w' : World} {t t' : Tree Value} {a : Act}

/-- the operation's slots are related -/
def SOn (J : Inj) (ops : List Oper) (o : Oper) (t : Tree Value) (a : Act) : Prop := ∀ d, d < a.tmps.size → d ∈ namesOf ops o → VRel J ((t.get d).getD undef) (a.tmps.getD d undef)

theorem oper_rel_on (hg : GOk P J) {ops : List Oper} {o : Oper} (r : SOn J ops o t a) (h : operOk P.globals.size a.tmps.size o = true) : ∀ x ∈ o.op.operands, VRel J (ev t x) (a.eval x) := by
  intro x hx
  simp only [operOk, Bool.and_eq_true] at h
  have := Array.all_eq_true'.1 h.1 x hx
  cases x with
  | tmp i => simp only [opdOk, decide_eq_true_eq] at this; exact r i this (mem_names_tmp hx)
  | const v => exact .clo _ this
  | global g => simp only [opdOk, decide_eq_true_eq] at this; exact glob_rel hg this
  | func f => exact .clo _ rfl

theorem wanted_rel_on {ops : Array Oper} {o : Oper} (r : SOn J ops.toList o t a) (hops : ∀ x ∈ ops.toList, operOk P.globals.size a.tmps.size x = true) : Region.wanted o (yielded ops a.tmps) = swanted ops.toList t o := by
  unfold Region.wanted swanted
  cases hg : o.guard with
  | none => rfl
  | some g =>
    obtain ⟨j, want⟩ := g
    simp only
    congr 1
    unfold yielded syield
    simp only [Array.getElem?_toList]
    cases hj : ops[j]? with
    | none => rfl
    | some oj =>
      simp only [Option.bind_some]
      cases hd : oj.dst with
      | none => rfl
      | some d =>
        simp only [Option.bind_some]
        have hlt := oper_dst (hops oj (by simpa using Array.mem_of_getElem? hj)) d hd
        have hr := r d hlt (mem_names_guard hg (by simp [hj, hd]))
        have ha : a.tmps[d]? = some (a.tmps.getD d undef) := by simp [hlt]
        rw [ha]
        generalize a.tmps.getD d undef = y at hr
        cases ht : t.get d with
        | none =>
          rw [ht] at hr
          have := hr.closed_eq rfl
          simp only [Option.getD_none] at this
          rw [this]
          rfl
        | some x =>
          rw [ht] at hr
          simp only [Option.getD_some] at hr
          cases hr with
          | clo _ _ => rfl
          | _ => rfl

theorem sop1_wp_on (hH : HSound P B W H) (h : MRel P J m B W w) {ops : Array Oper} {i : Nat} {o : Oper} (r : SOn J ops.toList o t a) (hops : ∀ x ∈ ops.toList, operOk P.globals.size a.tmps.size x = true) (hi : ops[i]? = some o) {v : Value}
    (he : sop1 P H ops.toList o t m = some (v, m')) {K : Act → World → Prop} {Q : Exit → Act → World → Prop}
    (hn : ∀ J' v' w', J.le J' → VRel J' v v' → MRel P J' m' B W w' → K (a.put o.dst v') w') : wpOp P ops Q i K a w := by
  have ho := hops o (by simpa using Array.mem_of_getElem? hi)
  unfold sop1 at he
  unfold wpOp
  simp only [hi]
  rw [wanted_rel_on r hops]
  split at he
  · rename_i hw
    rw [if_pos hw]
    exact Or.inl (sop_wp hH h (oper_rel_on h.glob r ho) he hn)
  · rename_i hw
    rw [if_neg hw]
    simp only [Option.some.injEq, Prod.mk.injEq] at he
    obtain ⟨rfl, rfl⟩ := he
    exact hn J undef w (.rfl J) (.undef J) h

def lst (listed : Array Bool) (i : Nat) : Prop := listed.getD i false = true

theorem lst_set {listed : Array Bool} {i j : Nat} (hj : j < listed.size) : lst (listed.setIfInBounds j true) i ↔ (i = j ∨ lst listed i) := by
  unfold lst
  by_cases e : i = j
  · subst e; simp [hj]
  · have hne : j ≠ i := fun h => e h.symm
    simp [Array.getElem?_setIfInBounds_ne hne, e]

/-- a loud operation from place p on that has been carried out: one that floats -/
def Pq (P : Program) (ops : List Oper) (L : Nat → Prop) (p q : Nat) : Prop := p ≤ q ∧ loudAt P ops q = true ∧ L q

/-- what is known of it -/
structure Pend (P : Program) (J : Inj) (S : List (Tree Value × Mem)) (ops : List Oper) (L : Nat → Prop) (nt : Nat) (a : Act) (w : World) (b : Nat) (q : Nat) (o : Oper) : Prop where
  fl : floatB o = true
  lt : b < w.heap.size
  ex : ∃ tq mq, ∃ mk : Nat → Value, ∃ cells e i ex, S[q]? = some (tq, mq) ∧ S[q + 1]? = some (put tq o.dst (mk mq.next), mq.new cells e) ∧ P.info? e = some i ∧ cells.length ≤ ex ∧
    (∀ k, k < ex → (w.cell? ⟨b, k, none⟩).isSome = true ∧ w.frozen? ⟨b, k, none⟩ = false) ∧
    (∀ k v, cells[k]? = some v → ∃ v', w.cell? ⟨b, k, none⟩ = some v' ∧ VRel J v v') ∧
    (∀ d, o.dst = some d → d < nt → ∀ K : Inj, K.n = mq.next → VRel (K.snoc b 0 ex i.size) (mk mq.next) (a.tmps.getD d undef)) ∧ (∃ n, w.shape? b = some (e, n))
  nw : ∀ d s os, o.dst = some d → q < s → ops[s]? = some os → os.dst = some d → ¬ L s

theorem Pend.keep {S : List (Tree Value × Mem)} {ops : List Oper} {L L' : Nat → Prop} {nt : Nat} {b q : Nat} {o : Oper} {J' : Inj} {a' : Act} (h : Pend P J S ops L nt a w b q o) (hJ : J.le J') (hw : w'.heap[b]? = w.heap[b]?)
    (ha : ∀ d, o.dst = some d → a'.tmps.getD d undef = a.tmps.getD d undef) (hL : ∀ d s os, o.dst = some d → q < s → ops[s]? = some os → os.dst = some d → L' s → L s) : Pend P J' S ops L' nt a' w' b q o := by
  obtain ⟨h1, h2, ⟨tq, mq, mk, cells, e, i, ex, g1, g2, g3, g4, g5, g6, g7, g8⟩, h4⟩ := h
  have hc : ∀ k, w'.cell? ⟨b, k, none⟩ = w.cell? ⟨b, k, none⟩ := fun k => World.cell?_of_block (a := ⟨b, k, none⟩) hw
  have hf : ∀ k, w'.frozen? ⟨b, k, none⟩ = w.frozen? ⟨b, k, none⟩ := fun k => World.frozen?_of_block (a := ⟨b, k, none⟩) hw
  refine ⟨h1, ?_, ⟨tq, mq, mk, cells, e, i, ex, g1, g2, g3, g4, ?_, ?_, ?_, by rw [shape_of_block hw]; exact g8⟩, ?_⟩
  · have : (w.heap[b]?).isSome = true := by simp [h2]
    rw [← hw] at this
    simpa using this
  · intro k hk; rw [hc, hf]; exact g5 k hk
  · intro k v hv
    obtain ⟨v', q1, q2⟩ := g6 k v hv
    exact ⟨v', by rw [hc]; exact q1, q2.mono hJ⟩
  · intro d hd hnt K hK
    rw [ha d hd]
    exact g7 d hd hnt K hK
  · intro d s os hd hs hos hosd hl
    exact h4 d s os hd hs hos hosd (hL d s os hd hs hos hosd hl)

/-- THE STATE, the memory reckoned up to place p -/
structure DAt (P : Program) (B : Frame) (W : World) (ops : List Oper) (S : List (Tree Value × Mem)) (nt : Nat) (J0 : Inj) (L : Nat → Prop) (a : Act) (w : World) (J : Inj) (p : Nat) (tp : Tree Value) (mp : Mem) (pb : Nat → Nat) : Prop where
  le : J0.le J
  ple : p ≤ ops.length
  up : ∀ k, k < p → loudAt P ops k = true → L k
  st : S[p]? = some (tp, mp)
  rel : MRel P J mp (B.add fun k => ∃ q, Pq P ops L p q ∧ pb q = k) w w
  fr : BelowP B.F W w
  pend : ∀ q o, Pq P ops L p q → ops[q]? = some o → Pend P J S ops L nt a w (pb q) q o
  inj : ∀ q q', Pq P ops L p q → Pq P ops L p q' → pb q = pb q' → q = q'
  nF : ∀ q, Pq P ops L p q → ¬ B.F (pb q)
  slots : ∀ d, d < nt → (∀ q o, Pq P ops L p q → ops[q]? = some o → o.dst ≠ some d) → ∀ i ti mi, S[i]? = some (ti, mi) → (∀ x o, ops[x]? = some o → o.dst = some d → (L x ↔ x < i)) → VRel J ((ti.get d).getD undef) (a.tmps.getD d undef)

variable {ops : List Oper} {S : List (Tree Value × Mem)} {nt : Nat} {J0 : Inj} {L : Nat → Prop} {p : Nat} {tp : Tree Value} {mp : Mem} {pb : Nat → Nat}

theorem DAt.advance (hlen : S.length = ops.length + 1) (hS : ∀ i o, ops[i]? = some o → ∃ ti mi v m1, S[i]? = some (ti, mi) ∧ sop1 P H ops o ti mi = some (v, m1) ∧ S[i + 1]? = some (put ti o.dst v, m1))
    (D : DAt P B W ops S nt J0 L a w J p tp mp pb) (hp : p < ops.length) (hl : loudAt P ops p = true → L p) : ∃ J' tp' mp', DAt P B W ops S nt J0 L a w J' (p + 1) tp' mp' pb := by
  have ho : ops[p]? = some ops[p] := by simp [hp]
  generalize ops[p] = o at ho
  obtain ⟨tj, mj, v, m1, q1, q2, q3⟩ := hS p o ho
  have hst := D.st
  rw [q1] at hst
  simp only [Option.some.injEq, Prod.mk.injEq] at hst
  obtain ⟨rfl, rfl⟩ := hst
  by_cases hloud : loudAt P ops p = true
  · have hPp : Pq P ops L p p := ⟨Nat.le_refl _, hloud, hl hloud⟩
    obtain ⟨h1, h2, ⟨tq, mq, mk, cells, e, i, ex, g1, g2, g3, g4, g5, g6, g7, g8⟩, h4⟩ := D.pend p o hPp ho
    rw [q1] at g1
    simp only [Option.some.injEq, Prod.mk.injEq] at g1
    obtain ⟨rfl, rfl⟩ := g1
    have hle : ∀ q, Pq P ops L (p + 1) q → Pq P ops L p q := fun q hq => ⟨by have := hq.1; omega, hq.2⟩
    have hJ := J.le_snoc (pb p) 0 ex i.size
    refine ⟨J.snoc (pb p) 0 ex i.size, _, _, ⟨D.le.trans hJ, hp, fun k hk hlk => ?_, g2, ?_, D.fr, fun q oq hq hoq => ?_, fun q q' hq hq' => D.inj q q' (hle q hq) (hle q' hq'), fun q hq => D.nF q (hle q hq), ?_⟩⟩
    · rcases Nat.lt_or_ge k p with g | g
      · exact D.up k g hlk
      · have : k = p := by omega
        subst this; exact hl hlk
    · have hless : MRel P J mj (B.add fun k => ∃ q, Pq P ops L (p + 1) q ∧ pb q = k) w w :=
        D.rel.less (fun k hk => hk.imp id fun ⟨q, hq, e⟩ => ⟨q, hle q hq, e⟩) (fun k hk => hk.imp id fun ⟨q, hq, e⟩ => ⟨q, hle q hq, e⟩) (.refl _ _)
      refine hless.adopt cells e i g3 (pb p) ex g4 h2 ?_ (fun l b hlb he => ?_) (fun l s hls he => ?_) g5 g6 g8
      · rintro (hk | ⟨q, hq, he⟩)
        · exact D.nF p hPp hk
        · have := D.inj q p (hle q hq) hPp he
          have := hq.1; omega
      · exact D.rel.nr l b hlb (Or.inr ⟨p, hPp, he.symm⟩)
      · exact (D.rel.mp l s hls).2.1 (Or.inr ⟨p, hPp, he.symm⟩)
    · exact (D.pend q oq (hle q hq) hoq).keep hJ rfl (fun _ _ => rfl) (fun _ _ _ _ _ _ _ h => h)
    · intro d hd hnp ix ti mi hi hcut
      by_cases hdj : o.dst = some d
      · have hpi : p < ix := (hcut p o ho hdj).1 (hl hloud)
        have hle' : ix ≤ ops.length := by have := (List.getElem?_eq_some_iff.1 hi).1; omega
        have hkeep : ti.get d = (put tj o.dst (mk mj.next)).get d := by
          refine slot_kept hS (ix - (p + 1)) (p + 1) (by omega) (fun x hx1 hx2 ox hox hdx => ?_) _ _ _ _ g2 (by rw [show p + 1 + (ix - (p + 1)) = ix by omega]; exact hi)
          exact h4 d x ox hdj (by omega) hox hdx ((hcut x ox hox hdx).2 (by omega))
        rw [hkeep, hdj]
        simp only [put, Tree.get_set_self, Option.getD_some]
        exact g7 d hdj hd J D.rel.n
      · refine (D.slots d hd (fun q oq hq hoq hdq => ?_) ix ti mi hi hcut).mono hJ
        rcases Nat.lt_or_ge p q with g | g
        · exact hnp q oq ⟨by omega, hq.2⟩ hoq hdq
        · have : q = p := by have := hq.1; omega
          subst this
          rw [ho] at hoq
          simp only [Option.some.injEq] at hoq
          subst hoq
          exact hdj hdq
  · have hno : loudB P o = false := by
      unfold loudAt at hloud
      rw [ho] at hloud
      simpa using hloud
    have hm := silent1_mem hno q2
    subst hm
    have heq : ∀ q, Pq P ops L (p + 1) q ↔ Pq P ops L p q := fun q => by
      constructor
      · exact fun hq => ⟨by have := hq.1; omega, hq.2⟩
      · intro hq
        refine ⟨?_, hq.2⟩
        rcases Nat.lt_or_ge p q with g | g
        · omega
        · have : q = p := by have := hq.1; omega
          subst this
          exact absurd hq.2.1 hloud
    refine ⟨J, _, _, ⟨D.le, hp, fun k hk hlk => ?_, q3, ?_, D.fr, fun q oq hq => D.pend q oq ((heq q).1 hq), fun q q' hq hq' => D.inj q q' ((heq q).1 hq) ((heq q').1 hq'), fun q hq => D.nF q ((heq q).1 hq), fun d hd hnp => D.slots d hd fun q oq hq => hnp q oq ((heq q).2 hq)⟩⟩
    · rcases Nat.lt_or_ge k p with g | g
      · exact D.up k g hlk
      · have : k = p := by omega
        subst this; exact hl hlk
    · exact D.rel.less (fun k hk => hk.imp id fun ⟨q, hq, e⟩ => ⟨q, (heq q).1 hq, e⟩) (fun k hk => hk.imp id fun ⟨q, hq, e⟩ => ⟨q, (heq q).1 hq, e⟩) (.refl _ _)

/-- the state at the first loud operation that has not been carried out -/
theorem DAt.front (hlen : S.length = ops.length + 1) (hS : ∀ i o, ops[i]? = some o → ∃ ti mi v m1, S[i]? = some (ti, mi) ∧ sop1 P H ops o ti mi = some (v, m1) ∧ S[i + 1]? = some (put ti o.dst v, m1)) :
    ∀ (n p : Nat) (J : Inj) (tp : Tree Value) (mp : Mem), ops.length - p ≤ n → DAt P B W ops S nt J0 L a w J p tp mp pb →
      ∃ J' p' tp' mp', DAt P B W ops S nt J0 L a w J' p' tp' mp' pb ∧ (p' < ops.length → loudAt P ops p' = true ∧ ¬ L p') := by
  intro n
  induction n with
  | zero =>
    intro p J tp mp hn D
    exact ⟨J, p, tp, mp, D, fun h => by omega⟩
  | succ n ih =>
    intro p J tp mp hn D
    by_cases hp : p < ops.length
    · by_cases hf : loudAt P ops p = true ∧ ¬ L p
      · exact ⟨J, p, tp, mp, D, fun _ => hf⟩
      · obtain ⟨J', tp', mp', D'⟩ := D.advance hlen hS hp fun hl => Classical.byContradiction fun h => hf ⟨hl, h⟩
        exact ih (p + 1) J' tp' mp' (by omega) D'
    · exact ⟨J, p, tp, mp, D, fun h => absurd h hp⟩

structure DInv (P : Program) (B : Frame) (W : World) (ops : Array Oper) (S : List (Tree Value × Mem)) (nt : Nat) (ds : List Deferred) (J0 : Inj) (listed : Array Bool) (a : Act) (w : World) : Prop where
  sz : listed.size = ops.size
  ntm : a.tmps.size = nt
  dfs : a.defers = ds
  cl : ∀ j o, ops.toList[j]? = some o → lst listed j → ∀ e ∈ o.after.toList, Region.binds .any e = true → lst listed e.on
  rel : ∃ J p tp mp pb, DAt P B W ops.toList S nt J0 (lst listed) a w J p tp mp pb

theorem drawn_step (hH : ∀ B W, HSound P B W H) {ops : Array Oper} {S : List (Tree Value × Mem)} {nt : Nat} {ds : List Deferred} {J0 : Inj} (hst : Static P ops.toList) (hops : ∀ x ∈ ops.toList, operOk P.globals.size nt x = true)
    (hlen : S.length = ops.toList.length + 1)
    (hS : ∀ i o, ops.toList[i]? = some o → ∃ ti mi v m1, S[i]? = some (ti, mi) ∧ sop1 P H ops.toList o ti mi = some (v, m1) ∧ S[i + 1]? = some (put ti o.dst v, m1))
    (hck : quiet P ops.toList = true ∨ checkReads P H ops.toList S = true) {Q : Exit → Act → World → Prop} {listed : Array Bool} {a : Act} {w : World} (D : DInv P B W ops S nt ds J0 listed a w) {j : Nat} (hj : j ∈ Region.ready .any ops listed) {K : Act → World → Prop}
    (hK : ∀ a' w', DInv P B W ops S nt ds J0 (listed.setIfInBounds j true) a' w' → K a' w') : wpOp P ops Q j K a w := by
  have hN : ops.toList.length = ops.size := by simp
  rw [mem_ready] at hj
  obtain ⟨hnl, o, ho, hpre⟩ := hj
  have hjl : j < ops.size := (Array.getElem?_eq_some_iff.1 ho).1
  have hjs : j < listed.size := by rw [D.sz]; exact hjl
  have hol : ops.toList[j]? = some o := by simpa using ho
  have hnl' : ¬ lst listed j := by
    unfold lst
    simp [hjs] at hnl ⊢
    exact hnl
  have hdir : ∀ e ∈ o.after.toList, Region.binds .any e = true → lst listed e.on := by
    intro e he hb
    exact hpre e (by simpa using he) hb
  have hanc : ∀ i, ((ancs ops.toList []).getD j 0).testBit i = true → lst listed i := anc_closed hst.back D.cl j o hol hdir
  have hdesc : ∀ k, k < ops.toList.length → ((ancs ops.toList []).getD k 0).testBit j = true → ¬ lst listed k := by
    intro k hk hb hl
    exact hnl' (anc_closed hst.back D.cl k ops.toList[k] (by simp at hk; simp [hk]) (D.cl k ops.toList[k] (by simp at hk; simp [hk]) hl) j hb)
  obtain ⟨J, p, tp, mp, pb, D0⟩ := D.rel
  obtain ⟨J, p, tp, mp, D1, hfr⟩ := D0.front hlen hS _ p J tp mp (Nat.le_refl _)
  clear D0
  obtain ⟨tj, mj, v, m1, q1, q2, q3⟩ := hS j o hol
  have hlen' : ∀ k o, ops.toList[k]? = some o → k < ops.toList.length := fun k o h => (List.getElem?_eq_some_iff.1 h).1
  -- a hard one is the front
  have hhard : loudB P o = true → floatB o = false → j = p := by
    intro hl hf
    have hlj : loudAt P ops.toList j = true := by unfold loudAt; rw [hol]; simpa using hl
    rcases Nat.lt_trichotomy j p with g | g | g
    · exact absurd (D1.up j g hlj) hnl'
    · exact g
    · have hpl : p < ops.toList.length := by have := hlen' j o hol; omega
      obtain ⟨hp1, hp2⟩ := hfr hpl
      unfold loudAt at hp1
      rw [List.getElem?_eq_getElem hpl] at hp1
      exact absurd (hanc p (hst.loud p j _ _ g (List.getElem?_eq_getElem hpl) hol (by simpa using hp1) hl hf)) hp2
  -- it touches no slot of a row that is not yet reckoned
  have hnp' : ∀ q oq d, Pq P ops.toList (lst listed) p q → ops.toList[q]? = some oq → oq.dst = some d → (d ∈ namesOf ops.toList o ∨ o.dst = some d) → ¬ (j = q + 1 ∧ cvB P ops.toList j = true) → False := by
    intro q oq d hq hoq hdq ht hnc
    rcases Nat.lt_trichotomy q j with g | g | g
    · by_cases hh : loudB P o = true ∧ floatB o = false
      · have := hhard hh.1 hh.2
        have := hq.1
        omega
      · have hs : loudB P o = false ∨ floatB o = true := by
          cases h1 : loudB P o with
          | false => exact Or.inl rfl
          | true => cases h2 : floatB o with
            | true => exact Or.inr rfl
            | false => exact absurd ⟨h1, h2⟩ hh
        have hbefore := hst.fl q j oq o d g hoq hol hdq ht (D1.pend q oq hq hoq).fl hs hnc
        have hpl : p < ops.toList.length := by have := hlen' q oq hoq; have := hq.1; omega
        obtain ⟨hp1, hp2⟩ := hfr hpl
        rcases Nat.lt_or_ge p q with g2 | g2
        · exact hp2 (hanc p (hbefore p g2 hp1))
        · have : q = p := by have := hq.1; omega
          subst this
          exact hp2 hq.2.2
    · subst g; exact hnl' hq.2.2
    · rcases ht with ht | ht
      · exact hdesc q (hlen' q oq hoq) (hst.rd j q o oq d g hol hoq hdq ht) hq.2.2
      · exact hdesc q (hlen' q oq hoq) (hst.wr j q o oq d g hol hoq ht (Or.inr hdq)) hq.2.2
  have hlset : ∀ i, lst (listed.setIfInBounds j true) i ↔ (i = j ∨ lst listed i) := fun i => lst_set hjs
  have hcl' : ∀ k ok, ops.toList[k]? = some ok → lst (listed.setIfInBounds j true) k → ∀ e ∈ ok.after.toList, Region.binds .any e = true → lst (listed.setIfInBounds j true) e.on := by
    intro k ok hok hl e he hb
    rw [hlset] at hl ⊢
    rcases hl with rfl | hl
    · rw [hol] at hok
      simp only [Option.some.injEq] at hok
      subst hok
      exact Or.inr (hdir e he hb)
    · exact Or.inr (D.cl k ok hok hl e he hb)
  -- a slot that another operation writes
  have hother : ∀ d i ti mi, d < nt → S[i]? = some (ti, mi) → (∀ x ox, ops.toList[x]? = some ox → ox.dst = some d → (lst (listed.setIfInBounds j true) x ↔ x < i)) → o.dst ≠ some d →
      (∀ q oq, Pq P ops.toList (lst listed) p q → ops.toList[q]? = some oq → oq.dst ≠ some d) → VRel J ((ti.get d).getD undef) (a.tmps.getD d undef) := by
    intro d i ti mi hd hi hcut hdj hnq
    refine D1.slots d hd hnq i ti mi hi fun x ox hx hdx => ?_
    have := hcut x ox hx hdx
    rw [hlset] at this
    constructor
    · intro hl; exact this.1 (Or.inr hl)
    · intro hlt
      rcases this.2 hlt with rfl | hl
      · rw [hol] at hx
        simp only [Option.some.injEq] at hx
        subst hx
        exact absurd hdx hdj
      · exact hl
  have hsame : ∀ (v' : Value) d, o.dst ≠ some d → (a.put o.dst v').tmps.getD d undef = a.tmps.getD d undef := by
    intro v' d hdj
    cases hod : o.dst with
    | none => rfl
    | some d' =>
      have hne : d' ≠ d := fun e => hdj (by rw [hod, e])
      simp [Act.put, Array.getElem?_setIfInBounds_ne hne]
  by_cases hcv : cvB P ops.toList j = true ∧ Pq P ops.toList (lst listed) p (j - 1)
  · -- a text of the bytes that the row right ahead has laid, which is not yet reckoned
    obtain ⟨hcv1, hPj⟩ := hcv
    obtain ⟨qi, x, dq, sa, sb, el, hji, hqx, hxd, hop, hgd, hxf, hyd, ⟨bt, bn, bps, hxo⟩, hsb, hsa, hel⟩ := cvB_spec hcv1 hol
    have hqe : j - 1 = qi := by omega
    rw [hqe] at hPj
    obtain ⟨_, plt, ⟨tq, mq, mk, cells, e, ie, ex, g1, g2, g3, g4, g5, g6, g7⟩, _⟩ := D1.pend qi x hPj hqx
    rw [← hji, q1] at g2
    simp only [Option.some.injEq, Prod.mk.injEq] at g2
    obtain ⟨rfl, rfl⟩ := g2
    -- what the row's value is
    obtain ⟨tq', mq', vq, mq1, w1, w2, w3⟩ := hS qi x hqx
    rw [g1] at w1
    simp only [Option.some.injEq, Prod.mk.injEq] at w1
    obtain ⟨rfl, rfl⟩ := w1
    rw [← hji, q1] at w3
    simp only [Option.some.injEq, Prod.mk.injEq] at w3
    have hxg : x.guard = none := by
      unfold floatB at hxf
      rw [Bool.and_eq_true] at hxf
      simpa using hxf.1
    have hvq : vq = .slice (some ⟨mq.next, 0, none⟩) bn bn := by
      unfold sop1 swanted at w2
      rw [hxg] at w2
      simp only [if_true, sop, hxo] at w2
      unfold s_buildSlice at w2
      repeat' (split at w2)
      all_goals first
        | (cases w2; done)
        | (simp only [Option.some.injEq, Prod.mk.injEq] at w2; exact w2.1.symm)
    have hmk : mk mq.next = vq := by
      have h1 := congrArg (fun t => t.get dq) w3.1
      rw [hxd] at h1
      simpa [put, Tree.get_set_self] using h1
    -- what is read
    have hvl : ∃ l : List UInt8, v = .string ⟨l.toArray⟩ ∧ l.length = bn ∧ ∀ k (hk : k < l.length), cells[k]? = some (.int .u8 ((l[k]).toNat : Int)) := by
      unfold sop1 swanted at q2
      rw [hgd] at q2
      simp only [if_true, sop, hop] at q2
      unfold s_convert at q2
      have hev : ev (put tq x.dst (mk mq.next)) (.tmp dq) = .slice (some ⟨mq.next, 0, none⟩) bn bn := by
        rw [hxd, hmk, hvq]
        simp [ev, put, Tree.get_set_self]
      rw [hsa, hsb, hev] at q2
      simp only [hel] at q2
      split at q2
      · rename_i h0
        simp only [Option.some.injEq, Prod.mk.injEq] at q2
        exact ⟨[], q2.1.symm, by simpa using (beq_iff_eq.1 h0).symm, fun k hk => by simp at hk⟩
      · split at q2
        · rename_i cs hcs
          obtain ⟨l, hl, hl2⟩ := Option.map_eq_some_iff.1 q2
          simp only [Prod.mk.injEq] at hl2
          have hci := bytesOf_inv hl
          unfold loadRow at hcs
          simp only at hcs
          split at hcs
          · cases hcs
          · rename_i bk hbk
            have hbk2 := (Mem.readable_iff.1 hbk).1
            have hbe : bk.cells = cells := by
              simp only [Mem.new, Tree.get_set_self, Option.some.injEq] at hbk2
              rw [← hbk2]
            split at hcs
            · rename_i hle
              simp only [Option.some.injEq] at hcs
              have hlen : l.length = bn := by
                have h1 := congrArg List.length hci
                rw [← hcs] at h1
                simp only [window, List.length_take, List.length_drop, List.length_map] at h1
                omega
              refine ⟨l, hl2.1.symm, hlen, fun k hk => ?_⟩
              have h1 : (window bk.cells 0 bn)[k]? = some (.int .u8 ((l[k]).toNat : Int)) := by
                rw [hcs, hci]
                simp [hk]
              rw [hbe] at h1
              simp only [window, List.drop_zero] at h1
              rw [List.getElem?_take] at h1
              split at h1
              · exact h1
              · cases h1
            · cases hcs
        · cases q2
    obtain ⟨l, rfl, hll, hlc⟩ := hvl
    -- where it lies
    have hdn : dq < nt := by
      have h1 := hops x (List.mem_of_getElem? hqx)
      unfold operOk at h1
      rw [hxd] at h1
      simp only [Bool.and_eq_true, decide_eq_true_eq] at h1
      exact h1.2
    have hrel := g7.1 dq hxd hdn { J with n := mq.next } rfl
    rw [hmk, hvq] at hrel
    obtain ⟨_, _, a', c', hu, _, _, had⟩ := hrel.wslice_inv
    have hrun : (execOp a.eval o).run P w = .ok (.value (.string ⟨l.toArray⟩)) w := by
      have hb := run_convert_bytes_back (P := P) w sa sb el a' c' l hsa hel hsb (fun k hk => by
        rcases had with h0 | had
        · omega
        · obtain ⟨v', r1, r2⟩ := g6 k _ (hlc k hk)
          have r3 := r2.closed_eq rfl
          rw [had]
          simp only [Inj.snoc, if_true, Nat.add_zero, Addr.add_lit, Nat.zero_add]
          rw [r1, r3])
      rw [hll] at hb
      have hae : a.eval (.tmp dq) = .slice (some a') bn c' := by
        rw [← hu]
        rfl
      simp [execOp, hop, hae, hb]
    have hlo : loudB P o = false := by
      unfold loudB
      rw [hop]
      simp [hsa, hsb]
    have hloj : loudAt P ops.toList j = false := by unfold loudAt; rw [hol]; simpa using hlo
    have hPq : ∀ q, Pq P ops.toList (lst (listed.setIfInBounds j true)) p q ↔ Pq P ops.toList (lst listed) p q := by
      intro q
      unfold Pq
      rw [hlset]
      constructor
      · rintro ⟨h1, h2, h3 | h3⟩
        · rw [h3, hloj] at h2; cases h2
        · exact ⟨h1, h2, h3⟩
      · rintro ⟨h1, h2, h3⟩
        exact ⟨h1, h2, Or.inr h3⟩
    have hdst : ∀ q oq d, Pq P ops.toList (lst listed) p q → ops.toList[q]? = some oq → oq.dst = some d → o.dst ≠ some d := by
      intro q oq d hq hoq hd hod
      by_cases hqq : j = q + 1
      · have : q = qi := by omega
        subst this
        rw [hqx] at hoq
        simp only [Option.some.injEq] at hoq
        subst hoq
        rw [hxd] at hd
        simp only [Option.some.injEq] at hd
        subst hd
        exact hyd hod
      · exact hnp' q oq d hq hoq hd (Or.inr hod) (fun h => hqq h.1)
    unfold wpOp
    simp only [ho]
    have hw : Region.wanted o (yielded ops a.tmps) = true := by unfold Region.wanted; rw [hgd]
    rw [if_pos hw]
    refine Or.inl ?_
    unfold Oper.wp
    rw [hrun, Oper.upon_value]
    refine hK _ _ ⟨by simpa using D.sz, by rw [put_size]; exact D.ntm, by rw [put_defers]; exact D.dfs, hcl', J, p, tp, mp, pb, ⟨D1.le, D1.ple, fun k hk hl => (hlset k).2 (Or.inr (D1.up k hk hl)), D1.st, ?_, D1.fr, ?_, fun q q' hq hq' => D1.inj q q' ((hPq q).1 hq) ((hPq q').1 hq'), fun q hq => D1.nF q ((hPq q).1 hq), ?_⟩⟩
    · exact D1.rel.less (fun k hk => hk.imp id fun ⟨q, hq, e⟩ => ⟨q, (hPq q).1 hq, e⟩) (fun k hk => hk.imp id fun ⟨q, hq, e⟩ => ⟨q, (hPq q).1 hq, e⟩) (.refl _ _)
    · intro q oq hq hoq
      have hq' := (hPq q).1 hq
      refine (D1.pend q oq hq' hoq).keep (.rfl J) rfl (fun d hd => hsame _ d (hdst q oq d hq' hoq hd)) (fun d s os hd hs hos hosd hl => ?_)
      rw [hlset] at hl
      rcases hl with e' | hl
      · subst e'
        rw [hol] at hos
        simp only [Option.some.injEq] at hos
        subst hos
        exact absurd hosd (hdst q oq d hq' hoq hd)
      · exact hl
    · intro d hd hnq i ti mi hi hcut
      have hil : i ≤ ops.toList.length := by have := (List.getElem?_eq_some_iff.1 hi).1; omega
      by_cases hdj : o.dst = some d
      · have hji : j < i := ((hcut j o hol hdj).1 ((hlset j).2 (Or.inl rfl)))
        have hkeep : ti.get d = (put (put tq x.dst (mk mq.next)) o.dst (.string ⟨l.toArray⟩)).get d := by
          refine slot_kept hS (i - (j + 1)) (j + 1) (by omega) (fun x hx1 hx2 ox hox hdx => ?_) _ _ _ _ q3 (by rw [show j + 1 + (i - (j + 1)) = i by omega]; exact hi)
          have hxl : lst (listed.setIfInBounds j true) x := (hcut x ox hox hdx).2 (by omega)
          rw [hlset] at hxl
          rcases hxl with e | hxl
          · omega
          · exact hdesc x (hlen' x ox hox) (hst.wr j x o ox d (by omega) hol hox hdj (Or.inr hdx)) hxl
        rw [hkeep, hdj]
        have hlt : d < a.tmps.size := by rw [D.ntm]; exact hd
        simp only [put, Tree.get_set_self, Act.put]
        simp [hlt]
        exact .clo _ rfl
      · rw [hsame _ d hdj]
        exact hother d i ti mi hd hi hcut hdj fun q oq hq hoq => hnq q oq ((hPq q).2 hq) hoq
  have hnp : ∀ q oq d, Pq P ops.toList (lst listed) p q → ops.toList[q]? = some oq → oq.dst = some d → (d ∈ namesOf ops.toList o ∨ o.dst = some d) → False :=
    fun q oq d hq hoq hdq ht => hnp' q oq d hq hoq hdq ht fun h => hcv ⟨h.2, by rw [h.1]; exact hq⟩
  -- the operation's slots
  have hon : SOn J ops.toList o tj a := by
    intro d hd hmem
    refine D1.slots d (by rw [← D.ntm]; exact hd) (fun q oq hq hoq hdq => hnp q oq d hq hoq hdq (Or.inl hmem)) j tj mj q1 fun x ox hx hdx => ?_
    rcases Nat.lt_trichotomy x j with g | g | g
    · exact ⟨fun _ => g, fun _ => hanc x (hst.wr x j ox o d g hx hol hdx (Or.inl hmem))⟩
    · subst g
      exact ⟨fun hl => absurd hl hnl', fun hlt => absurd hlt (Nat.lt_irrefl _)⟩
    · have hb := hst.rd j x o ox d g hol hx hdx hmem
      exact ⟨fun hl => absurd hl (hdesc x (hlen' x ox hx) hb), fun hlt => by omega⟩
  by_cases hfl : floatB o = true
  · -- it floats
    have hlo : loudB P o = true := by
      unfold floatB at hfl
      rw [Bool.and_eq_true] at hfl
      have := hfl.2
      unfold loudB
      split at this <;> first | (rename_i ho; rw [ho]) | cases this
    have hlj : loudAt P ops.toList j = true := by unfold loudAt; rw [hol]; simpa using hlo
    have hpj : p ≤ j := Nat.le_of_not_lt fun g => hnl' (D1.up j g hlj)
    have hg : o.guard = none := by
      unfold floatB at hfl
      rw [Bool.and_eq_true] at hfl
      simpa using hfl.1
    have hsop : sop P H (ev tj) o mj = some (v, m1) := by
      unfold sop1 swanted at q2
      rw [hg] at q2
      simpa using q2
    obtain ⟨mk, cells, e, hv, hm, i, cells', more, v', hi, hr, hx, hmk⟩ := float_yields (w := w) hfl hsop (oper_rel_on D1.rel.glob hon (by rw [D.ntm]; exact hops o (by simpa using Array.mem_of_getElem? ho)))
    subst hv; subst hm
    have hbel : Below w.heap.size w (w.alloc (.cells (cells' ++ more).toArray e)) := (Below.refl _ w).alloc (Nat.le_refl _) _
    have hhe : ∀ k, k < w.heap.size → (w.alloc (.cells (cells' ++ more).toArray e)).heap[k]? = w.heap[k]? := fun k hk => Below.heap_alloc _ _ _ hk
    have hsz : (w.alloc (.cells (cells' ++ more).toArray e)).heap.size = w.heap.size + 1 := by show (w.heap.push _).size = _; simp
    have hnew : ∀ k, (w.alloc (.cells (cells' ++ more).toArray e)).cell? ⟨w.heap.size, k, none⟩ = (cells' ++ more)[k]? := by
      intro k
      unfold World.cell?
      rw [heap_alloc_new]
      simp
    have hfrz : ∀ k, (w.alloc (.cells (cells' ++ more).toArray e)).frozen? ⟨w.heap.size, k, none⟩ = false := by
      intro k
      unfold World.frozen?
      rw [heap_alloc_new]
      simp
    have hPq : ∀ q, Pq P ops.toList (lst (listed.setIfInBounds j true)) p q ↔ (q = j ∨ Pq P ops.toList (lst listed) p q) := by
      intro q
      unfold Pq
      rw [hlset]
      constructor
      · rintro ⟨h1, h2, h3 | h3⟩
        · exact Or.inl h3
        · exact Or.inr ⟨h1, h2, h3⟩
      · rintro (rfl | ⟨h1, h2, h3⟩)
        · exact ⟨hpj, hlj, Or.inl rfl⟩
        · exact ⟨h1, h2, Or.inr h3⟩
    have hne : ∀ q, Pq P ops.toList (lst listed) p q → q ≠ j := fun q hq e => hnl' (e ▸ hq.2.2)
    have hltq : ∀ q, Pq P ops.toList (lst listed) p q → pb q < w.heap.size := by
      intro q hq
      have hql : q < ops.toList.length := by
        have := hq.2.1
        unfold loudAt at this
        rcases Nat.lt_or_ge q ops.toList.length with g | g
        · exact g
        · rw [List.getElem?_eq_none g] at this; simp at this
      exact (D1.pend q _ hq (List.getElem?_eq_getElem hql)).lt
    have hh1 : MRel P J mp (B.add fun k => ∃ q, Pq P ops.toList (lst listed) p q ∧ pb q = k) w (w.alloc (.cells (cells' ++ more).toArray e)) := D1.rel.grown hbel
    have hh2 := hh1.addFrame (nb := w.heap.size) (by omega) (fun l b hl => by have := D1.rel.blk l b hl; omega) (fun l s hl => by
      obtain ⟨_, _, es', q3, _⟩ := D1.rel.mp l s hl
      have := (Array.getElem?_eq_some_iff.1 q3).1
      omega)
    unfold wpOp
    simp only [ho]
    have hw : Region.wanted o (yielded ops a.tmps) = true := by unfold Region.wanted; rw [hg]
    rw [if_pos hw]
    refine Or.inl ?_
    unfold Oper.wp
    rw [hx, Oper.upon_value]
    refine hK _ _ ⟨by simpa using D.sz, by rw [put_size]; exact D.ntm, by rw [put_defers]; exact D.dfs, hcl', J, p, tp, mp, fun q => if q = j then w.heap.size else pb q, ⟨D1.le, D1.ple, fun k hk hl => (hlset k).2 (Or.inr (D1.up k hk hl)), D1.st, ?_, ?_, ?_, ?_, ?_, ?_⟩⟩
    · refine hh2.less (fun k hk => ?_) (fun k hk => ?_) (.refl _ _)
      · rcases hk with hk | ⟨q, hq, he⟩
        · exact Or.inl (Or.inl hk)
        · rw [hPq] at hq
          rcases hq with rfl | hq
          · rw [if_pos rfl] at he; exact Or.inr he.symm
          · rw [if_neg (hne q hq)] at he; exact Or.inl (Or.inr ⟨q, hq, he⟩)
      · rcases hk with hk | ⟨q, hq, he⟩
        · exact Or.inl (Or.inl hk)
        · rw [hPq] at hq
          rcases hq with rfl | hq
          · rw [if_pos rfl] at he; exact Or.inr he.symm
          · rw [if_neg (hne q hq)] at he; exact Or.inl (Or.inr ⟨q, hq, he⟩)
    · exact D1.fr.alloc (fun k hk => D1.rel.size k (Or.inl hk)) _
    · intro q oq hq hoq
      by_cases hqj : q = j
      · subst hqj
        rw [hol] at hoq
        simp only [Option.some.injEq] at hoq
        subst hoq
        simp only [if_true]
        refine ⟨hfl, by omega, ⟨tj, mj, mk, cells, e, i, cells.length + more.length, q1, q3, hi, by omega, fun k hk => ⟨?_, hfrz k⟩, fun k v hv => ?_, fun d hd hnt K hK => ?_, ⟨_, by unfold World.shape?; rw [heap_alloc_new]⟩⟩, fun d s os hd hs hos hosd hl => ?_⟩
        · rw [hnew, List.getElem?_eq_getElem (by simp [← hr.1]; omega)]; rfl
        · have hkl := (List.getElem?_eq_some_iff.1 hv).1
          obtain ⟨y, hy, hxy⟩ := hr.get hv
          exact ⟨y, by rw [hnew, List.getElem?_append_left (by rw [← hr.1]; exact hkl)]; exact hy, hxy⟩
        · have hlt : d < a.tmps.size := by rw [D.ntm]; exact hnt
          have hval : (a.put o.dst v').tmps.getD d undef = v' := by simp [Act.put, hd, hlt]
          rw [hval, ← hK]
          exact hmk K
        · rw [hlset] at hl
          rcases hl with e' | hl
          · omega
          · exact hdesc s (hlen' s os hos) (hst.wr q s o os d hs hol hos hd (Or.inr hosd)) hl
      · rw [hPq] at hq
        have hq' := hq.resolve_left hqj
        simp only [if_neg hqj]
        refine (D1.pend q oq hq' hoq).keep (.rfl J) (hhe _ (hltq q hq')) (fun d hd => hsame v' d fun e => hnp q oq d hq' hoq hd (Or.inr e)) (fun d s os hd hs hos hosd hl => ?_)
        rw [hlset] at hl
        rcases hl with e' | hl
        · subst e'
          rw [hol] at hos
          simp only [Option.some.injEq] at hos
          subst hos
          exact (hnp q oq d hq' hoq hd (Or.inr hosd)).elim
        · exact hl
    · intro q q' hq hq' he
      rw [hPq] at hq hq'
      rcases hq with rfl | hq <;> rcases hq' with rfl | hq'
      · rfl
      · rw [if_pos rfl, if_neg (hne q' hq')] at he
        have := hltq q' hq'; omega
      · rw [if_pos rfl, if_neg (hne q hq)] at he
        have := hltq q hq; omega
      · rw [if_neg (hne q hq), if_neg (hne q' hq')] at he
        exact D1.inj q q' hq hq' he
    · intro q hq
      rw [hPq] at hq
      rcases hq with rfl | hq
      · rw [if_pos rfl]
        exact fun hk => Nat.lt_irrefl _ (D1.rel.size _ (Or.inl hk))
      · rw [if_neg (hne q hq)]
        exact D1.nF q hq
    · intro d hd hnq ix ti mi hix hcut
      have hdj : o.dst ≠ some d := hnq j o ((hPq j).2 (Or.inl rfl)) hol
      rw [hsame v' d hdj]
      exact hother d ix ti mi hd hix hcut hdj fun q oq hq hoq => hnq q oq ((hPq q).2 (Or.inr hq)) hoq
  · -- silent, or hard
    have hfl' : floatB o = false := by simpa using hfl
    have hstep : ∀ (p' : Nat) (tp' : Tree Value) (mA mB : Mem), MRel P J mA (B.add fun k => ∃ q, Pq P ops.toList (lst listed) p q ∧ pb q = k) w w → sop1 P H ops.toList o tj mA = some (v, mB) →
        p' ≤ ops.toList.length → (∀ q, Pq P ops.toList (lst (listed.setIfInBounds j true)) p' q ↔ Pq P ops.toList (lst listed) p q) → (∀ k, k < p' → loudAt P ops.toList k = true → lst (listed.setIfInBounds j true) k) → S[p']? = some (tp', mB) →
        wpOp P ops Q j K a w := by
      intro p' tp' mA mB hM hs hple hPq hup hSt
      refine sop1_wp_on (hH _ _) hM hon (by rw [D.ntm]; exact hops) ho hs fun J' v' w' g1 g2 g3 => ?_
      refine hK _ _ ⟨by simpa using D.sz, by rw [put_size]; exact D.ntm, by rw [put_defers]; exact D.dfs, hcl', J', p', tp', mB, pb, ⟨D1.le.trans g1, hple, hup, hSt, ?_, D1.fr.trans (g3.below.less fun _ => Or.inl), ?_, fun q q' hq hq' => D1.inj q q' ((hPq q).1 hq) ((hPq q').1 hq'), fun q hq => D1.nF q ((hPq q).1 hq), ?_⟩⟩
      · exact g3.self.less (fun k hk => hk.imp id fun ⟨q, hq, e⟩ => ⟨q, (hPq q).1 hq, e⟩) (fun k hk => hk.imp id fun ⟨q, hq, e⟩ => ⟨q, (hPq q).1 hq, e⟩) (.refl _ _)
      · intro q oq hq hoq
        have hq' := (hPq q).1 hq
        refine (D1.pend q oq hq' hoq).keep g1 (g3.below.block _ (Or.inr ⟨q, hq', rfl⟩)) (fun d hd => hsame v' d fun e => hnp q oq d hq' hoq hd (Or.inr e)) (fun d s os hd hs hos hosd hl => ?_)
        rw [hlset] at hl
        rcases hl with e' | hl
        · subst e'
          rw [hol] at hos
          simp only [Option.some.injEq] at hos
          subst hos
          exact (hnp q oq d hq' hoq hd (Or.inr hosd)).elim
        · exact hl
      · intro d hd hnq i ti mi hi hcut
        have hil : i ≤ ops.toList.length := by have := (List.getElem?_eq_some_iff.1 hi).1; omega
        by_cases hdj : o.dst = some d
        · have hji : j < i := ((hcut j o hol hdj).1 ((hlset j).2 (Or.inl rfl)))
          have hkeep : ti.get d = (put tj o.dst v).get d := by
            refine slot_kept hS (i - (j + 1)) (j + 1) (by omega) (fun x hx1 hx2 ox hox hdx => ?_) _ _ _ _ q3 (by rw [show j + 1 + (i - (j + 1)) = i by omega]; exact hi)
            have hxl : lst (listed.setIfInBounds j true) x := (hcut x ox hox hdx).2 (by omega)
            rw [hlset] at hxl
            rcases hxl with e | hxl
            · omega
            · exact hdesc x (hlen' x ox hox) (hst.wr j x o ox d (by omega) hol hox hdj (Or.inr hdx)) hxl
          rw [hkeep, hdj]
          have hlt : d < a.tmps.size := by rw [D.ntm]; exact hd
          simp only [put, Tree.get_set_self, Act.put]
          simp [hlt]
          exact g2
        · rw [hsame v' d hdj]
          exact (hother d i ti mi hd hi hcut hdj fun q oq hq hoq => hnq q oq ((hPq q).2 hq) hoq).mono g1
    by_cases hq : loudB P o = true
    · -- hard: it is the front
      have hjp := hhard hq hfl'
      subst hjp
      have hst0 := D1.st
      rw [q1] at hst0
      simp only [Option.some.injEq, Prod.mk.injEq] at hst0
      obtain ⟨rfl, rfl⟩ := hst0
      refine hstep (j + 1) _ mj m1 D1.rel q2 (hlen' j o hol) (fun q => ?_) (fun k hk hl => ?_) q3
      · unfold Pq
        rw [hlset]
        constructor
        · rintro ⟨h1, h2, h3 | h3⟩
          · omega
          · exact ⟨by omega, h2, h3⟩
        · rintro ⟨h1, h2, h3⟩
          refine ⟨?_, h2, Or.inr h3⟩
          rcases Nat.lt_or_ge j q with g | g
          · omega
          · have : q = j := by omega
            subst this
            exact absurd h3 hnl'
      · rw [hlset]
        rcases Nat.lt_or_ge k j with g | g
        · exact Or.inr (D1.up k g hl)
        · exact Or.inl (by omega)
    · -- silent
      have hq' : loudB P o = false := by simpa using hq
      have hno : loudAt P ops.toList j = false := by unfold loudAt; rw [hol]; simpa using hq'
      have hm1 : m1 = mj := silent1_mem hq' q2
      subst hm1
      have hval : sop1 P H ops.toList o tj mp = some (v, mp) := by
        by_cases hr : readsB o = true
        · rcases hck with hck | hck
          · -- the memory never turns
            have hno : ∀ (x : Nat) o, ops.toList[x]? = some o → loudB P o = false := fun x o ho => by
              have := List.all_eq_true.1 hck o (List.mem_of_getElem? ho)
              simpa using this
            have h0 : 0 < S.length := by omega
            have e1 := mem_kept (P := P) hS j 0 (by have := hlen' j o hol; omega) (fun x _ _ o ho => hno x o ho) (S[0]).1 (S[0]).2 tj m1 (by simp [h0]) (by simpa using q1)
            have e2 := mem_kept (P := P) hS p 0 (by have := D1.ple; omega) (fun x _ _ o ho => hno x o ho) (S[0]).1 (S[0]).2 tp mp (by simp [h0]) (by simpa using D1.st)
            rw [e2, ← e1]
            exact q2
          -- it reads: the check says that it reads the same
          unfold checkReads at hck
          rw [List.all_eq_true] at hck
          have hin : (j, (louds P ops.toList ++ [ops.toList.length]).filter fun i => compat ops.toList (ancs ops.toList []) (louds P ops.toList) j i && (!cvB P ops.toList j || decide (j ≤ i))) ∈ readPlaces P ops.toList := by
            unfold readPlaces
            rw [List.mem_filterMap]
            refine ⟨j, by simpa using hjl, ?_⟩
            simp only [hol, hr, hq', Bool.not_false, Bool.and_self, if_true]
          have := hck _ hin
          simp only [hol, q1, q2] at this
          rw [List.all_eq_true] at this
          have hcp : (!cvB P ops.toList j || decide (j ≤ p)) = true := by
            cases hc0 : cvB P ops.toList j with
            | false => rfl
            | true =>
              obtain ⟨qi, x, dq, sa, sb, el, hji, hqx, hxd, hop, hgd, hxf, hyd, ⟨bt, bn, bps, hxo⟩, _, _, _⟩ := cvB_spec hc0 hol
              have hqj : qi = j - 1 := by omega
              have hL : lst listed qi := hanc qi (hst.wr qi j x o dq (by omega) hqx hol hxd (Or.inl (mem_names_tmp (by rw [hop]; simp [Op.operands]))))
              have hlq : loudAt P ops.toList qi = true := by
                unfold loudAt
                rw [hqx]
                unfold loudB
                rw [Option.any_some, hxo]
              have hlt : ¬ p ≤ qi := fun h => hcv ⟨hc0, by rw [← hqj]; exact ⟨h, hlq, hL⟩⟩
              simp
              omega
          have hpin : p ∈ (louds P ops.toList ++ [ops.toList.length]).filter fun i => compat ops.toList (ancs ops.toList []) (louds P ops.toList) j i && (!cvB P ops.toList j || decide (j ≤ i)) := by
            rw [List.mem_filter]
            constructor
            · rw [List.mem_append]
              rcases Nat.lt_or_ge p ops.toList.length with g | g
              · refine Or.inl ?_
                unfold louds
                rw [List.mem_filter]
                exact ⟨by simpa using g, (hfr g).1⟩
              · exact Or.inr (by have := D1.ple; simp; simp at g this; omega)
            · rw [Bool.and_eq_true]
              refine ⟨?_, hcp⟩
              unfold compat
              rw [List.all_eq_true]
              intro k hk
              unfold louds at hk
              rw [List.mem_filter] at hk
              have hkl : k < ops.toList.length := by simpa using hk.1
              have hkk : loudAt P ops.toList k = true := hk.2
              simp only [Bool.and_eq_true, Bool.or_eq_true, Bool.not_eq_true', decide_eq_true_eq]
              constructor
              · cases hb : ((ancs ops.toList []).getD j 0).testBit k with
                | false => exact Or.inl (Or.inl rfl)
                | true =>
                  have hlk := hanc k hb
                  rcases Nat.lt_or_ge k p with g | g
                  · exact Or.inl (Or.inr g)
                  · have hne : p < k := by
                      rcases Nat.lt_or_ge p k with g2 | g2
                      · exact g2
                      · have : k = p := by omega
                        subst this
                        exact absurd hlk (hfr hkl).2
                    refine Or.inr ⟨hne, ?_⟩
                    have := (D1.pend k _ ⟨g, hkk, hlk⟩ (List.getElem?_eq_getElem hkl)).fl
                    rw [List.getElem?_eq_getElem hkl]
                    simpa using this
              · cases hb : ((ancs ops.toList []).getD k 0).testBit j with
                | false => exact Or.inl rfl
                | true =>
                  refine Or.inr (Nat.le_of_not_lt fun hlt => ?_)
                  exact hdesc k hkl hb (D1.up k hlt hkk)
          have := this p hpin
          simp only [D1.st] at this
          unfold readsSame at this
          cases hs : sop1 P H ops.toList o tj mp with
          | none => simp [hs] at this
          | some r =>
            obtain ⟨v2, m2⟩ := r
            simp only [hs] at this
            have e1 := eqV_eq _ _ this
            have e2 := silent1_mem hq' hs
            rw [e1, e2]
        · have := silent1_eq (H := H) hq' (by simpa using hr) ops.toList tj m1 mp
          rw [q2] at this
          simpa using this
      refine hstep p tp mp mp D1.rel hval D1.ple (fun q => ?_) (fun k hk hl => (hlset k).2 (Or.inr (D1.up k hk hl))) D1.st
      unfold Pq
      rw [hlset]
      constructor
      · rintro ⟨h1, h2, rfl | h3⟩
        · rw [hno] at h2; cases h2
        · exact ⟨h1, h2, h3⟩
      · rintro ⟨h1, h2, h3⟩
        exact ⟨h1, h2, Or.inr h3⟩

theorem drawn_wp (hH : ∀ B W, HSound P B W H) {ops : Array Oper} {S : List (Tree Value × Mem)} {nt : Nat} {ds : List Deferred} {J0 : Inj} (hst : Static P ops.toList) (hops : ∀ x ∈ ops.toList, operOk P.globals.size nt x = true)
    (hlen : S.length = ops.toList.length + 1)
    (hS : ∀ i o, ops.toList[i]? = some o → ∃ ti mi v m1, S[i]? = some (ti, mi) ∧ sop1 P H ops.toList o ti mi = some (v, m1) ∧ S[i + 1]? = some (put ti o.dst v, m1))
    (hck : quiet P ops.toList = true ∨ checkReads P H ops.toList S = true) {Q : Exit → Act → World → Prop}
    (hQ : ∀ J' a' w' tn mn, J0.le J' → a'.tmps.size = nt → a'.defers = ds → S[ops.toList.length]? = some (tn, mn) → SRel J' tn a' → MRel P J' mn B W w' → Q .normal a' w') :
    ∀ (fuel : Nat) (listed : Array Bool) (a : Act) (w : World), (List.range ops.size).countP (fun i => !listed.getD i false) ≤ fuel → DInv P B W ops S nt ds J0 listed a w → wpAny P .any ops Q fuel listed a w := by
  have hN : ops.toList.length = ops.size := by simp
  -- all listed: it is done
  have hdone : ∀ (listed : Array Bool) (a : Act) (w : World), DInv P B W ops S nt ds J0 listed a w → Region.ready .any ops listed = [] → Q .normal a w := by
    intro listed a w D hr
    have hall : ∀ j, j < ops.size → lst listed j := by
      intro j
      induction j using Nat.strongRecOn with
      | _ j ih =>
        intro hj
        refine Classical.byContradiction fun hn => ?_
        have : j ∈ Region.ready .any ops listed := by
          rw [mem_ready]
          have hjs : j < listed.size := by rw [D.sz]; exact hj
          refine ⟨?_, ops[j], by simp [hj], ?_⟩
          · unfold lst at hn
            simp [hjs] at hn ⊢
            exact hn
          · intro e he hb
            have hlt := hst.back j ops[j] (by simp [hj]) e (by simpa using he) hb
            exact ih e.on hlt (by omega)
        rw [hr] at this
        simp at this
    obtain ⟨J, p, tp, mp, pb, D0⟩ := D.rel
    obtain ⟨J, p, tp, mp, D1, hfr⟩ := D0.front hlen hS _ p J tp mp (Nat.le_refl _)
    have hp : p = ops.toList.length := by
      rcases Nat.lt_or_ge p ops.toList.length with g | g
      · exact absurd (hall p (by omega)) (hfr g).2
      · have := D1.ple; omega
    subst hp
    have hno : ∀ q, ¬ Pq P ops.toList (lst listed) ops.toList.length q := by
      rintro q ⟨h1, h2, _⟩
      unfold loudAt at h2
      rw [List.getElem?_eq_none h1] at h2
      simp at h2
    refine hQ J a w tp mp D1.le D.ntm D.dfs D1.st ?_ (D1.rel.less (fun _ => Or.inl) (fun _ => Or.inl) D1.fr)
    intro d hd
    refine D1.slots d (by rw [← D.ntm]; exact hd) (fun q o hq => absurd hq (hno q)) _ tp mp D1.st fun x o hx _ => ?_
    have hxl := (List.getElem?_eq_some_iff.1 hx).1
    exact ⟨fun _ => hxl, fun _ => hall x (by omega)⟩
  intro fuel
  induction fuel with
  | zero =>
    intro listed a w hc D
    have hr : Region.ready .any ops listed = [] := by
      rw [List.eq_nil_iff_forall_not_mem]
      intro j hj
      rw [mem_ready] at hj
      obtain ⟨hnl, o, ho, _⟩ := hj
      have hjl : j < ops.size := (Array.getElem?_eq_some_iff.1 ho).1
      have hz : (List.range ops.size).countP (fun i => !listed.getD i false) = 0 := by omega
      rw [List.countP_eq_zero] at hz
      have := hz j (by simpa using hjl)
      have hjs : j < listed.size := by rw [D.sz]; exact hjl
      simp [hjs] at this hnl
      rw [this] at hnl
      simp at hnl
    exact ⟨hr, hdone listed a w D hr⟩
  | succ fuel ih =>
    intro listed a w hc D
    refine ⟨fun hr => hdone listed a w D hr, fun j hj => drawn_step hH hst hops hlen hS hck D hj fun a' w' D' => ih _ a' w' ?_ D'⟩
    rw [mem_ready] at hj
    obtain ⟨hnl, o, ho, hpre⟩ := hj
    have hjl : j < ops.size := (Array.getElem?_eq_some_iff.1 ho).1
    have hjs : j < listed.size := by rw [D.sz]; exact hjl
    have hnl' : ¬ lst listed j := by
      unfold lst
      simp [hjs] at hnl ⊢
      exact hnl
    have hlset : ∀ i, lst (listed.setIfInBounds j true) i ↔ (i = j ∨ lst listed i) := fun i => lst_set hjs
    have hcount : (List.range ops.size).countP (fun i => !(listed.setIfInBounds j true).getD i false) ≤ fuel := by
      have := countP_lt (p := fun i => !listed.getD i false) (q := fun i => !(listed.setIfInBounds j true).getD i false) (List.range ops.size) (fun x _ hx => by
        have hx' : ¬ lst (listed.setIfInBounds j true) x := by unfold lst; simpa using hx
        have : ¬ lst listed x := fun hl => hx' ((hlset x).2 (Or.inr hl))
        unfold lst at this
        simpa using this) ⟨j, by simpa using hjl, by unfold lst at hnl'; simpa using hnl', by
        have : lst (listed.setIfInBounds j true) j := (hlset j).2 (Or.inl rfl)
        unfold lst at this
        simpa using this⟩
      omega
    exact hcount
end Go.Sh

/- A region's operations in another order of writing. -/
namespace Go.Sh
open Go.RowKit
set_option linter.unusedVariables false
set_option linter.unusedSimpArgs false

variable {P : Program}

theorem renum_wp (ord : List Nat) (o : Oper) (a : Act) (w : World) (K : Act → World → Prop) (Q : Exit → Act → World → Prop) : (renum ord o).wp P a w K Q = o.wp P a w K Q := rfl
theorem renum_asks (ord : List Nat) (o : Oper) (a : Act) (w : World) : (renum ord o).asks P a w = o.asks P a w := rfl
theorem renum_ok (ord : List Nat) (o : Oper) (G n : Nat) : operOk G n (renum ord o) = operOk G n o := rfl
theorem renum_dst (ord : List Nat) (o : Oper) : (renum ord o).dst = o.dst := rfl

/-- what the order must be -/
structure IsPerm (ops cs : Array Oper) (ord : List Nat) : Prop where
  sz : cs.size = ops.size
  len : ord.length = ops.size
  at_ : ∀ (x j : Nat), ord[x]? = some j → ∃ o, ops[j]? = some o ∧ cs[x]? = some (renum ord o)
  pos : ∀ (x j : Nat), ord[x]? = some j → ord.idxOf j = x
  all : ∀ j, j < ops.size → ∃ x : Nat, ord[x]? = some j
  edge : ∀ (j : Nat) o, ops[j]? = some o → ∀ e ∈ o.after, e.on < ops.size
  grd : ∀ (j : Nat) o g want, ops[j]? = some o → o.guard = some (g, want) → g < ops.size

variable {ops cs : Array Oper} {ord : List Nat}

theorem IsPerm.yields (h : IsPerm ops cs ord) {g : Nat} (hg : g < ops.size) (tmps : Array Value) : yielded cs tmps (ord.idxOf g) = yielded ops tmps g := by
  obtain ⟨x, hx⟩ := h.all g hg
  rw [h.pos x g hx]
  obtain ⟨o, h1, h2⟩ := h.at_ x g hx
  unfold yielded
  rw [h1, h2]
  rfl

theorem IsPerm.wanted (h : IsPerm ops cs ord) {j : Nat} {o : Oper} (ho : ops[j]? = some o) (tmps : Array Value) : Region.wanted (renum ord o) (yielded cs tmps) = Region.wanted o (yielded ops tmps) := by
  unfold Region.wanted renum
  cases hg : o.guard with
  | none => rfl
  | some g =>
    obtain ⟨g, want⟩ := g
    simp only [Option.map_some]
    rw [h.yields (h.grd j o g want ho hg)]

/-- the marks of the two -/
def Marks (ord : List Nat) (listed listedC : Array Bool) : Prop := ∀ (x j : Nat) d, ord[x]? = some j → listedC.getD x d = listed.getD j d

theorem IsPerm.ready (h : IsPerm ops cs ord) {listed listedC : Array Bool} (hm : Marks ord listed listedC) {x j : Nat} (hx : ord[x]? = some j) (md : Region.Mode) : x ∈ Region.ready md cs listedC ↔ j ∈ Region.ready md ops listed := by
  obtain ⟨o, h1, h2⟩ := h.at_ x j hx
  rw [mem_ready, mem_ready, hm x j _ hx, h1, h2]
  refine and_congr_right fun _ => ?_
  simp only [Option.some.injEq, exists_eq_left']
  constructor
  · intro g e he hb
    obtain ⟨y, hy⟩ := h.all e.on (h.edge j o h1 e he)
    have := g { e with on := ord.idxOf e.on } (by simp only [renum, Array.mem_map]; exact ⟨e, he, rfl⟩) hb
    simp only at this
    rw [h.pos y _ hy, hm y _ _ hy] at this
    exact this
  · intro g e he hb
    simp only [renum, Array.mem_map] at he
    obtain ⟨e0, he0, rfl⟩ := he
    obtain ⟨y, hy⟩ := h.all e0.on (h.edge j o h1 e0 he0)
    simp only
    rw [h.pos y _ hy, hm y _ _ hy]
    exact g e0 he0 hb

theorem wpAny_perm (h : IsPerm ops cs ord) {Q : Exit → Act → World → Prop} : ∀ (fuel : Nat) (listed listedC : Array Bool) (a : Act) (w : World), listed.size = ops.size → listedC.size = ops.size → Marks ord listed listedC →
    wpAny P .any cs Q fuel listedC a w → wpAny P .any ops Q fuel listed a w := by
  have hempty : ∀ (listed listedC : Array Bool), Marks ord listed listedC → Region.ready .any ops listed = [] → Region.ready .any cs listedC = [] := by
    intro listed listedC hm hr
    rw [List.eq_nil_iff_forall_not_mem]
    intro x hx
    have hxl : x < ord.length := by
      rw [mem_ready] at hx
      obtain ⟨_, o, ho, _⟩ := hx
      have := (Array.getElem?_eq_some_iff.1 ho).1
      rw [h.len, ← h.sz]; exact this
    have := (h.ready hm (List.getElem?_eq_getElem hxl) .any).1 hx
    rw [hr] at this
    simp at this
  intro fuel
  induction fuel with
  | zero =>
    intro listed listedC a w hs1 hs2 hm ⟨g1, g2⟩
    refine ⟨?_, g2⟩
    rw [List.eq_nil_iff_forall_not_mem]
    intro j hj
    have hjl : j < ops.size := by
      rw [mem_ready] at hj
      obtain ⟨_, o, ho, _⟩ := hj
      exact (Array.getElem?_eq_some_iff.1 ho).1
    obtain ⟨x, hx⟩ := h.all j hjl
    have := (h.ready hm hx .any).2 hj
    rw [g1] at this
    simp at this
  | succ fuel ih =>
    intro listed listedC a w hs1 hs2 hm ⟨g1, g2⟩
    refine ⟨fun hr => g1 (hempty _ _ hm hr), fun j hj => ?_⟩
    have hjl : j < ops.size := by
      rw [mem_ready] at hj
      obtain ⟨_, o, ho, _⟩ := hj
      exact (Array.getElem?_eq_some_iff.1 ho).1
    obtain ⟨x, hx⟩ := h.all j hjl
    have hxr := (h.ready hm hx .any).2 hj
    have hstep := g2 x hxr
    obtain ⟨o, h1, h2⟩ := h.at_ x j hx
    have hxl : x < ops.size := by rw [← h.len]; exact (List.getElem?_eq_some_iff.1 hx).1
    have hm' : Marks ord (listed.setIfInBounds j true) (listedC.setIfInBounds x true) := by
      intro y k d hy
      by_cases e : y = x
      · subst e
        rw [hx] at hy
        simp only [Option.some.injEq] at hy
        subst hy
        simp [hs1, hs2, hxl, hjl]
      · have hne : k ≠ j := fun ek => e (by rw [← h.pos y k hy, ek, h.pos x j hx])
        have := hm y k d hy
        simp only [Array.getD_eq_getD_getElem?] at this ⊢
        rw [Array.getElem?_setIfInBounds_ne (fun e' => e e'.symm), Array.getElem?_setIfInBounds_ne (fun e' => hne e'.symm)]
        exact this
    have hcont : ∀ a w, wpAny P .any cs Q fuel (listedC.setIfInBounds x true) a w → wpAny P .any ops Q fuel (listed.setIfInBounds j true) a w :=
      fun a w hh => ih _ _ a w (by simpa using hs1) (by simpa using hs2) hm' hh
    unfold wpOp at hstep ⊢
    simp only [h1, h2] at hstep ⊢
    rw [h.wanted h1] at hstep
    split
    · rename_i hw
      rw [if_pos hw] at hstep
      rw [renum_wp, renum_asks] at hstep
      exact hstep.imp (Oper.wp_mono hcont) id
    · rename_i hw
      rw [if_neg hw] at hstep
      exact hcont _ _ hstep

theorem perm_of {ops : Array Oper} (hf : ops.toList.any floatB = true) (h : permOk ops.toList = true) : IsPerm ops (canonOps ops.toList).toArray (canon ops.toList) := by
  unfold permOk at h
  rw [hf] at h
  simp only [Bool.not_true, Bool.false_or, Bool.and_eq_true, beq_iff_eq, List.all_eq_true, decide_eq_true_eq, List.mem_range, List.contains_iff_mem] at h
  obtain ⟨⟨⟨h1, h2⟩, h3⟩, h4⟩ := h
  have hlt : ∀ (x j : Nat), (canon ops.toList)[x]? = some j → j < ops.toList.length ∧ (canon ops.toList).idxOf j = x := by
    intro x j hx
    have hm : (j, x) ∈ (canon ops.toList).zipIdx := by rw [List.mem_zipIdx_iff_getElem?]; exact hx
    exact h2 _ hm
  have hcs : canonOps ops.toList = (canon ops.toList).filterMap fun i => (ops.toList[i]?).map (renum (canon ops.toList)) := by
    unfold canonOps
    rw [if_pos hf]
  have hmap : canonOps ops.toList = (canon ops.toList).map fun i => renum (canon ops.toList) (ops.toList.getD i default) := by
    rw [hcs]
    have : ∀ (l : List Nat), (∀ j ∈ l, j < ops.toList.length) → (l.filterMap fun i => (ops.toList[i]?).map (renum (canon ops.toList))) = l.map fun i => renum (canon ops.toList) (ops.toList.getD i default) := by
      intro l
      induction l with
      | nil => intro _; rfl
      | cons y r ih =>
        intro hl
        have hy := hl y (by simp)
        rw [List.filterMap_cons, List.getElem?_eq_getElem hy]
        simp only [Option.map_some, List.map_cons]
        rw [ih fun j hj => hl j (by simp [hj])]
        have hy' : y < ops.size := by simpa using hy
        simp [List.getD_eq_getElem?_getD, hy']
    refine this _ fun j hj => ?_
    obtain ⟨x, hx⟩ := List.getElem?_of_mem hj
    exact (hlt x j hx).1
  have hat : ∀ (x j : Nat), (canon ops.toList)[x]? = some j → ∃ o, ops[j]? = some o ∧ (canonOps ops.toList).toArray[x]? = some (renum (canon ops.toList) o) := by
    intro x j hx
    have hj := (hlt x j hx).1
    have hj' : j < ops.size := by simpa using hj
    refine ⟨ops[j], by simp [hj'], ?_⟩
    rw [List.getElem?_toArray, hmap, List.getElem?_map, hx]
    simp [List.getD_eq_getElem?_getD, hj']
  refine ⟨?_, by simpa using h1, hat, fun x j hx => (hlt x j hx).2, fun j hj => ?_, fun j o ho e he => ?_, fun j o g want ho hg => ?_⟩
  · rw [List.size_toArray, hmap, List.length_map, h1]; simp
  · exact List.getElem?_of_mem (h3 j (by simpa using hj))
  · have := (h4 o (by simpa using Array.mem_of_getElem? ho)).1
    have := Array.all_eq_true'.1 this e he
    simpa using this
  · have := (h4 o (by simpa using Array.mem_of_getElem? ho)).2
    rw [hg] at this
    simpa using this
end Go.Sh

/- Regions whose last two operations are stores that no edge orders: they may go in either order. -/
namespace Go.Sh
open Go.RowKit
set_option linter.unusedVariables false
set_option linter.unusedSimpArgs false

namespace Tree
theorem setF_fuel {α : Type} (x : α) : ∀ (f g : Nat) (t : Tree α) (n : Nat), n < f → n < g → setF x f t n = setF x g t n := by
  intro f
  induction f with
  | zero => intro g t n h; omega
  | succ f ih =>
    intro g t n h1 h2
    cases g with
    | zero => omega
    | succ g =>
      cases n with
      | zero => cases t <;> rfl
      | succ n =>
        cases t <;> simp only [setF] <;> split <;> rw [ih g _ _ (by omega) (by omega)]
theorem setF_comm {α : Type} (x y : α) : ∀ (f : Nat) (t : Tree α) (a b : Nat), a < f → b < f → a ≠ b → setF y f (setF x f t a) b = setF x f (setF y f t b) a := by
  intro f
  induction f with
  | zero => intro t a b h; omega
  | succ f ih =>
    intro t a b ha hb hab
    have par : ∀ n : Nat, n % 2 = 0 ∨ n % 2 = 0 + 1 := fun n => by omega
    cases a with
    | zero =>
      cases b with
      | zero => exact absurd rfl hab
      | succ b => cases t <;> rcases par b with e | e <;> simp only [setF, e]
    | succ a =>
      cases b with
      | zero => cases t <;> rcases par a with e | e <;> simp only [setF, e]
      | succ b =>
        cases t <;> rcases par a with e | e <;> rcases par b with g | g <;> simp only [setF, e, g] <;> rw [ih _ _ _ (by omega) (by omega) (by omega)]
theorem set_comm {α : Type} (t : Tree α) {a b : Nat} (x y : α) (h : a ≠ b) : (t.set a x).set b y = (t.set b y).set a x := by
  unfold set
  rw [setF_fuel y (b + 1) (a + b + 1) _ b (by omega) (by omega), setF_fuel x (a + 1) (a + b + 1) t a (by omega) (by omega), setF_fuel x (a + 1) (a + b + 1) _ a (by omega) (by omega), setF_fuel y (b + 1) (a + b + 1) t b (by omega) (by omega)]
  exact setF_comm x y _ t a b (by omega) (by omega) h
end Tree

theorem writable_inv {m : Mem} {l : Nat} {b : Blk} (h : m.writable l = some b) : m.blks.get l = some b ∧ ∃ f, m.fams.get b.fam = some f ∧ f.live = some l := by
  unfold Mem.writable at h
  split at h
  · cases h
  · rename_i b' hb
    split at h
    · cases h
    · rename_i f hf
      split at h
      · rename_i hc
        simp only [Option.some.injEq] at h
        subst h
        simp only [Bool.and_eq_true, beq_iff_eq] at hc
        exact ⟨hb, f, hf, hc.1⟩
      · cases h
theorem put_comm {m : Mem} {p q : Nat} {b c : Blk} (cs ds : List Value) (hp : m.writable p = some b) (hq : m.writable q = some c) (h : p ≠ q) : (m.put p b cs).put q c ds = (m.put q c ds).put p b cs := by
  obtain ⟨_, f, hf, lf⟩ := writable_inv hp
  obtain ⟨_, g, hg, lg⟩ := writable_inv hq
  have hfam : b.fam ≠ c.fam := by
    intro e
    rw [e, hg] at hf
    simp only [Option.some.injEq] at hf
    subst hf
    rw [lg] at lf
    exact h (Option.some.inj lf).symm
  unfold Mem.put
  simp only [Tree.set_comm m.blks _ _ h, Tree.set_comm m.fams _ _ hfam]
theorem put_writable_inv {m : Mem} {p q : Nat} {b c : Blk} (cs : List Value) (hp : m.writable p = some b) (hq : (m.put p b cs).writable q = some c) (h : p ≠ q) : m.writable q = some c := by
  obtain ⟨_, f, hf, lf⟩ := writable_inv hp
  obtain ⟨hb, g, hg, lg⟩ := writable_inv hq
  simp only [Mem.put, Tree.get_set_ne _ _ (fun e => h e.symm : q ≠ p)] at hb
  have hfam : c.fam ≠ b.fam := by
    intro e
    simp only [Mem.put, e, Tree.get_set_self, Option.some.injEq] at hg
    subst hg
    exact h (Option.some.inj lg)
  simp only [Mem.put, Tree.get_set_ne _ _ hfam] at hg
  unfold Mem.writable at hq ⊢
  simp only [Mem.put, Tree.get_set_ne _ _ (fun e => h e.symm : q ≠ p)] at hq
  rw [hb] at hq ⊢
  simp only [Tree.get_set_ne _ _ hfam] at hq
  exact hq
theorem storeRow_comm {m ma mb m1 m2 : Mem} {a b : Addr} {vs ws : List Value} (ha : storeRow m a vs = some ma) (h1 : storeRow ma b ws = some m1) (hb : storeRow m b ws = some mb) (h2 : storeRow mb a vs = some m2) (h : a.block ≠ b.block) : m1 = m2 := by
  obtain ⟨_, p, hp, _, _, rfl⟩ := storeRow_inv ha
  obtain ⟨_, q, hq, _, _, rfl⟩ := storeRow_inv hb
  obtain ⟨_, q', hq', _, _, rfl⟩ := storeRow_inv h1
  obtain ⟨_, p', hp', _, _, rfl⟩ := storeRow_inv h2
  have e1 := put_writable_inv _ hp hq' h
  rw [hq] at e1
  cases e1
  have e2 := put_writable_inv _ hq hp' (fun e => h e.symm)
  rw [hp] at e2
  cases e2
  exact put_comm _ _ hp hq h

variable {P : Program} {H : CallH} {B : Frame} {W : World}

theorem store_inv {o : Oper} (ho : isStore o = true) {t : Tree Value} {p : Nat} (hp : stAt t o = some p) {m m1 : Mem} {v : Value} (h : sop P H (ev t) o m = some (v, m1)) : ∃ a vs, a.block = p ∧ storeRow m a vs = some m1 ∧ ∀ m' u m2, sop P H (ev t) o m' = some (u, m2) → storeRow m' a vs = some m2 := by
  obtain ⟨dst, op, type, pos, after, guard⟩ := o
  cases op with
  | store ty x y =>
    simp only [stAt] at hp
    simp only [sop] at h ⊢
    unfold s_store at h ⊢
    cases hx : ev t x with
    | pointer a =>
      cases a with
      | none => simp [hx] at hp
      | some a =>
        simp only [hx, Option.some.injEq] at hp h ⊢
        refine ⟨a, (ev t y).cells.toList, hp, ?_, fun m' u m2 h' => ?_⟩
        · split at h
          · simp only [Option.map_eq_some_iff, Prod.mk.injEq] at h
            obtain ⟨_, h, _, rfl⟩ := h
            exact h
          · cases h
        · split at h'
          · simp only [Option.map_eq_some_iff, Prod.mk.injEq] at h'
            obtain ⟨_, h', _, rfl⟩ := h'
            exact h'
          · cases h'
    | _ => simp [hx] at hp
  | _ => simp [isStore] at ho

theorem isStore_g {o : Oper} (h : isStore o = true) : o.guard = none ∧ o.dst = none ∧ loudB P o = true ∧ floatB o = false := by
  obtain ⟨dst, op, type, pos, after, guard⟩ := o
  simp only [isStore, Bool.and_eq_true, Option.isNone_iff_eq_none] at h
  obtain ⟨⟨h1, h2⟩, h3⟩ := h
  cases op <;> first
    | (simp at h3; done)
    | exact ⟨h1, h2, rfl, by simp [floatB]⟩

theorem two_spec {cs r : List Oper} {x y : Oper} (h : two cs = some (r, x, y)) : cs = r ++ [x, y] ∧ isStore x = true ∧ isStore y = true ∧ ∀ o ∈ r, o.guard = none := by
  unfold two at h
  split at h
  · rename_i y' x' r' hr
    split at h
    · rename_i hc
      simp only [Option.some.injEq, Prod.mk.injEq] at h
      obtain ⟨rfl, rfl, rfl⟩ := h
      simp only [Bool.and_eq_true, List.all_eq_true, Option.isNone_iff_eq_none] at hc
      refine ⟨?_, hc.1.1.2, hc.1.1.1, fun o ho => hc.2 o (by simpa using ho)⟩
      have := congrArg List.reverse hr
      simpa using this
    · cases h
  · cases h

theorem sop_edge (ρ : Operand → Value) (n : Nat) (o : Oper) (m : Mem) : sop P H ρ (edgeTo n o) m = sop P H ρ o m := by
  obtain ⟨d, op, t, p, a, g⟩ := o
  cases op <;> rfl
theorem sop1_ng {all : List Oper} {o : Oper} (hg : o.guard = none) (t : Tree Value) (m : Mem) : sop1 P H all o t m = sop P H (ev t) o m := by
  unfold sop1 swanted
  rw [hg]
  rfl

/-- at the begin of a region -/
theorem dinv_start {J : Inj} {m : Mem} {w : World} {t : Tree Value} {a : Act} {cs : Array Oper} (h : MRel P J m B W w) (r : SRel J t a) {S : List (Tree Value × Mem)} (g1 : S.length = cs.toList.length + 1) (g2 : S[0]? = some (t, m))
    (g3 : ∀ i o, cs.toList[i]? = some o → ∃ ti mi v m1, S[i]? = some (ti, mi) ∧ sop1 P H cs.toList o ti mi = some (v, m1) ∧ S[i + 1]? = some (put ti o.dst v, m1)) :
    DInv P B W cs S a.tmps.size a.defers J (Array.replicate cs.size false) a w ∧ ∀ i, ¬ lst (Array.replicate cs.size false) i := by
  have hno : ∀ i, ¬ lst (Array.replicate cs.size false) i := by
    intro i hl
    unfold lst at hl
    simp [Array.getElem?_replicate] at hl
    split at hl <;> simp at hl
  have hnq : ∀ q, ¬ Pq P cs.toList (lst (Array.replicate cs.size false)) 0 q := fun q hq => hno q hq.2.2
  refine ⟨⟨by simp, rfl, rfl, fun j o ho hl => absurd hl (hno j), J, 0, t, m, fun _ => 0, ⟨.rfl J, Nat.zero_le _, fun k hk => absurd hk (Nat.not_lt_zero _), g2, ?_, h.below, fun q o hq => absurd hq (hnq q), fun q q' hq => absurd hq (hnq q), fun q hq => absurd hq (hnq q), ?_⟩⟩, hno⟩
  · refine h.less (fun k hk => ?_) (fun k hk => ?_) (.refl _ _)
    · rcases hk with hk | ⟨q, hq, _⟩
      · exact hk
      · exact absurd hq (hnq q)
    · rcases hk with hk | ⟨q, hq, _⟩
      · exact hk
      · exact absurd hq (hnq q)
  · intro d hd _ i ti mi hi hcut
    have hkeep : ti.get d = t.get d := by
      have hil : i ≤ cs.toList.length := by have := (List.getElem?_eq_some_iff.1 hi).1; omega
      refine slot_kept g3 i 0 (by omega) (fun x _ hx o ho hdx => ?_) t m ti mi g2 (by simpa using hi)
      exact hno x ((hcut x o ho hdx).2 (by omega))
    rw [hkeep]
    exact r d hd

/-- one listing after another -/
theorem wpAny_sim {C D : Array Oper} {σ τ : Nat → Nat} {R : Array Bool → Array Bool → Prop} {Q : Exit → Act → World → Prop}
    (hop : ∀ i o, C[i]? = some o → o.guard = none ∧ ∃ af, D[σ i]? = some { o with after := af })
    (hr : ∀ LC LD, R LC LD → ∀ i, i ∈ Region.ready .any C LC → σ i ∈ Region.ready .any D LD)
    (hr2 : ∀ LC LD, R LC LD → ∀ i, i ∈ Region.ready .any D LD → τ i ∈ Region.ready .any C LC)
    (hs : ∀ LC LD, R LC LD → ∀ i, i ∈ Region.ready .any C LC → R (LC.setIfInBounds i true) (LD.setIfInBounds (σ i) true)) :
    ∀ (fuel : Nat) (LC LD : Array Bool) (a : Act) (w : World), R LC LD → wpAny P .any D Q fuel LD a w → wpAny P .any C Q fuel LC a w := by
  have he : ∀ LC LD, R LC LD → Region.ready .any C LC = [] → Region.ready .any D LD = [] := by
    intro LC LD hR h
    rw [List.eq_nil_iff_forall_not_mem]
    intro i hi
    have := hr2 _ _ hR i hi
    rw [h] at this
    simp at this
  have he2 : ∀ LC LD, R LC LD → Region.ready .any D LD = [] → Region.ready .any C LC = [] := by
    intro LC LD hR h
    rw [List.eq_nil_iff_forall_not_mem]
    intro i hi
    have := hr _ _ hR i hi
    rw [h] at this
    simp at this
  intro fuel
  induction fuel with
  | zero => exact fun LC LD a w hR h => ⟨he2 _ _ hR h.1, h.2⟩
  | succ fuel ih =>
    intro LC LD a w hR ⟨h1, h2⟩
    refine ⟨fun h => h1 (he _ _ hR h), fun i hi => ?_⟩
    have := h2 (σ i) (hr _ _ hR i hi)
    have hcont : ∀ a w, wpAny P .any D Q fuel (LD.setIfInBounds (σ i) true) a w → wpAny P .any C Q fuel (LC.setIfInBounds i true) a w := fun a w h => ih _ _ a w (hs _ _ hR i hi) h
    rw [mem_ready] at hi
    obtain ⟨_, o, ho, _⟩ := hi
    obtain ⟨hg, af, ho2⟩ := hop i o ho
    unfold wpOp at this ⊢
    simp only [ho, ho2] at this ⊢
    have w1 : Region.wanted o (yielded C a.tmps) = true := by unfold Region.wanted; rw [hg]
    have w2 : Region.wanted { o with after := af } (yielded D a.tmps) = true := by unfold Region.wanted; simp only [hg]
    rw [if_pos w1]
    rw [if_pos w2] at this
    exact this.imp (fun h => Oper.wp_mono hcont h) id

theorem at_r {r : List Oper} {x y : Oper} {i : Nat} (h : i < r.length) : (r ++ [x, y]).toArray[i]? = r[i]? := by
  rw [List.getElem?_toArray, List.getElem?_append_left h]
theorem at_x {r : List Oper} {x y : Oper} : (r ++ [x, y]).toArray[r.length]? = some x := by
  rw [List.getElem?_toArray, List.getElem?_append_right (Nat.le_refl _)]; simp
theorem at_y {r : List Oper} {x y : Oper} : (r ++ [x, y]).toArray[r.length + 1]? = some y := by
  rw [List.getElem?_toArray, List.getElem?_append_right (by omega)]; simp
theorem at_cases {r : List Oper} {x y o : Oper} {i : Nat} (h : (r ++ [x, y]).toArray[i]? = some o) : (i < r.length ∧ r[i]? = some o) ∨ (i = r.length ∧ o = x) ∨ (i = r.length + 1 ∧ o = y) := by
  rcases Nat.lt_trichotomy i r.length with g | g | g
  · rw [at_r g] at h; exact Or.inl ⟨g, h⟩
  · subst g; rw [at_x] at h; exact Or.inr (Or.inl ⟨rfl, (Option.some.inj h).symm⟩)
  · have hl := (Array.getElem?_eq_some_iff.1 h).1
    simp at hl
    have : i = r.length + 1 := by omega
    subst this
    rw [at_y] at h; exact Or.inr (Or.inr ⟨rfl, (Option.some.inj h).symm⟩)
theorem mem_edge {n : Nat} {o : Oper} {e : Edge} : e ∈ (edgeTo n o).after ↔ e ∈ o.after ∨ e = ⟨n, .data⟩ := by
  simp [edgeTo]

theorem getD_set {L : Array Bool} {i j : Nat} (d : Bool) (hj : j < L.size) : (L.setIfInBounds j true).getD i d = if i = j then true else L.getD i d := by
  by_cases e : i = j
  · subst e; simp [hj]
  · rw [if_neg e]
    simp only [Array.getD_eq_getD_getElem?, Array.getElem?_setIfInBounds_ne (fun h => e h.symm)]

section
variable {r : List Oper} {x y : Oper} {Q : Exit → Act → World → Prop}
/-- the first of the two has gone -/
theorem sim1 (hg : ∀ o ∈ r ++ [x, y], o.guard = none) (hxe : ∀ e ∈ x.after, Region.binds .any e = true → e.on < r.length) {L : Array Bool} (hz : L.size = r.length + 2) (hL : lst L r.length) (fuel : Nat) (a : Act) (w : World)
    (h : wpAny P .any (r ++ [x, edgeTo r.length y]).toArray Q fuel L a w) : wpAny P .any (r ++ [x, y]).toArray Q fuel L a w := by
  have hrd : ∀ L : Array Bool, lst L r.length → ∀ i, i ∈ Region.ready .any (r ++ [x, y]).toArray L ↔ i ∈ Region.ready .any (r ++ [x, edgeTo r.length y]).toArray L := by
    intro L hL i
    rw [mem_ready, mem_ready]
    refine and_congr_right fun _ => ?_
    constructor
    · rintro ⟨o, ho, he⟩
      rcases at_cases ho with ⟨g, g2⟩ | ⟨rfl, rfl⟩ | ⟨rfl, rfl⟩
      · exact ⟨o, by rw [at_r g]; exact g2, he⟩
      · exact ⟨o, at_x, he⟩
      · refine ⟨_, at_y, fun e hm hb => ?_⟩
        rcases mem_edge.1 hm with hm | rfl
        · exact he e hm hb
        · exact hL
    · rintro ⟨o, ho, he⟩
      rcases at_cases ho with ⟨g, g2⟩ | ⟨rfl, rfl⟩ | ⟨rfl, rfl⟩
      · exact ⟨o, by rw [at_r g]; exact g2, he⟩
      · exact ⟨o, at_x, he⟩
      · exact ⟨_, at_y, fun e hm hb => he e (mem_edge.2 (Or.inl hm)) hb⟩
  refine wpAny_sim (σ := id) (τ := id) (R := fun LC LD => LC = LD ∧ LC.size = r.length + 2 ∧ lst LC r.length) (fun i o ho => ⟨hg o (by simpa using Array.mem_of_getElem? ho), ?_⟩) ?_ ?_ ?_ fuel L L a w ⟨rfl, hz, hL⟩ h
  · rcases at_cases ho with ⟨g, g2⟩ | ⟨rfl, rfl⟩ | ⟨rfl, rfl⟩
    · exact ⟨o.after, by rw [id, at_r g]; exact g2⟩
    · exact ⟨o.after, at_x⟩
    · exact ⟨_, at_y⟩
  · rintro LC LD ⟨rfl, _, h⟩ i hi
    exact (hrd _ h i).1 hi
  · rintro LC LD ⟨rfl, _, h⟩ i hi
    exact (hrd _ h i).2 hi
  · rintro LC LD ⟨rfl, hz, h⟩ i hi
    refine ⟨rfl, by simpa using hz, ?_⟩
    rw [mem_ready] at hi
    obtain ⟨_, o, ho, _⟩ := hi
    have hl := (Array.getElem?_eq_some_iff.1 ho).1
    simp at hl
    exact (lst_set (by omega)).2 (Or.inr h)

def swp (n i : Nat) : Nat := if i = n then n + 1 else if i = n + 1 then n else i
/-- the second of the two has gone -/
theorem sim2 (hg : ∀ o ∈ r ++ [x, y], o.guard = none) (hre : ∀ (i : Nat) o, r[i]? = some o → ∀ e ∈ o.after, Region.binds .any e = true → e.on < r.length) (hxe : ∀ e ∈ x.after, Region.binds .any e = true → e.on < r.length) {LC LD : Array Bool} (hz : LC.size = r.length + 2) (hz2 : LD.size = r.length + 2) (h1 : lst LC (r.length + 1)) (h2 : lst LD r.length)
    (h3 : LC.getD r.length false = LD.getD (r.length + 1) false) (h4 : ∀ i, i < r.length → LC.getD i false = LD.getD i false) (fuel : Nat) (a : Act) (w : World)
    (h : wpAny P .any (r ++ [y, edgeTo r.length x]).toArray Q fuel LD a w) : wpAny P .any (r ++ [x, y]).toArray Q fuel LC a w := by
  have hd : ∀ (L : Array Bool) (i : Nat), i < L.size → L.getD i true = L.getD i false := by
    intro L i hi; simp [hi]
  refine wpAny_sim (σ := swp r.length) (τ := swp r.length) (R := fun LC LD => LC.size = r.length + 2 ∧ LD.size = r.length + 2 ∧ lst LC (r.length + 1) ∧ lst LD r.length ∧ LC.getD r.length false = LD.getD (r.length + 1) false ∧ ∀ i, i < r.length → LC.getD i false = LD.getD i false) (fun i o ho => ⟨hg o (by simpa using Array.mem_of_getElem? ho), ?_⟩) ?_ ?_ ?_ fuel LC LD a w ⟨hz, hz2, h1, h2, h3, h4⟩ h
  · rcases at_cases ho with ⟨g, g2⟩ | ⟨rfl, rfl⟩ | ⟨rfl, rfl⟩
    · refine ⟨o.after, ?_⟩
      unfold swp
      rw [if_neg (by omega), if_neg (by omega), at_r g]; exact g2
    · refine ⟨(edgeTo r.length o).after, ?_⟩
      unfold swp
      rw [if_pos rfl, at_y]; rfl
    · refine ⟨o.after, ?_⟩
      unfold swp
      rw [if_neg (by omega), if_pos rfl, at_x]
  · rintro LC LD ⟨hz, hz2, h1, h2, h3, h4⟩ i hi
    rw [mem_ready] at hi ⊢
    obtain ⟨hn, o, ho, he⟩ := hi
    rcases at_cases ho with ⟨g, g2⟩ | ⟨rfl, rfl⟩ | ⟨rfl, rfl⟩
    · unfold swp
      rw [if_neg (by omega), if_neg (by omega)]
      refine ⟨?_, o, by rw [at_r g]; exact g2, fun e hm hb => ?_⟩
      · rw [hd _ _ (by omega)] at hn ⊢
        rw [← h4 i g]; exact hn
      · rw [← h4 _ (hre i o g2 e hm hb)]; exact he e hm hb
    · unfold swp
      rw [if_pos rfl]
      refine ⟨?_, _, at_y, fun e hm hb => ?_⟩
      · rw [hd _ _ (by omega)] at hn ⊢
        rw [← h3]; exact hn
      · rcases mem_edge.1 hm with hm | rfl
        · rw [← h4 _ (hxe e hm hb)]; exact he e hm hb
        · exact h2
    · rw [hd _ _ (by omega)] at hn
      unfold lst at h1
      rw [h1] at hn; cases hn
  · rintro LC LD ⟨hz, hz2, h1, h2, h3, h4⟩ i hi
    rw [mem_ready] at hi ⊢
    obtain ⟨hn, o, ho, he⟩ := hi
    rcases at_cases ho with ⟨g, g2⟩ | ⟨rfl, rfl⟩ | ⟨rfl, rfl⟩
    · unfold swp
      rw [if_neg (by omega), if_neg (by omega)]
      refine ⟨?_, o, by rw [at_r g]; exact g2, fun e hm hb => ?_⟩
      · rw [hd _ _ (by omega)] at hn ⊢
        rw [h4 i g]; exact hn
      · rw [h4 _ (hre i o g2 e hm hb)]; exact he e hm hb
    · rw [hd _ _ (by omega)] at hn
      unfold lst at h2
      rw [h2] at hn; cases hn
    · unfold swp
      rw [if_neg (by omega), if_pos rfl]
      refine ⟨?_, x, at_x, fun e hm hb => ?_⟩
      · rw [hd _ _ (by omega)] at hn ⊢
        rw [h3]; exact hn
      · rw [h4 _ (hxe e hm hb)]; exact he e (mem_edge.2 (Or.inl hm)) hb
  · rintro LC LD ⟨hz, hz2, h1, h2, h3, h4⟩ i hi
    rw [mem_ready] at hi
    obtain ⟨hn, o, ho, he⟩ := hi
    have hl := (Array.getElem?_eq_some_iff.1 ho).1
    simp at hl
    have hs : swp r.length i < LD.size := by unfold swp; split <;> (try split) <;> omega
    refine ⟨by simpa using hz, by simpa using hz2, (lst_set (by omega)).2 (Or.inr h1), (lst_set hs).2 (Or.inr h2), ?_, fun k hk => ?_⟩
    · rw [getD_set _ (by omega), getD_set _ hs, h3]
      unfold swp
      by_cases e : i = r.length
      · rw [if_pos e.symm, if_pos e, if_pos rfl]
      · rw [if_neg (fun h => e h.symm), if_neg e]
        by_cases e2 : i = r.length + 1
        · rw [if_pos e2, if_neg (by omega)]
        · rw [if_neg e2, if_neg (fun h => e2 h.symm)]
    · rw [getD_set _ (by omega), getD_set _ hs, h4 k hk]
      unfold swp
      by_cases e : i = r.length
      · rw [if_neg (by omega), if_pos e, if_neg (by omega)]
      · rw [if_neg e]
        by_cases e2 : i = r.length + 1
        · rw [if_pos e2, if_neg (by omega), if_neg (by omega)]
        · rw [if_neg e2]
end

/-- THE TWO ORDERS: each listing's run serves -/
theorem pair_wp (hH : ∀ B W, HSound P B W H) {r : List Oper} {x y : Oper} (hg : ∀ o ∈ r, o.guard = none) (hx : isStore x = true) (hy : isStore y = true) {nt : Nat} {ds : List Deferred} {J0 : Inj}
    (st1 : Static P (r ++ [x, edgeTo r.length y])) (st2 : Static P (r ++ [y, edgeTo r.length x])) (hops : ∀ o ∈ r ++ [x, y], operOk P.globals.size nt o = true)
    {S S2 : List (Tree Value × Mem)} (hlen : S.length = r.length + 3) (hlen2 : S2.length = r.length + 3) (hag : ∀ i, i ≤ r.length → S2[i]? = S[i]?) (hend : S2[r.length + 2]? = S[r.length + 2]?)
    (hS : ∀ i o, (r ++ [x, edgeTo r.length y])[i]? = some o → ∃ ti mi v m1, S[i]? = some (ti, mi) ∧ sop1 P H (r ++ [x, edgeTo r.length y]) o ti mi = some (v, m1) ∧ S[i + 1]? = some (put ti o.dst v, m1))
    (hS2 : ∀ i o, (r ++ [y, edgeTo r.length x])[i]? = some o → ∃ ti mi v m1, S2[i]? = some (ti, mi) ∧ sop1 P H (r ++ [y, edgeTo r.length x]) o ti mi = some (v, m1) ∧ S2[i + 1]? = some (put ti o.dst v, m1))
    (hck : checkReads P H (r ++ [x, edgeTo r.length y]) S = true) (hck2 : checkReads P H (r ++ [y, edgeTo r.length x]) S2 = true) {Q : Exit → Act → World → Prop}
    (hQ : ∀ J' a' w' tn mn, J0.le J' → a'.tmps.size = nt → a'.defers = ds → S[r.length + 2]? = some (tn, mn) → SRel J' tn a' → MRel P J' mn B W w' → Q .normal a' w') :
    ∀ (fuel : Nat) (listed : Array Bool) (a : Act) (w : World), (List.range (r.length + 2)).countP (fun i => !listed.getD i false) ≤ fuel → ¬ lst listed r.length → ¬ lst listed (r.length + 1) →
      DInv P B W (r ++ [x, edgeTo r.length y]).toArray S nt ds J0 listed a w → wpAny P .any (r ++ [x, y]).toArray Q fuel listed a w := by
  obtain ⟨xg, xd, xl, xf⟩ := isStore_g (P := P) hx
  obtain ⟨yg, yd, yl, yf⟩ := isStore_g (P := P) hy
  have hg' : ∀ o ∈ r ++ [x, y], o.guard = none := by
    intro o ho
    rw [List.mem_append] at ho
    rcases ho with ho | ho
    · exact hg o ho
    · simp at ho; rcases ho with rfl | rfl
      · exact xg
      · exact yg
  have l1 : ∀ {p q : Oper} {i : Nat}, i < r.length → (r ++ [p, q])[i]? = r[i]? := fun h => List.getElem?_append_left h
  have lx : ∀ {p q : Oper}, (r ++ [p, q])[r.length]? = some p := by intro p q; rw [List.getElem?_append_right (Nat.le_refl _)]; simp
  have ly : ∀ {p q : Oper}, (r ++ [p, q])[r.length + 1]? = some q := by intro p q; rw [List.getElem?_append_right (by omega)]; simp
  have hre : ∀ (i : Nat) o, r[i]? = some o → ∀ e ∈ o.after, Region.binds .any e = true → e.on < r.length := by
    intro i o ho e he hb
    have hl := (List.getElem?_eq_some_iff.1 ho).1
    have := st1.back i o (by rw [l1 hl]; exact ho) e (by simpa using he) hb
    omega
  have hxe : ∀ e ∈ x.after, Region.binds .any e = true → e.on < r.length := fun e he hb => st1.back _ x lx e (by simpa using he) hb
  have hye : ∀ e ∈ y.after, Region.binds .any e = true → e.on < r.length := fun e he hb => st2.back _ y lx e (by simpa using he) hb
  have ops1 : ∀ o ∈ (r ++ [x, edgeTo r.length y]).toArray.toList, operOk P.globals.size nt o = true := by
    intro o ho
    simp at ho
    rcases ho with ho | rfl | rfl
    · exact hops o (by simp [ho])
    · exact hops _ (by simp)
    · exact hops y (by simp)
  have ops2 : ∀ o ∈ (r ++ [y, edgeTo r.length x]).toArray.toList, operOk P.globals.size nt o = true := by
    intro o ho
    simp at ho
    rcases ho with ho | rfl | rfl
    · exact hops o (by simp [ho])
    · exact hops _ (by simp)
    · exact hops x (by simp)
  have w1 := drawn_wp (B := B) (W := W) (nt := nt) (ds := ds) (J0 := J0) (Q := Q) hH (ops := (r ++ [x, edgeTo r.length y]).toArray) st1 ops1 (by simpa using hlen) hS (Or.inr hck) (fun J' a' w' tn mn q1 q2 q3 q4 q5 q6 => hQ J' a' w' tn mn q1 q2 q3 (by simpa using q4) q5 q6)
  have w2 := drawn_wp (B := B) (W := W) (nt := nt) (ds := ds) (J0 := J0) (Q := Q) hH (ops := (r ++ [y, edgeTo r.length x]).toArray) st2 ops2 (by simpa using hlen2) hS2 (Or.inr hck2) (fun J' a' w' tn mn q1 q2 q3 q4 q5 q6 => hQ J' a' w' tn mn q1 q2 q3 (by rw [← hend]; simpa using q4) q5 q6)
  -- the state serves the other listing
  have turn : ∀ (listed : Array Bool) (a : Act) (w : World), ¬ lst listed r.length → ¬ lst listed (r.length + 1) → DInv P B W (r ++ [x, edgeTo r.length y]).toArray S nt ds J0 listed a w → DInv P B W (r ++ [y, edgeTo r.length x]).toArray S2 nt ds J0 listed a w := by
    intro listed a w n1 n2 D
    have hlt : ∀ (p q : Oper) (i : Nat), i < (r ++ [p, q]).length → lst listed i → i < r.length := by
      intro p q i hi hl
      simp at hi
      rcases Nat.lt_trichotomy i r.length with g | g | g
      · exact g
      · subst g; exact absurd hl n1
      · have : i = r.length + 1 := by omega
        subst this; exact absurd hl n2
    obtain ⟨J, p, tp, mp, pb, D0⟩ := D.rel
    have hpl : p ≤ r.length := by
      refine Nat.le_of_not_lt fun g => n1 (D0.up r.length g ?_)
      unfold loudAt
      simp only [List.toList_toArray, lx]
      simpa using xl
    have hloud : ∀ q, q < r.length → loudAt P (r ++ [y, edgeTo r.length x]).toArray.toList q = loudAt P (r ++ [x, edgeTo r.length y]).toArray.toList q := by
      intro q hq
      unfold loudAt
      simp only [List.toList_toArray, l1 hq]
    have hPq : ∀ q, Pq P (r ++ [y, edgeTo r.length x]).toArray.toList (lst listed) p q ↔ Pq P (r ++ [x, edgeTo r.length y]).toArray.toList (lst listed) p q := by
      intro q
      unfold Pq
      refine and_congr_right fun _ => ?_
      by_cases hl : lst listed q
      · by_cases hq : q < r.length
        · rw [hloud q hq]
        · have hge : ∀ p' q' : Oper, ¬ (q < (r ++ [p', q']).length) := fun p' q' hi => hq (hlt p' q' q hi hl)
          have e1 : loudAt P (r ++ [y, edgeTo r.length x]).toArray.toList q = false := by
            unfold loudAt
            rw [List.getElem?_eq_none (by have := hge y (edgeTo r.length x); simp at this ⊢; omega)]; rfl
          have e2 : loudAt P (r ++ [x, edgeTo r.length y]).toArray.toList q = false := by
            unfold loudAt
            rw [List.getElem?_eq_none (by have := hge x (edgeTo r.length y); simp at this ⊢; omega)]; rfl
          rw [e1, e2]
      · exact ⟨fun h => absurd h.2 hl, fun h => absurd h.2 hl⟩
    have hPl : ∀ q, Pq P (r ++ [x, edgeTo r.length y]).toArray.toList (lst listed) p q → q < r.length := by
      intro q hq
      refine hlt x (edgeTo r.length y) q ?_ hq.2.2
      refine Nat.lt_of_not_le fun g => ?_
      have := hq.2.1
      unfold loudAt at this
      simp only [List.toList_toArray] at this
      rw [List.getElem?_eq_none g] at this
      simp at this
    refine ⟨by rw [D.sz]; simp, D.ntm, D.dfs, fun j o ho hl e he hb => ?_, J, p, tp, mp, pb, ⟨D0.le, by simp; omega, fun k hk hlk => D0.up k hk (by rw [← hloud k (by omega)]; exact hlk), by rw [hag p hpl]; exact D0.st, ?_, D0.fr, fun q o hq ho => ?_, fun q q' hq hq' => D0.inj q q' ((hPq q).1 hq) ((hPq q').1 hq'), fun q hq => D0.nF q ((hPq q).1 hq), fun d hd hnp i ti mi hi hcut => ?_⟩⟩
    · have hj := hlt y (edgeTo r.length x) j (by simpa using (List.getElem?_eq_some_iff.1 ho).1) hl
      simp only [List.toList_toArray, l1 hj] at ho
      exact D.cl j o (by simp only [List.toList_toArray, l1 hj]; exact ho) hl e he hb
    · exact D0.rel.less (fun k hk => hk.imp id fun ⟨q, hq, e⟩ => ⟨q, (hPq q).1 hq, e⟩) (fun k hk => hk.imp id fun ⟨q, hq, e⟩ => ⟨q, (hPq q).1 hq, e⟩) (.refl _ _)
    · have hq' := (hPq q).1 hq
      have hql := hPl q hq'
      simp only [List.toList_toArray, l1 hql] at ho
      obtain ⟨h1, h2, ⟨tq, mq, mk, cells, e, i, ex, g1, g2, g3⟩, h4⟩ := D0.pend q o hq' (by simp only [List.toList_toArray, l1 hql]; exact ho)
      refine ⟨h1, h2, ⟨tq, mq, mk, cells, e, i, ex, by rw [hag q (by omega)]; exact g1, by rw [hag (q + 1) (by omega)]; exact g2, g3⟩, fun d s os hd hs hos hosd hl => ?_⟩
      have hsl := hlt y (edgeTo r.length x) s (by simpa using (List.getElem?_eq_some_iff.1 hos).1) hl
      simp only [List.toList_toArray, l1 hsl] at hos
      exact h4 d s os hd hs (by simp only [List.toList_toArray, l1 hsl]; exact hos) hosd hl
    · -- slots
      have hnp' : ∀ q o, Pq P (r ++ [x, edgeTo r.length y]).toArray.toList (lst listed) p q → (r ++ [x, edgeTo r.length y]).toArray.toList[q]? = some o → o.dst ≠ some d := by
        intro q o hq ho
        have hql := hPl q hq
        simp only [List.toList_toArray, l1 hql] at ho
        exact hnp q o ((hPq q).2 hq) (by simp only [List.toList_toArray, l1 hql]; exact ho)
      by_cases hir : i ≤ r.length
      · rw [hag i hir] at hi
        refine D0.slots d hd hnp' i ti mi hi fun z o hz hzd => ?_
        have hzl : z < r.length := by
          have hl := (List.getElem?_eq_some_iff.1 hz).1
          simp at hl
          rcases Nat.lt_trichotomy z r.length with g | g | g
          · exact g
          · subst g
            simp only [List.toList_toArray, lx, Option.some.injEq] at hz
            subst hz
            rw [xd] at hzd; cases hzd
          · have : z = r.length + 1 := by omega
            subst this
            simp only [List.toList_toArray, ly, Option.some.injEq] at hz
            subst hz
            rw [show (edgeTo r.length y).dst = y.dst from rfl, yd] at hzd; cases hzd
        simp only [List.toList_toArray, l1 hzl] at hz
        exact hcut z o (by simp only [List.toList_toArray, l1 hzl]; exact hz) hzd
      · -- behind the stores the slots are as ahead of them
        have htree : ∃ tn mn, S[r.length]? = some (tn, mn) ∧ ti = tn := by
          obtain ⟨ta, ma, v, m1, g1, _, g3⟩ := hS2 r.length y lx
          obtain ⟨tb, mb, v', m2, k1, _, k3⟩ := hS2 (r.length + 1) (edgeTo r.length x) ly
          rw [hag _ (Nat.le_refl _)] at g1
          refine ⟨ta, ma, g1, ?_⟩
          rw [yd] at g3
          rw [show (edgeTo r.length x).dst = x.dst from rfl, xd] at k3
          rw [g3] at k1
          simp only [put, Option.some.injEq, Prod.mk.injEq] at k1 k3 g3
          have hil := (List.getElem?_eq_some_iff.1 hi).1
          have hcase : i = r.length + 1 ∨ i = r.length + 2 := by omega
          rcases hcase with e | e
          · rw [e, g3] at hi
            simp only [Option.some.injEq, Prod.mk.injEq] at hi
            exact hi.1.symm
          · rw [e, k3] at hi
            simp only [Option.some.injEq, Prod.mk.injEq] at hi
            rw [← hi.1, ← k1.1]
        obtain ⟨tn, mn, hn, rfl⟩ := htree
        refine D0.slots d hd hnp' r.length ti mn hn fun z o hz hzd => ?_
        have hzl : z < r.length := by
          have hl := (List.getElem?_eq_some_iff.1 hz).1
          simp at hl
          rcases Nat.lt_trichotomy z r.length with g | g | g
          · exact g
          · subst g
            simp only [List.toList_toArray, lx, Option.some.injEq] at hz
            subst hz
            rw [xd] at hzd; cases hzd
          · have : z = r.length + 1 := by omega
            subst this
            simp only [List.toList_toArray, ly, Option.some.injEq] at hz
            subst hz
            rw [show (edgeTo r.length y).dst = y.dst from rfl, yd] at hzd; cases hzd
        simp only [List.toList_toArray, l1 hzl] at hz
        have := hcut z o (by simp only [List.toList_toArray, l1 hzl]; exact hz) hzd
        exact ⟨fun _ => hzl, fun _ => this.2 (by omega)⟩
  intro fuel
  induction fuel with
  | zero =>
    intro listed a w hc n1 n2 D
    exfalso
    have hz : (List.range (r.length + 2)).countP (fun i => !listed.getD i false) = 0 := by omega
    rw [List.countP_eq_zero] at hz
    have := hz r.length (by simp)
    unfold lst at n1
    simp only [Bool.not_eq_true] at n1
    rw [n1] at this
    simp at this
  | succ fuel ih =>
    intro listed a w hc n1 n2 D
    have hsz : listed.size = r.length + 2 := by rw [D.sz]; simp
    have hd : ∀ (i : Nat), i < r.length + 2 → listed.getD i true = listed.getD i false := by
      intro i hi
      have : i < listed.size := by omega
      simp [this]
    have c1 : (List.range (r ++ [x, edgeTo r.length y]).toArray.size).countP (fun i => !listed.getD i false) ≤ fuel + 1 := by simpa using hc
    have c2 : (List.range (r ++ [y, edgeTo r.length x]).toArray.size).countP (fun i => !listed.getD i false) ≤ fuel + 1 := by simpa using hc
    have a1 := w1 (fuel + 1) listed a w c1 D
    have a2 := w2 (fuel + 1) listed a w c2 (turn listed a w n1 n2 D)
    have hopeq : ∀ (ops ops' : Array Oper) (i j : Nat) (o : Oper) (af : Array Edge) (K : Act → World → Prop), ops[i]? = some { o with after := af } → ops'[j]? = some o → o.guard = none → wpOp P ops Q i K a w → wpOp P ops' Q j K a w := by
      intro ops ops' i j o af K h1 h2 hgo h
      unfold wpOp at h ⊢
      simp only [h1, h2] at h ⊢
      have v1 : Region.wanted o (yielded ops' a.tmps) = true := by unfold Region.wanted; rw [hgo]
      have v2 : Region.wanted { o with after := af } (yielded ops a.tmps) = true := by unfold Region.wanted; simp only [hgo]
      rw [if_pos v1]
      rw [if_pos v2] at h
      exact h
    refine ⟨fun hr => ?_, fun j hj => ?_⟩
    · refine a1.1 ?_
      rw [List.eq_nil_iff_forall_not_mem] at hr ⊢
      intro i hi
      refine hr i ?_
      rw [mem_ready] at hi ⊢
      refine ⟨hi.1, ?_⟩
      obtain ⟨_, o, ho, he⟩ := hi
      rcases at_cases ho with ⟨g, g2⟩ | ⟨rfl, rfl⟩ | ⟨rfl, rfl⟩
      · exact ⟨o, by rw [at_r g]; exact g2, he⟩
      · exact ⟨o, at_x, he⟩
      · exact ⟨_, at_y, fun e hm hb => he e (mem_edge.2 (Or.inl hm)) hb⟩
    · have hj0 := hj
      rw [mem_ready] at hj
      obtain ⟨hn, o, ho, he⟩ := hj
      rcases at_cases ho with ⟨g, g2⟩ | ⟨rfl, rfl⟩ | ⟨rfl, rfl⟩
      · -- none of the two
        have hj1 : j ∈ Region.ready .any (r ++ [x, edgeTo r.length y]).toArray listed := by
          rw [mem_ready]; exact ⟨hn, o, by rw [at_r g]; exact g2, he⟩
        have hog := hg o (List.mem_of_getElem? g2)
        refine hopeq _ _ j j o o.after _ (by rw [at_r g]; exact g2) ho hog (drawn_step hH st1 ops1 (by simpa using hlen) hS (Or.inr hck) D hj1 fun a' w' D' => ih _ a' w' ?_ ?_ ?_ D')
        · have hjl : j < listed.size := by omega
          have := countP_lt (p := fun i => !listed.getD i false) (q := fun i => !(listed.setIfInBounds j true).getD i false) (List.range (r.length + 2)) (fun z _ hz => by
            rw [getD_set _ hjl] at hz
            split at hz
            · simp at hz
            · exact hz) ⟨j, by simp; omega, by rw [hd j (by omega)] at hn; simpa using hn, by rw [getD_set _ hjl, if_pos rfl]; rfl⟩
          omega
        · intro hl; rcases (lst_set (by omega)).1 hl with e | hl
          · omega
          · exact n1 hl
        · intro hl; rcases (lst_set (by omega)).1 hl with e | hl
          · omega
          · exact n2 hl
      · have hj1 : r.length ∈ Region.ready .any (r ++ [o, edgeTo r.length y]).toArray listed := by
          rw [mem_ready]; exact ⟨hn, o, at_x, he⟩
        have := a1.2 _ hj1
        refine hopeq _ _ r.length r.length o o.after _ at_x ho xg (wpOp_mono (fun a w h => ?_) this)
        exact sim1 hg' hxe (by simpa using hsz) ((lst_set (by omega)).2 (Or.inl rfl)) fuel a w h
      · have hj1 : r.length ∈ Region.ready .any (r ++ [o, edgeTo r.length x]).toArray listed := by
          rw [mem_ready]
          refine ⟨?_, o, at_x, he⟩
          rw [hd _ (by omega)]
          unfold lst at n1
          simpa using n1
        have := a2.2 _ hj1
        refine hopeq _ _ r.length (r.length + 1) o o.after _ at_x ho yg (wpOp_mono (fun a w h => ?_) this)
        refine sim2 hg' hre hxe (by simpa using hsz) (by simpa using hsz) ((lst_set (by omega)).2 (Or.inl rfl)) ((lst_set (by omega)).2 (Or.inl rfl)) ?_ (fun i hi => ?_) fuel a w h
        · rw [getD_set _ (by omega), getD_set _ (by omega), if_neg (by omega), if_neg (by omega)]
          unfold lst at n1 n2
          simp only [Bool.not_eq_true] at n1 n2
          rw [n1, n2]
        · rw [getD_set _ (by omega), getD_set _ (by omega), if_neg (by omega), if_neg (by omega)]

/-- what the two listings' states have in common -/
theorem pair_states {r : List Oper} {x y : Oper} (hg : ∀ o ∈ r, o.guard = none) (hx : isStore x = true) (hy : isStore y = true) {t : Tree Value} {m : Mem} {S S2 : List (Tree Value × Mem)}
    (hS : states P H (r ++ [x, edgeTo r.length y]) (r ++ [x, edgeTo r.length y]) t m = some S) (hS2 : states P H (r ++ [y, edgeTo r.length x]) (r ++ [y, edgeTo r.length x]) t m = some S2) (hap : apart r x y S = true) :
    (∀ i, i ≤ r.length → S2[i]? = S[i]?) ∧ S2[r.length + 2]? = S[r.length + 2]? := by
  obtain ⟨g1, g2, g3⟩ := states_spec _ _ _ _ hS
  obtain ⟨k1, k2, k3⟩ := states_spec _ _ _ _ hS2
  obtain ⟨xg, xd, _, _⟩ := isStore_g (P := P) hx
  obtain ⟨yg, yd, _, _⟩ := isStore_g (P := P) hy
  have l1 : ∀ {p q : Oper} {i : Nat}, i < r.length → (r ++ [p, q])[i]? = r[i]? := fun h => List.getElem?_append_left h
  have lx : ∀ {p q : Oper}, (r ++ [p, q])[r.length]? = some p := by intro p q; rw [List.getElem?_append_right (Nat.le_refl _)]; simp
  have ly : ∀ {p q : Oper}, (r ++ [p, q])[r.length + 1]? = some q := by intro p q; rw [List.getElem?_append_right (by omega)]; simp
  have hag : ∀ i, i ≤ r.length → S2[i]? = S[i]? := by
    intro i
    induction i with
    | zero => intro _; rw [g2, k2]
    | succ i ih =>
      intro hi
      have hl : i < r.length := by omega
      have ho := List.getElem?_eq_getElem hl
      obtain ⟨ta, ma, v, m1, a1, a2, a3⟩ := g3 i r[i] (by rw [l1 hl]; exact ho)
      obtain ⟨tb, mb, v', m2, b1, b2, b3⟩ := k3 i r[i] (by rw [l1 hl]; exact ho)
      rw [ih (by omega), a1] at b1
      simp only [Option.some.injEq, Prod.mk.injEq] at b1
      obtain ⟨rfl, rfl⟩ := b1
      have hgo := hg r[i] (List.getElem_mem hl)
      rw [sop1_ng hgo] at a2 b2
      rw [a2] at b2
      simp only [Option.some.injEq, Prod.mk.injEq] at b2
      obtain ⟨rfl, rfl⟩ := b2
      rw [a3, b3]
  refine ⟨hag, ?_⟩
  obtain ⟨ta, ma, va, m1, a1, a2, a3⟩ := g3 r.length x lx
  obtain ⟨tb, mb, vb, m2, b1, b2, b3⟩ := g3 (r.length + 1) (edgeTo r.length y) ly
  obtain ⟨tc, mc, vc, m3, c1, c2, c3⟩ := k3 r.length y lx
  obtain ⟨td, md, vd, m4, d1, d2, d3⟩ := k3 (r.length + 1) (edgeTo r.length x) ly
  rw [hag _ (Nat.le_refl _), a1] at c1
  rw [a3] at b1
  rw [c3] at d1
  have ey : (edgeTo r.length y).dst = none := yd
  have ex : (edgeTo r.length x).dst = none := xd
  simp only [Option.some.injEq, Prod.mk.injEq, xd, yd, put] at b1 c1 d1
  obtain ⟨rfl, rfl⟩ := c1
  obtain ⟨rfl, rfl⟩ := b1
  obtain ⟨rfl, rfl⟩ := d1
  rw [sop1_ng xg] at a2
  rw [sop1_ng yg] at c2
  rw [sop1_ng (show (edgeTo r.length y).guard = none from yg), sop_edge] at b2
  rw [sop1_ng (show (edgeTo r.length x).guard = none from xg), sop_edge] at d2
  unfold apart at hap
  rw [a1] at hap
  simp only at hap
  cases hp : stAt ta x with
  | none => simp [hp] at hap
  | some p =>
    cases hq : stAt ta y with
    | none => simp [hp, hq] at hap
    | some q =>
      simp only [hp, hq, bne_iff_ne, ne_eq] at hap
      obtain ⟨a, vs, ha, s1, s2⟩ := store_inv hx hp a2
      obtain ⟨b, ws, hb, u1, u2⟩ := store_inv hy hq c2
      have := storeRow_comm s1 (u2 _ _ _ b2) u1 (s2 _ _ _ d2) (by rw [ha, hb]; exact hap)
      rw [b3, d3, ex, ey, this]
      rfl
end Go.Sh

/- THE THEOREM: what the abstract run does, the model does. -/
namespace Go.Sh
open Go.RowKit
set_option linter.unusedVariables false
set_option linter.unusedSimpArgs false

variable {P : Program} {H : CallH} {B : Frame} {W : World} {J : Inj} {m m' : Mem} {w w' : World} {t t' : Tree Value} {a : Act}

/-- A REGION that draws its order, its operations written in an order that serves. -/
theorem drawn_region_wp (hH : ∀ B W, HSound P B W H) {cs : Array Oper} (hops : ∀ x ∈ cs.toList, operOk P.globals.size a.tmps.size x = true) (hdo : drawOk0 P cs.toList = true) (h : MRel P J m B W w) (r : SRel J t a)
    {S : List (Tree Value × Mem)} (hS : states P H cs.toList cs.toList t m = some S) (hck : quiet P cs.toList = true ∨ checkReads P H cs.toList S = true) (hlast : S.getLast? = some (t', m')) {Q : Exit → Act → World → Prop}
    (hQ : ∀ J' a' w', J.le J' → a'.tmps.size = a.tmps.size → a'.defers = a.defers → SRel J' t' a' → MRel P J' m' B W w' → Q .normal a' w') : wpAny P .any cs Q cs.size (Array.replicate cs.size false) a w := by
  obtain ⟨g1, g2, g3⟩ := states_spec cs.toList t m S hS
  have hlast : S[cs.toList.length]? = some (t', m') := by
    rw [List.getLast?_eq_getElem?, g1] at hlast
    simpa using hlast
  refine drawn_wp (B := B) (W := W) (nt := a.tmps.size) (ds := a.defers) (J0 := J) hH (static_of hdo) hops g1 g3 hck (fun J' a' w' tn mn q1 q2 q3 q4 q5 q6 => ?_) cs.size _ a _ ?_ (dinv_start h r g1 g2 g3).1
  · rw [hlast] at q4
    simp only [Option.some.injEq, Prod.mk.injEq] at q4
    obtain ⟨rfl, rfl⟩ := q4
    exact hQ J' a' w' q1 q2 q3 q5 q6
  · have := List.countP_le_length (p := fun i => !(Array.replicate cs.size false).getD i false) (l := List.range cs.size)
    simpa using this

/-- and one whose last two go in either order -/
theorem pair_region_wp (hH : ∀ B W, HSound P B W H) {cs : Array Oper} {r0 : List Oper} {x y : Oper} (htw : two cs.toList = some (r0, x, y)) (hops : ∀ x ∈ cs.toList, operOk P.globals.size a.tmps.size x = true)
    (hd1 : drawOk0 P (r0 ++ [x, edgeTo r0.length y]) = true) (hd2 : drawOk0 P (r0 ++ [y, edgeTo r0.length x]) = true) (h : MRel P J m B W w) (r : SRel J t a)
    (he : spair P H r0 x y t m = some (t', m')) {Q : Exit → Act → World → Prop}
    (hQ : ∀ J' a' w', J.le J' → a'.tmps.size = a.tmps.size → a'.defers = a.defers → SRel J' t' a' → MRel P J' m' B W w' → Q .normal a' w') : wpAny P .any cs Q cs.size (Array.replicate cs.size false) a w := by
  obtain ⟨hcs, hx, hy, hg⟩ := two_spec htw
  have hcs' : cs = (r0 ++ [x, y]).toArray := by rw [← hcs]
  subst hcs'
  unfold spair at he
  split at he
  · rename_i S hS
    split at he
    · rename_i S2 hS2
      split at he
      · rename_i hc
        simp only [Bool.and_eq_true] at hc
        obtain ⟨⟨hap, hck⟩, hck2⟩ := hc
        obtain ⟨hag, hend⟩ := pair_states hg hx hy hS hS2 hap
        obtain ⟨g1, g2, g3⟩ := states_spec _ t m S hS
        obtain ⟨k1, k2, k3⟩ := states_spec _ t m S2 hS2
        have hlen : S.length = r0.length + 3 := by rw [g1]; simp
        have hlen2 : S2.length = r0.length + 3 := by rw [k1]; simp
        have hlast : S[r0.length + 2]? = some (t', m') := by
          rw [List.getLast?_eq_getElem?, hlen] at he
          simpa using he
        obtain ⟨hd, hno⟩ := dinv_start (cs := (r0 ++ [x, edgeTo r0.length y]).toArray) h r (by simpa using g1) g2 g3
        have hz : (r0 ++ [x, edgeTo r0.length y]).toArray.size = (r0 ++ [x, y]).toArray.size := by simp
        rw [hz] at hd hno
        refine pair_wp (B := B) (W := W) (nt := a.tmps.size) (ds := a.defers) (J0 := J) hH hg hx hy (static_of hd1) (static_of hd2) (by simpa using hops) hlen hlen2 hag hend g3 k3 hck hck2 (fun J' a' w' tn mn q1 q2 q3 q4 q5 q6 => ?_) _ _ a w ?_ (hno _) (hno _) hd
        · rw [hlast] at q4
          simp only [Option.some.injEq, Prod.mk.injEq] at q4
          obtain ⟨rfl, rfl⟩ := q4
          exact hQ J' a' w' q1 q2 q3 q5 q6
        · have := List.countP_le_length (p := fun i => !(Array.replicate (r0 ++ [x, y]).toArray.size false).getD i false) (l := List.range (r0.length + 2))
          simpa using this
      · cases he
    · cases he
  · cases he

theorem sops_states {P : Program} {H : CallH} {all : List Oper} : ∀ (rest : List Oper) (t : Tree Value) (m : Mem) r, sops P H all rest t m = some r → ∃ S, states P H all rest t m = some S ∧ S.getLast? = some r
  | [], t, m, r, he => by
    simp only [sops, Option.some.injEq] at he
    subst he
    exact ⟨[(t, m)], rfl, rfl⟩
  | o :: rest, t, m, r, he => by
    simp only [sops] at he
    split at he
    · rename_i v m' h1
      obtain ⟨S, g1, g2⟩ := sops_states rest _ _ _ he
      refine ⟨(t, m) :: S, by simp only [states, h1, g1], ?_⟩
      cases S with
      | nil => simp at g2
      | cons y l => simpa using g2
    · cases he

/-- A REGION. -/
theorem region_wp (hm : P.follows .mixedOrders = true) (hH : ∀ B W, HSound P B W H) {id : Nat} {ops : Array Oper} {draw : Bool} (hok : codeOk P a.tmps.size (.region id ops draw) = true) (h : MRel P J m B W w) (r : SRel J t a)
    (he : sregion P H ops.toList draw t m = some (t', m')) {Q : Exit → Act → World → Prop}
    (hQ : ∀ J' a' w', J.le J' → a'.tmps.size = a.tmps.size → a'.defers = a.defers → SRel J' t' a' → MRel P J' m' B W w' → Q .normal a' w') : (Code.region id ops draw).wp P Q a w := by
  simp only [codeOk, Bool.and_eq_true, List.all_eq_true] at hok
  obtain ⟨hops, hdr⟩ := hok
  unfold sregion at he
  cases draw with
  | false =>
    simp only [Bool.false_eq_true, if_false] at he
    refine wp_region ?_
    have := sops_wp (Q := Q) (hH B W) ops.toList 0 rfl t m t' m' he J a w hops h r hQ
    rw [List.range_eq_range']
    simpa using this
  | true =>
    simp only [if_true] at he
    have hp : permOk ops.toList = true ∧ (match two (canonOps ops.toList) with
        | some (r, x, y) => drawOk0 P (r ++ [x, edgeTo r.length y]) && drawOk0 P (r ++ [y, edgeTo r.length x])
        | none => drawOk0 P (canonOps ops.toList)) = true := by
      have : drawOk P ops.toList = true := by simpa using hdr
      unfold drawOk at this
      rw [Bool.and_eq_true] at this
      exact this
    obtain ⟨hperm, hdo⟩ := hp
    -- in whatever order they are written
    have key : ∀ cs : Array Oper, cs.toList = canonOps ops.toList → (∀ x ∈ cs.toList, operOk P.globals.size a.tmps.size x = true) → wpAny P .any cs Q cs.size (Array.replicate cs.size false) a w.drew := by
      intro cs hcs hops'
      have hdrew : MRel P J m B W w.drew := h.drew
      rw [← hcs] at he hdo
      split at he
      · rename_i hq
        obtain ⟨S, h1, h2⟩ := sops_states _ _ _ _ he
        have hno : two cs.toList = none := by
          cases ht : two cs.toList with
          | none => rfl
          | some p =>
            obtain ⟨r0, x, y⟩ := p
            obtain ⟨e, hx, _, _⟩ := two_spec ht
            unfold quiet at hq
            rw [List.all_eq_true] at hq
            have := hq x (by rw [e]; simp)
            rw [(isStore_g (P := P) hx).2.2.1] at this
            cases this
        rw [hno] at hdo
        exact drawn_region_wp hH hops' hdo hdrew r h1 (Or.inl hq) h2 hQ
      · split at he
        · rename_i r0 x y ht
          rw [ht] at hdo
          simp only [Bool.and_eq_true] at hdo
          exact pair_region_wp hH ht hops' hdo.1 hdo.2 hdrew r he hQ
        · rename_i ht
          rw [ht] at hdo
          unfold sdrawn at he
          split at he
          · rename_i S hS
            split at he
            · rename_i hck
              exact drawn_region_wp hH hops' hdo hdrew r hS (Or.inr hck) he hQ
            · cases he
          · cases he
    refine wp_region_any hm ?_
    by_cases hf : ops.toList.any floatB = true
    · have hp := perm_of hf hperm
      have hsz : (canonOps ops.toList).toArray.size = ops.size := hp.sz
      have hops' : ∀ x ∈ (canonOps ops.toList).toArray.toList, operOk P.globals.size a.tmps.size x = true := by
        intro x hx
        unfold canonOps at hx
        rw [if_pos hf] at hx
        simp only [List.mem_filterMap, Option.map_eq_some_iff] at hx
        obtain ⟨i, _, o, ho, rfl⟩ := hx
        rw [renum_ok]
        exact hops o (List.mem_of_getElem? ho)
      have key := key (canonOps ops.toList).toArray rfl hops'
      rw [hsz] at key
      refine wpAny_perm hp ops.size (Array.replicate ops.size false) (Array.replicate ops.size false) a _ (by simp) (by simp) (fun x j d hx => ?_) key
      have hx1 : x < ops.size := by rw [← hp.len]; exact (List.getElem?_eq_some_iff.1 hx).1
      obtain ⟨o, ho, _⟩ := hp.at_ x j hx
      have hj1 : j < ops.size := (Array.getElem?_eq_some_iff.1 ho).1
      simp [Array.getElem?_replicate, hx1, hj1]
    · have hc : canonOps ops.toList = ops.toList := by unfold canonOps; rw [if_neg hf]
      exact key ops hc.symm hops

/-- the table of the functions that may be called -/
def TabOk (P : Program) (T : FuncId → Option Func) : Prop := ∀ f fn, T f = some fn → P.funcs[f]? = some fn ∧ funcOk P fn = true

def resSem (tmps : Array Value) : ResultVar → Sem Value
  | .tmp t => pure (tmps.getD t undef)
  | .cell a t => do loadVar t (← asAddr (tmps.getD a undef))

theorem results_eq (fn : Func) (tmps : Array Value) : results fn tmps = (do let vs ← fn.results.mapM (resSem tmps); pure (if h : vs.size = 1 then vs[0] else .tuple vs)) := rfl

theorem sresult_run (h : MRel P J m B W w) (r : SRel J t a) {rv : ResultVar} (hok : resOk a.tmps.size rv = true) {v : Value} (he : sresult P t m rv = some v) :
    ∃ v', VRel J v v' ∧ (resSem a.tmps rv).run P w = .ok v' w := by
  unfold resSem
  cases rv with
  | tmp i =>
    simp only [sresult, Option.some.injEq] at he
    subst he
    simp only [resOk, decide_eq_true_eq] at hok
    exact ⟨_, r i hok, by simp⟩
  | cell i ty =>
    simp only [resOk, decide_eq_true_eq] at hok
    have hr := r i hok
    simp only [sresult] at he
    split at he
    · rename_i ad hv
      rw [hv] at hr
      obtain ⟨_, _, e1⟩ := hr.ptr_inv
      split at he
      · cases he
      · rename_i d hd
        split at he
        · rename_i hagg
          split at he
          · rename_i z hz
            simp only [Option.map_eq_some_iff] at he
            obtain ⟨cs, hl, rfl⟩ := he
            obtain ⟨cs', g1, g2⟩ := run_loadVar_agg h hd hagg hz hl
            refine ⟨_, .agg_of g1, ?_⟩
            simp only [e1]
            simp [asAddr, g2]
          · cases he
        · rename_i hagg
          split at he
          · rename_i u hl
            simp only [Option.some.injEq] at he
            subst he
            obtain ⟨v', g1, g2⟩ := run_loadVar_one h hd (by simpa using hagg) hl
            refine ⟨v', g1, ?_⟩
            simp only [e1]
            simp [asAddr, g2]
          · cases he
    · cases he

theorem sresultsL_run (h : MRel P J m B W w) (r : SRel J t a) : ∀ (rs : List ResultVar), (∀ x ∈ rs, resOk a.tmps.size x = true) → ∀ vs, sresultsL P t m rs = some vs →
    ∃ vs', LRel J vs vs' ∧ (rs.mapM (resSem a.tmps)).run P w = .ok vs' w
  | [], _, vs, he => by
    simp only [sresultsL, Option.some.injEq] at he
    subst he
    exact ⟨[], LRel.nil, by simp⟩
  | x :: rest, hok, vs, he => by
    simp only [sresultsL] at he
    split at he
    · rename_i v hv
      simp only [Option.map_eq_some_iff] at he
      obtain ⟨vr, hvr, rfl⟩ := he
      obtain ⟨v', g1, g2⟩ := sresult_run h r (hok x (by simp)) hv
      obtain ⟨vs', q1, q2⟩ := sresultsL_run h r rest (fun y hy => hok y (by simp [hy])) vr hvr
      refine ⟨v' :: vs', .cons g1 q1, ?_⟩
      rw [List.mapM_cons]
      simp only [Sem.run_bind, g2, q2, Result.andThen_ok, Sem.run_pure]
    · cases he

theorem results_run (h : MRel P J m B W w) (r : SRel J t a) {fn : Func} (hok : ∀ x ∈ fn.results.toList, resOk a.tmps.size x = true) {v : Value} (he : sresults P fn.results.toList t m = some v) :
    ∃ v', VRel J v v' ∧ (results fn a.tmps).run P w = .ok v' w := by
  unfold sresults at he
  have key : ∀ vs, sresultsL P t m fn.results.toList = some vs → ∃ vs', LRel J vs vs' ∧ (results fn a.tmps).run P w = .ok (if h : vs'.toArray.size = 1 then vs'.toArray[0] else .tuple vs'.toArray) w := by
    intro vs hvs
    obtain ⟨vs', q1, q2⟩ := sresultsL_run h r _ hok vs hvs
    refine ⟨vs', q1, ?_⟩
    rw [results_eq, Array.mapM_eq_mapM_toList]
    simp only [Sem.run_bind, Sem.run_map, q2, Result.andThen_ok, Sem.run_pure]
  split at he
  · rename_i u hu
    simp only [Option.some.injEq] at he
    subst he
    obtain ⟨vs', q1, q2⟩ := key _ hu
    obtain ⟨y, hy, hxy⟩ := q1.get (i := 0) (x := u) rfl
    have hl : vs'.length = 1 := by rw [← q1.1]; rfl
    obtain ⟨z, rfl⟩ := List.length_eq_one_iff.1 hl
    simp at hy
    subst hy
    exact ⟨z, hxy, by simpa using q2⟩
  · rename_i vs hne hvs
    simp only [Option.some.injEq] at he
    subst he
    obtain ⟨vs', q1, q2⟩ := key _ hvs
    have hl : vs'.length ≠ 1 := by
      rw [← q1.1]
      intro h1
      obtain ⟨z, rfl⟩ := List.length_eq_one_iff.1 h1
      exact hne z rfl
    refine ⟨.tuple vs'.toArray, .tuple _ _ (by simpa using q1.1) (fun i x y hx hy => q1.2 i x y (by simpa using hx) (by simpa using hy)), ?_⟩
    rw [q2, dif_neg (by simpa using hl)]
  · cases he

/-- WHAT IS TO BE SHOWN of a run of code. -/
def Sound (P : Program) (B : Frame) (W : World) (c : Code) (t : Tree Value) (m : Mem) (ex : SExit) (t' : Tree Value) (m' : Mem) : Prop :=
  ∀ (J : Inj) (a : Act) (w : World), codeOk P a.tmps.size c = true → MRel P J m B W w → SRel J t a → ∀ Q : Exit → Act → World → Prop,
    (∀ J' a' w', J.le J' → a'.tmps.size = a.tmps.size → a'.defers = a.defers → SRel J' t' a' → MRel P J' m' B W w' → Q (conv ex) a' w') → c.wp P Q a w

/-- the same of the rounds of a loop -/
def SoundL (P : Program) (B : Frame) (W : World) (k : Nat) (c : Code) (t : Tree Value) (m : Mem) (ex : SExit) (t' : Tree Value) (m' : Mem) : Prop :=
  ∀ (J : Inj) (a : Act) (w : World), codeOk P a.tmps.size c = true → MRel P J m B W w → SRel J t a → ∀ Q : Exit → Act → World → Prop,
    (∀ J' a' w', J.le J' → a'.tmps.size = a.tmps.size → a'.defers = a.defers → SRel J' t' a' → MRel P J' m' B W w' → Q (conv ex) a' w') → Code.rounds P c Q k a w

theorem fill_get : ∀ (vs : List Value) (t : Tree Value) (i k : Nat), (fill t vs i).get k = if i ≤ k ∧ k < i + vs.length then vs[k - i]? else t.get k
  | [], t, i, k => by simp only [fill]; rw [if_neg (fun h => by have := h.2; simp at this; omega)]
  | v :: r, t, i, k => by
    simp only [fill]
    rw [fill_get r, Tree.get_set]
    by_cases h1 : i + 1 ≤ k ∧ k < i + 1 + r.length
    · rw [if_pos h1, if_pos (by simp; omega), show k - i = k - (i + 1) + 1 by omega, List.getElem?_cons_succ]
    · rw [if_neg h1]
      by_cases h2 : k = i
      · subst h2; rw [if_pos rfl, if_pos (by simp)]; simp
      · rw [if_neg h2, if_neg (by simp; omega)]

theorem find_noEscape {fn : Func} (h : fn.name = "internal/abi.NoEscape") : Extern.find fn = some Extern.AbiNoEscape.same := by
  have h1 : Extern.allGenericRows.lookup "internal/abi.NoEscape" = none := by kernel_rfl
  have h2 : Extern.allTypedRows.lookup "internal/abi.NoEscape" = none := by kernel_rfl
  have h3 : Extern.allRows.lookup "internal/abi.NoEscape" = some Extern.AbiNoEscape.same := by kernel_rfl
  unfold Extern.find
  simp only [h, h1, h2, h3]
  rfl

theorem callF_sound {T : FuncId → Option Func} (hT : TabOk P T) {ex : Ex} (hex : ∀ c t m e t' m', ex c t m = some (e, t', m') → Sound P B W c t m e t' m') : HSound P B W (callF P T ex) := by
  intro f args m v m' he
  unfold callF at he
  split at he
  · cases he
  · rename_i fn hf
    obtain ⟨hP, hok⟩ := hT f fn hf
    unfold funcOk at hok
    simp only [Bool.and_eq_true, Bool.not_eq_true'] at hok
    obtain ⟨⟨hnm, hcode⟩, hres⟩ := hok
    split at he
    · rename_i hb
      refine Or.inr ?_
      split at he
      · rename_i hcl
        simp only [Bool.and_eq_true, List.all_eq_true, Option.isNone_iff_eq_none] at hcl
        split at he
        · rename_i e hfe
          split at he
          · rename_i u hu
            split at he
            · rename_i hcu
              simp only [Option.some.injEq, Prod.mk.injEq] at he
              obtain ⟨rfl, rfl⟩ := he
              refine ⟨rfl, fun J args' hl => ⟨u, .clo _ hcu, fun w => ?_⟩⟩
              have hargs' := hl.closed_eq hcl.1
              subst hargs'
              have hrun := prun_run _ _ hu w
              have hnm' : ¬ (fn.name = "runtime.NumGoroutine") := by simpa using hnm
              simp [callFunc, hP, hnm', hb, hcl.2, hfe, mark, Sem.run, hrun]
            · cases he
          · cases he
        · cases he
      · split at he
        · rename_i hne
          simp only [Bool.and_eq_true, Option.isNone_iff_eq_none, beq_iff_eq] at hne
          split at he
          · rename_i ad
            simp only [Option.some.injEq, Prod.mk.injEq] at he
            obtain ⟨rfl, rfl⟩ := he
            refine ⟨rfl, fun J args' hl => ?_⟩
            obtain ⟨y, hy, hxy⟩ := hl.get (i := 0) rfl
            have hlen : args'.length = 1 := hl.1.symm
            have hargs' : args' = [y] := by
              obtain ⟨z, rfl⟩ := List.length_eq_one_iff.1 hlen
              simp at hy
              rw [hy]
            subst hargs'
            refine ⟨y, hxy, fun w => ?_⟩
            have hfe : Extern.find fn = some Extern.AbiNoEscape.same := find_noEscape hne.2
            have hnm' : ¬ (fn.name = "runtime.NumGoroutine") := by simpa using hnm
            have hrun := Lib.run_noEscape (P := P) w y
            simp [callFunc, hP, hnm', hb, hne.1, hfe, mark, Sem.run, hrun]
          · cases he
        · cases he
    · rename_i c hc
      refine Or.inl ?_
      rw [hc] at hcode
      split at he
      · rename_i hlen
        refine ⟨⟨fn, hP, by rw [hc]; rfl, hnm⟩, fun J args' w hl hM => ?_⟩
        have hl' : args'.length ≤ fn.ntmps := by rw [← hl.1]; exact hlen
        refine calls_of_wp hP hc ?_
        generalize ha : ({ tmps := args'.toArray ++ Array.replicate (fn.ntmps - args'.toArray.size) undef, defers := [] } : Act) = a
        have hsz : a.tmps.size = fn.ntmps := by rw [← ha]; simp; omega
        have hdf : a.defers = [] := by rw [← ha]
        have hS : SRel J (fill .leaf args 0) a := by
          intro i hi
          rw [fill_get]
          by_cases h1 : i < args.length
          · rw [if_pos (by omega)]
            have hg : a.tmps.getD i undef = args'[i]'(by rw [← hl.1]; exact h1) := by
              rw [← ha]
              have : i < args'.length := by rw [← hl.1]; exact h1
              simp [Array.getElem?_append, this]
            rw [hg, Nat.sub_zero, List.getElem?_eq_getElem h1]
            exact hl.2 i _ _ (List.getElem?_eq_getElem h1) (List.getElem?_eq_getElem _)
          · rw [if_neg (by omega)]
            have hg : a.tmps.getD i undef = undef := by
              have h2 : ¬ i < args'.length := by rw [← hl.1]; exact h1
              rw [hsz] at hi
              rw [← ha]
              simp [Array.getElem?_append, h2, Array.getElem?_replicate]
              split <;> rfl
            rw [hg, Tree.get_leaf]
            exact .undef J
        have fin : ∀ (e : SExit) (t' : Tree Value) (m2 : Mem), ex c (fill .leaf args 0) m = some (e, t', m2) → (conv e = .normal ∨ conv e = .ret) → sresults P fn.results.toList t' m2 = some v → m2 = m' →
            c.wp P (bodyPost P fn fun e w' => ∃ J' v', J.le J' ∧ e = .returned v' ∧ VRel J' v v' ∧ MRel P J' m' B W w') a w := by
          intro e t' m2 hx hcv hr hmm
          subst hmm
          refine hex _ _ _ _ _ _ hx J a w (by rw [hsz]; exact hcode) hM hS _ fun J' a' w' q1 q2 q3 q4 q5 => ?_
          obtain ⟨v', r1, r2⟩ := results_run q5 q4 (fn := fn) (by rw [q2, hsz]; exact fun x hx => List.all_eq_true.1 hres x hx) hr
          rcases hcv with hcv | hcv <;> rw [hcv] <;> exact ⟨q3.trans hdf, v', r2, J', v', q1, rfl, r1, q5⟩
        split at he
        · rename_i t' m2 hx
          split at he
          · rename_i u hr
            simp only [Option.some.injEq, Prod.mk.injEq] at he
            obtain ⟨rfl, hmm⟩ := he
            exact fin _ _ _ hx (Or.inl rfl) hr hmm
          · cases he
        · rename_i t' m2 hx
          split at he
          · rename_i u hr
            simp only [Option.some.injEq, Prod.mk.injEq] at he
            obtain ⟨rfl, hmm⟩ := he
            exact fin _ _ _ hx (Or.inr rfl) hr hmm
          · cases he
        · cases he
      · cases he

/-- the calls of which something is known: it is true of them -/
def SumsOk (P : Program) (S : Sums) : Prop :=
  ∀ f, ∀ p ∈ S f, closedL p.1 = true ∧ closedV p.2 = true ∧ (∃ fn, P.funcs[f]? = some fn ∧ fn.body.isSome = true ∧ (fn.name == "runtime.NumGoroutine") = false) ∧
    ∀ w : World, Calls P f p.1.toArray w fun e w' => e = .returned p.2 ∧ Below w.heap.size w w'

theorem noSums_ok (P : Program) : SumsOk P noSums := fun f p hp => by simp [noSums] at hp

theorem withSums_sound {S : Sums} (hS : SumsOk P S) {H : CallH} (hH : HSound P B W H) : HSound P B W (withSums S H) := by
  intro f args m v m' he
  unfold withSums at he
  split at he
  · rename_i p hp
    simp only [Option.some.injEq, Prod.mk.injEq] at he
    obtain ⟨rfl, rfl⟩ := he
    have hmem := List.mem_of_find?_eq_some hp
    have heq := List.find?_some hp
    have hargs := eqL_eq _ _ heq
    obtain ⟨c1, c2, c3, c4⟩ := hS f p hmem
    refine Or.inl ⟨c3, fun J args' w hl hM => ?_⟩
    have hcl : ∀ x ∈ args, closedV x = true := by rw [← hargs]; exact (closedL_iff _).1 c1
    have ha := hl.closed_eq hcl
    rw [ha, ← hargs]
    refine (c4 w).mono ?_
    rintro e w' ⟨rfl, hb⟩
    exact ⟨J, p.2, .rfl J, rfl, .clo _ c2, hM.grown hb⟩
  · exact hH f args m v m' he

theorem exec_sound (hm : P.follows .mixedOrders = true) {T : FuncId → Option Func} (hT : TabOk P T) {S : Sums} (hSm : SumsOk P S) : ∀ (n : Nat) (B : Frame) (W : World),
    (∀ c t m e t' m', exec P T S n c t m = some (e, t', m') → Sound P B W c t m e t' m') ∧
    (∀ b t m e t' m', exec P T S n (.loop b) t m = some (e, t', m') → ∃ k, SoundL P B W k b t m e t' m')
  | 0, B, W => ⟨fun c t m e t' m' h => by simp [exec] at h, fun b t m e t' m' h => by simp [exec] at h⟩
  | n + 1, B, W => by
    obtain ⟨ih, ihL⟩ := exec_sound hm hT hSm n B W
    have hH : ∀ B W, HSound P B W (withSums S (callF P T (exec P T S n))) := fun B W => withSums_sound hSm (callF_sound hT (exec_sound hm hT hSm n B W).1)
    have loopL : ∀ b t m e t' m', exec P T S (n + 1) (.loop b) t m = some (e, t', m') → ∃ k, SoundL P B W k b t m e t' m' := by
      intro b t m e t' m' h
      simp only [exec, step] at h
      split at h
      · rename_i t1 m1 h1
        obtain ⟨k, hk⟩ := ihL b t1 m1 e t' m' h
        refine ⟨k + 1, fun J a w hc hM hS Q hQ => ?_⟩
        rw [rounds_succ]
        refine ih _ _ _ _ _ _ h1 J a w hc hM hS _ fun J1 a1 w1 q1 q2 q3 q4 q5 => ?_
        exact hk J1 a1 w1 (by rw [q2]; exact hc) q5 q4 Q fun J2 a2 w2 r1 r2 r3 r4 r5 => hQ J2 a2 w2 (q1.trans r1) (r2.trans q2) (r3.trans q3) r4 r5
      · rename_i hne
        refine ⟨1, fun J a w hc hM hS Q hQ => ?_⟩
        rw [rounds_succ]
        refine ih _ _ _ _ _ _ h J a w hc hM hS _ fun J1 a1 w1 q1 q2 q3 q4 q5 => ?_
        have := hQ J1 a1 w1 q1 q2 q3 q4 q5
        cases e with
        | normal => exact absurd h (hne t' m')
        | exit id => exact this
        | ret => exact this
    refine ⟨fun c t m e t' m' h => ?_, loopL⟩
    cases c with
    | loop b =>
      obtain ⟨k, hk⟩ := loopL b t m e t' m' h
      intro J a w hc hM hS Q hQ
      simp only [codeOk] at hc
      exact wp_loop_rounds k (hk J a w hc hM hS Q hQ)
    | skip =>
      simp only [exec, step, Option.some.injEq, Prod.mk.injEq] at h
      obtain ⟨rfl, rfl, rfl⟩ := h
      intro J a w hc hM hS Q hQ
      exact wp_skip (hQ J a w (.rfl J) rfl rfl hS hM)
    | label l =>
      simp only [exec, step, Option.some.injEq, Prod.mk.injEq] at h
      obtain ⟨rfl, rfl, rfl⟩ := h
      intro J a w hc hM hS Q hQ
      exact wp_label (hQ J a w (.rfl J) rfl rfl hS hM)
    | ret =>
      simp only [exec, step, Option.some.injEq, Prod.mk.injEq] at h
      obtain ⟨rfl, rfl, rfl⟩ := h
      intro J a w hc hM hS Q hQ
      exact wp_ret (hQ J a w (.rfl J) rfl rfl hS hM)
    | exit id =>
      simp only [exec, step, Option.some.injEq, Prod.mk.injEq] at h
      obtain ⟨rfl, rfl, rfl⟩ := h
      intro J a w hc hM hS Q hQ
      exact wp_exit (hQ J a w (.rfl J) rfl rfl hS hM)
    | region id ops draw =>
      simp only [exec, step] at h
      split at h
      · rename_i t1 m1 hr
        simp only [Option.some.injEq, Prod.mk.injEq] at h
        obtain ⟨rfl, rfl, rfl⟩ := h
        intro J a w hc hM hS Q hQ
        exact region_wp hm hH hc hM hS hr hQ
      · cases h
    | seq x y =>
      simp only [exec, step] at h
      intro J a w hc hM hS Q hQ
      simp only [codeOk, Bool.and_eq_true] at hc
      refine wp_seq ?_
      split at h
      · rename_i t1 m1 h1
        refine ih _ _ _ _ _ _ h1 J a w hc.1 hM hS _ fun J1 a1 w1 q1 q2 q3 q4 q5 => ?_
        exact ih _ _ _ _ _ _ h J1 a1 w1 (by rw [q2]; exact hc.2) q5 q4 Q fun J2 a2 w2 r1 r2 r3 r4 r5 => hQ J2 a2 w2 (q1.trans r1) (r2.trans q2) (r3.trans q3) r4 r5
      · rename_i hne
        refine ih _ _ _ _ _ _ h J a w hc.1 hM hS _ fun J1 a1 w1 q1 q2 q3 q4 q5 => ?_
        have := hQ J1 a1 w1 q1 q2 q3 q4 q5
        cases e with
        | normal => exact absurd h (hne t' m')
        | exit id => exact this
        | ret => exact this
    | cond x p q =>
      simp only [exec, step] at h
      intro J a w hc hM hS Q hQ
      simp only [codeOk, Bool.and_eq_true] at hc
      have hx := opd_rel hM.glob hS hc.1.1
      split at h
      · rename_i hv
        rw [hv] at hx
        exact wp_cond_true (hx.closed_eq rfl) (ih _ _ _ _ _ _ h J a w hc.1.2 hM hS Q hQ)
      · rename_i hv
        rw [hv] at hx
        exact wp_cond_false (hx.closed_eq rfl) (ih _ _ _ _ _ _ h J a w hc.2 hM hS Q hQ)
      · cases h
    | block id b =>
      simp only [exec, step] at h
      intro J a w hc hM hS Q hQ
      simp only [codeOk] at hc
      refine wp_block ?_
      split at h
      · rename_i i t1 m1 h1
        simp only [Option.some.injEq, Prod.mk.injEq] at h
        obtain ⟨rfl, rfl, rfl⟩ := h
        refine ih _ _ _ _ _ _ h1 J a w hc hM hS _ fun J1 a1 w1 q1 q2 q3 q4 q5 => ?_
        have := hQ J1 a1 w1 q1 q2 q3 q4 q5
        show Exit.inBlock id Q (.exit i) a1 w1
        unfold Exit.inBlock
        simp only
        by_cases e : i = id
        · rw [if_pos e]; rw [if_pos e] at this; exact this
        · rw [if_neg e]; rw [if_neg e] at this; exact this
      · rename_i hne
        refine ih _ _ _ _ _ _ h J a w hc hM hS _ fun J1 a1 w1 q1 q2 q3 q4 q5 => ?_
        have := hQ J1 a1 w1 q1 q2 q3 q4 q5
        cases e with
        | normal => exact this
        | exit i => exact absurd h (hne i t' m')
        | ret => exact this
    | _ => simp [exec, step] at h

/-- THE CALL. -/
theorem call_sound (hm : P.follows .mixedOrders = true) {T : FuncId → Option Func} (hT : TabOk P T) {S : Sums} (hSm : SumsOk P S) (n : Nat) : HSound P B W (call P T S n) :=
  withSums_sound hSm (callF_sound hT (exec_sound hm hT hSm n B W).1)

/-- where a run begins: the variables' numbers -/
def inj0 (P : Program) : Inj := ⟨P.globals.size, fun l => l, fun _ => 0, fun _ => 0, fun l => ((P.info? (gtype P l)).map (·.size)).getD 0⟩

theorem memG_facts (P : Program) : ∀ (gs : List (Nat × List Value)), (memG P gs).next = P.globals.size ∧ (memG P gs).maps = .leaf ∧
    (∀ l b, (memG P gs).blks.get l = some b → ∃ p ∈ gs, p.1 = l ∧ b = ⟨p.2, gtype P l, l⟩) ∧ (∀ l f, (memG P gs).fams.get l = some f → f = ⟨none, 0⟩)
  | [] => ⟨rfl, rfl, fun l b h => by simp [memG, mem0, Tree.get_leaf] at h, fun l f h => by simp [memG, mem0, Tree.get_leaf] at h⟩
  | (g, cs) :: r => by
    obtain ⟨h1, h2, h3, h4⟩ := memG_facts P r
    refine ⟨h1, h2, fun l b h => ?_, fun l f h => ?_⟩
    · simp only [memG, Tree.get_set] at h
      split at h
      · rename_i e
        subst e
        simp only [Option.some.injEq] at h
        exact ⟨_, List.mem_cons_self, rfl, h.symm⟩
      · obtain ⟨p, hp, q1, q2⟩ := h3 l b h
        exact ⟨p, List.mem_cons_of_mem _ hp, q1, q2⟩
    · simp only [memG, Tree.get_set] at h
      split at h
      · simp only [Option.some.injEq] at h; exact h.symm
      · exact h4 l f h

theorem memG_rel (P : Program) (w : World) (gs : List (Nat × List Value)) (hgs : ∀ p ∈ gs, p.1 < P.globals.size ∧ p.1 < w.heap.size ∧ (P.info? (gtype P p.1)).isSome = true ∧ closedL p.2 = true ∧ ∀ i v, p.2[i]? = some v → w.cell? ⟨p.1, i, none⟩ = some v) :
    MRel P (inj0 P) (memG P gs) ⟨(· < w.heap.size), fun _ => False, fun _ h => h.elim⟩ w w := by
  obtain ⟨h1, h2, h3, h4⟩ := memG_facts P gs
  have hw : ∀ l b, (memG P gs).writable l ≠ some b := by
    intro l b h
    obtain ⟨_, f, g1, g2, _⟩ := Mem.writable_iff.1 h
    rw [h4 _ _ g1] at g2
    cases g2
  have hm : ∀ l s, (memG P gs).maps.get l ≠ some s := by
    intro l s h
    rw [h2, Tree.get_leaf] at h
    cases h
  refine ⟨h1.symm, fun l b h => ?_, fun l b h => ?_, fun l b h => ?_, fun l b h i v hv => ?_, fun l b h => absurd h (hw l b), fun l b l' b' h _ => absurd h (hw l b), BelowP.refl _ _, fun _ hk => hk, fun g hg => ⟨hg, rfl, rfl⟩,
    fun l s h => absurd h (hm l s), fun l l' s s' h _ _ => absurd h (hm l s), fun l s l' b h _ => absurd h (hm l s), fun _ _ _ h => h, fun l b h => absurd h (hw l b)⟩
  · obtain ⟨p, hp, rfl, _⟩ := h3 l b h
    rw [h1]; exact (hgs p hp).1
  · obtain ⟨p, hp, rfl, rfl⟩ := h3 l b h
    obtain ⟨i, hi⟩ := Option.isSome_iff_exists.1 (hgs p hp).2.2.1
    exact ⟨i, hi, by simp [inj0, hi]⟩
  · obtain ⟨p, hp, rfl, _⟩ := h3 l b (Mem.readable_iff.1 h).1
    exact (hgs p hp).2.1
  · obtain ⟨p, hp, rfl, rfl⟩ := h3 l b (Mem.readable_iff.1 h).1
    obtain ⟨_, _, _, hc, hcell⟩ := hgs p hp
    refine ⟨v, ?_, .clo _ ((closedL_iff _).1 hc v (List.mem_of_getElem? hv))⟩
    have := hcell i v hv
    simpa [inj0] using this

/-- the run answers that value -/
def isVal (v : Value) (r : Option (Value × Mem)) : Bool := match r with | some (u, _) => eqV u v | _ => false

/-- A CALL WITH ARGUMENTS WITHOUT AN ADDRESS: what the run answers, the call answers, in whatever world in which the variables hold what they are known to hold. -/
theorem closed_val (hm : P.follows .mixedOrders = true) {T : FuncId → Option Func} (hT : TabOk P T) {S : Sums} (hSm : SumsOk P S) (n : Nat) (f : FuncId) {fn : Func} (hf : P.funcs[f]? = some fn) (hb : fn.body.isSome = true) {gs : List (Nat × List Value)} {args : List Value} (hargs : closedL args = true) {v : Value} (hv : closedV v = true) (h : isVal v (call P T S n f args (memG P gs)) = true) (w : World)
    (hgs : ∀ p ∈ gs, p.1 < P.globals.size ∧ p.1 < w.heap.size ∧ (P.info? (gtype P p.1)).isSome = true ∧ closedL p.2 = true ∧ ∀ i v, p.2[i]? = some v → w.cell? ⟨p.1, i, none⟩ = some v) :
    Calls P f args.toArray w fun e w' => e = .returned v ∧ Below w.heap.size w w' := by
  unfold isVal at h
  split at h
  · rename_i u m' hc
    have hu := eqV_eq _ _ h
    subst hu
    rcases call_sound hm hT hSm n f args (memG P gs) _ _ hc with ⟨_, hcall⟩ | ⟨_, hx⟩
    · refine (hcall (inj0 P) args w (LRel.of_closed hargs) (memG_rel P w gs hgs)).mono ?_
      rintro e w' ⟨J', v', _, rfl, hv', hM'⟩
      rw [hv'.closed_eq hv]
      exact ⟨rfl, hM'.below.below⟩
    · obtain ⟨_, _, hx⟩ := hx (inj0 P) args (LRel.of_closed hargs)
      have h1 := hx w
      exfalso
      simp only [callFunc, Sem.run_bind, run_program, Result.andThen_ok, hf] at h1
      cases hbd : fn.body with
      | none => simp [hbd] at hb
      | some c =>
        by_cases hn : fn.name = "runtime.NumGoroutine" <;> simp [hn, hbd] at h1
  · cases h

/-- the functions of a list -/
def tabOf (P : Program) (l : List FuncId) : FuncId → Option Func := fun f => if l.contains f then P.funcs[f]? else none

def tabCheck (P : Program) (l : List FuncId) : Bool := l.all fun f => match P.funcs[f]? with
  | some fn => funcOk P fn
  | none => true

theorem tab_ok {P : Program} {l : List FuncId} (h : tabCheck P l = true) : TabOk P (tabOf P l) := by
  intro f fn hf
  unfold tabOf at hf
  split at hf
  · rename_i hc
    refine ⟨hf, ?_⟩
    have := List.all_eq_true.1 h f (by simpa using hc)
    rw [hf] at this
    exact this
  · cases hf
end Go.Sh

/- The end of a law's row: what the call leaves is older memory unturned, and 'true'. -/
namespace Go.Sh
open Go.RowKit Go.WideShapes Go.ChangeShapes
mutual
/-- the cells of a datum of numbers, texts, structs and arrays -/
def dcells {K : Type} : DataW K → List Value
  | .lit l => [l.value]
  | .agg ps => dcellsL ps
  | _ => []
def dcellsL {K : Type} : List (DataW K) → List Value
  | [] => []
  | d :: r => dcells d ++ dcellsL r
end

/-- a variable's block that holds a datum -/
def laidBlock {K : Type} (d : DataW K) : Obj → Obj
  | .cells _ t f => .cells (dcells d).toArray t f
  | o => o

section
variable {K : Type} {enc : TypeId × Value → K} {P : Program}
/-- A LAW's LAST STEP: it answers 'v', and every block that was there is as it was. -/
theorem law_post {f : Func} {s : ChangeSpec} {ap fre ho ag : Bool} {W V : World} {xs : Array Value} {v : Value} {ds gs : List (DataW K)} {bef pa pv : List MemPlace}
    (hW : DataW.Whole enc P f.params.toList s.vars ap W xs.toList ds gs bef) (hb : Below W.heap.size W V) (hps : bef = pa ++ pv)
    (hargs : ∀ sp : Nat → Bool, (∀ p ∈ bef, sp p.block = true) → DataW.TrodAll enc P V 0 sp true f.params.toList xs.toList (s.fn K (ds ++ gs)).args pa)
    (hvars : ∀ sp : Nat → Bool, (∀ p ∈ bef, sp p.block = true) → DataW.TrodVars enc P V sp s.vars (s.fn K (ds ++ gs)).vars pv)
    (hres : ∀ (b : Nat) (sp : Nat → Bool) (hd : Bool), DataW.TrodAll enc P V b sp hd f.resultTypes.toList (v.resultList f.resultTypes.size) (s.fn K (ds ++ gs)).results [])
    (hok : ∀ (j : Nat) (t : TypeId) (r : Value), f.resultTypes[j]? = some t → (v.resultList f.resultTypes.size)[j]? = some r → Value.okWide P V .any 0 t r) :
    s.post enc P f ap fre ho ag W xs v V := by
  subst hps
  have hlt : ∀ p ∈ pa ++ pv, p.block < W.heap.size := fun p hp => hW.lt p hp
  have hold : ∀ p ∈ pa ++ pv, (fun b => decide (b < W.heap.size)) p.block = true := fun p hp => decide_eq_true (hlt p hp)
  obtain ⟨_, _, _, _, _, hz, hn⟩ := id hW
  refine ⟨ds, gs, pa ++ pv, [], pa, pv, hW, hres _ _ _, hargs _ hold, hvars _ hold, ?_, fun _ => ⟨hok, _, _, ([] ++ pa) ++ pv, ⟨[] ++ pa, pv, trodAll_append (hargs _ (fun _ _ => rfl)) (hres _ _ _), hvars _ (fun _ _ => rfl), rfl, ?_, ?_⟩, ?_⟩⟩
  · exact World.keptBut_mono (fun p hp => ⟨hp, by simpa using hp⟩) (hb.frame (· ∈ pa ++ pv))
  · intro b off hp
    have hin : MemPlace.cell b off ∈ pa ++ pv := by simpa using hp
    rw [hb.frozen (hlt _ hin)]
    exact hz b off hin
  · intro ha
    simpa using hn ha
  · intro p hp _
    simpa using hp
end
end Go.Sh

/- Package-level tables of integers: what the row's list gives. -/
namespace Go.Sh
open Go.RowKit

/-- the integers of a table's datum -/
def tabInts {K : Type} : DataW K → List Int
  | .agg ps => ps.map fun | .lit (.int _ n) => n | _ => 0
  | _ => []

theorem laidVars_mem {P : Program} {W : World} {name : String} {d : DataW Unit} : ∀ (l : List (String × DataW Unit)) (ps : List MemPlace), DataW.LaidVars P W l ps → (name, d) ∈ l →
    ∃ g t cs fuel p, P.globalNamed name = some g ∧ (P.globals[g]?).map (·.type) = some t ∧ W.var? P name = some cs ∧ DataW.trod (fun _ => ()) P W 0 (fun _ => true) false fuel t cs.toList = some (d, p)
  | [], _, _, h => by simp at h
  | (n, x) :: r, ps, hl, h => by
    obtain ⟨g, t, cs, fuel, p, q, h1, h2, h3, h4, h5, _⟩ := hl
    rcases List.mem_cons.1 h with e | h
    · cases e
      exact ⟨g, t, cs, fuel, p, h1, h2, h3, h4⟩
    · exact laidVars_mem r q h5 h

/-- A TABLE ON THE ROW's LIST: its cells. -/
theorem laid_tab {P : Program} {W : World} {l : List (String × DataW Unit)} {name : String} {k : IntKind} {zs : List Int} {g : Nat} {t e : TypeId} {n : Nat}
    (hno : (l.filter fun x => x.2.handleName?.isSome) = []) (h : laidMetH P l W) (hin : (name, Lib.tabData k zs) ∈ l)
    (hg : P.globalNamed name = some g) (hty : (P.globals[g]?).map (·.type) = some t) (ht : P.underlying t = some (.array n e)) (he : P.underlying e = some (.int k)) (hce : P.cellsOf e = 1) (hct : P.cellsOf t = n) (hpos : 0 < zs.length) :
    g < W.heap.size ∧ ∀ (i : Nat) v, (zs.map fun z => Value.int k z)[i]? = some v → W.cell? ⟨g, i, none⟩ = some v := by
  unfold laidMetH at h
  rw [hno] at h
  obtain ⟨ps, hl, _⟩ := h
  obtain ⟨g', t', cs, fuel, p, h1, h2, h3, h4⟩ := laidVars_mem l ps hl hin
  obtain rfl := Option.some.inj (hg.symm.trans h1)
  obtain rfl := Option.some.inj (hty.symm.trans h2)
  have hcs := Lib.cells_of_tab ht he hce hct h4
  have hcell : ∀ (i : Nat) v, (zs.map fun z => Value.int k z)[i]? = some v → W.cell? ⟨g, i, none⟩ = some v := by
    intro i v hv
    rw [World.var?_cell hg h3 i, ← Array.getElem?_toList, hcs]
    exact hv
  refine ⟨?_, hcell⟩
  have h0 := hcell 0 _ (by rw [List.getElem?_map, List.getElem?_eq_getElem hpos]; rfl)
  exact World.block_lt_of_cell? _ _ h0

/-- the literals of a table's datum -/
def tabLits {K : Type} : DataW K → List Lit
  | .agg ps => ps.map fun | .lit l => l | _ => .bool false
  | _ => []
/-- one cell that reads as a literal -/
theorem cell_lit {H : Type} {enc : TypeId × Value → H} {P : Program} {w : World} {base : Nat} {sp : Nat → Bool} {held : Bool} {fuel : Nat} {e : TypeId} {cs : List Value} {l : Lit} {p : List MemPlace}
    (he : (∃ k, P.underlying e = some (.int k)) ∨ P.underlying e = some .string ∨ P.underlying e = some .bool) (h : DataW.trod enc P w base sp held fuel e cs = some (.lit l, p)) : cs = [l.value] := by
  rcases he with ⟨k, he⟩ | he | he
  · obtain ⟨n, rfl, hx, _⟩ := DataW.trod_int he h
    simp only [Prod.mk.injEq, DataW.lit.injEq] at hx
    rw [hx.1]; rfl
  · obtain ⟨s, rfl, hx, _⟩ := DataW.trod_string he h
    simp only [Prod.mk.injEq, DataW.lit.injEq] at hx
    rw [hx.1]; rfl
  · obtain ⟨b, rfl, hx⟩ := DataW.trod_bool he h
    simp only [Prod.mk.injEq, DataW.lit.injEq] at hx
    rw [hx.1]; rfl
theorem cells_of_lits {H : Type} {enc : TypeId × Value → H} {P : Program} {w : World} {base : Nat} {sp : Nat → Bool} {held : Bool} {fuel : Nat} {t e : TypeId} {n : Nat} {cs : List Value} {zs : List Lit} {p : List MemPlace}
    (ht : P.underlying t = some (.array n e)) (he : (∃ k, P.underlying e = some (.int k)) ∨ P.underlying e = some .string ∨ P.underlying e = some .bool) (hce : P.cellsOf e = 1) (hct : P.cellsOf t = n)
    (h : DataW.trod enc P w base sp held fuel t cs = some (.agg (zs.map .lit), p)) : cs = zs.map Lit.value := by
  obtain ⟨xs, m, _, hx, hl, hxl, hel⟩ := DataW.trod_array ht h
  have hxs : xs.map (·.1) = zs.map fun z => (DataW.lit z : DataW H) := by
    have := congrArg Prod.fst hx
    simpa using this.symm
  have hzl : zs.length = n := by
    have := congrArg List.length hxs
    simp at this
    omega
  apply List.ext_getElem?
  intro i
  by_cases hi : i < n
  · have hf := hel i hi
    rw [hce, Nat.mul_one] at hf
    obtain ⟨b, hb⟩ : ∃ b, xs[i]? = some b := ⟨xs[i], List.getElem?_eq_getElem (by omega)⟩
    rw [hb] at hf
    have h2 : (xs.map (·.1))[i]? = some b.1 := by simp [hb]
    rw [hxs] at h2
    simp only [List.getElem?_map, Option.map_eq_some_iff] at h2
    obtain ⟨z, hz, hz2⟩ := h2
    obtain ⟨b1, b2⟩ := b
    simp only at hz2
    subst hz2
    have hc := cell_lit he hf
    have h1 : cs[i]? = some z.value := by
      have := congrArg (·[0]?) hc
      simpa [List.getElem?_take, List.getElem?_drop] using this
    simp [h1, hz]
  · rw [List.getElem?_eq_none (by omega), List.getElem?_eq_none (by simp; omega)]
/-- A TABLE OF LITERALS ON THE ROW's LIST: its cells. -/
theorem laid_lits {P : Program} {W : World} {l : List (String × DataW Unit)} {name : String} {zs : List Lit} {g : Nat} {t e : TypeId} {n : Nat}
    (hno : (l.filter fun x => x.2.handleName?.isSome) = []) (h : laidMetH P l W) (hin : (name, (.agg (zs.map .lit) : DataW Unit)) ∈ l)
    (hg : P.globalNamed name = some g) (hty : (P.globals[g]?).map (·.type) = some t) (ht : P.underlying t = some (.array n e)) (he : (∃ k, P.underlying e = some (.int k)) ∨ P.underlying e = some .string ∨ P.underlying e = some .bool) (hce : P.cellsOf e = 1) (hct : P.cellsOf t = n) (hpos : 0 < zs.length) :
    g < W.heap.size ∧ ∀ (i : Nat) v, (zs.map Lit.value)[i]? = some v → W.cell? ⟨g, i, none⟩ = some v := by
  unfold laidMetH at h
  rw [hno] at h
  obtain ⟨ps, hl, _⟩ := h
  obtain ⟨g', t', cs, fuel, p, h1, h2, h3, h4⟩ := laidVars_mem l ps hl hin
  obtain rfl := Option.some.inj (hg.symm.trans h1)
  obtain rfl := Option.some.inj (hty.symm.trans h2)
  have hcs := cells_of_lits ht he hce hct h4
  have hcell : ∀ (i : Nat) v, (zs.map Lit.value)[i]? = some v → W.cell? ⟨g, i, none⟩ = some v := by
    intro i v hv
    rw [World.var?_cell hg h3 i, ← Array.getElem?_toList, hcs]
    exact hv
  refine ⟨?_, hcell⟩
  have h0 := hcell 0 _ (by rw [List.getElem?_map, List.getElem?_eq_getElem hpos]; rfl)
  exact World.block_lt_of_cell? _ _ h0
end Go.Sh
