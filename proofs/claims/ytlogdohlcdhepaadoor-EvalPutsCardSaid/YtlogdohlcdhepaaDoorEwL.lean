/-
  This text proves what ssa.checker's 'dominates', 'seen', 'seenState' answer, over the abstract run.
  Condition: nothing is known of the calls ahead ('S f = []').
-/
import Derived.Test.YtlogdohlcdhepaaDoorEwK
set_option maxRecDepth 100000
set_option linter.unusedSimpArgs false
set_option linter.unusedVariables false
namespace Go.Proofs.YtlogdohlcdhepaaDoor.base
open Go.Sh gen
variable {S : Sums} {m : Mem}
def upIt (I : List Int) (a : Int) : Nat → Int → Option Bool
  | 0, b => if b < 0 then some false else if a = b then some true else none
  | d + 1, b => if b < 0 then none else if a = b then none else upIt I a d (I.getD b.toNat 0)
def upF (I : List Int) (a : Int) : Nat → Int → Bool
  | 0, _ => false
  | k + 1, b => if b < 0 then false else if a = b then true else upF I a k (I.getD b.toNat 0)
theorem upF_eq {I : List Int} {a : Int} {D : Nat} {b : Int} {r : Bool} (h : upIt I a D b = some r) {N : Nat} (hN : D < N) : upF I a N b = r := by
  induction D generalizing N b with
  | zero =>
    obtain ⟨M, rfl⟩ : ∃ M, N = M + 1 := ⟨N - 1, by omega⟩
    rw [upIt] at h
    rw [upF]
    split at h
    · rename_i e; rw [if_pos e]; simpa using h
    · rename_i e
      rw [if_neg e]
      split at h
      · rename_i e2; rw [if_pos e2]; simpa using h
      · cases h
  | succ D ih =>
    obtain ⟨M, rfl⟩ : ∃ M, N = M + 1 := ⟨N - 1, by omega⟩
    rw [upIt] at h
    rw [upF]
    split at h
    · cases h
    · rename_i e
      rw [if_neg e]
      split at h
      · cases h
      · rename_i e2; rw [if_neg e2]; exact ih h (by omega)
structure Ck3 (m : Mem) (u : UnT.D) (vo bo so : Option Addr) (cb cf b1 b2 f1 f2 ix : Nat) (bl pl I : List Int) : Prop where
  c : CkAt m u vo bo so (.slice (some ⟨ix, 0, none⟩) (nb u) (nb u)) cb cf b1 b2 f1 f2 bl pl
  o3 : Own m ix (ints I) 3 ix
theorem Ck3.keep0 {m1 : Mem} {u : UnT.D} {vo bo so : Option Addr} {cb cf b1 b2 f1 f2 ix : Nat} {bl pl I : List Int} (h : Ck3 m u vo bo so cb cf b1 b2 f1 f2 ix bl pl I) (k : Keeps m m1 []) : Ck3 m1 u vo bo so cb cf b1 b2 f1 f2 ix bl pl I := ⟨h.c.keep0 k, h.o3.keep k (by simp)⟩
structure Rok (u : UnT.D) (bl pl I : List Int) : Prop where
  lb : bl.length = nv u
  lp : pl.length = nv u
  li : I.length = nb u
  bb : ∀ i < nv u, 0 ≤ bl.getD i 0 ∧ bl.getD i 0 < nb u
  ii : ∀ x < nb u, I.getD x 0 < nb u
  up : ∀ (a : Int) (b : Nat), b < nb u → ∃ d, d < nb u + 2 ∧ upIt I a d b = some (upF I a (nb u + 2) b)
theorem dominates_run (hS : S 83 = []) {u : UnT.D} {vo bo so : Option Addr} {cb cf b1 b2 f1 f2 ix : Nat} {bl pl I : List Int} (hC : Ck3 m u vo bo so cb cf b1 b2 f1 f2 ix bl pl I) (hR : Rok u bl pl I) (hnb : nb u ≤ 1000) {a : Int} {b : Nat} (hb : b < nb u) :
    callw Tryd.prog TT S 83 [.pointer (some ⟨cb, 0, none⟩), .int .i64 a, .int .i64 (b : Int)] m = some (.bool (upF I a (nb u + 2) b), m) := by
  have c7 := hC.c.c.load1 (off := 7) rfl
  obtain ⟨D, _, hD⟩ := hR.up a b hb
  obtain ⟨R, hRe⟩ : ∃ R, upF I a (nb u + 2) b = R := ⟨_, rfl⟩
  rw [hRe] at hD ⊢
  refine fn_eq 7 [8, 11] k83 hS rfl ?_
  simp [-Int.natCast_add]
  refine wsem_loop 7 [8, 11] (fun d E mF => ∃ (b : Int), mF = m ∧ b < nb u ∧ upIt I a d b = some R ∧
    E = [(0, .pointer (some ⟨cb, 0, none⟩)), (1, .int .i64 a), (2, .int .i64 b)]) D ⟨_, ⟨(b : Int), rfl, by omega, hD, rfl⟩, ⟨by rfl, by rfl, by rfl, trivial⟩⟩ ?_
  clear hD hRe hb
  rintro d E mF ih ⟨b, rfl, hb, hd, rfl⟩
  by_cases h0 : b < 0
  · have h0' : ¬ 0 ≤ b := by omega
    have : R = false := by
      cases d with
      | zero => rw [upIt, if_pos h0] at hd; simpa using hd.symm
      | succ d => rw [upIt, if_pos h0] at hd; cases hd
    simp [-Int.natCast_add, h0', this]
  have h0' : 0 ≤ b := by omega
  by_cases hab : a = b
  · have : R = true := by
      cases d with
      | zero => rw [upIt, if_neg h0, if_pos hab] at hd; simpa using hd.symm
      | succ d => rw [upIt, if_neg h0, if_pos hab] at hd; cases hd
    simp [-Int.natCast_add, h0', hab, this]
  cases d with
  | zero => rw [upIt, if_neg h0, if_neg hab] at hd; cases hd
  | succ d =>
    rw [upIt, if_neg h0, if_neg hab] at hd
    obtain ⟨q, rfl⟩ : ∃ q : Nat, b = (q : Int) := ⟨b.toNat, by omega⟩
    rw [Int.toNat_natCast] at hd
    have hq : q < nb u := by omega
    have q2 : (q : Int) ≤ 9223372036854775807 := by omega
    have lq := hC.o3.load1 (off := q) (ints_at (by rw [hR.li]; exact hq))
    simp [-Int.natCast_add, -List.getD_eq_getElem?_getD, fieldAddr_of fa99_3, load_of ld36, index_slice u36 sz3, load_of ld3, h0', hab, c7, hq, q2, lq]
    exact ih _ _ _ _ ⟨_, rfl, hR.ii q hq, hd, rfl⟩ (by omega) ⟨by rfl, by rfl, by rfl, trivial⟩
def seenV (u : UnT.D) (bl pl I : List Int) (block place : Int) (v : Int) : Bool :=
  !(decide (bl.getD v.toNat 0 = block) && decide (place ≤ pl.getD v.toNat 0)) && upF I (bl.getD v.toNat 0) (nb u + 2) block
def seenF (u : UnT.D) (bl pl I : List Int) (block place : Int) (l : List Int) : Bool := l.all (seenV u bl pl I block place)
set_option maxHeartbeats 4000000 in
theorem seen_run (hS : S 74 = []) (hD : S 83 = []) {u : UnT.D} {vo bo so : Option Addr} {cb cf b1 b2 f1 f2 ix : Nat} {bl pl I : List Int} (hC : Ck3 m u vo bo so cb cf b1 b2 f1 f2 ix bl pl I) (hR : Rok u bl pl I) (hnb : nb u ≤ 1000) (hnv : nv u ≤ 1000000)
    {Q : Nat → Prop} {l : List Int} {ao : Option Addr} (hl : IntsAt Q m ao l) (hll : l.length ≤ 20000000000000) (hlv : ∀ v ∈ l, (0 : Int) ≤ v ∧ v < nv u) {block : Nat} (hb : block < nb u) {place : Int} :
    callw Tryd.prog TT S 74 [.pointer (some ⟨cb, 0, none⟩), .slice ao l.length l.length, .int .i64 (block : Int), .int .i64 place] m = some (.bool (seenF u bl pl I block place l), m) := by
  have c5 := hC.c.c.load1 (off := 5) rfl
  have c6 := hC.c.c.load1 (off := 6) rfl
  obtain ⟨R, hRe⟩ : ∃ R, seenF u bl pl I block place l = R := ⟨_, rfl⟩
  rw [hRe]
  refine fn_eq 14 [14, 49] k74 hS rfl ?_
  simp [-Int.natCast_add, len_slice u36]
  refine wsem_loop 14 [14, 49] (fun d E mF => ∃ (i : Nat), l.length - i = d ∧ i ≤ l.length ∧ mF = m ∧ (l.drop i).all (seenV u bl pl I block place) = R ∧
    E = [(0, .pointer (some ⟨cb, 0, none⟩)), (2, .int .i64 (block : Int)), (3, .int .i64 place), (11, .slice ao l.length l.length), (12, .int .i64 l.length), (13, .int .i64 (i : Int))]) _ ⟨_, ⟨0, rfl, by omega, rfl, by rw [List.drop_zero]; exact hRe, rfl⟩, ⟨by rfl, by rfl, by rfl, by rfl, by rfl, by rfl, trivial⟩⟩ ?_
  rintro d E mF ih ⟨i, hd, hi, rfl, ha, rfl⟩
  have im : (i : Int) ≤ 9223372036854775807 := by omega
  by_cases hlt : i < l.length
  · have i1 : (i : Int) < l.length := by omega
    have wi : IntKind.i64.wrap ((i : Int) + 1) = ((i + 1 : Nat) : Int) := by rw [wrap_i64 (by omega) (by omega)]; omega
    obtain ⟨lb, rfl, li⟩ := hl.get hlt
    rw [drop_getD hlt, List.all_cons] at ha
    have hvb := hlv _ (getD_mem hlt)
    obtain ⟨v, hv⟩ : ∃ k : Nat, l.getD i 0 = (k : Int) := ⟨(l.getD i 0).toNat, by omega⟩
    rw [hv] at li ha hvb
    have hvn : v < nv u := by omega
    have v1 : (v : Int) < nv u := by omega
    have v2 : (v : Int) ≤ 9223372036854775807 := by omega
    have l1 := hC.c.o1.load1 (off := v) (ints_at (by rw [hR.lb]; exact hvn))
    have l2 := hC.c.o2.load1 (off := v) (ints_at (by rw [hR.lp]; exact hvn))
    have eV : seenV u bl pl I block place (v : Int) = (!(decide (bl.getD v 0 = (block : Int)) && decide (place ≤ pl.getD v 0)) && upF I (bl.getD v 0) (nb u + 2) block) := by unfold seenV; rw [Int.toNat_natCast]
    rw [eV] at ha
    have dr := dominates_run hD hC hR hnb (a := bl.getD v 0) hb
    obtain ⟨x, hx⟩ : ∃ x, bl.getD v 0 = x := ⟨_, rfl⟩
    obtain ⟨y, hy⟩ : ∃ x, pl.getD v 0 = x := ⟨_, rfl⟩
    rw [hx] at l1 ha dr
    rw [hy] at l2 ha
    obtain ⟨q, hq⟩ : ∃ q, upF I x (nb u + 2) block = q := ⟨_, rfl⟩
    rw [hq] at dr ha
    by_cases h1 : x = (block : Int)
    · by_cases h2 : place ≤ y
      · have : R = false := by rw [← ha]; simp [h1, h2]
        simp [-Int.natCast_add, -List.getD_eq_getElem?_getD, index_slice u36 sz3, load_of ld3, fieldAddr_of fa99_1, load_of ld36, fieldAddr_of fa99_2, i1, im, hlt, li, c5, c6, v2, hvn, l1, l2, h1, h2, this]
      · subst h1
        cases q
        · have : R = false := by rw [← ha]; simp
          simp [-Int.natCast_add, -List.getD_eq_getElem?_getD, index_slice u36 sz3, load_of ld3, fieldAddr_of fa99_1, load_of ld36, fieldAddr_of fa99_2, i1, im, hlt, li, c5, c6, v2, hvn, l1, l2, h2, dr, this]
        · simp [-Int.natCast_add, -List.getD_eq_getElem?_getD, index_slice u36 sz3, load_of ld3, fieldAddr_of fa99_1, load_of ld36, fieldAddr_of fa99_2, i1, im, hlt, li, c5, c6, v2, hvn, l1, l2, h2, dr, wi]
          exact ih _ _ _ _ ⟨i + 1, rfl, by omega, rfl, by rw [← ha]; simp [h2], rfl⟩ (by omega) ⟨by rfl, by rfl, by rfl, by rfl, by rfl, by rfl, trivial⟩
    · cases q
      · have : R = false := by rw [← ha]; simp
        simp [-Int.natCast_add, -List.getD_eq_getElem?_getD, index_slice u36 sz3, load_of ld3, fieldAddr_of fa99_1, load_of ld36, fieldAddr_of fa99_2, i1, im, hlt, li, c5, v2, hvn, l1, h1, dr, this]
      · simp [-Int.natCast_add, -List.getD_eq_getElem?_getD, index_slice u36 sz3, load_of ld3, fieldAddr_of fa99_1, load_of ld36, fieldAddr_of fa99_2, i1, im, hlt, li, c5, v2, hvn, l1, h1, dr, wi]
        exact ih _ _ _ _ ⟨i + 1, rfl, by omega, rfl, by rw [← ha]; simp [h1], rfl⟩ (by omega) ⟨by rfl, by rfl, by rfl, by rfl, by rfl, by rfl, trivial⟩
  clear ih
  have i1 : ¬ (i : Int) < l.length := by omega
  rw [List.drop_of_length_le (by omega), List.all_nil] at ha
  simp [-Int.natCast_add, -List.getD_eq_getElem?_getD, i1, ← ha]
end Go.Proofs.YtlogdohlcdhepaaDoor.base

