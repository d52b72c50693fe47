/-
  This text proves 'Rows.MachineStepsCardSaid': the law 'MachineSteps' returns true at any instructions, registers, objects, wish and start, in whatever memory and on every tape, and its input reads as it did.
  The condition is the card's own: the listed package-level variables hold what the program's text lays.
-/
import Derived.Test.YtkcehgajpalgnaaDoorCards
import Derived.Test.YtkcehgajpalgnaaDoorTie
import Derived.Deep.DeepHandedRow
import Derived.Lib.LaidTab
import Derived.Test.YtkcehgajpalgnaaDoorMacX
import Derived.Test.YtkcehgajpalgnaaDoorMacV
set_option maxRecDepth 100000
set_option linter.unusedSimpArgs false
set_option linter.unusedVariables false
namespace Go.Proofs.YtkcehgajpalgnaaDoor.machineSteps
open Go.Sh gen base
variable {S : Sums} {m : Mem}
abbrev InT : Ty := (Ty.pair (Ty.int .i64) (Ty.pair (Ty.int .i64) (Ty.pair (Ty.int .i64) (Ty.pair (Ty.int .i64) (Ty.pair (Ty.int .i64) Ty.unit)))))
def inOf (d : InT.D) : In5 := (d.1, d.2.1, d.2.2.1, d.2.2.2.1, d.2.2.2.2.1)
theorem in_rows {l : List InT.D} {css : List (List Value)} (hcl : css.length = l.length) (hce : ∀ (i : Nat) d c, l[i]? = some d → css[i]? = some c → At m InT d c) : css.flatten = icv (l.map inOf) := by
  induction css generalizing l with
  | nil => cases l with
    | nil => rfl
    | cons a l => simp at hcl
  | cons c css ih => cases l with
    | nil => simp at hcl
    | cons a l =>
      have h0 := hce 0 a c rfl rfl
      obtain ⟨c1, d1, rfl, h1, c2, d2, rfl, h2, c3, d3, rfl, h3, c4, d4, rfl, h4, c5, d5, rfl, h5, h6⟩ := h0
      simp only [At] at h1 h2 h3 h4 h5 h6
      subst h1 h2 h3 h4 h5 h6
      have := ih (l := l) (by simpa using hcl) (fun i d c hd hc => hce (i + 1) d c (by simpa using hd) (by simpa using hc))
      simp only [List.flatten_cons, this, List.map_cons, icv, List.flatMap_cons, inOf, List.append_nil, List.cons_append, List.nil_append]
theorem in_arg {l : List InT.D} {cs : List Value} (ha : At m (Ty.slice 52 InT) l cs) : ∃ ao fam, cs = [.slice ao l.length l.length] ∧ Rs m ao (l.map inOf).length (icv (l.map inOf)) 52 5 fam := by
  obtain ⟨ao, css, fam, rfl, hcl, hce, hrs⟩ := ha
  refine ⟨ao, fam, rfl, ?_⟩
  rw [in_rows hcl hce] at hrs
  rw [List.length_map]
  exact hrs
theorem in_64 {l : List InT.D} (h : (Ty.slice 52 InT).wf l) : ∀ x ∈ l.map inOf, n64 x := fun x hx => by
  obtain ⟨d, hd, rfl⟩ := List.mem_map.1 hx
  have hw := (h.2 d hd).2.2.2.2.1
  have e1 : IntKind.i64.min = -9223372036854775808 := by decide
  have e2 : IntKind.i64.max = 9223372036854775807 := by decide
  simp only [Ty.wf, Lit.wf, Bool.and_eq_true, decide_eq_true_eq] at hw
  exact ⟨by simp only [inOf]; omega, by simp only [inOf]; omega⟩
theorem words_flat (l : List Int) : (l.flatMap fun n : Int => [Value.int .u64 n]) = words l := by
  induction l with
  | nil => rfl
  | cons a l ih => rw [List.flatMap_cons, ih]; rfl
/-- a machine of nothing, at a place -/
def M0 (p : Int) : Ms := ⟨List.replicate 16 0, List.replicate 400 0, p, 0, 0, 0, 0⟩
theorem M0_ok (p : Int) : (M0 p).ok := ⟨by simp [M0], by simp [M0], wd_rep 16, wd_rep 400⟩
theorem rs_low {ao : Option Addr} {n : Nat} {cells : List Value} {e z fam : Nat} (h : Rs m ao n cells e z fam) (h0 : 0 < m.next) : ∃ fam', Rs m ao n cells e z fam' ∧ fam' < m.next := by
  rcases h.2 with h1 | ⟨b, h1, h2⟩
  · exact ⟨0, ⟨h.1, Or.inl h1⟩, h0⟩
  · exact ⟨fam, h, h2.flt⟩
theorem bin16 {l : List Int} (hl : l.length = 16) (m : Mem) (ρ : Operand → Value) (d : Option Tmp) (ty : TypeId) (pos : String) (af : Array Edge) (g : Option (Nat × Bool)) (x y : Operand) (yt : TypeId) (hx : ρ x = .agg (words l).toArray) (hy : ρ y = .agg (words l).toArray) :
    s_binOp0 Tryd.prog ρ ⟨d, .binOp .neq 34 x y yt, ty, pos, af, g⟩ .neq 34 x y m = some (.bool false, m) := bin_arr ok_a16 (l := words l) (by rw [words_len, hl]) (intsOk_map _ _) .neq (Or.inr rfl) x y hx hy
theorem bin400 {l : List Int} (hl : l.length = 400) (m : Mem) (ρ : Operand → Value) (d : Option Tmp) (ty : TypeId) (pos : String) (af : Array Edge) (g : Option (Nat × Bool)) (x y : Operand) (yt : TypeId) (hx : ρ x = .agg (words l).toArray) (hy : ρ y = .agg (words l).toArray) :
    s_binOp0 Tryd.prog ρ ⟨d, .binOp .neq 35 x y yt, ty, pos, af, g⟩ .neq 35 x y m = some (.bool false, m) := bin_arr ok_a400 (l := words l) (by rw [words_len, hl]) (intsOk_map _ _) .neq (Or.inr rfl) x y hx hy
theorem Ms.regs {b f : Nat} {M : Ms} (h : M.ok) (o : MaAt m b f M) : loadRow m ⟨b, 0, none⟩ 16 = some (words M.R) := by
  rw [o.load 16 (by rw [Ms.len h]; omega)]
  simp only [window, List.drop_zero, Ms.cells]
  rw [List.take_left' (by rw [words_len, h.r])]
theorem Ms.slots {b f : Nat} {M : Ms} (h : M.ok) (o : MaAt m b f M) : loadRow m ⟨b, 16, none⟩ 400 = some (words M.T) := by
  rw [o.load 400 (by rw [Ms.len h]; omega)]
  simp only [window, Ms.cells]
  rw [List.drop_left' (by rw [words_len, h.r]), List.take_left' (by rw [words_len, h.t])]
set_option maxHeartbeats 8000000 in
theorem law_run (hK : S 10 = [([], .bool true)]) (hS : S 3 = []) (hp : Sp S) (hP : S 11 = []) (hL : S 7 = []) (hO : S 8 = []) (hH : S 9 = []) (hW : S 14 = [])
    {l : List InT.D} {cs : List Value} (hl : (Ty.slice 52 InT).wf l) (ha : At m (Ty.slice 52 InT) l cs)
    {rs : List Int} {ro : Option Addr} {rf : Nat} (hr : Rs m ro rs.length (rs.flatMap fun n : Int => [Value.int .u64 n]) 33 1 rf) (hrf : rf < m.next) (hrl : rs.length ≤ 9223372036854775807) (hrw : ∀ n ∈ rs, (Lit.int .u64 n).wf = true)
    {os : List Int} {oo : Option Addr} {of : Nat} (ho : Rs m oo os.length (os.flatMap fun n : Int => [Value.int .u64 n]) 33 1 of) (hof : of < m.next) (hol : os.length ≤ 9223372036854775807) (how : ∀ n ∈ os, (Lit.int .u64 n).wf = true)
    {wish pc : Int} (hwi : (Lit.int .i64 wish).wf = true) (hpc : (Lit.int .i64 pc).wf = true) (any : Bool) :
    ∃ v m', callw Tryd.prog TT S 3 [tyVal (Ty.slice 52 InT) cs, .slice ro rs.length rs.length, .slice oo os.length os.length, .int .i64 wish, .int .i64 pc, .bool any] m = some (v, m') ∧ v = .bool true := by
  have hkn := fun m' => sum_ok (P := Tryd.prog) (T := TT) (m := m') hK
  obtain ⟨ao, fam, rfl, hrs⟩ := in_arg ha
  have h64 := in_64 hl
  have hll : l.length = (l.map inOf).length := by simp
  show ∃ v m', callw Tryd.prog TT S 3 [.slice ao l.length l.length, .slice ro rs.length rs.length, .slice oo os.length os.length, .int .i64 wish, .int .i64 pc, .bool any] m = some (v, m') ∧ v = .bool true
  rw [hll]
  generalize l.map inOf = ls at *
  rw [words_flat] at hr ho
  have hrW : Wd rs := fun w hw => u64_le (hrw w hw)
  have hoW : Wd os := fun w hw => u64_le (how w hw)
  clear hll ha hl
  obtain ⟨_, m1, c1, ⟨oa, fo, c, rfl, s1, nf1, hc60, hc64⟩, K1⟩ := list_run (m := m) hp.nr hL hP hrs h64 (n := 40) (by omega) (any := any)
  have c1' : callw Tryd.prog TT S 7 [.slice ao ls.length ls.length, .int .i64 40, .bool any] m = some (.slice oa c.length c.length, m1) := c1
  have r1 := hr.keep K1 (by simp)
  have o1 := ho.keep K1 (by simp)
  obtain ⟨_, m2, c2, ⟨qb, qf, vb, vf, ob, rfl, hob, hq, nq, nv⟩, K2⟩ := objects_run (m := m1) hO hp.hr o1 hoW
  obtain ⟨_, m3, c3, ⟨hb, hf, wb, wf, rfl, hh, nh, nw⟩, K3⟩ := heap_run (m := m2) hH hp.hp hob hq
  have pk1 := fun m' => pick_run (m := m') hP pc 4 (by omega) (by omega)
  have pk2 := fun m' => pick_run (m := m') hP wish 5 (by omega) (by omega)
  have wp : IntKind.i64.wrap (pc % 4 - 1) = pc % 4 - 1 := wrap_i64 (by omega) (by omega)
  have ww : IntKind.i64.wrap (wish % 5 - 1) = wish % 5 - 1 := wrap_i64 (by omega) (by omega)
  have r3 := (r1.keep K2 (by simp)).keep K3 (by simp)
  have q3 := hq.keep K3 (by simp) (by simp)
  have s3 := (s1.keepz K2 (by simp)).keepz K3 (by simp)
  refine fn_w 21 [36, 49, 63, 96, 168] k3 hS rfl ?_
  simp [-Int.natCast_add, -BitVec.toNat_or, -BitVec.toNat_ofInt, -BitVec.toNat_and, build_of bo37, box_of b37, len_slice u23, index_slice u23 sz33, load_of ld33, fieldAddr_of fa37_0, indexAddr_arr u34 sz33, store_of sz33, fieldAddr_of fa37_1, indexAddr_arr u35 sz33, load_agg ld37, alloc_of zo37, store_of sz37, fieldAddr_of fa37_5, load_of ld3, load_agg ld34, load_agg ld35, fieldAddr_of fa37_2, fieldAddr_of fa37_3, fieldAddr_of fa37_4, fieldAddr_of fa37_6, fieldAddr_of fa43_1, load_of ld23, c1', c2, c3, hkn, pk1, wp]
  obtain ⟨oA, kA, nA⟩ := new_own (m := m3) (cs := (M0 (pc % 4 - 1)).cells) (e := 37) rfl
  show Wsem _ _ _ _ _ _ (m3.new (M0 (pc % 4 - 1)).cells 37) _
  obtain ⟨mA, hmA⟩ : ∃ mA, m3.new (M0 (pc % 4 - 1)).cells 37 = mA := ⟨_, rfl⟩
  obtain ⟨ab, hab⟩ : ∃ ab, m3.next = ab := ⟨_, rfl⟩
  rw [hmA, hab] at oA
  rw [hmA] at kA nA ⊢
  rw [hab] at nA ⊢
  refine wsem_loop 21 [36, 49, 63, 96, 168] (fun d E mB => ∃ (i : Nat) (M : Ms), 16 - i = d ∧ i ≤ 16 ∧ M.ok ∧ M.pc = pc % 4 - 1 ∧ M.steps = 0 ∧ M.polls = 0 ∧ M.state = 0 ∧ Own mB ab M.cells 37 ab ∧ Keeps mA mB [ab] ∧
    E = [(1, .slice ro rs.length rs.length), (3, .int .i64 wish), (13, .slice oa c.length c.length), (14, .pointer (some ⟨qb, 0, none⟩)), (15, .pointer (some ⟨hb, 0, none⟩)), (17, .pointer (some ⟨ab, 0, none⟩)), (18, .int .i64 i)]) _ ⟨_, ⟨0, M0 (pc % 4 - 1), rfl, by omega, M0_ok _, rfl, rfl, rfl, rfl, oA, Keeps.refl _ _, rfl⟩, ⟨by rfl, by rfl, by rfl, by rfl, by rfl, by rfl, by rfl, trivial⟩⟩ ?_
  rintro d E mB ih ⟨i, M, hd, hi, hok, m1', m2', m3', m4', oM, kM, rfl⟩
  by_cases hin : i < rs.length ∧ i < 16
  · obtain ⟨h1, h2⟩ := hin
    obtain ⟨rb, rfl, orr⟩ := r3.rdo (by omega)
    have ob0 := (orr.keep kA (by simp)).keep kM (by have := orr.flt; simp; omega)
    have hwx := words_at h1
    have i1 : (i : Int) < rs.length := by omega
    have i2 : (i : Int) < 16 := by omega
    have i3 : (i : Int) ≤ 9223372036854775807 := by omega
    have wx := hrW.w i
    generalize rs.getD i 0 = x at *
    have wi : IntKind.i64.wrap ((i : Int) + 1) = ((i + 1 : Nat) : Int) := by rw [wrap_i64 (by omega) (by omega)]; omega
    have lr := ob0.load1 hwx
    have hbf := ob0.flt
    have haf := oM.flt
    have hne : ¬ rf = ab := by have := orr.flt; omega
    obtain ⟨m5, e5, o5, k5⟩ := store_own (r := _) rfl oM (off := i) (vs := [.int .u64 x]) (by rw [Ms.len hok]; simp; omega) (by simp [one_int])
    rw [Ms.oreg hok h2] at o5
    have hok5 := Ms.ok_reg hok i wx
    have ob5 := ob0.keep k5 (by simpa using hne)
    have l5 := ob5.load1 hwx
    have hi4 : i < 400 := by omega
    have i4 : (i : Int) < 400 := by omega
    have w40 : wd (x.tmod 40) := by
      have h1 := Int.tmod_nonneg 40 wx.1
      have h2 := Int.tmod_lt_of_pos x (by omega : (0 : Int) < 40)
      exact ⟨by omega, by omega⟩
    by_cases he : (i : Int).tmod 2 = 0
    · obtain ⟨m6, e6, o6, k6⟩ := store_own (r := _) rfl o5 (off := i) (vs := [.int .u64 (x.tmod 40)]) (by rw [Ms.len hok5]; simp; omega) (by simp [one_int])
      rw [Ms.oreg hok5 h2] at o6
      have hok6 := Ms.ok_reg hok5 i w40
      have ob6 := ob5.keep k6 (by simpa using hne)
      have l6 := ob6.load1 hwx
      obtain ⟨m7, e7, o7, k7⟩ := store_own (r := _) rfl o6 (off := 16 + i) (vs := [.int .u64 (IntKind.u64.wrap (x.tdiv 3))]) (by rw [Ms.len hok6]; simp; omega) (by simp [one_int])
      rw [Ms.oslot hok6 hi4] at o7
      have hok7 := Ms.ok_slot hok6 i (wd_wrap (x.tdiv 3))
      have l7 := (ob6.keep k7 (by simpa using hne)).load1 hwx
      simp [-Int.natCast_add, -BitVec.toNat_or, -BitVec.toNat_ofInt, -BitVec.toNat_and, build_of bo37, box_of b37, len_slice u23, index_slice u23 sz33, load_of ld33, fieldAddr_of fa37_0, indexAddr_arr u34 sz33, store_of sz33, fieldAddr_of fa37_1, indexAddr_arr u35 sz33, load_agg ld37, alloc_of zo37, store_of sz37, fieldAddr_of fa37_5, load_of ld3, load_agg ld34, load_agg ld35, fieldAddr_of fa37_2, fieldAddr_of fa37_3, fieldAddr_of fa37_4, fieldAddr_of fa37_6, fieldAddr_of fa43_1, load_of ld23, h1, h2, i1, i2, i3, lr, e5, l5, he, e6, l6, hi4, i4, e7, l7, wi]
      exact ih _ _ _ _ ⟨i + 1, _, rfl, by omega, hok7, m1', m2', m3', m4', o7, ((kM.trans k5).trans k6).trans k7, rfl⟩ (by omega) ⟨by rfl, by rfl, by rfl, by rfl, by rfl, by rfl, by rfl, trivial⟩
    · obtain ⟨m7, e7, o7, k7⟩ := store_own (r := _) rfl o5 (off := 16 + i) (vs := [.int .u64 (IntKind.u64.wrap (x.tdiv 3))]) (by rw [Ms.len hok5]; simp; omega) (by simp [one_int])
      rw [Ms.oslot hok5 hi4] at o7
      have hok7 := Ms.ok_slot hok5 i (wd_wrap (x.tdiv 3))
      have l7 := (ob5.keep k7 (by simpa using hne)).load1 hwx
      simp [-Int.natCast_add, -BitVec.toNat_or, -BitVec.toNat_ofInt, -BitVec.toNat_and, build_of bo37, box_of b37, len_slice u23, index_slice u23 sz33, load_of ld33, fieldAddr_of fa37_0, indexAddr_arr u34 sz33, store_of sz33, fieldAddr_of fa37_1, indexAddr_arr u35 sz33, load_agg ld37, alloc_of zo37, store_of sz37, fieldAddr_of fa37_5, load_of ld3, load_agg ld34, load_agg ld35, fieldAddr_of fa37_2, fieldAddr_of fa37_3, fieldAddr_of fa37_4, fieldAddr_of fa37_6, fieldAddr_of fa43_1, load_of ld23, h1, h2, i1, i2, i3, lr, e5, l5, he, hi4, i4, e7, l7, wi]
      exact ih _ _ _ _ ⟨i + 1, _, rfl, by omega, hok7, m1', m2', m3', m4', o7, (kM.trans k5).trans k7, rfl⟩ (by omega) ⟨by rfl, by rfl, by rfl, by rfl, by rfl, by rfl, by rfl, trivial⟩
  · clear ih
    apply cut1_ (fun mZ : Mem => Own mZ ab M.cells 37 ab ∧ Keeps mA mZ [ab])
    case main =>
      by_cases h1 : i < rs.length
      · have h2 : ¬ (i : Int) < 16 := by omega
        have i1 : (i : Int) < rs.length := by omega
        intro meth
        simp [-Int.natCast_add, -w3_14, -BitVec.toNat_or, -BitVec.toNat_ofInt, -BitVec.toNat_and, build_of bo37, box_of b37, len_slice u23, index_slice u23 sz33, load_of ld33, fieldAddr_of fa37_0, indexAddr_arr u34 sz33, store_of sz33, fieldAddr_of fa37_1, indexAddr_arr u35 sz33, load_agg ld37, alloc_of zo37, store_of sz37, fieldAddr_of fa37_5, load_of ld3, load_agg ld34, load_agg ld35, fieldAddr_of fa37_2, fieldAddr_of fa37_3, fieldAddr_of fa37_4, fieldAddr_of fa37_6, fieldAddr_of fa43_1, load_of ld23, h1, h2, i1]
        obtain ⟨mX, hX⟩ : ∃ mX, mB = mX := ⟨_, rfl⟩
        rw [hX] at oM kM ⊢
        exact w_sub (E := [(3, .int .i64 wish), (13, .slice oa c.length c.length), (14, .pointer (some ⟨qb, 0, none⟩)), (15, .pointer (some ⟨hb, 0, none⟩)), (17, .pointer (some ⟨ab, 0, none⟩))]) (meth mX ⟨oM, kM⟩) ⟨by rfl, by rfl, by rfl, by rfl, by rfl, trivial⟩
      · have i1 : ¬ (i : Int) < rs.length := by omega
        intro meth
        simp [-Int.natCast_add, -w3_14, -BitVec.toNat_or, -BitVec.toNat_ofInt, -BitVec.toNat_and, build_of bo37, box_of b37, len_slice u23, index_slice u23 sz33, load_of ld33, fieldAddr_of fa37_0, indexAddr_arr u34 sz33, store_of sz33, fieldAddr_of fa37_1, indexAddr_arr u35 sz33, load_agg ld37, alloc_of zo37, store_of sz37, fieldAddr_of fa37_5, load_of ld3, load_agg ld34, load_agg ld35, fieldAddr_of fa37_2, fieldAddr_of fa37_3, fieldAddr_of fa37_4, fieldAddr_of fa37_6, fieldAddr_of fa43_1, load_of ld23, h1, i1]
        obtain ⟨mX, hX⟩ : ∃ mX, mB = mX := ⟨_, rfl⟩
        rw [hX] at oM kM ⊢
        exact w_sub (E := [(3, .int .i64 wish), (13, .slice oa c.length c.length), (14, .pointer (some ⟨qb, 0, none⟩)), (15, .pointer (some ⟨hb, 0, none⟩)), (17, .pointer (some ⟨ab, 0, none⟩))]) (meth mX ⟨oM, kM⟩) ⟨by rfl, by rfl, by rfl, by rfl, by rfl, trivial⟩
    clear oM kM
    rintro mZ ⟨oM, kM⟩
    have lM : loadRow mZ ⟨ab, 0, none⟩ 421 = some M.cells := by
      rw [oM.load 421 (by rw [Ms.len hok]; omega)]
      simp only [window, List.drop_zero]
      rw [List.take_of_length_le (by rw [Ms.len hok]; omega)]
    obtain ⟨oB, kB, nB⟩ := new_own (m := mZ) (cs := (M0 0).cells) (e := 37) rfl
    obtain ⟨bb, hbb⟩ : ∃ bb, mZ.next = bb := ⟨_, rfl⟩
    have lM0 := Ms.len hok
    simp [-Int.natCast_add, -BitVec.toNat_or, -BitVec.toNat_ofInt, -BitVec.toNat_and, build_of bo37, box_of b37, len_slice u23, index_slice u23 sz33, load_of ld33, fieldAddr_of fa37_0, indexAddr_arr u34 sz33, store_of sz33, fieldAddr_of fa37_1, indexAddr_arr u35 sz33, load_agg ld37, alloc_of zo37, store_of sz37, fieldAddr_of fa37_5, load_of ld3, load_agg ld34, load_agg ld35, fieldAddr_of fa37_2, fieldAddr_of fa37_3, fieldAddr_of fa37_4, fieldAddr_of fa37_6, fieldAddr_of fa43_1, load_of ld23, lM, lM0]
    generalize hst : storeRow _ _ _ = rst
    obtain ⟨mC, rfl, oC, kC⟩ := store_own hst oB (by rw [lM0, Ms.len (M0_ok 0)]; omega) (by simp [Ms.cells, Ms.tail, words, one_int])
    have eo : over (M0 0).cells 0 M.cells = M.cells := by
      unfold over
      rw [lM0, List.take_zero, List.nil_append, List.drop_eq_nil_of_le (by rw [Ms.len (M0_ok 0)]; omega), List.append_nil]
    rw [eo, hbb] at oC
    rw [hbb] at kC nB ⊢
    have kZC := kB.fresh kC (by simp; omega)
    simp [-Int.natCast_add, -BitVec.toNat_or, -BitVec.toNat_ofInt, -BitVec.toNat_and, build_of bo37, box_of b37, len_slice u23, index_slice u23 sz33, load_of ld33, fieldAddr_of fa37_0, indexAddr_arr u34 sz33, store_of sz33, fieldAddr_of fa37_1, indexAddr_arr u35 sz33, load_agg ld37, alloc_of zo37, store_of sz37, fieldAddr_of fa37_5, load_of ld3, load_agg ld34, load_agg ld35, fieldAddr_of fa37_2, fieldAddr_of fa37_3, fieldAddr_of fa37_4, fieldAddr_of fa37_6, fieldAddr_of fa43_1, load_of ld23, pk2, ww]
    have hm0 : 0 < m1.next := by have := K1.1; omega
    obtain ⟨fc, rc1, hfc⟩ := rs_low s1.rs hm0
    have hn1 : m1.next ≤ m2.next := K2.1
    have hn2 : m2.next ≤ m3.next := K3.1
    have hqf := hq.h.flt
    have hvf := hq.w.flt
    have hhf := hh.h.flt
    have hwf := hh.w.flt
    have hnA : ab < mA.next := oA.flt
    have hnZ : mA.next ≤ mZ.next := kM.1
    have hn3 : m3.next ≤ mA.next := kA.1
    have k3C : Keeps m3 mC [ab] := (kA.nil.trans kM).trans kZC.nil
    have rcC := ((rc1.keep K2 (by simp)).keep K3 (by simp)).keep k3C (by simp; omega)
    have hhC := hh.keep k3C (by simp; omega) (by simp; omega)
    have hqC := q3.keep k3C (by simp; omega) (by simp; omega)
    have oMC := oM.keep kZC (by simp)
    have hwl := wO_len hob
    have h8 := hob.1
    refine wsem_loop 21 [36, 49, 63, 96, 168] (fun d E mE => ∃ (i : Nat) (M : Ms) (ws : List Int) (ha wa va : Nat), 120 - i = d ∧ i ≤ 120 ∧ M.ok ∧ Wd ws ∧ ws.length ≤ 1000 ∧ ws ≠ [] ∧ (0 ≤ M.steps ∧ M.steps ≤ i) ∧ (0 ≤ M.polls ∧ M.polls ≤ i) ∧ (-1 ≤ M.pc ∧ M.pc ≤ 1000001) ∧ Own mE ab M.cells 37 ab ∧ Own mE bb M.cells 37 bb ∧ HeapAt mE hb hf wb wf ws 100 ∧ RefAt mE qb qf vb vf ws 100 ∧ Rs mE oa c.length (icv c) 52 5 fc ∧
      E = [(3, .int .i64 (wish % 5 - 1)), (13, .slice oa c.length c.length), (14, .pointer (some ⟨qb, 0, none⟩)), (15, .pointer (some ⟨hb, 0, none⟩)), (17, .pointer (some ⟨ab, 0, none⟩)), (19, .pointer (some ⟨bb, 0, none⟩)), (20, .int .i64 i)]) _
      ⟨_, ⟨0, M, wO ob, 0, 0, 0, rfl, by omega, hok, wO_wd hob, by omega, by simp [wO], by omega, by omega, by omega, oMC, oC, hhC, hqC, rcC, rfl⟩, ⟨by rfl, by rfl, by rfl, by rfl, by rfl, by rfl, by rfl, trivial⟩⟩ ?_
    clear oMC oC hhC hqC rcC hok oM m1' m2' m3' m4' lM lM0 eo
    generalize hgw : wish % 5 - 1 = wi at *
    rintro d2 E2 mE ih ⟨j, M, ws, _, _, _, hd2, hj, hok, hwd, hwl2, hne, hst, hpo, hpb, oE, oF, hE, qE, rE, rfl⟩
    have sE := oF.load1 (off := 419) (v := .int .i64 M.state) (Ms.scal hok 3)
    have nab : ¬ ab = bb := by omega
    have nba : ¬ bb = ab := by omega
    by_cases hgo : j < 120 ∧ M.state = 0
    · obtain ⟨hj2, hs0⟩ := hgo
      have j1 : (j : Int) < 120 := by omega
      have wj : IntKind.i64.wrap ((j : Int) + 1) = ((j + 1 : Nat) : Int) := by rw [wrap_i64 (by omega) (by omega)]; omega
      rw [hs0] at sE
      obtain ⟨M1, ws1, ny, hrun, href⟩ := step_both hp (ls := c) hok hwd (by omega) (by omega) (by omega) hpb hs0 wi
      obtain ⟨v5, m5, c5, ⟨M5, H5⟩, k5⟩ := hrun mE ab ab hb hf wb wf fc 52 oa ⟨oE, hE, rE, by omega, hok, hwd, by omega, by omega, by omega, by omega⟩
      have o5 := oF.keep k5 (by simp; omega)
      have q5 := qE.keep k5 (by simp; omega) (by simp; omega)
      have r5 := rE.keep k5 (by simp; omega)
      obtain ⟨v6, m6, c6, ⟨M6, Q6⟩, k6⟩ := href m5 bb bb qb qf vb vf fc 52 oa ⟨o5, q5, r5, by omega, hok, hwd, by omega, by omega, by omega, by omega⟩
      have M7 := M5.keep k6 (by simp; omega)
      have H7 := H5.keep k6 (by simp; omega) (by simp; omega)
      have r7 := r5.keep k6 (by simp; omega)
      have hok1 := ny.ok
      have la := Ms.regs hok1 M7
      have lb := Ms.regs hok1 M6
      have la2 := Ms.slots hok1 M7
      have lb2 := Ms.slots hok1 M6
      have la3 := M7.load1 (off := 416) (v := .int .i64 M1.pc) (Ms.scal hok1 0)
      have lb3 := M6.load1 (off := 416) (v := .int .i64 M1.pc) (Ms.scal hok1 0)
      have la4 := M7.load1 (off := 417) (v := .int .i64 M1.steps) (Ms.scal hok1 1)
      have lb4 := M6.load1 (off := 417) (v := .int .i64 M1.steps) (Ms.scal hok1 1)
      have la5 := M7.load1 (off := 418) (v := .int .i64 M1.polls) (Ms.scal hok1 2)
      have lb5 := M6.load1 (off := 418) (v := .int .i64 M1.polls) (Ms.scal hok1 2)
      have la6 := M7.load1 (off := 419) (v := .int .i64 M1.state) (Ms.scal hok1 3)
      have lb6 := M6.load1 (off := 419) (v := .int .i64 M1.state) (Ms.scal hok1 3)
      have la7 := M7.load1 (off := 420) (v := .int .i64 M1.exit) (Ms.scal hok1 4)
      have lb7 := M6.load1 (off := 420) (v := .int .i64 M1.exit) (Ms.scal hok1 4)
      have e16 : (words M1.R).length = 16 := by rw [words_len, hok1.r]
      have e400 : (words M1.T).length = 400 := by rw [words_len, hok1.t]
      simp [-Int.natCast_add, -BitVec.toNat_or, -BitVec.toNat_ofInt, -BitVec.toNat_and, build_of bo37, box_of b37, len_slice u23, index_slice u23 sz33, load_of ld33, fieldAddr_of fa37_0, indexAddr_arr u34 sz33, store_of sz33, fieldAddr_of fa37_1, indexAddr_arr u35 sz33, load_agg ld37, alloc_of zo37, store_of sz37, fieldAddr_of fa37_5, load_of ld3, load_agg ld34, load_agg ld35, fieldAddr_of fa37_2, fieldAddr_of fa37_3, fieldAddr_of fa37_4, fieldAddr_of fa37_6, fieldAddr_of fa43_1, load_of ld23, hj2, j1, sE, c5, c6, la, lb, la2, lb2, la3, lb3, la4, lb4, la5, lb5, la6, lb6, la7, lb7, e16, e400, bin16 hok1.r, bin400 hok1.t, wj]
      have hl1 := ny.len
      have hs1 := ny.s0
      have hs2 := ny.s1
      have hs3 := ny.p0
      have hs4 := ny.p1
      refine ih _ _ _ _ ⟨j + 1, M1, ws1, 0, 0, 0, rfl, by omega, hok1, ny.wd, by omega, fun h => hne (List.length_eq_zero_iff.1 (by rw [← hl1, h]; rfl)), by omega, by omega, ⟨ny.pc0, ny.pc1⟩, M7, M6, H7, Q6, r7, rfl⟩ (by omega) ⟨by rfl, by rfl, by rfl, by rfl, by rfl, by rfl, by rfl, trivial⟩
    · clear ih
      obtain ⟨_, m5, c5, nb, nf, rfl, o5, hnf, k5⟩ := words_run hp.hp.words hE hne (by omega)
      have l1 := qE.h.load1 (off := 1) rfl
      have q5 := qE.keep k5 (by simp) (by simp)
      have l2 := q5.h.load1 (off := 1) rfl
      obtain ⟨sb, c6, hsb⟩ := samew_run (a := ws) (b := ws) hW (Sl.of (z := 1) o5 (by rw [words_len]; omega)).rs (Sl.of (z := 1) q5.w (by rw [words_len]; omega)).rs (by omega) (by omega)
      have hst : sb = true := hsb.2 rfl
      subst hst
      by_cases hj2 : j < 120
      · have hs0 : ¬ M.state = 0 := fun h => hgo ⟨hj2, h⟩
        have j1 : (j : Int) < 120 := by omega
        simp [-Int.natCast_add, -BitVec.toNat_or, -BitVec.toNat_ofInt, -BitVec.toNat_and, build_of bo37, box_of b37, len_slice u23, index_slice u23 sz33, load_of ld33, fieldAddr_of fa37_0, indexAddr_arr u34 sz33, store_of sz33, fieldAddr_of fa37_1, indexAddr_arr u35 sz33, load_agg ld37, alloc_of zo37, store_of sz37, fieldAddr_of fa37_5, load_of ld3, load_agg ld34, load_agg ld35, fieldAddr_of fa37_2, fieldAddr_of fa37_3, fieldAddr_of fa37_4, fieldAddr_of fa37_6, fieldAddr_of fa43_1, load_of ld23, hj2, j1, sE, hs0, c5, l1, l2, c6]
      · have j1 : ¬ (j : Int) < 120 := by omega
        simp [-Int.natCast_add, -BitVec.toNat_or, -BitVec.toNat_ofInt, -BitVec.toNat_and, build_of bo37, box_of b37, len_slice u23, index_slice u23 sz33, load_of ld33, fieldAddr_of fa37_0, indexAddr_arr u34 sz33, store_of sz33, fieldAddr_of fa37_1, indexAddr_arr u35 sz33, load_agg ld37, alloc_of zo37, store_of sz37, fieldAddr_of fa37_5, load_of ld3, load_agg ld34, load_agg ld35, fieldAddr_of fa37_2, fieldAddr_of fa37_3, fieldAddr_of fa37_4, fieldAddr_of fa37_6, fieldAddr_of fa43_1, load_of ld23, hj2, j1, sE, c5, l1, l2, c6]

/- the row -/
open Go.ChangeShapes Go.WideShapes Go.ChangeAt Go.RowKit
theorem own : ownKnob Tryd.prog.godebug = none := by kernel_rfl
theorem tab : Sh.tabCheck Tryd.prog fns = true := by kernel_rfl
def tables : List (Nat × List Value) := []
theorem startT (w : World) (h : laidMetH Tryd.prog Rows.machineStepsRow.laid w) : MRel Tryd.prog (inj0 Tryd.prog) (memG Tryd.prog tables) (allF w) w w := by
  refine memG_rel Tryd.prog w tables fun p hp => ?_
  simp only [tables, List.mem_cons, List.not_mem_nil, or_false] at hp

theorem walk (w : World) (hL : laidMetH Tryd.prog Rows.machineStepsRow.laid w) {v0 : Value} (h0 : DatArg Tryd.prog w (Ty.slice 52 (Ty.pair (Ty.int .i64) (Ty.pair (Ty.int .i64) (Ty.pair (Ty.int .i64) (Ty.pair (Ty.int .i64) (Ty.pair (Ty.int .i64) Ty.unit)))))) v0) {v1 : Value} (h1 : RowArg Tryd.prog w (fun n : Int => [Value.int .u64 n]) (fun n => (Lit.int .u64 n).wf = true) 33 1 v1) {v2 : Value} (h2 : RowArg Tryd.prog w (fun n : Int => [Value.int .u64 n]) (fun n => (Lit.int .u64 n).wf = true) 33 1 v2) (x3 : Int) (hx3 : (Lit.int .i64 x3).wf = true) (x4 : Int) (hx4 : (Lit.int .i64 x4).wf = true) (x5 : Bool) :
    Calls Tryd.prog 3 #[v0, v1, v2, .int .i64 x3, .int .i64 x4, .bool x5] w fun e w' => e = .returned (.bool true) ∧ Below w.heap.size w w' := by
  have hM := startT w hL
  obtain ⟨rs0, J0, m0, cs0, hw0, le0, hM0, vr0, hr0, hk0⟩ := h0 _ _ hM
  obtain ⟨rs1, J1, m1, ao1, fr1, le1, hM1, vr1, hr1, hg1, hl1, hk1, hz1, hw1⟩ := row_in hM0 sz33 (by omega) (fun _ => rfl) h1
  obtain ⟨rs2, J2, m2, ao2, fr2, le2, hM2, vr2, hr2, hg2, hl2, hk2, hz2, hw2⟩ := row_in hM1 sz33 (by omega) (fun _ => rfl) h2
  obtain ⟨v', m', h, rfl⟩ := law_run (S := sums) (m := m2) rfl rfl ⟨⟨rfl, rfl, rfl, rfl, rfl, rfl, rfl, rfl⟩, ⟨rfl, rfl, rfl, rfl, rfl, rfl, rfl⟩, ⟨rfl, rfl, rfl, rfl, rfl, rfl, rfl, rfl, rfl⟩, ⟨rfl, rfl, rfl, rfl, rfl, rfl, rfl⟩, rfl, rfl, rfl, rfl⟩ rfl rfl rfl rfl rfl hw0 ((hr0.keep hk1).keep hk2) (hr1.keep hk2 (by simp)) (by have := hk2.1; omega) hz1 hw1 hr2 hl2 hz2 hw2 hx3 hx4 x5
  exact calls_of mixed (Sh.tab_ok tab) sumsOk Tryd.func3 (by kernel_rfl) h rfl hM2 (.cons ((vr0.mono le1).mono le2) (.cons (vr1.mono le2) (.cons vr2 (.cons (.clo _ rfl) (.cons (.clo _ rfl) (.cons (.clo _ rfl) LRel.nil))))))

theorem laidOut : laidOutB Tryd.prog = true := by kernel_rfl
theorem trodAll_many {H : Type} {enc : TypeId × Value → H} {P : Program} {w : World} {base : Nat} {spare : Nat → Bool} {held : Bool} {y0 y1 y2 y3 y4 y5 : TypeId} {args : Array Value} {ds : List (DataW H)} {ps : List MemPlace} (h : DataW.TrodAll enc P w base spare held [y0, y1, y2, y3, y4, y5] args.toList ds ps) :
    ∃ v0 v1 v2 v3 v4 v5 d0 d1 d2 d3 d4 d5 p0 p1 p2 p3 p4 p5, args = #[v0, v1, v2, v3, v4, v5] ∧ ds = [d0, d1, d2, d3, d4, d5] ∧ ps = p0 ++ p1 ++ p2 ++ p3 ++ p4 ++ p5 ∧ DataW.Trod enc P w base spare held y0 v0 d0 p0 ∧ DataW.Trod enc P w base spare held y1 v1 d1 p1 ∧ DataW.Trod enc P w base spare held y2 v2 d2 p2 ∧ DataW.Trod enc P w base spare held y3 v3 d3 p3 ∧ DataW.Trod enc P w base spare held y4 v4 d4 p4 ∧ DataW.Trod enc P w base spare held y5 v5 d5 p5 := by
  obtain ⟨v0, vs0, d0, es0, p0, q0, hargs, rfl, rfl, a0, b0⟩ := trodAll_cons h
  obtain ⟨v1, vs1, d1, es1, p1, q1, rfl, rfl, rfl, a1, b1⟩ := trodAll_cons b0
  obtain ⟨v2, vs2, d2, es2, p2, q2, rfl, rfl, rfl, a2, b2⟩ := trodAll_cons b1
  obtain ⟨v3, vs3, d3, es3, p3, q3, rfl, rfl, rfl, a3, b3⟩ := trodAll_cons b2
  obtain ⟨v4, vs4, d4, es4, p4, q4, rfl, rfl, rfl, a4, b4⟩ := trodAll_cons b3
  obtain ⟨v5, vs5, d5, es5, p5, q5, rfl, rfl, rfl, a5, b5⟩ := trodAll_cons b4
  obtain ⟨rfl, rfl, rfl⟩ := trodAll_nil b5
  exact ⟨v0, v1, v2, v3, v4, v5, d0, d1, d2, d3, d4, d5, p0, p1, p2, p3, p4, p5, by cases args; simp_all, rfl, by simp, a0, a1, a2, a3, a4, a5⟩
theorem trodAll_mkmany {H : Type} {enc : TypeId × Value → H} {P : Program} {w : World} {base : Nat} {spare : Nat → Bool} {held : Bool} {y0 y1 y2 y3 y4 y5 : TypeId} {v0 v1 v2 v3 v4 v5 : Value} {d0 d1 d2 d3 d4 d5 : DataW H} {p0 p1 p2 p3 p4 p5 : List MemPlace} (a0 : DataW.Trod enc P w base spare held y0 v0 d0 p0) (a1 : DataW.Trod enc P w base spare held y1 v1 d1 p1) (a2 : DataW.Trod enc P w base spare held y2 v2 d2 p2) (a3 : DataW.Trod enc P w base spare held y3 v3 d3 p3) (a4 : DataW.Trod enc P w base spare held y4 v4 d4 p4) (a5 : DataW.Trod enc P w base spare held y5 v5 d5 p5) : DataW.TrodAll enc P w base spare held [y0, y1, y2, y3, y4, y5] [v0, v1, v2, v3, v4, v5] [d0, d1, d2, d3, d4, d5] (p0 ++ (p1 ++ (p2 ++ (p3 ++ (p4 ++ (p5 ++ [])))))) := (trodAll_cons_mk a0 (trodAll_cons_mk a1 (trodAll_cons_mk a2 (trodAll_cons_mk a3 (trodAll_cons_mk a4 (trodAll_cons_mk a5 trodAll_mk0))))))

theorem contract (H : Type) (enc : TypeId × Value → H) (W : World) (base : Nat) (args : Array Value) (ds gs : List (DataW H)) (before : List MemPlace)
    (hval : ∀ (j : Nat) t v, Tryd.f3.params[j]? = some t → args[j]? = some v → Value.okWide Tryd.prog W .any base t v)
    (hW : DataW.Whole enc Tryd.prog Tryd.f3.params.toList Rows.machineStepsSpec.vars false W args.toList ds gs before) (hL : laidMetH Tryd.prog Rows.machineStepsRow.laid W) :
    Calls Tryd.prog 3 args W fun e W' => ∃ v, e = .returned v ∧ Rows.machineStepsSpec.post enc Tryd.prog Tryd.f3 false true false false W args v W' := by
  have hW' := hW
  obtain ⟨p, q, hA0, hV, rfl, hfz, hnd⟩ := hW
  have hA : DataW.TrodAll enc Tryd.prog W 0 (fun _ => true) true Tryd.f3.params.toList args.toList ds p := hA0
  rw [Tryd.params3] at hA hval
  obtain ⟨v0, v1, v2, v3, v4, v5, d0, d1, d2, d3, d4, d5, p0, p1, p2, p3, p4, p5, rfl, rfl, rfl, t0, t1, t2, t3, t4, t5⟩ := trodAll_many hA
  obtain ⟨rfl, rfl⟩ := trodVars_none hV
  have hv0 := dat_arg (ty := (Ty.slice 52 (Ty.pair (Ty.int .i64) (Ty.pair (Ty.int .i64) (Ty.pair (Ty.int .i64) (Ty.pair (Ty.int .i64) (Ty.pair (Ty.int .i64) Ty.unit))))))) (t := 22) (by kernel_rfl) (hval 0 _ _ rfl rfl) t0
  have hv1 := ints_row u23 u33 sz33 (hval 1 _ _ rfl rfl) t1
  have hv2 := ints_row u23 u33 sz33 (hval 2 _ _ rfl rfl) t2
  obtain ⟨x3, rfl, rfl, rfl, hx3⟩ := open_int u3 (hval 3 _ _ rfl rfl) t3
  obtain ⟨x4, rfl, rfl, rfl, hx4⟩ := open_int u3 (hval 4 _ _ rfl rfl) t4
  obtain ⟨x5, rfl, rfl, rfl⟩ := open_bool u4 (hval 5 _ _ rfl rfl) t5
  clear hA0
  simp only [List.append_nil, List.nil_append] at hW'
  refine (walk W hL hv0 hv1 hv2 x3 hx3 x4 hx4 x5).mono fun e W' ⟨he, hg⟩ => ?_
  subst he
  have hlt0 : ∀ z ∈ p0, z.block < W.heap.size := fun z hz => hW'.lt z (by simp [hz])
  have hlt1 : ∀ z ∈ p1, z.block < W.heap.size := fun z hz => hW'.lt z (by simp [hz])
  have hlt2 : ∀ z ∈ p2, z.block < W.heap.size := fun z hz => hW'.lt z (by simp [hz])
  exact ⟨_, rfl, Sh.law_post (pa := (p0 ++ (p1 ++ (p2 ++ ([] ++ ([] ++ ([] ++ []))))))) (pv := []) hW' hg (by simp) (fun sp hsp => trodAll_mkmany (WideElems.Trod_stays laidOut (by kernel_rfl) (of_decide_eq_true (by kernel_rfl)) t0 (fun z hz => hg.same (hlt0 z hz)) (fun z hz => hsp z (by simp [hz]))) (WideElems.Trod_stays laidOut (by kernel_rfl) (of_decide_eq_true (by kernel_rfl)) t1 (fun z hz => hg.same (hlt1 z hz)) (fun z hz => hsp z (by simp [hz]))) (WideElems.Trod_stays laidOut (by kernel_rfl) (of_decide_eq_true (by kernel_rfl)) t2 (fun z hz => hg.same (hlt2 z hz)) (fun z hz => hsp z (by simp [hz]))) (shut_int u3 hx3) (shut_int u3 hx4) (shut_bool u4 _)) (fun _ _ => rfl) (fun _ _ _ => (trodAll_cons_mk (shut_bool u4 _) trodAll_mk0))
    (ok_one (by kernel_rfl) rfl (okWide_bool_mk u4 _))⟩
/-- A world for the witness: the settled one, the listed variables holding what is laid. -/
noncomputable def laidWorld (os : Os) : World :=
  { World.holding Tryd.prog os ⟨#[], #[], []⟩ with heap := (((World.holding Tryd.prog os ⟨#[], #[], []⟩).heap).modify 2 (Sh.laidBlock (Rows.laid_unicode_utf8_acceptRanges : DataW Unit))).modify 1 (Sh.laidBlock (Rows.laid_unicode_utf8_first : DataW Unit)) }
theorem laid_met (os : Os) : laidMet Tryd.prog Rows.machineStepsRow.laid ((laidWorld os).forCall (fun _ _ => 0) ⟨#[], #[(tyVal (Ty.slice 52 (Ty.pair (Ty.int .i64) (Ty.pair (Ty.int .i64) (Ty.pair (Ty.int .i64) (Ty.pair (Ty.int .i64) (Ty.pair (Ty.int .i64) Ty.unit)))))) ((Ty.slice 52 (Ty.pair (Ty.int .i64) (Ty.pair (Ty.int .i64) (Ty.pair (Ty.int .i64) (Ty.pair (Ty.int .i64) (Ty.pair (Ty.int .i64) Ty.unit))))))).zeros), .slice none 0 0, .slice none 0 0, .int .i64 0, .int .i64 0, .bool false], []⟩).memory :=
  laidMet_of_run' 8 (by kernel_rfl) (by kernel_rfl)
theorem reads (os : Os) {H : Type} (enc : TypeId × Value → H) : ∃ places, DataW.whole enc Tryd.prog ((laidWorld os).forCall (fun _ _ => 0) ⟨#[], #[(tyVal (Ty.slice 52 (Ty.pair (Ty.int .i64) (Ty.pair (Ty.int .i64) (Ty.pair (Ty.int .i64) (Ty.pair (Ty.int .i64) (Ty.pair (Ty.int .i64) Ty.unit)))))) ((Ty.slice 52 (Ty.pair (Ty.int .i64) (Ty.pair (Ty.int .i64) (Ty.pair (Ty.int .i64) (Ty.pair (Ty.int .i64) (Ty.pair (Ty.int .i64) Ty.unit))))))).zeros), .slice none 0 0, .slice none 0 0, .int .i64 0, .int .i64 0, .bool false], []⟩).memory Tryd.f3.params.toList Rows.machineStepsSpec.vars false (#[(tyVal (Ty.slice 52 (Ty.pair (Ty.int .i64) (Ty.pair (Ty.int .i64) (Ty.pair (Ty.int .i64) (Ty.pair (Ty.int .i64) (Ty.pair (Ty.int .i64) Ty.unit)))))) ((Ty.slice 52 (Ty.pair (Ty.int .i64) (Ty.pair (Ty.int .i64) (Ty.pair (Ty.int .i64) (Ty.pair (Ty.int .i64) (Ty.pair (Ty.int .i64) Ty.unit))))))).zeros), .slice none 0 0, .slice none 0 0, .int .i64 0, .int .i64 0, .bool false] : Array Value).toList 8 = some ([(((Ty.slice 52 (Ty.pair (Ty.int .i64) (Ty.pair (Ty.int .i64) (Ty.pair (Ty.int .i64) (Ty.pair (Ty.int .i64) (Ty.pair (Ty.int .i64) Ty.unit))))))).zdata), .nil, .nil, .lit (.int .i64 0), .lit (.int .i64 0), .lit (.bool false)], [], places) :=
  ⟨[], by kernel_rfl⟩

theorem lifted (os : Os) (started : os.Started) (H : Type) (enc : TypeId × Value → H) (F : Stop.Interp) :
    ReturnsInHanded {} Tryd.checked os 3 .any ((OpenSpec.ofChange Rows.machineStepsSpec).preRow enc Tryd.prog Tryd.f3 Rows.machineStepsRow.domain false Rows.machineStepsRow.laid) (((OpenSpec.ofChange Rows.machineStepsSpec).at F).post enc Tryd.prog Tryd.f3 false true false false) := by
  obtain ⟨places, hx⟩ := reads os enc
  refine returnsInHanded_of_row (C := Tryd.checked) (s := OpenSpec.ofChange Rows.machineStepsSpec) own started (by kernel_rfl) Tryd.func3
    (witness_row_at (enc := enc) (C := Tryd.checked) false (laidWorld os) #[(tyVal (Ty.slice 52 (Ty.pair (Ty.int .i64) (Ty.pair (Ty.int .i64) (Ty.pair (Ty.int .i64) (Ty.pair (Ty.int .i64) (Ty.pair (Ty.int .i64) Ty.unit)))))) ((Ty.slice 52 (Ty.pair (Ty.int .i64) (Ty.pair (Ty.int .i64) (Ty.pair (Ty.int .i64) (Ty.pair (Ty.int .i64) (Ty.pair (Ty.int .i64) Ty.unit))))))).zeros), .slice none 0 0, .slice none 0 0, .int .i64 0, .int .i64 0, .bool false] rfl (by kernel_rfl) (by kernel_rfl) (by kernel_rfl)
      (OpenSpec.preRow_of_cond 8 hx (by kernel_rfl) (fun k hk => by cases hk) (by kernel_rfl) (laid_met os))) ?_
  intro W base args ds gs before hval hW _ hcd hwt hL _ _
  exact contract H enc W base args ds gs before hval hW hL

theorem said : Rows.MachineStepsSaid :=
  OpenClaim.holds_of_cond 3 Tryd.f3 rfl rfl rfl rfl rfl rfl rfl ⟨rfl, rfl, rfl, rfl, rfl⟩ rfl rfl rfl rfl rfl (by kernel_rfl) Tryd.func3 (by kernel_rfl)
    (of_decide_eq_true (by kernel_rfl)) (by unfold Func.isWrapper; first | (rw [if_pos (by decide +kernel)]; kernel_rfl) | (rw [if_neg (by decide +kernel)]; exact ⟨rfl, rfl⟩))
    (fun os started H enc _ F => by rw [OpenClaim.pre_eq_preRow]; exact lifted os started H enc F)

theorem plain (f : FuncId) (fn : Func) (hf : Tryd.pinned.checked.prog.funcNamed "turnstone/turnstonelaw25.MachineSteps" = some f) (hfn : Tryd.pinned.checked.prog.funcs[f]? = some fn) :
    false = Tryd.pinned.checked.prog.looks [] ∧ ∀ (j : Nat) t, fn.params[j]? = some t → Tryd.pinned.checked.prog.wantsStandIn t = false := by
  obtain rfl : f = 3 := Option.some.inj ((show Tryd.prog.funcNamed "turnstone/turnstonelaw25.MachineSteps" = some 3 by kernel_rfl).symm.trans hf) |>.symm
  obtain rfl : fn = Tryd.f3 := (Option.some.inj (Tryd.func3.symm.trans hfn)).symm
  refine ⟨by kernel_rfl, fun j t ht => ?_⟩
  rw [Tryd.params3] at ht
  rcases j with _ | _ | _ | _ | _ | _ | _
  all_goals first
    | (simp at ht; done)
    | (obtain rfl := Option.some.inj ht; kernel_rfl)
    | (simp at ht; subst ht; kernel_rfl)

theorem proved : Rows.MachineStepsCardSaid :=
  Claim7.holds_tied_plain_at .later [] _ _ _ _ said (fun _ h => by cases h) (by kernel_rfl) (fun _ h => by cases h) machineSteps_row_tie rfl ⟨rfl, rfl⟩ (by kernel_rfl) rfl plain (by kernel_rfl)
#print axioms proved
end Go.Proofs.YtkcehgajpalgnaaDoor.machineSteps

