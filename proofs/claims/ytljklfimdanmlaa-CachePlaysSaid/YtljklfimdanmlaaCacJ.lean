/-
  This text proves what 'New', the law's 'entry', 'Pick' and 'Size' do, over the abstract run, and how chapter 27's laws read their steps.
  Condition: nothing is known of the calls ahead ('S f = []').
-/
import Derived.Test.YtljklfimdanmlaaCacI
set_option maxRecDepth 100000
set_option linter.unusedSimpArgs false
set_option linter.unusedVariables false
namespace Go.Proofs.Ytljklfimdanmlaa.base
open Go.Sh gen
variable {S : Sums} {m : Mem} {cb f0 fa : Nat} {x0 x2 : Value} {a : Option Addr} {l A : List Px} {Q : Nat → Prop} {room uses : Nat}
theorem emod_tmod (x k : Int) (hk : 0 < k) : x % k = if x.tmod k < 0 then x.tmod k + k else x.tmod k := by
  have hx := Int.emod_nonneg x (by omega : k ≠ 0)
  have hx2 := Int.emod_lt_of_pos x hk
  split
  · rename_i h
    have : (x.tmod k + k) % k = x % k := by
      rw [Int.add_emod_right]
      have h3 := Int.tmod_add_mul_tdiv x k
      have : x.tmod k = x - k * x.tdiv k := by omega
      rw [this, Int.sub_mul_emod_self_left]
    rw [← this]
    have := Int.lt_tmod_of_pos x hk
    exact Int.emod_eq_of_lt (by omega) (by omega)
  · rename_i h
    have : (x.tmod k) % k = x % k := by
      have h3 := Int.tmod_add_mul_tdiv x k
      have : x.tmod k = x - k * x.tdiv k := by omega
      rw [this, Int.sub_mul_emod_self_left]
    rw [← this]
    have := Int.tmod_lt_of_pos x hk
    exact Int.emod_eq_of_lt (by omega) (by omega)
theorem pick_run (hS : S 7 = []) (x k : Int) (hk : 0 < k) (hk2 : k < 1000000) : callw Try.prog TT S 7 [.int .i64 x, .int .i64 k] m = some (.int .i64 (x % k), m) := by
  have hx := Int.emod_nonneg x (by omega : k ≠ 0)
  have hx2 := Int.emod_lt_of_pos x hk
  have hk0 : k ≠ 0 := by omega
  have hw : IntKind.i64.wrap (x % k) = x % k := wrap_i64 (by omega) (by omega)
  have e := emod_tmod x k hk
  refine fn_eq 5 [9] k7 hS rfl ?_
  by_cases h : x.tmod k < 0
  · rw [if_pos h] at e
    rw [e] at hw ⊢
    simp [-BitVec.toNat_or, -BitVec.toNat_ofInt, -BitVec.toNat_and, id, hk0, h, hw]
  · rw [if_neg h] at e
    rw [e]
    simp [-BitVec.toNat_or, -BitVec.toNat_ofInt, -BitVec.toNat_and, id, hk0, h]
/-- families that were made since -/
def Fr (m0 m1 : Mem) (f : Nat) : Prop := m0.next ≤ f ∧ f < m1.next
theorem new_run (hN : Nc S) (hr : room ≤ 1048576) : ∃ v m1, callw Try.prog TT S 8 [.int .i64 (room : Int)] m = some (v, m1) ∧ (∃ cb, v = .tuple #[.pointer (some ⟨cb, 0, none⟩), .int .i64 0] ∧ CAt (Fr m m1) m1 cb room 0 []) ∧ Keeps m m1 [] := by
  have h1 : ¬ (room : Int) < 0 := by omega
  have h2 : ¬ 1048576 < (room : Int) := by omega
  have h2' : ¬ 1048576 < room := by omega
  refine fn_w 4 [9] k8 hN.new rfl ?_
  simp [-Int.natCast_add, -BitVec.toNat_or, -BitVec.toNat_ofInt, -BitVec.toNat_and, build_of bo63, box_of b63, h1, h2, h2']
  generalize hq : m.new _ _ = m1
  obtain ⟨o1, k1, n1⟩ := new_own hq
  exact ⟨⟨m.next, none, [], 0, ⟨o1, Sr.nil _ _ _ _, by simp, by simp, by simp⟩, fun c h0 hc => by simp at hc, .refl _, .nil, .nil, by simp, .nil, by simp, ⟨Nat.le_refl _, n1⟩, by simp, by simp, by simp, by simp⟩, k1⟩
theorem entry_run (hN : Nc S) (f pc : Int) {sz : Nat} (hz : sz ≤ 1048576) {na : Option Addr} {k : Nat} : ∃ v m1, callw Try.prog TT S 11 [.int .i64 f, .int .i64 pc, .int .i64 (sz : Int), .slice na k k] m = some (v, m1) ∧
    (∃ ca cf, v = ent f pc sz k ca none na none ∧ Rs m1 ca sz (List.replicate sz (.int .u8 0)) 5 1 cf ∧ m.next ≤ cf) ∧ Keeps m m1 [] := by
  obtain ⟨oE, kE, nE⟩ := new_own (m := m) (cs := [.int .i64 0, .int .i64 0, .slice none 0 0, .slice none 0 0, .slice none 0 0, .slice none 0 0, .slice none 0 0]) (e := 41) rfl
  have hz' : (sz : Int) ≤ 9223372036854775807 := by omega
  have hz2 : sz ≤ 281474976710656 := by omega
  have hzz : zerosOf Try.prog 5 sz = some (List.replicate sz (.int .u8 0)) := zeros_one (by kernel_rfl : zOk Try.prog 5 1 (.int .u8 0) = true) rfl rfl (by omega)
  refine fn_w 9 [] k11 hN.entry rfl ?_
  simp [-Int.natCast_add, -BitVec.toNat_or, -BitVec.toNat_ofInt, -BitVec.toNat_and, lres_agg ld41, alloc_of zo41, make_of u35 ap5, build_of bo39, build_of bo41, store_of sz41, hz', hz2, hzz]
  generalize m.new _ _ = m1 at *
  generalize hq : m1.new _ _ = m2
  obtain ⟨o2, k2, n2⟩ := new_own hq
  have oE := oE.keep k2 (by simp)
  generalize hra : storeRow _ _ _ = ra
  obtain ⟨m3, rfl, o3, k3⟩ := store_own hra oE (by simp) (by simp [one_int, one_slice])
  simp [over] at o3
  have rl : loadRow m3 ⟨m.next, 0, none⟩ 7 = _ := o3.load 7 (by simp)
  simp only [window, List.drop_zero, List.take_succ_cons, List.take_zero] at rl
  simp [-Int.natCast_add, -BitVec.toNat_or, -BitVec.toNat_ofInt, -BitVec.toNat_and, lres_agg ld41, alloc_of zo41, make_of u35 ap5, build_of bo39, build_of bo41, store_of sz41, rl]
  refine ⟨⟨some ⟨m1.next, 0, none⟩, rfl, m1.next, ⟨by simp, Or.inr ⟨_, rfl, (o2.keep k3 (by simp; omega)).rdo⟩⟩, by omega⟩, (kE.trans k2).fresh k3 (by simp)⟩
abbrev StT : Ty := (Ty.pair (Ty.int .i64) (Ty.pair (Ty.int .i64) (Ty.pair (Ty.int .i64) (Ty.pair (Ty.int .i64) (Ty.pair (Ty.slice 3 (Ty.int .i64)) Ty.unit)))))
def stNeeds (d : StT.D) : List Int := d.2.2.2.2.1
theorem ints_rows {l : List Int} {css : List (List Value)} (hcl : css.length = l.length) (hce : ∀ (i : Nat) d c, l[i]? = some d → css[i]? = some c → At m (.int .i64) d c) : css.flatten = ic l := by
  induction css generalizing l with
  | nil => cases l with
    | nil => rfl
    | cons a l => simp at hcl
  | cons c css ih => cases l with
    | nil => simp at hcl
    | cons a l =>
      have h0 := hce 0 a c rfl rfl
      simp only [At] at h0
      subst h0
      have := ih (l := l) (by simpa using hcl) (fun i d c hd hc => hce (i + 1) d c (by simpa using hd) (by simpa using hc))
      simp only [List.flatten_cons, this, List.map_cons, List.cons_append, List.nil_append]
/-- the law's steps in the memory -/
theorem st_arg {l : List StT.D} {cs : List Value} (ha : At m (Ty.slice 31 StT) l cs) : ∃ ao, cs = [.slice ao l.length l.length] ∧ ∀ (m' : Mem), Keeps m m' [] → ∀ (i : Nat) (hi : i < l.length), ∃ b na nf, ao = some ⟨b, 0, none⟩ ∧ loadRow m' ⟨b, i * 5, none⟩ 1 = some [.int .i64 l[i].1] ∧ loadRow m' ⟨b, i * 5 + 1, none⟩ 1 = some [.int .i64 l[i].2.1] ∧ loadRow m' ⟨b, i * 5 + 2, none⟩ 1 = some [.int .i64 l[i].2.2.1] ∧ loadRow m' ⟨b, i * 5 + 3, none⟩ 1 = some [.int .i64 l[i].2.2.2.1] ∧
    loadRow m' ⟨b, i * 5 + 4, none⟩ 1 = some [.slice na (stNeeds l[i]).length (stNeeds l[i]).length] ∧ Rs m' na (stNeeds l[i]).length (ic (stNeeds l[i])) 3 1 nf ∧ loadRow m' ⟨b, i * 5, none⟩ 5 = some [.int .i64 l[i].1, .int .i64 l[i].2.1, .int .i64 l[i].2.2.1, .int .i64 l[i].2.2.2.1, .slice na (stNeeds l[i]).length (stNeeds l[i]).length] := by
  obtain ⟨ao, css, fam, rfl, hcl, hce, hrs⟩ := ha
  refine ⟨ao, rfl, fun m' k i hi => ?_⟩
  obtain ⟨b, rfl, o⟩ := (hrs.keep k (by simp)).rdo (by omega)
  obtain ⟨c, hc, hwin⟩ := At.elem (m := m) hcl hce hi
  obtain ⟨c1, c2, rfl, h1, c3, c4, rfl, h2, c5, c6, rfl, h3, c7, c8, rfl, h4, c9, c10, rfl, h5, h6⟩ := hc.keep k
  obtain ⟨na, css2, nf, h5e, h5l, h5c, h5r⟩ := h5
  simp only [At] at h1 h2 h3 h4 h6
  subst h1 h2 h3 h4 h6 h5e
  have hs : StT.size = 5 := rfl
  rw [hs] at hwin
  rw [ints_rows h5l h5c] at h5r
  have hfl : css.flatten.length = l.length * 5 := by have := hrs.1; rw [hs] at this; omega
  have at_ : ∀ (j : Nat) (v : Value), j < 5 → (window css.flatten (i * 5) 5)[j]? = some v → loadRow m' ⟨b, i * 5 + j, none⟩ 1 = some [v] := by
    intro j v hj hv
    refine o.load1 ?_
    simp only [window, List.getElem?_take, List.getElem?_drop, if_pos hj] at hv
    exact hv
  rw [hwin] at at_
  exact ⟨b, na, nf, rfl, at_ 0 _ (by omega) rfl, at_ 1 _ (by omega) rfl, at_ 2 _ (by omega) rfl, at_ 3 _ (by omega) rfl, at_ 4 _ (by omega) rfl, h5r, by rw [o.load 5 (by rw [hfl]; omega), hwin]; rfl⟩
end Go.Proofs.Ytljklfimdanmlaa.base

