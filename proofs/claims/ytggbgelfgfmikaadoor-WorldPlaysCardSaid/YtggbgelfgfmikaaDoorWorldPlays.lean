/-
  This text proves 'Rows.WorldPlaysCardSaid': the law 'WorldPlays' returns true at any texts, room, inputs and calls, in whatever memory and on every tape, and its input reads as it did.
  The condition is the card's own: the listed package-level variables hold what the program's text lays.
-/
import Derived.Test.YtggbgelfgfmikaaDoorCards
import Derived.Test.YtggbgelfgfmikaaDoorTie
import Derived.Deep.DeepHandedRow
import Derived.Lib.LaidTab
import Derived.Test.YtggbgelfgfmikaaDoorWpG
set_option maxRecDepth 100000
set_option linter.unusedSimpArgs false
set_option linter.unusedVariables false
namespace Go.Proofs.YtggbgelfgfmikaaDoor.worldPlays
open Go.Sh gen base
variable {S : Sums} {m : Mem}
abbrev StT : Ty := (Ty.pair (Ty.int .i64) (Ty.pair (Ty.int .i64) (Ty.pair (Ty.int .i64) (Ty.pair (Ty.int .u64) Ty.unit))))
def stOf (d : StT.D) : Sx := (d.1, d.2.1, d.2.2.1, d.2.2.2.1)
theorem st_rows {l : List StT.D} {css : List (List Value)} (hcl : css.length = l.length) (hce : ∀ (i : Nat) d c, l[i]? = some d → css[i]? = some c → At m StT d c) : css.flatten = sxv (l.map stOf) := by
  induction css generalizing l with
  | nil => cases l with
    | nil => rfl
    | cons a l => simp at hcl
  | cons c css ih => cases l with
    | nil => simp at hcl
    | cons a l =>
      have h0 := hce 0 a c rfl rfl
      obtain ⟨c1, d1, rfl, h1, c2, d2, rfl, h2, c3, d3, rfl, h3, c4, d4, rfl, h4, h5⟩ := h0
      simp only [At] at h1 h2 h3 h4 h5
      subst h1 h2 h3 h4 h5
      have := ih (l := l) (by simpa using hcl) (fun i d c hd hc => hce (i + 1) d c (by simpa using hd) (by simpa using hc))
      simp only [List.flatten_cons, this, List.map_cons, sxv, List.flatMap_cons, stOf, List.append_nil, List.cons_append, List.nil_append]
theorem st_arg {l : List StT.D} {cs : List Value} (ha : At m (Ty.slice 58 StT) l cs) : ∃ ao fam, cs = [.slice ao l.length l.length] ∧ Rs m ao (l.map stOf).length (sxv (l.map stOf)) 58 4 fam := by
  obtain ⟨ao, css, fam, rfl, hcl, hce, hrs⟩ := ha
  refine ⟨ao, fam, rfl, ?_⟩
  rw [st_rows hcl hce] at hrs
  rw [List.length_map]
  exact hrs
theorem st_ok {l : List StT.D} (h : (Ty.slice 58 StT).wf l) : ∀ x ∈ l.map stOf, sxOk x := fun x hx => by
  obtain ⟨d, hd, rfl⟩ := List.mem_map.1 hx
  obtain ⟨hw1, hw2, hw3, hw4, _⟩ := h.2 d hd
  exact ⟨i64_le hw2, i64_le hw3, u64_le hw4⟩
theorem rs_pick {ao : Option Addr} {n : Nat} {cells : List Value} {e z fam : Nat} (h : Rs m ao n cells e z fam) : ∃ fam', Rs m ao n cells e z fam' ∧ (fam' = 0 ∨ fam' = fam ∧ ao ≠ none ∧ fam < m.next) := by
  rcases h.2 with h1 | ⟨b, h1, h2⟩
  · exact ⟨0, ⟨h.1, Or.inl h1⟩, Or.inl rfl⟩
  · exact ⟨fam, h, Or.inr ⟨rfl, by rw [h1]; simp, h2.flt⟩⟩
theorem rs_low {ao : Option Addr} {n : Nat} {cells : List Value} {e z fam : Nat} (h : Rs m ao n cells e z fam) (h0 : 0 < m.next) : ∃ fam', Rs m ao n cells e z fam' ∧ fam' < m.next := by
  rcases h.2 with h1 | ⟨b, h1, h2⟩
  · exact ⟨0, ⟨h.1, Or.inl h1⟩, h0⟩
  · exact ⟨fam, h, h2.flt⟩
section
variable {P : Program} {ρ : Operand → Value} {d : Option Tmp} {ty : TypeId} {pos : String} {af : Array Edge} {g : Option (Nat × Bool)}
/-- two nil pointers are the same -/
theorem nil_neq {t e : TypeId} (hu : P.underlying t = some (.pointer e)) (x y : Operand) {yt : TypeId} (hx : ρ x = .pointer none) (hy : ρ y = .pointer none) :
    binF P ρ ⟨d, .binOp .neq t x y yt, ty, pos, af, g⟩ .neq t x y m = some (.bool false, m) := by
  have heq : prun P (Op.equal t (.pointer none) (.pointer none)) = some true := by
    show prun P (Op.equalIn 10000 t (.pointer none) (.pointer none)) = some true
    unfold Op.equalIn
    rw [prunB, prun_under hu]
    rfl
  have hgd : prun P (eqGuard .neq t x y (.pointer none) (.pointer none)) = some () := by
    rfl
  have hc : closedOp P ρ ⟨d, .binOp .neq t x y yt, ty, pos, af, g⟩ = some (.bool false) := by
    refine closed_of (by simp [Op.operands, hx, hy, closedV]) ?_ (by intro u hu; cases hu; rfl)
    have ee : execOp ρ ⟨d, .binOp .neq t x y yt, ty, pos, af, g⟩ = (Next.value <$> (do eqGuard .neq t x y (ρ x) (ρ y); binOp .neq t (ρ x) (ρ y))) := rfl
    rw [ee, prunM, hx, hy, prunB, hgd]
    simp only [Option.bind_some]
    have : prun P (binOp .neq t (.pointer none) (.pointer none)) = some (.bool !true) := by
      show prun P (Op.equal t (.pointer none) (.pointer none) >>= fun r => pure (Value.bool !r)) = _
      rw [prunB, heq]; rfl
    rw [this]; rfl
  show s_binOp0 P ρ _ .neq t x y m = _
  simp only [s_binOp0, hu, hx, hy, hc]
  try rfl
end
theorem n54 (m : Mem) (ρ : Operand → Value) (d : Option Tmp) (ty : TypeId) (pos : String) (af : Array Edge) (g : Option (Nat × Bool)) (x y : Operand) (yt : TypeId) (hx : ρ x = .pointer none) (hy : ρ y = .pointer none) :
    binF Tryd.prog ρ ⟨d, .binOp .neq 54 x y yt, ty, pos, af, g⟩ .neq 54 x y m = some (.bool false, m) := nil_neq u54 x y hx hy
theorem n23 (m : Mem) (ρ : Operand → Value) (d : Option Tmp) (ty : TypeId) (pos : String) (af : Array Edge) (g : Option (Nat × Bool)) (x y : Operand) (yt : TypeId) (hx : ρ x = .pointer none) (hy : ρ y = .pointer none) :
    binF Tryd.prog ρ ⟨d, .binOp .neq 23 x y yt, ty, pos, af, g⟩ .neq 23 x y m = some (.bool false, m) := nil_neq u23 x y hx hy
theorem strC_flat (l : List (List UInt8)) : (l.flatMap fun s => [Value.string ⟨s.toArray⟩]) = strC l := by
  induction l with
  | nil => rfl
  | cons a l ih => rw [List.flatMap_cons, ih]; rfl
theorem int64s_flat (l : List Int) : (l.flatMap fun n : Int => [Value.int .i64 n]) = int64s l := by
  induction l with
  | nil => rfl
  | cons a l ih => rw [List.flatMap_cons, ih]; rfl
theorem textV_nn (ws : List Int) (room : Int) (l : List UInt8) : 0 ≤ textV ws room l := by
  unfold textV
  split
  · omega
  · split <;> omega
theorem stT_nn (room : Int) : ∀ (n : Nat) (ts : List (List UInt8)), ts.length = n → ∀ x ∈ (stT room ts).2, 0 ≤ x
  | 0, ts, h => by
    have := List.length_eq_zero_iff.1 h
    subst this
    simp [stT]
  | n + 1, ts, h => by
    have hne : ts ≠ [] := fun e => by rw [e] at h; simp at h
    have ih := stT_nn room n ts.dropLast (by simp [h])
    have e := List.dropLast_concat_getLast hne
    rw [← e, stT_snoc]
    intro x hx
    simp only [List.mem_append, List.mem_singleton] at hx
    rcases hx with hx | rfl
    · exact ih x hx
    · exact textV_nn _ _ _
theorem fam_ok {K : Kx} {n5 g : Nat} (b : (n5 ≤ K.y ∧ K.y < K.N0) ∧ (n5 ≤ K.hb2 ∧ K.hb2 < K.N0) ∧ (n5 ≤ K.wf2 ∧ K.wf2 < K.N0)) (h1 : g ≠ K.x) (h2 : g ≠ K.hb) (h3 : g ≠ K.wf) (hlt : g < n5) : g < K.N0 ∧ g ∉ K.F := by
  simp only [Kx.F, List.mem_cons, List.not_mem_nil, or_false, not_or]
  refine ⟨by omega, h1, h2, h3, ?_, ?_, ?_⟩
  all_goals clear h1 h2 h3
  all_goals omega
theorem fam_lo {K : Kx} {n3 n4 n5 g : Nat} (h45 : n4 ≤ n5) (a : (n3 ≤ K.x ∧ K.x < n4) ∧ (n3 ≤ K.hb ∧ K.hb < n4) ∧ (n3 ≤ K.wf ∧ K.wf < n4)) (b : (n5 ≤ K.y ∧ K.y < K.N0) ∧ (n5 ≤ K.hb2 ∧ K.hb2 < K.N0) ∧ (n5 ≤ K.wf2 ∧ K.wf2 < K.N0)) (hlt : g < n3) : g < K.N0 ∧ g ∉ K.F :=
  fam_ok b (by omega) (by omega) (by omega) (by omega)
theorem kok_of {K : Kx} {n3 n4 n5 : Nat} (h0 : 0 < n3) (h45 : n4 ≤ n5) (a : (n3 ≤ K.x ∧ K.x < n4) ∧ (n3 ≤ K.hb ∧ K.hb < n4) ∧ (n3 ≤ K.wf ∧ K.wf < n4)) (b : (n5 ≤ K.y ∧ K.y < K.N0) ∧ (n5 ≤ K.hb2 ∧ K.hb2 < K.N0) ∧ (n5 ≤ K.wf2 ∧ K.wf2 < K.N0))
    (c1 : K.tf ≠ K.x ∧ K.tf ≠ K.hb ∧ K.tf ≠ K.wf ∧ K.tf < n4) (c2 : K.tf2 < n3) (c3 : K.lf ≠ K.x ∧ K.lf ≠ K.hb ∧ K.lf ≠ K.wf ∧ K.lf < n4) (c4 : K.lf2 ≠ K.x ∧ K.lf2 ≠ K.hb ∧ K.lf2 ≠ K.wf ∧ K.lf2 ≠ K.y ∧ K.lf2 ≠ K.hb2 ∧ K.lf2 ≠ K.wf2 ∧ K.lf2 < K.N0) (c5 : K.jf ≠ K.x ∧ K.jf ≠ K.hb ∧ K.jf ≠ K.wf ∧ K.jf < n4) (c6 : K.jf2 ≠ K.x ∧ K.jf2 ≠ K.hb ∧ K.jf2 ≠ K.wf ∧ K.jf2 < n5)
    (hr : 1 ≤ K.room ∧ K.room ≤ 65536) (hl : K.lits.length ≤ 1000) (hi : K.ins.length ≤ 1000) : Kok K := by
  have hnd : (K.x ≠ K.y ∧ K.x ≠ K.hb2 ∧ K.x ≠ K.wf2) ∧ (K.hb ≠ K.y ∧ K.hb ≠ K.hb2 ∧ K.hb ≠ K.wf2) ∧ (K.wf ≠ K.y ∧ K.wf ≠ K.hb2 ∧ K.wf ≠ K.wf2) := by
    clear c1 c2 c3 c4 c5 c6
    refine ⟨⟨?_, ?_, ?_⟩, ⟨?_, ?_, ?_⟩, ⟨?_, ?_, ?_⟩⟩
    all_goals omega
  have hlt : ∀ g ∈ K.F, g < K.N0 := by
    clear c1 c2 c3 c4 c5 c6
    intro g hg
    simp only [Kx.F, List.mem_cons, List.not_mem_nil, or_false] at hg
    rcases hg with rfl | rfl | rfl | rfl | rfl | rfl
    all_goals omega
  refine ⟨hnd, hlt, ?_, hr, hl, hi⟩
  intro g hg
  simp only [Kx.G, List.mem_cons, List.not_mem_nil, or_false] at hg
  rcases hg with h | h | h | h | h | h | h
  · rw [h]; exact fam_ok b c1.1 c1.2.1 c1.2.2.1 (Nat.lt_of_lt_of_le c1.2.2.2 h45)
  · rw [h]; exact fam_lo h45 a b c2
  · rw [h]; exact fam_ok b c3.1 c3.2.1 c3.2.2.1 (Nat.lt_of_lt_of_le c3.2.2.2 h45)
  · rw [h]
    refine ⟨c4.2.2.2.2.2.2, ?_⟩
    simp only [Kx.F, List.mem_cons, List.not_mem_nil, or_false, not_or]
    exact ⟨c4.1, c4.2.1, c4.2.2.1, c4.2.2.2.1, c4.2.2.2.2.1, c4.2.2.2.2.2.1⟩
  · rw [h]; exact fam_ok b c5.1 c5.2.1 c5.2.2.1 (Nat.lt_of_lt_of_le c5.2.2.2 h45)
  · rw [h]; exact fam_ok b c6.1 c6.2.1 c6.2.2.1 c6.2.2.2
  · rw [h]; exact fam_lo h45 a b h0
set_option maxHeartbeats 8000000 in
theorem law_run (hN : Nw S) (hP : Pw S) (hR : Rw S) (hS : S 7 = []) (hPk : S 11 = []) (hIn : S 26 = []) (hWd : S 36 = []) (hSt : S 38 = [])
    {tx : List (List UInt8)} {to : Option Addr} {tf : Nat} (ht : Rs m to tx.length (tx.flatMap fun l : List UInt8 => [Value.string ⟨l.toArray⟩]) 9 1 tf) (htf : tf < m.next) (htz : tx.length ≤ 9223372036854775807) (htw : ∀ l ∈ tx, l.length ≤ 9223372036854775807)
    {x1 : Int} (hx1 : (Lit.int .i64 x1).wf = true)
    {is : List Int} {io : Option Addr} {jf : Nat} (hi : Rs m io is.length (is.flatMap fun n : Int => [Value.int .i64 n]) 2 1 jf) (hif : jf < m.next) (hiz : is.length ≤ 9223372036854775807) (hiw : ∀ n ∈ is, (Lit.int .i64 n).wf = true)
    {l : List StT.D} {cs : List Value} (hl : (Ty.slice 58 StT).wf l) (ha : At m (Ty.slice 58 StT) l cs)
    {e : TypeId} (hg : Rdo m 0 powC e 0) :
    ∃ v m', callw Tryd.prog TT S 7 [.slice to tx.length tx.length, .int .i64 x1, .slice io is.length is.length, tyVal (Ty.slice 58 StT) cs] m = some (v, m') ∧ v = .bool true := by
  obtain ⟨ao, fam, rfl, hrs⟩ := st_arg ha
  have hok := st_ok hl
  have hll : l.length = (l.map stOf).length := by simp
  show ∃ v m', callw Tryd.prog TT S 7 [.slice to tx.length tx.length, .int .i64 x1, .slice io is.length is.length, .slice ao l.length l.length] m = some (v, m') ∧ v = .bool true
  rw [hll]
  generalize l.map stOf = ls at *
  rw [strC_flat] at ht
  rw [int64s_flat] at hi
  clear hll ha hl
  have pk1 := fun m' => pick_run (m := m') hPk x1 400 (by omega) (by omega)
  obtain ⟨rm, hrm⟩ : ∃ rm, 1 + x1 % 400 = rm := ⟨_, rfl⟩
  have hrm2 : 1 ≤ rm ∧ rm ≤ 400 := by omega
  have wr : IntKind.i64.wrap (1 + x1 % 400) = rm := by rw [wrap_i64 (by omega) (by omega)]; exact hrm
  refine fn_w 139 [183, 199, 207, 214, 240, 264, 264, 293, 147, 354] k7 hS rfl ?_
  simp [-Int.natCast_add, -BitVec.toNat_or, -BitVec.toNat_ofInt, -BitVec.toNat_and, len_slice u28, index_slice u28 sz9, load_of ld9, len_string u9, slice_str u9, buildSlice_of u28 bs9 rfl, append_s u28 sz9, alloc_of zo31, store_of sz31, load_agg ld31, bin_ptr u54, bin_bool u4 .neq (Or.inr rfl), bin_ptr u23, buildSlice_of u56 bs22 rfl, append_s u56 sz22, len_slice u52, index_slice u52 sz58, load_agg ld58, alloc_of zo58, store_of sz58, fieldAddr_of fa58_1, load_of ld3, len_slice u56, index_slice u56 sz22, load_of ld22, fieldAddr_of fa58_2, fieldAddr_of fa58_0, fieldAddr_of fa58_3, bin_bool u4 .eql (Or.inl rfl), fieldAddr_of fa61_1, load_of ld59, bin_str u9 .lss (Or.inr (Or.inl rfl)), bin_ptr u44, fieldAddr_of fa67_1, load_of ld56, fieldAddr_of fa61_5, load_of ld28, fieldAddr_of fa61_4, pk1, wr]
  have hm0 : 0 < m.next := by omega
  have htlt : ∀ q, tx ≠ [] → q = tf → q < m.next := fun q _ h => by omega
  refine wsem_loop 139 [183, 199, 207, 214, 240, 264, 264, 293, 147, 354] (fun d E mB => ∃ (i : Nat) (so : Option Addr) (sf : Nat), 6 - i = d ∧ i ≤ 6 ∧ i ≤ tx.length ∧ Sl mB so i (strC ((tx.take i).map (·.take 30))) 9 1 sf ∧ (so ≠ none → m.next ≤ sf) ∧ Keeps m mB [] ∧
    E = [(0, .slice to tx.length tx.length), (1, .int .i64 rm), (2, .slice io is.length is.length), (3, .slice ao ls.length ls.length), (9, .slice so i i), (10, .int .i64 i)]) _ ⟨_, ⟨0, none, 0, rfl, by omega, by omega, Sl.nil _ _ _ _, by simp, Keeps.refl _ _, rfl⟩, ⟨by rfl, by rfl, by rfl, by rfl, by rfl, by rfl, trivial⟩⟩ ?_
  rintro d E mB ih ⟨i, so, sf, hd, hi6, hil, sS, hsf, kB, rfl⟩
  have i4 : (i : Int) ≤ 9223372036854775807 := by omega
  by_cases hin : i < tx.length ∧ i < 6
  · obtain ⟨h1, h2⟩ := hin
    have i1 : (i : Int) < tx.length := by omega
    have i2 : (i : Int) < 6 := by omega
    have wi : IntKind.i64.wrap ((i : Int) + 1) = ((i + 1 : Nat) : Int) := by rw [wrap_i64 (by omega) (by omega)]; omega
    obtain ⟨tb, rfl, otx⟩ := ht.rdo (by omega)
    have otB := otx.keep kB (by simp)
    have hxw := htw tx[i] (List.getElem_mem h1)
    have htk : (tx.take (i + 1)).map (·.take 30) = (tx.take i).map (·.take 30) ++ [(tx[i]).take 30] := by rw [List.take_succ_eq_append_getElem h1, List.map_append]; rfl
    have hcell : (strC tx)[i]? = some (.string ⟨(tx[i]).toArray⟩) := by simp [strC, h1]
    generalize tx[i] = a0 at *
    have lt0 := otB.load1 hcell
    obtain ⟨x, hx⟩ : ∃ x, a0.take 30 = x := ⟨_, rfl⟩
    obtain ⟨na, hna, hna2⟩ : ∃ n : Nat, (if (30 : Int) < (a0.length : Int) then (30 : Int) else (a0.length : Int)) = n ∧ n ≤ a0.length ∧ n ≤ 30 ∧ a0.take n = x := by
      by_cases h : (30 : Int) < (a0.length : Int)
      · exact ⟨30, by rw [if_pos h]; rfl, by omega, by omega, hx⟩
      · exact ⟨a0.length, by rw [if_neg h], by omega, by omega, by rw [← hx, List.take_length, List.take_of_length_le (by omega)]⟩
    have i5 : (na : Int) ≤ 9223372036854775807 := by omega
    have ltn := fun cs => (otB.keep (keeps_new mB cs 9 []) (by simp)).load1 hcell
    simp [-Int.natCast_add, -BitVec.toNat_or, -BitVec.toNat_ofInt, -BitVec.toNat_and, len_slice u28, index_slice u28 sz9, load_of ld9, len_string u9, slice_str u9, buildSlice_of u28 bs9 rfl, append_s u28 sz9, alloc_of zo31, store_of sz31, load_agg ld31, bin_ptr u54, bin_bool u4 .neq (Or.inr rfl), bin_ptr u23, buildSlice_of u56 bs22 rfl, append_s u56 sz22, len_slice u52, index_slice u52 sz58, load_agg ld58, alloc_of zo58, store_of sz58, fieldAddr_of fa58_1, load_of ld3, len_slice u56, index_slice u56 sz22, load_of ld22, fieldAddr_of fa58_2, fieldAddr_of fa58_0, fieldAddr_of fa58_3, bin_bool u4 .eql (Or.inl rfl), fieldAddr_of fa61_1, load_of ld59, bin_str u9 .lss (Or.inr (Or.inl rfl)), bin_ptr u44, fieldAddr_of fa67_1, load_of ld56, fieldAddr_of fa61_5, load_of ld28, fieldAddr_of fa61_4, h1, h2, i1, i2, i4, lt0, hna, hna2.1, hna2.2.2, i5, ltn]
    generalize hra : sappend _ _ _ _ _ _ = ra
    obtain ⟨m3, nb, nf2, rfl, oN, k3, hnf, _⟩ := app_slz hra u28 ap9 sS (by omega) (by simp) (by simp [one_str]) (by omega) (by omega)
    have K3 : Keeps m m3 [] := keeps_app kB k3 (by
      intro g hg
      split
      · simp
      · rename_i hn
        have := hsf hn
        simp; omega)
    have ltq := (otx.keep K3 (by simp)).load1 hcell
    simp [-Int.natCast_add, -BitVec.toNat_or, -BitVec.toNat_ofInt, -BitVec.toNat_and, len_slice u28, index_slice u28 sz9, load_of ld9, len_string u9, slice_str u9, buildSlice_of u28 bs9 rfl, append_s u28 sz9, alloc_of zo31, store_of sz31, load_agg ld31, bin_ptr u54, bin_bool u4 .neq (Or.inr rfl), bin_ptr u23, buildSlice_of u56 bs22 rfl, append_s u56 sz22, len_slice u52, index_slice u52 sz58, load_agg ld58, alloc_of zo58, store_of sz58, fieldAddr_of fa58_1, load_of ld3, len_slice u56, index_slice u56 sz22, load_of ld22, fieldAddr_of fa58_2, fieldAddr_of fa58_0, fieldAddr_of fa58_3, bin_bool u4 .eql (Or.inl rfl), fieldAddr_of fa61_1, load_of ld59, bin_str u9 .lss (Or.inr (Or.inl rfl)), bin_ptr u44, fieldAddr_of fa67_1, load_of ld56, fieldAddr_of fa61_5, load_of ld28, fieldAddr_of fa61_4, hna, hna2.1, hna2.2.2, i5, lt0, ltn, ltq, i4, h1, wi]
    have sN : Sl m3 (some ⟨nb, 0, none⟩) (i + 1) (strC ((tx.take (i + 1)).map (·.take 30))) 9 1 nf2 := by
      rw [htk, hx]
      exact Sl.of (by simpa [strC] using oN) (by simp [strC]; omega)
    have fN : m.next ≤ nf2 := by
      rcases hnf with ⟨h, h2⟩ | h
      · rw [h2]; exact hsf h
      · have := kB.1; omega
    exact ih _ _ _ _ ⟨i + 1, some ⟨nb, 0, none⟩, nf2, rfl, by omega, by omega, sN, fun _ => fN, K3, rfl⟩ (by omega) ⟨by rfl, by rfl, by rfl, by rfl, by rfl, by rfl, trivial⟩
  · obtain ⟨ts, hts⟩ : ∃ ts, (tx.take i).map (·.take 30) = ts := ⟨_, rfl⟩
    have htl : ts.length = i := by rw [← hts]; simp; omega
    rw [hts] at sS
    apply cut1_ (fun mZ : Mem => Sl mZ so i (strC ts) 9 1 sf ∧ Keeps m mZ [])
    case main =>
      by_cases h1 : i < tx.length
      · have h2 : ¬ (i : Int) < 6 := by omega
        have i1 : (i : Int) < tx.length := by omega
        intro meth
        simp [-Int.natCast_add, -w7_7, -BitVec.toNat_or, -BitVec.toNat_ofInt, -BitVec.toNat_and, len_slice u28, index_slice u28 sz9, load_of ld9, len_string u9, slice_str u9, buildSlice_of u28 bs9 rfl, append_s u28 sz9, alloc_of zo31, store_of sz31, load_agg ld31, bin_ptr u54, bin_bool u4 .neq (Or.inr rfl), bin_ptr u23, buildSlice_of u56 bs22 rfl, append_s u56 sz22, len_slice u52, index_slice u52 sz58, load_agg ld58, alloc_of zo58, store_of sz58, fieldAddr_of fa58_1, load_of ld3, len_slice u56, index_slice u56 sz22, load_of ld22, fieldAddr_of fa58_2, fieldAddr_of fa58_0, fieldAddr_of fa58_3, bin_bool u4 .eql (Or.inl rfl), fieldAddr_of fa61_1, load_of ld59, bin_str u9 .lss (Or.inr (Or.inl rfl)), bin_ptr u44, fieldAddr_of fa67_1, load_of ld56, fieldAddr_of fa61_5, load_of ld28, fieldAddr_of fa61_4, h1, h2, i1]
        obtain ⟨mX, hX⟩ : ∃ mX, mB = mX := ⟨_, rfl⟩
        rw [hX] at sS kB ⊢
        exact w_sub (E := [(1, .int .i64 rm), (2, .slice io is.length is.length), (3, .slice ao ls.length ls.length), (9, .slice so i i)]) (meth mX ⟨sS, kB⟩) ⟨by rfl, by rfl, by rfl, by rfl, trivial⟩
      · have i1 : ¬ (i : Int) < tx.length := by omega
        intro meth
        simp [-Int.natCast_add, -w7_7, -BitVec.toNat_or, -BitVec.toNat_ofInt, -BitVec.toNat_and, len_slice u28, index_slice u28 sz9, load_of ld9, len_string u9, slice_str u9, buildSlice_of u28 bs9 rfl, append_s u28 sz9, alloc_of zo31, store_of sz31, load_agg ld31, bin_ptr u54, bin_bool u4 .neq (Or.inr rfl), bin_ptr u23, buildSlice_of u56 bs22 rfl, append_s u56 sz22, len_slice u52, index_slice u52 sz58, load_agg ld58, alloc_of zo58, store_of sz58, fieldAddr_of fa58_1, load_of ld3, len_slice u56, index_slice u56 sz22, load_of ld22, fieldAddr_of fa58_2, fieldAddr_of fa58_0, fieldAddr_of fa58_3, bin_bool u4 .eql (Or.inl rfl), fieldAddr_of fa61_1, load_of ld59, bin_str u9 .lss (Or.inr (Or.inl rfl)), bin_ptr u44, fieldAddr_of fa67_1, load_of ld56, fieldAddr_of fa61_5, load_of ld28, fieldAddr_of fa61_4, h1, i1]
        obtain ⟨mX, hX⟩ : ∃ mX, mB = mX := ⟨_, rfl⟩
        rw [hX] at sS kB ⊢
        exact w_sub (E := [(1, .int .i64 rm), (2, .slice io is.length is.length), (3, .slice ao ls.length ls.length), (9, .slice so i i)]) (meth mX ⟨sS, kB⟩) ⟨by rfl, by rfl, by rfl, by rfl, trivial⟩
    clear ih sS kB
    rintro mZ ⟨sS, kZ⟩
    clear hin hts hsf
    subst htl
    obtain ⟨_, m1, c1, tb, fb, f, rfl, oT, oF, hf, k1⟩ := prog_run (m := mZ) hN.prog hN.base (to := so) (tn := ts.length)
    obtain ⟨oPb, kPb, nPb⟩ := new_own (m := m1) (cs := [.slice none 0 0, .slice none 0 0, .int .i64 0, .slice none 0 0, .slice none 0 0]) (e := 31) rfl
    obtain ⟨pb, hpb⟩ : ∃ pb, m1.next = pb := ⟨_, rfl⟩
    simp [-Int.natCast_add, -BitVec.toNat_or, -BitVec.toNat_ofInt, -BitVec.toNat_and, len_slice u28, index_slice u28 sz9, load_of ld9, len_string u9, slice_str u9, buildSlice_of u28 bs9 rfl, append_s u28 sz9, alloc_of zo31, store_of sz31, load_agg ld31, bin_ptr u54, bin_bool u4 .neq (Or.inr rfl), bin_ptr u23, buildSlice_of u56 bs22 rfl, append_s u56 sz22, len_slice u52, index_slice u52 sz58, load_agg ld58, alloc_of zo58, store_of sz58, fieldAddr_of fa58_1, load_of ld3, len_slice u56, index_slice u56 sz22, load_of ld22, fieldAddr_of fa58_2, fieldAddr_of fa58_0, fieldAddr_of fa58_3, bin_bool u4 .eql (Or.inl rfl), fieldAddr_of fa61_1, load_of ld59, bin_str u9 .lss (Or.inr (Or.inl rfl)), bin_ptr u44, fieldAddr_of fa67_1, load_of ld56, fieldAddr_of fa61_5, load_of ld28, fieldAddr_of fa61_4, c1]
    generalize hst : storeRow _ _ _ = rst
    obtain ⟨m2, rfl, oP2, k2⟩ := store_own hst oPb (by simp) (by simp [one_int, one_slice])
    simp [over] at oP2
    rw [hpb] at oP2 k2 nPb ⊢
    have k12 : Keeps m1 m2 [] := kPb.fresh k2 (by simp; omega)
    have kZ2 : Keeps mZ m2 [] := k1.trans k12
    have oT2 := (oT.keep k12 (by simp)).rdo
    have oF2 := (oF.keep k12 (by simp)).rdo
    have sS2 := (sS.rs.keep kZ2 (by simp))
    have hi2 := ((hi.keep kZ (by simp)).keep kZ2 (by simp))
    have lp2 := oP2.load (off := 0) 5 (by simp)
    simp [window] at lp2
    obtain ⟨v3, m3, c3, hv3, k3⟩ := inputs_run (m := m2) hIn hi2
    obtain ⟨ja, ja2, rfl, sI3, hj3⟩ := hv3
    obtain ⟨is4, his4⟩ : ∃ is4, is.take 40 = is4 := ⟨_, rfl⟩
    have hisl : is4.length ≤ 40 := by rw [← his4]; simp; omega
    rw [his4] at c3 sI3
    have lp3 := (oP2.keep k3 (by simp)).load (off := 0) 5 (by simp)
    simp [window] at lp3
    obtain ⟨v4, m4, c4, hv4, k4⟩ := pnew_run (m := m3) hP hN.new (oT2.keep k3 (by simp)) (oF2.keep k3 (by simp)) (sS2.keep k3 (by simp)) sI3.rs (room := rm) (by omega) (by omega) (by omega)
    have lp4 := ((oP2.keep k3 (by simp)).keep k4 (by simp)).load (off := 0) 5 (by simp)
    simp [window] at lp4
    obtain ⟨v5, m5, c5, hv5, k5⟩ := inputs_run (m := m4) hIn ((hi2.keep k3 (by simp)).keep k4 (by simp))
    obtain ⟨jb, jb2, rfl, sI5, hj5⟩ := hv5
    rw [his4] at c5 sI5
    have k25 := (k3.trans k4).trans k5
    have lp5 := (oP2.keep k25 (by simp)).load (off := 0) 5 (by simp)
    simp [window] at lp5
    obtain ⟨v6, m6, c6, hv6, k6⟩ := rnew_run (m := m5) hR (tb := tb) (ts := ts) (ins := is4) (jo0 := jb) (sS2.keep k25 (by simp)) (room := rm) (by omega) (by omega)
    have lp6 := ((oP2.keep k25 (by simp)).keep k6 (by simp)).load (off := 0) 5 (by simp)
    simp [window] at lp6
    have kZ6 : Keeps mZ m6 [] := (kZ2.trans k25).trans k6
    obtain ⟨_, m7, c7, rfl, k7⟩ := known_run (m := m6) hN ((hg.keep kZ (by simp)).keep kZ6 (by simp))
    by_cases hA : ¬ allT rm ts
    · have e4 : v4 = .tuple #[.pointer none, .bool false] := by
        rcases hv4 with ⟨_, h⟩ | ⟨h, _⟩
        · exact h
        · exact absurd h hA
      have e6 : v6 = .pointer none := by
        rcases hv6 with ⟨_, h⟩ | ⟨h, _⟩
        · exact h
        · exact absurd h hA
      subst e4
      subst e6
      simp [-Int.natCast_add, -BitVec.toNat_or, -BitVec.toNat_ofInt, -BitVec.toNat_and, len_slice u28, index_slice u28 sz9, load_of ld9, len_string u9, slice_str u9, buildSlice_of u28 bs9 rfl, append_s u28 sz9, alloc_of zo31, store_of sz31, load_agg ld31, bin_ptr u54, bin_bool u4 .neq (Or.inr rfl), bin_ptr u23, buildSlice_of u56 bs22 rfl, append_s u56 sz22, len_slice u52, index_slice u52 sz58, load_agg ld58, alloc_of zo58, store_of sz58, fieldAddr_of fa58_1, load_of ld3, len_slice u56, index_slice u56 sz22, load_of ld22, fieldAddr_of fa58_2, fieldAddr_of fa58_0, fieldAddr_of fa58_3, bin_bool u4 .eql (Or.inl rfl), fieldAddr_of fa61_1, load_of ld59, bin_str u9 .lss (Or.inr (Or.inl rfl)), bin_ptr u44, fieldAddr_of fa67_1, load_of ld56, fieldAddr_of fa61_5, load_of ld28, fieldAddr_of fa61_4, lp2, lp3, lp4, lp5, lp6, c3, c4, c5, c6, c7]
      rw [n54 _ _ _ _ _ _ _ _ _ _ rfl rfl]
      simp [-Int.natCast_add, -BitVec.toNat_or, -BitVec.toNat_ofInt, -BitVec.toNat_and, len_slice u28, index_slice u28 sz9, load_of ld9, len_string u9, slice_str u9, buildSlice_of u28 bs9 rfl, append_s u28 sz9, alloc_of zo31, store_of sz31, load_agg ld31, bin_ptr u54, bin_bool u4 .neq (Or.inr rfl), bin_ptr u23, buildSlice_of u56 bs22 rfl, append_s u56 sz22, len_slice u52, index_slice u52 sz58, load_agg ld58, alloc_of zo58, store_of sz58, fieldAddr_of fa58_1, load_of ld3, len_slice u56, index_slice u56 sz22, load_of ld22, fieldAddr_of fa58_2, fieldAddr_of fa58_0, fieldAddr_of fa58_3, bin_bool u4 .eql (Or.inl rfl), fieldAddr_of fa61_1, load_of ld59, bin_str u9 .lss (Or.inr (Or.inl rfl)), bin_ptr u44, fieldAddr_of fa67_1, load_of ld56, fieldAddr_of fa61_5, load_of ld28, fieldAddr_of fa61_4]
      rw [n23 _ _ _ _ _ _ _ _ _ _ rfl rfl]
      simp [-Int.natCast_add, -BitVec.toNat_or, -BitVec.toNat_ofInt, -BitVec.toNat_and, len_slice u28, index_slice u28 sz9, load_of ld9, len_string u9, slice_str u9, buildSlice_of u28 bs9 rfl, append_s u28 sz9, alloc_of zo31, store_of sz31, load_agg ld31, bin_ptr u54, bin_bool u4 .neq (Or.inr rfl), bin_ptr u23, buildSlice_of u56 bs22 rfl, append_s u56 sz22, len_slice u52, index_slice u52 sz58, load_agg ld58, alloc_of zo58, store_of sz58, fieldAddr_of fa58_1, load_of ld3, len_slice u56, index_slice u56 sz22, load_of ld22, fieldAddr_of fa58_2, fieldAddr_of fa58_0, fieldAddr_of fa58_3, bin_bool u4 .eql (Or.inl rfl), fieldAddr_of fa61_1, load_of ld59, bin_str u9 .lss (Or.inr (Or.inl rfl)), bin_ptr u44, fieldAddr_of fa67_1, load_of ld56, fieldAddr_of fa61_5, load_of ld28, fieldAddr_of fa61_4]
    replace hA : allT rm ts := Classical.not_not.1 hA
    replace hv4 := hv4.resolve_left (fun h => h.1 hA)
    replace hv6 := hv6.resolve_left (fun h => h.1 hA)
    replace hv4 := hv4.2
    replace hv6 := hv6.2
    obtain ⟨xb, hb, wf, wb, lo, lf, tb2, tf2, tcs, ib, jf4, rfl, P4, T4, L4, I4, g1, g2, g3, g4, g5, g6⟩ := hv4
    obtain ⟨yb, hb2, wf2, vb, lo2, lf2, rfl, R6, L6, e1, e2, e3, e4⟩ := hv6
    simp [-Int.natCast_add, -BitVec.toNat_or, -BitVec.toNat_ofInt, -BitVec.toNat_and, len_slice u28, index_slice u28 sz9, load_of ld9, len_string u9, slice_str u9, buildSlice_of u28 bs9 rfl, append_s u28 sz9, alloc_of zo31, store_of sz31, load_agg ld31, bin_ptr u54, bin_bool u4 .neq (Or.inr rfl), bin_ptr u23, buildSlice_of u56 bs22 rfl, append_s u56 sz22, len_slice u52, index_slice u52 sz58, load_agg ld58, alloc_of zo58, store_of sz58, fieldAddr_of fa58_1, load_of ld3, len_slice u56, index_slice u56 sz22, load_of ld22, fieldAddr_of fa58_2, fieldAddr_of fa58_0, fieldAddr_of fa58_3, bin_bool u4 .eql (Or.inl rfl), fieldAddr_of fa61_1, load_of ld59, bin_str u9 .lss (Or.inr (Or.inl rfl)), bin_ptr u44, fieldAddr_of fa67_1, load_of ld56, fieldAddr_of fa61_5, load_of ld28, fieldAddr_of fa61_4, lp2, lp3, lp4, lp5, lp6, c3, c4, c5, c6, c7]
    obtain ⟨lf', L4', q1⟩ := rs_pick L4
    obtain ⟨lf2', L6', q2⟩ := rs_pick L6
    obtain ⟨jb2', J5', q3⟩ := rs_pick sI5.rs
    obtain ⟨fam', hrs', q4⟩ := rs_pick hrs
    have n3 : m.next ≤ mZ.next := kZ.1
    have n4 : mZ.next ≤ m2.next := kZ2.1
    have n5 : m2.next ≤ m3.next := k3.1
    have n6 : m3.next ≤ m4.next := k4.1
    have n7 : m4.next ≤ m5.next := k5.1
    have n8 : m5.next ≤ m6.next := k6.1
    have n9 : m6.next ≤ m7.next := k7.1
    have f1 := P4.own.flt
    have f2 := P4.heap.h.flt
    have f3 := P4.heap.w.flt
    have f4 := R6.own.flt
    have f5 := R6.heap.h.flt
    have f6 := R6.heap.w.flt
    have f7 := I4.flt
    have f8 := T4.o.flt
    have f9 := oT2.flt
    have w1 : lf' ≠ xb ∧ lf' ≠ hb ∧ lf' ≠ wf ∧ lf' < m4.next := by
      rcases q1 with rfl | ⟨rfl, h, h2⟩
      · omega
      · have := g5 h; omega
    have w2 : lf2' ≠ xb ∧ lf2' ≠ hb ∧ lf2' ≠ wf ∧ lf2' ≠ yb ∧ lf2' ≠ hb2 ∧ lf2' ≠ wf2 ∧ lf2' < m6.next := by
      rcases q2 with rfl | ⟨rfl, h, h2⟩
      · omega
      · have := e4 h; omega
    have w3 : jb2' ≠ xb ∧ jb2' ≠ hb ∧ jb2' ≠ wf ∧ jb2' < m5.next := by
      rcases q3 with rfl | ⟨rfl, h, h2⟩
      · omega
      · have := hj5 h; omega
    have w4 : fam' < m3.next := by
      rcases q4 with rfl | ⟨rfl, h, h2⟩
      · omega
      · omega
    clear q1 q2 q3 q4 L4 L6 hrs
    have P7 := ((P4.keep0 k5).keep0 k6).keep0 k7
    have R7 := R6.keep0 k7
    have k47 := (k5.trans k6).trans k7
    have T7 := T4.keep k47 (by simp)
    have L7 := L4'.keep k47 (by simp)
    have I7 := I4.keep k47 (by simp)
    have M7 := L6'.keep k7 (by simp)
    have J7 := (J5'.keep k6 (by simp)).keep k7 (by simp)
    have T27 := tyT_prog ((oT2.keep k25 (by simp)).keep (k6.trans k7) (by simp))
    have G7 := (hg.keep kZ (by simp)).keep (kZ6.trans k7) (by simp)
    have l7 := hrs'.keep ((kZ.trans kZ6).trans k7) (by simp)
    have hlen := stT_len rm ts
    have hnn := stT_nn rm _ ts rfl
    have hgood := stT_good (room := rm) (by omega) ts
    generalize (stT rm ts).2 = lits at *
    generalize (stT rm ts).1 = ws at *
    obtain ⟨oR8, k78, n78⟩ := new_own (m := m7) (cs := words [0, 0]) (e := 22) rfl
    obtain ⟨rb, hrb⟩ : ∃ rb, m7.next = rb := ⟨_, rfl⟩
    obtain ⟨m8, hm8⟩ : ∃ m8, m7.new (words [0, 0]) 22 = m8 := ⟨_, rfl⟩
    show Wsem _ _ _ _ _ _ (m7.new (words [0, 0]) 22) _
    rw [hm8] at oR8 k78 n78 ⊢
    rw [hrb] at oR8 n78 ⊢
    refine wsem_loop 139 [183, 199, 207, 214, 240, 264, 264, 293, 147, 354] (fun d E mC => ∃ (i : Nat) (ra : Nat), ts.length - i = d ∧ i ≤ ts.length ∧ Own mC ra (words ([0, 0] ++ lits.take i)) 22 rb ∧ Keeps m7 mC [] ∧
      E = [(3, .slice ao ls.length ls.length), (9, .slice so ts.length ts.length), (12, .pointer (some ⟨xb, 0, none⟩)), (14, .pointer (some ⟨yb, 0, none⟩)), (15, .slice (some ⟨ra, 0, none⟩) (2 + i) (2 + i)), (16, .int .i64 i)]) _ ⟨_, ⟨0, rb, rfl, by omega, by simpa using oR8, k78, rfl⟩, ⟨by rfl, by rfl, by rfl, by rfl, by rfl, by rfl, trivial⟩⟩ ?_
    rintro d E mC ih ⟨i, ra, hd, hi, oR, kC, rfl⟩
    have i4 : (i : Int) ≤ 9223372036854775807 := by omega
    by_cases h1 : i < ts.length
    · have i1 : (i : Int) < ts.length := by omega
      have wi : IntKind.i64.wrap ((i : Int) + 1) = ((i + 1 : Nat) : Int) := by rw [wrap_i64 (by omega) (by omega)]; omega
      have RC := R7.keep0 kC
      rw [← hlen] at RC M7
      have cl := rlit_run hR RC (M7.keep kC (by simp)) (by omega) (k := i)
      have hlv : litV lits i = lits.getD i 0 := by unfold litV; rw [if_pos (by omega)]; rfl
      have et : lits.take (i + 1) = lits.take i ++ [lits.getD i 0] := by rw [List.take_succ_eq_append_getElem (by omega), List.getD_eq_getElem?_getD, List.getElem?_eq_getElem (by omega)]; rfl
      rw [hlv] at cl
      generalize lits.getD i 0 = v at *
      simp [-Int.natCast_add, -BitVec.toNat_or, -BitVec.toNat_ofInt, -BitVec.toNat_and, len_slice u28, index_slice u28 sz9, load_of ld9, len_string u9, slice_str u9, buildSlice_of u28 bs9 rfl, append_s u28 sz9, alloc_of zo31, store_of sz31, load_agg ld31, bin_ptr u54, bin_bool u4 .neq (Or.inr rfl), bin_ptr u23, buildSlice_of u56 bs22 rfl, append_s u56 sz22, len_slice u52, index_slice u52 sz58, load_agg ld58, alloc_of zo58, store_of sz58, fieldAddr_of fa58_1, load_of ld3, len_slice u56, index_slice u56 sz22, load_of ld22, fieldAddr_of fa58_2, fieldAddr_of fa58_0, fieldAddr_of fa58_3, bin_bool u4 .eql (Or.inl rfl), fieldAddr_of fa61_1, load_of ld59, bin_str u9 .lss (Or.inr (Or.inl rfl)), bin_ptr u44, fieldAddr_of fa67_1, load_of ld56, fieldAddr_of fa61_5, load_of ld28, fieldAddr_of fa61_4, h1, i1, i4, cl]
      generalize hra : sappend _ _ _ _ _ _ = rr
      obtain ⟨m3', nb, nf2, rfl, oN, k3', hnf, _, hnf3⟩ := app_slz hra u56 ap22 (Sl.of oR (by simp [words]; omega)) (by omega) (by simp) (by simp [one_int]) (by omega) (by omega)
      have hnf4 := hnf3 (by simp)
      subst hnf4
      simp at k3'
      simp [-Int.natCast_add, -BitVec.toNat_or, -BitVec.toNat_ofInt, -BitVec.toNat_and, len_slice u28, index_slice u28 sz9, load_of ld9, len_string u9, slice_str u9, buildSlice_of u28 bs9 rfl, append_s u28 sz9, alloc_of zo31, store_of sz31, load_agg ld31, bin_ptr u54, bin_bool u4 .neq (Or.inr rfl), bin_ptr u23, buildSlice_of u56 bs22 rfl, append_s u56 sz22, len_slice u52, index_slice u52 sz58, load_agg ld58, alloc_of zo58, store_of sz58, fieldAddr_of fa58_1, load_of ld3, len_slice u56, index_slice u56 sz22, load_of ld22, fieldAddr_of fa58_2, fieldAddr_of fa58_0, fieldAddr_of fa58_3, bin_bool u4 .eql (Or.inl rfl), fieldAddr_of fa61_1, load_of ld59, bin_str u9 .lss (Or.inr (Or.inl rfl)), bin_ptr u44, fieldAddr_of fa67_1, load_of ld56, fieldAddr_of fa61_5, load_of ld28, fieldAddr_of fa61_4, wi]
      exact ih _ _ _ _ ⟨i + 1, nb, rfl, by omega, by rw [et]; simpa [words] using oN, kC.fresh k3' (by simp; omega), rfl⟩ (by omega) ⟨by rfl, by rfl, by rfl, by rfl, by simp [lget]; omega, by rfl, trivial⟩
    · clear ih
      have i1 : ¬ (i : Int) < ts.length := by omega
      have hie : i = ts.length := by omega
      subst hie
      simp [-Int.natCast_add, -BitVec.toNat_or, -BitVec.toNat_ofInt, -BitVec.toNat_and, len_slice u28, index_slice u28 sz9, load_of ld9, len_string u9, slice_str u9, buildSlice_of u28 bs9 rfl, append_s u28 sz9, alloc_of zo31, store_of sz31, load_agg ld31, bin_ptr u54, bin_bool u4 .neq (Or.inr rfl), bin_ptr u23, buildSlice_of u56 bs22 rfl, append_s u56 sz22, len_slice u52, index_slice u52 sz58, load_agg ld58, alloc_of zo58, store_of sz58, fieldAddr_of fa58_1, load_of ld3, len_slice u56, index_slice u56 sz22, load_of ld22, fieldAddr_of fa58_2, fieldAddr_of fa58_0, fieldAddr_of fa58_3, bin_bool u4 .eql (Or.inl rfl), fieldAddr_of fa61_1, load_of ld59, bin_str u9 .lss (Or.inr (Or.inl rfl)), bin_ptr u44, fieldAddr_of fa67_1, load_of ld56, fieldAddr_of fa61_5, load_of ld28, fieldAddr_of fa61_4, i1]
      rw [← hlen] at L7 M7 P7 R7
      have nC := kC.1
      obtain ⟨K, hK⟩ : ∃ K : Kx, K = { x := xb, hb := hb, wf := wf, y := yb, hb2 := hb2, wf2 := wf2, tb := tb2, tf := tf2, tcs := tcs, tb2 := tb, tf2 := f, tcs2 := (progC fb).flatten, lo := lo, lf := lf', lo2 := lo2, lf2 := lf2', lits := lits, ib := ib, jf := jf4, jo2 := jb, jf2 := jb2', ins := is4, room := rm, p1 := .slice none 0 0, p2 := .int .i64 0, p3 := .slice so lits.length lits.length, p4 := .slice none 0 0, N0 := mC.next } := ⟨_, rfl⟩
      have kok : Kok K := by
        subst hK
        have z1 : m7.next ≤ mC.next := nC
        exact kok_of (n3 := m3.next) (n4 := m4.next) (n5 := m5.next) (by omega) n7 ⟨⟨g1, f1⟩, ⟨g2, f2⟩, ⟨g3, f3⟩⟩ ⟨⟨e1, Nat.lt_of_lt_of_le f4 (Nat.le_trans n9 z1)⟩, ⟨e2, Nat.lt_of_lt_of_le f5 (Nat.le_trans n9 z1)⟩, ⟨e3, Nat.lt_of_lt_of_le f6 (Nat.le_trans n9 z1)⟩⟩ ⟨g4.1, g4.2.1, g4.2.2, f8⟩ (Nat.lt_of_lt_of_le f9 n5) w1 ⟨w2.1, w2.2.1, w2.2.2.1, w2.2.2.2.1, w2.2.2.2.2.1, w2.2.2.2.2.2.1, Nat.lt_of_lt_of_le w2.2.2.2.2.2.2 (Nat.le_trans n9 z1)⟩ ⟨g6.1, g6.2.1, g6.2.2, f7⟩ w3 ⟨hrm2.1, by show rm ≤ 65536; omega⟩ (by show lits.length ≤ 1000; omega) (by show is4.length ≤ 1000; omega)
      have hro : Ro mC K := by
        subst hK
        exact ⟨T7.keep kC (by simp), T27.keep kC (by simp), L7.keep kC (by simp), M7.keep kC (by simp), ⟨by simp [int64s], Or.inr ⟨ib, rfl, I7.keep kC (by simp)⟩⟩, J7.keep kC (by simp), e, G7.keep kC (by simp)⟩
      have hst : St mC K { wb := wb, vb := vb, ws := ws, tk := 0, no := none, nf := 0, no2 := none, nf2 := 0, lines := [] } := by
        have hp : PS mC K { wb := wb, vb := vb, ws := ws, tk := 0, no := none, nf := 0, no2 := none, nf2 := 0, lines := [] } := by subst hK; exact P7.keep0 kC
        have hr : RS mC K { wb := wb, vb := vb, ws := ws, tk := 0, no := none, nf := 0, no2 := none, nf2 := 0, lines := [] } := by subst hK; exact R7.keep0 kC
        have hn0 : K.N0 ≤ mC.next := by subst hK; exact Nat.le_refl _
        have hg2 : GoodW ws K.room := by subst hK; exact hgood
        exact ⟨hp, hr, hro, hg2, Nat.zero_le _, Nat.zero_le _, fun h => absurd rfl h, fun h => absurd rfl h, fun h => absurd rfl h, hn0⟩
      have hx : xb = K.x := by rw [hK]
      have hy : yb = K.y := by rw [hK]
      have hN0 : K.N0 = mC.next := by rw [hK]
      have hF : fam' ∉ K.F := by
        rw [hK]; simp only [Kx.F, List.mem_cons, List.not_mem_nil, or_false, not_or]; omega
      have hF2 : rb ∉ K.F := by
        rw [hK]; simp only [Kx.F, List.mem_cons, List.not_mem_nil, or_false, not_or]; omega
      rw [hx, hy]
      have hrl : ([0, 0] ++ lits.take ts.length).length = 2 + ts.length := by simp; omega
      have hrn : ∀ x ∈ ([0, 0] ++ lits.take ts.length), 0 ≤ x := by
        intro x hx
        rcases List.mem_append.1 hx with h | h
        · simp at h; omega
        · exact hnn x (List.mem_of_mem_take h)
      have l8 := l7.keep kC (by simp)
      have oRf := oR.flt
      generalize ([0, 0] ++ lits.take ts.length) = rl at *
      rw [← hrl]
      have hb1 : fam' < K.N0 := by rw [hN0]; omega
      have hb2' : rb < K.N0 := by rw [hN0]; omega
      have hF4 : rb ∉ K.G := by
        rw [hK]; simp only [Kx.G, List.mem_cons, List.not_mem_nil, or_false, not_or]; omega
      exact main_run hP hR kok hPk hS hWd hSt l8 hF hb1 hok hst oR hF2 hb2' hF4 (by omega) (by omega) hrn ⟨by rfl, by rfl, by rfl, by rfl, by rfl, trivial⟩

/- the row -/
open Go.ChangeShapes Go.WideShapes Go.ChangeAt Go.RowKit
theorem own : ownKnob Tryd.prog.godebug = none := by kernel_rfl
theorem tab : Sh.tabCheck Tryd.prog fns = true := by kernel_rfl
theorem tab0 {w : World} (h : laidMetH Tryd.prog Rows.worldPlaysRow.laid w) : 0 < w.heap.size ∧ ∀ (i : Nat) v, ((Sh.tabLits (Rows.laid_internal_strconv_uint64pow10 : DataW Unit)).map Lit.value)[i]? = some v → w.cell? ⟨0, i, none⟩ = some v :=
  Sh.laid_lits (name := "internal/strconv.uint64pow10") (t := 103) (e := 22) (n := 20) (by kernel_rfl) h (by
    have e : (("internal/strconv.uint64pow10", (.agg ((Sh.tabLits (Rows.laid_internal_strconv_uint64pow10 : DataW Unit)).map .lit) : DataW Unit)) : String × DataW Unit) = ("internal/strconv.uint64pow10", Rows.laid_internal_strconv_uint64pow10) := by kernel_rfl
    rw [e]
    simp [Rows.worldPlaysRow]) (by kernel_rfl) (by kernel_rfl) Tryd.underlying103 (by first | exact Or.inr (Or.inl Tryd.underlying22) | exact Or.inl ⟨_, Tryd.underlying22⟩ | exact Or.inr (Or.inr Tryd.underlying22)) (by kernel_rfl) (by kernel_rfl) (of_decide_eq_true (by kernel_rfl))
def tables : List (Nat × List Value) := [(0, (Sh.tabLits (Rows.laid_internal_strconv_uint64pow10 : DataW Unit)).map Lit.value)]
theorem rd0 : Rdo (memG Tryd.prog tables) 0 base.powC (gtype Tryd.prog 0) 0 := ⟨by kernel_rfl, ⟨⟨none, 0⟩, by kernel_rfl, Nat.zero_le _⟩, of_decide_eq_true (by kernel_rfl), of_decide_eq_true (by kernel_rfl)⟩
theorem startT (w : World) (h : laidMetH Tryd.prog Rows.worldPlaysRow.laid w) : MRel Tryd.prog (inj0 Tryd.prog) (memG Tryd.prog tables) (allF w) w w := by
  refine memG_rel Tryd.prog w tables fun p hp => ?_
  simp only [tables, List.mem_cons, List.not_mem_nil, or_false] at hp
  rcases hp with rfl
  · exact ⟨of_decide_eq_true (by kernel_rfl), (tab0 h).1, by kernel_rfl, by kernel_rfl, (tab0 h).2⟩

theorem walk (w : World) (hL : laidMetH Tryd.prog Rows.worldPlaysRow.laid w) {v0 : Value} (h0 : RowArg Tryd.prog w (fun l : List UInt8 => [Value.string ⟨l.toArray⟩]) (fun l => l.length ≤ 9223372036854775807) 9 1 v0) (x1 : Int) (hx1 : (Lit.int .i64 x1).wf = true) {v2 : Value} (h2 : RowArg Tryd.prog w (fun n : Int => [Value.int .i64 n]) (fun n => (Lit.int .i64 n).wf = true) 2 1 v2) {v3 : Value} (h3 : DatArg Tryd.prog w (Ty.slice 58 (Ty.pair (Ty.int .i64) (Ty.pair (Ty.int .i64) (Ty.pair (Ty.int .i64) (Ty.pair (Ty.int .u64) Ty.unit))))) v3) :
    Calls Tryd.prog 7 #[v0, .int .i64 x1, v2, v3] w fun e w' => e = .returned (.bool true) ∧ Below w.heap.size w w' := by
  have hM := startT w hL
  obtain ⟨rs0, J0, m0, ao0, fr0, le0, hM0, vr0, hr0, hg0, hl0, hk0, hz0, hw0⟩ := row_in hM sz9 (by omega) (fun _ => rfl) h0
  obtain ⟨rs2, J2, m2, ao2, fr2, le2, hM2, vr2, hr2, hg2, hl2, hk2, hz2, hw2⟩ := row_in hM0 sz2 (by omega) (fun _ => rfl) h2
  obtain ⟨rs3, J3, m3, cs3, hw3, le3, hM3, vr3, hr3, hk3⟩ := h3 _ _ hM2
  obtain ⟨v', m', h, rfl⟩ := law_run (S := sums) (m := m3) ⟨⟨rfl, rfl, rfl, rfl, rfl, rfl, rfl, rfl, rfl, rfl, rfl⟩, ⟨rfl, rfl, rfl, rfl, rfl, rfl, rfl, rfl⟩, rfl, rfl, rfl, rfl, rfl, rfl, rfl, rfl, rfl, rfl, rfl⟩ ⟨⟨rfl, rfl, rfl, rfl, rfl, rfl, rfl, rfl, rfl, rfl, rfl⟩, ⟨rfl, rfl, rfl, rfl, rfl, rfl, rfl, rfl⟩, rfl, rfl, rfl, rfl, rfl, rfl, rfl, rfl, rfl, rfl, rfl, rfl, rfl, rfl, rfl, rfl, rfl, rfl⟩ ⟨rfl, rfl, rfl, rfl, rfl, rfl, rfl, rfl, rfl, rfl, rfl, rfl, rfl, rfl, rfl, rfl, rfl, rfl, rfl, rfl⟩ rfl rfl rfl rfl rfl ((hr0.keep hk2 (by simp)).keep hk3 (by simp)) (by have := hk2.1; have := hk3.1; omega) hz0 hw0 hx1 (hr2.keep hk3 (by simp)) (by have := hk3.1; omega) hz2 hw2 hw3 hr3 (((rd0.keep hk0 (by simp)).keep hk2 (by simp)).keep hk3 (by simp))
  exact calls_of mixed (Sh.tab_ok tab) sumsOk Tryd.func7 (by kernel_rfl) h rfl hM3 (.cons ((vr0.mono le2).mono le3) (.cons (.clo _ rfl) (.cons (vr2.mono le3) (.cons vr3 LRel.nil))))

theorem laidOut : laidOutB Tryd.prog = true := by kernel_rfl

theorem contract (H : Type) (enc : TypeId × Value → H) (W : World) (base : Nat) (args : Array Value) (ds gs : List (DataW H)) (before : List MemPlace)
    (hval : ∀ (j : Nat) t v, Tryd.f7.params[j]? = some t → args[j]? = some v → Value.okWide Tryd.prog W .any base t v)
    (hW : DataW.Whole enc Tryd.prog Tryd.f7.params.toList Rows.worldPlaysSpec.vars false W args.toList ds gs before) (hL : laidMetH Tryd.prog Rows.worldPlaysRow.laid W) :
    Calls Tryd.prog 7 args W fun e W' => ∃ v, e = .returned v ∧ Rows.worldPlaysSpec.post enc Tryd.prog Tryd.f7 false true false false W args v W' := by
  have hW' := hW
  obtain ⟨p, q, hA0, hV, rfl, hfz, hnd⟩ := hW
  have hA : DataW.TrodAll enc Tryd.prog W 0 (fun _ => true) true Tryd.f7.params.toList args.toList ds p := hA0
  rw [Tryd.params7] at hA hval
  obtain ⟨v0, v1, v2, v3, d0, d1, d2, d3, p0, p1, p2, p3, rfl, rfl, rfl, t0, t1, t2, t3⟩ := trodAll_four hA
  obtain ⟨rfl, rfl⟩ := trodVars_none hV
  have hv0 := strs_row u28 u9 sz9 (hval 0 _ _ rfl rfl) t0
  obtain ⟨x1, rfl, rfl, rfl, hx1⟩ := open_int u3 (hval 1 _ _ rfl rfl) t1
  have hv2 := ints_row u29 u2 sz2 (hval 2 _ _ rfl rfl) t2
  have hv3 := dat_arg (ty := (Ty.slice 58 (Ty.pair (Ty.int .i64) (Ty.pair (Ty.int .i64) (Ty.pair (Ty.int .i64) (Ty.pair (Ty.int .u64) Ty.unit)))))) (t := 52) (by kernel_rfl) (hval 3 _ _ rfl rfl) t3
  clear hA0
  simp only [List.append_nil, List.nil_append] at hW'
  refine (walk W hL hv0 x1 hx1 hv2 hv3).mono fun e W' ⟨he, hg⟩ => ?_
  subst he
  have hlt0 : ∀ z ∈ p0, z.block < W.heap.size := fun z hz => hW'.lt z (by simp [hz])
  have hlt2 : ∀ z ∈ p2, z.block < W.heap.size := fun z hz => hW'.lt z (by simp [hz])
  have hlt3 : ∀ z ∈ p3, z.block < W.heap.size := fun z hz => hW'.lt z (by simp [hz])
  exact ⟨_, rfl, Sh.law_post (pa := (p0 ++ ([] ++ (p2 ++ p3)))) (pv := []) hW' hg (by simp) (fun sp hsp => trodAll_mk4 (WideElems.Trod_stays laidOut (by kernel_rfl) (of_decide_eq_true (by kernel_rfl)) t0 (fun z hz => hg.same (hlt0 z hz)) (fun z hz => hsp z (by simp [hz]))) (shut_int u3 hx1) (WideElems.Trod_stays laidOut (by kernel_rfl) (of_decide_eq_true (by kernel_rfl)) t2 (fun z hz => hg.same (hlt2 z hz)) (fun z hz => hsp z (by simp [hz]))) (WideElems.Trod_stays laidOut (by kernel_rfl) (of_decide_eq_true (by kernel_rfl)) t3 (fun z hz => hg.same (hlt3 z hz)) (fun z hz => hsp z (by simp [hz])))) (fun _ _ => rfl) (fun _ _ _ => (trodAll_cons_mk (shut_bool u4 _) trodAll_mk0))
    (ok_one (by kernel_rfl) rfl (okWide_bool_mk u4 _))⟩
/-- A world for the witness: the settled one, the listed variables holding what is laid. -/
noncomputable def laidWorld (os : Os) : World :=
  { World.holding Tryd.prog os ⟨#[], #[], []⟩ with heap := ((((World.holding Tryd.prog os ⟨#[], #[], []⟩).heap).modify 1 (Sh.laidBlock (Rows.laid_math_bits_deBruijn32tab : DataW Unit))).modify 2 (Sh.laidBlock (Rows.laid_math_bits_deBruijn64tab : DataW Unit))).modify 0 (Sh.laidBlock (Rows.laid_internal_strconv_uint64pow10 : DataW Unit)) }
theorem laid_met (os : Os) : laidMet Tryd.prog Rows.worldPlaysRow.laid ((laidWorld os).forCall (fun _ _ => 0) ⟨#[], #[.slice none 0 0, .int .i64 0, .slice none 0 0, (tyVal (Ty.slice 58 (Ty.pair (Ty.int .i64) (Ty.pair (Ty.int .i64) (Ty.pair (Ty.int .i64) (Ty.pair (Ty.int .u64) Ty.unit))))) ((Ty.slice 58 (Ty.pair (Ty.int .i64) (Ty.pair (Ty.int .i64) (Ty.pair (Ty.int .i64) (Ty.pair (Ty.int .u64) Ty.unit)))))).zeros)], []⟩).memory :=
  laidMet_of_run' 8 (by kernel_rfl) (by kernel_rfl)
theorem reads (os : Os) {H : Type} (enc : TypeId × Value → H) : ∃ places, DataW.whole enc Tryd.prog ((laidWorld os).forCall (fun _ _ => 0) ⟨#[], #[.slice none 0 0, .int .i64 0, .slice none 0 0, (tyVal (Ty.slice 58 (Ty.pair (Ty.int .i64) (Ty.pair (Ty.int .i64) (Ty.pair (Ty.int .i64) (Ty.pair (Ty.int .u64) Ty.unit))))) ((Ty.slice 58 (Ty.pair (Ty.int .i64) (Ty.pair (Ty.int .i64) (Ty.pair (Ty.int .i64) (Ty.pair (Ty.int .u64) Ty.unit)))))).zeros)], []⟩).memory Tryd.f7.params.toList Rows.worldPlaysSpec.vars false (#[.slice none 0 0, .int .i64 0, .slice none 0 0, (tyVal (Ty.slice 58 (Ty.pair (Ty.int .i64) (Ty.pair (Ty.int .i64) (Ty.pair (Ty.int .i64) (Ty.pair (Ty.int .u64) Ty.unit))))) ((Ty.slice 58 (Ty.pair (Ty.int .i64) (Ty.pair (Ty.int .i64) (Ty.pair (Ty.int .i64) (Ty.pair (Ty.int .u64) Ty.unit)))))).zeros)] : Array Value).toList 8 = some ([.nil, .lit (.int .i64 0), .nil, (((Ty.slice 58 (Ty.pair (Ty.int .i64) (Ty.pair (Ty.int .i64) (Ty.pair (Ty.int .i64) (Ty.pair (Ty.int .u64) Ty.unit)))))).zdata)], [], places) :=
  ⟨[], by kernel_rfl⟩

theorem lifted (os : Os) (started : os.Started) (H : Type) (enc : TypeId × Value → H) (F : Stop.Interp) :
    ReturnsInHanded {} Tryd.checked os 7 .any ((OpenSpec.ofChange Rows.worldPlaysSpec).preRow enc Tryd.prog Tryd.f7 Rows.worldPlaysRow.domain false Rows.worldPlaysRow.laid) (((OpenSpec.ofChange Rows.worldPlaysSpec).at F).post enc Tryd.prog Tryd.f7 false true false false) := by
  obtain ⟨places, hx⟩ := reads os enc
  refine returnsInHanded_of_row (C := Tryd.checked) (s := OpenSpec.ofChange Rows.worldPlaysSpec) own started (by kernel_rfl) Tryd.func7
    (witness_row_at (enc := enc) (C := Tryd.checked) false (laidWorld os) #[.slice none 0 0, .int .i64 0, .slice none 0 0, (tyVal (Ty.slice 58 (Ty.pair (Ty.int .i64) (Ty.pair (Ty.int .i64) (Ty.pair (Ty.int .i64) (Ty.pair (Ty.int .u64) Ty.unit))))) ((Ty.slice 58 (Ty.pair (Ty.int .i64) (Ty.pair (Ty.int .i64) (Ty.pair (Ty.int .i64) (Ty.pair (Ty.int .u64) Ty.unit)))))).zeros)] rfl (by kernel_rfl) (by kernel_rfl) (by kernel_rfl)
      (OpenSpec.preRow_of_cond 8 hx (by kernel_rfl) (fun k hk => by cases hk) (by kernel_rfl) (laid_met os))) ?_
  intro W base args ds gs before hval hW _ hcd hwt hL _ _
  exact contract H enc W base args ds gs before hval hW hL

theorem said : Rows.WorldPlaysSaid :=
  OpenClaim.holds_of_cond 7 Tryd.f7 rfl rfl rfl rfl rfl rfl rfl ⟨rfl, rfl, rfl, rfl, rfl⟩ rfl rfl rfl rfl rfl (by kernel_rfl) Tryd.func7 (by kernel_rfl)
    (of_decide_eq_true (by kernel_rfl)) (by unfold Func.isWrapper; first | (rw [if_pos (by decide +kernel)]; kernel_rfl) | (rw [if_neg (by decide +kernel)]; exact ⟨rfl, rfl⟩))
    (fun os started H enc _ F => by rw [OpenClaim.pre_eq_preRow]; exact lifted os started H enc F)

theorem plain (f : FuncId) (fn : Func) (hf : Tryd.pinned.checked.prog.funcNamed "turnstone/turnstonelaw10.WorldPlays" = some f) (hfn : Tryd.pinned.checked.prog.funcs[f]? = some fn) :
    false = Tryd.pinned.checked.prog.looks [] ∧ ∀ (j : Nat) t, fn.params[j]? = some t → Tryd.pinned.checked.prog.wantsStandIn t = false := by
  obtain rfl : f = 7 := Option.some.inj ((show Tryd.prog.funcNamed "turnstone/turnstonelaw10.WorldPlays" = some 7 by kernel_rfl).symm.trans hf) |>.symm
  obtain rfl : fn = Tryd.f7 := (Option.some.inj (Tryd.func7.symm.trans hfn)).symm
  refine ⟨by kernel_rfl, fun j t ht => ?_⟩
  rw [Tryd.params7] at ht
  rcases j with _ | _ | _ | _ | _
  all_goals first
    | (simp at ht; done)
    | (obtain rfl := Option.some.inj ht; kernel_rfl)
    | (simp at ht; subst ht; kernel_rfl)

theorem proved : Rows.WorldPlaysCardSaid :=
  Claim7.holds_tied_plain_at .later [] _ _ _ _ said (fun _ h => by cases h) (by kernel_rfl) (fun _ h => by cases h) worldPlays_row_tie rfl ⟨rfl, rfl⟩ (by kernel_rfl) rfl plain (by kernel_rfl)
#print axioms proved
end Go.Proofs.YtggbgelfgfmikaaDoor.worldPlays

