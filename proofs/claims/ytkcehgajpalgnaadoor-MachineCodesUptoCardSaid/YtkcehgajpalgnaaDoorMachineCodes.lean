/-
  This text proves 'Rows.MachineCodesUptoCardSaid': the law 'MachineCodes' returns true at any instructions and any bytes that are together of bulk at most 1048576, in whatever memory and on every tape, and its input reads as it did.
  The condition is the card's own: the listed package-level variables hold what the program's text lays.
-/
import Derived.Test.YtkcehgajpalgnaaDoorCards
import Derived.Test.YtkcehgajpalgnaaDoorTie
import Derived.Deep.DeepHandedRow
import Derived.Lib.LaidTab
import Derived.Test.YtkcehgajpalgnaaDoorMacG
set_option maxRecDepth 100000
set_option linter.unusedSimpArgs false
set_option linter.unusedVariables false
namespace Go.Proofs.YtkcehgajpalgnaaDoor.machineCodes
open Go.Sh gen base
variable {S : Sums} {m : Mem}
/-- a slice is no longer than the statement's second form lets it be -/
def LenLe (v : Value) : Prop := ∀ a n c, v = .slice a n c → n ≤ 1048576
theorem bulk_lits {H : Type} : ∀ l : List (DataW H), l.length ≤ Rows.uptoBulkAll l
  | [] => by simp [Rows.uptoBulkAll]
  | d :: l => by
    have h1 := bulk_lits l
    have h2 : 1 ≤ Rows.uptoBulk d := by
      cases d with
      | lit x => cases x <;> simp [Rows.uptoBulk]
      | _ => simp [Rows.uptoBulk]
    simp only [Rows.uptoBulkAll, List.length_cons]; omega
open Go.ChangeShapes Go.WideShapes Go.ChangeAt Go.ChangeShapes in
theorem len_up {H : Type} {enc : TypeId × Value → H} {P : Program} {w : World} {r : Reach} {b0 : Nat} {t e : TypeId} {k : IntKind} {v : Value} {d : DataW H} {ps : List MemPlace} (ht : P.underlying t = some (.slice e)) (he : P.underlying e = some (.int k)) (hc : P.cellsOf e = 1)
    (hval : Value.okWide P w r b0 t v) (hd : DataW.Trod enc P w 0 (fun _ => true) true t v d ps) (hw : Rows.uptoBulk d ≤ 1048576) : LenLe v := by
  obtain ⟨a0, l0, c0, rfl⟩ := okWide_slice ht hval
  obtain ⟨fuel, hf⟩ := hd
  intro a n c he2
  cases he2
  rcases open_ints ht he hc hf with ⟨h1, _⟩ | ⟨a, len, cap, zs, h1, h2, h3, h4, h5, h6, h7, h8⟩
  · simp [Value.cells] at h1
    omega
  · simp [Value.cells] at h1
    obtain ⟨rfl, rfl, rfl⟩ := h1
    simp at h5
    have h6' := congrArg Prod.fst h6
    simp only at h6'
    subst h6'
    simp only [Rows.uptoBulk] at hw
    have h9 := bulk_lits (lits (H := H) k (zs.take l0))
    have e : (lits (H := H) k (zs.take l0)).length = min l0 zs.length := by simp [lits]
    omega
abbrev InT : Ty := (Ty.pair (Ty.int .i64) (Ty.pair (Ty.int .i64) (Ty.pair (Ty.int .i64) (Ty.pair (Ty.int .i64) (Ty.pair (Ty.int .i64) Ty.unit)))))
def inOf (d : InT.D) : In5 := (d.1, d.2.1, d.2.2.1, d.2.2.2.1, d.2.2.2.2.1)
theorem in_rows {l : List InT.D} {css : List (List Value)} (hcl : css.length = l.length) (hce : ∀ (i : Nat) d c, l[i]? = some d → css[i]? = some c → At m InT d c) : css.flatten = icv (l.map inOf) := by
  induction css generalizing l with
  | nil => cases l with
    | nil => rfl
    | cons a l => simp at hcl
  | cons c css ih => cases l with
    | nil => simp at hcl
    | cons a l =>
      have h0 := hce 0 a c rfl rfl
      obtain ⟨c1, d1, rfl, h1, c2, d2, rfl, h2, c3, d3, rfl, h3, c4, d4, rfl, h4, c5, d5, rfl, h5, h6⟩ := h0
      simp only [At] at h1 h2 h3 h4 h5 h6
      subst h1 h2 h3 h4 h5 h6
      have := ih (l := l) (by simpa using hcl) (fun i d c hd hc => hce (i + 1) d c (by simpa using hd) (by simpa using hc))
      simp only [List.flatten_cons, this, List.map_cons, icv, List.flatMap_cons, inOf, List.append_nil, List.cons_append, List.nil_append]
theorem in_arg {l : List InT.D} {cs : List Value} (ha : At m (Ty.slice 52 InT) l cs) : ∃ ao fam, cs = [.slice ao l.length l.length] ∧ Rs m ao (l.map inOf).length (icv (l.map inOf)) 52 5 fam := by
  obtain ⟨ao, css, fam, rfl, hcl, hce, hrs⟩ := ha
  refine ⟨ao, fam, rfl, ?_⟩
  rw [in_rows hcl hce] at hrs
  rw [List.length_map]
  exact hrs
theorem in_64 {l : List InT.D} (h : (Ty.slice 52 InT).wf l) : ∀ x ∈ l.map inOf, n64 x := fun x hx => by
  obtain ⟨d, hd, rfl⟩ := List.mem_map.1 hx
  have hw := (h.2 d hd).2.2.2.2.1
  have e1 : IntKind.i64.min = -9223372036854775808 := by decide
  have e2 : IntKind.i64.max = 9223372036854775807 := by decide
  simp only [Ty.wf, Lit.wf, Bool.and_eq_true, decide_eq_true_eq] at hw
  exact ⟨by simp only [inOf]; omega, by simp only [inOf]; omega⟩
def by8 (l : List Int) : List UInt8 := l.map fun z => UInt8.ofNat z.toNat
theorem by8_cells {l : List Int} (h : ∀ n ∈ l, (Lit.int .u8 n).wf = true) : (l.flatMap fun n : Int => [Value.int .u8 n]) = bc (by8 l) := by
  have e1 : IntKind.u8.min = 0 := by decide
  have e2 : IntKind.u8.max = 255 := by decide
  induction l with
  | nil => rfl
  | cons a l ih =>
    have ha := h a (by simp)
    simp only [Lit.wf, Bool.and_eq_true, decide_eq_true_eq] at ha
    have ih := ih (fun n hn => h n (by simp [hn]))
    have : ((UInt8.ofNat a.toNat).toNat : Int) = a := by simp only [UInt8.toNat_ofNat']; omega
    simp only [List.flatMap_cons, ih, by8, bc, List.map_cons, this, List.cons_append, List.nil_append]
theorem bToS_rs {ao : Option Addr} {l : List UInt8} {e fam : Nat} (h : Rs m ao l.length (l.map fun b => Value.int .u8 b.toNat) e 1 fam) : bToS m (.slice ao l.length l.length) = some (.string ⟨l.toArray⟩, m) := by
  by_cases h0 : l.length = 0
  · have := List.length_eq_zero_iff.1 h0
    subst this
    cases ao <;> rfl
  · obtain ⟨b, rfl, ho⟩ := h.rdo h0
    have hl := ho.load (off := 0) l.length (by simp)
    have hw : window (l.map fun b => Value.int .u8 b.toNat) 0 l.length = l.map fun b => Value.int .u8 b.toNat := by
      simp only [window, List.drop_zero]
      exact List.take_of_length_le (by simp)
    rw [hw] at hl
    simp only [bToS, h0, beq_iff_eq, if_false, hl, bytesOf_map]
theorem dec_len (l : List UInt8) : (decP l).1.length ≤ l.length := by
  unfold decP
  split
  · simp
  · split
    · split
      · simp only [decL_len]; omega
      · simp
    · simp
/-- a copy of a slice's cells into a new one -/
theorem copy_run {ty e : TypeId} {z bt k : Nat} {news : List Value} {r : Option (Value × Mem)} (hr : sappend Tryd.prog ty (m.new [] e) (.slice (some ⟨m.next, 0, none⟩) 0 0) news k = r) (ht : Tryd.prog.underlying ty = some (.slice e)) (ha : apOk Tryd.prog e z bt = true)
    (hnews : news.length = k * z) (h1 : news.all one = true) (hb : k * bt ≤ 140737488355328) (h63 : k ≤ 9223372036854775807) :
    ∃ m1 b', r = some (.slice (some ⟨b', 0, none⟩) k k, m1) ∧ Own m1 b' news e m.next ∧ Keeps m m1 [] := by
  obtain ⟨o, k0, n0⟩ := new_own (m := m) (cs := []) (e := e) rfl
  obtain ⟨m1, b', h1, h2, h3⟩ := app_own hr ht ha o (by simp) hnews h1 (by simpa using hb) (by omega)
  exact ⟨m1, b', by simpa using h1, by simpa using h2, k0.fresh h3 (by simp)⟩
open Classical in
noncomputable def encV (c : List In5) : List UInt8 := if RightC c then encP c else []
open Classical in
noncomputable def encE (c : List In5) : Int := if RightC c then 0 else 1
theorem encV_len (c : List In5) : (encV c).length ≤ 11 * c.length := by
  unfold encV; split
  · rw [encP_len]; omega
  · simp
theorem encd_norm {m1 : Mem} {ls : List In5} {v : Value} (h : Encd m m1 ls v) : ∃ oa fo, v = .tuple #[.slice oa (encV ls).length (encV ls).length, .int .i64 (encE ls)] ∧ Sl m1 oa (encV ls).length (bc (encV ls)) 5 1 fo := by
  rcases h with ⟨h, rfl⟩ | ⟨h, oa, fo, rfl, s, _⟩
  · refine ⟨none, 0, ?_, ?_⟩
    · simp only [encV, encE, if_neg h, List.length_nil]
    · simp only [encV, if_neg h]; exact Sl.nil _ _ _ _
  · refine ⟨oa, fo, ?_, ?_⟩
    · simp only [encV, encE, if_pos h]
    · simp only [encV, if_pos h]; exact s
theorem bc_set {l : List UInt8} {k : Nat} (h : k < l.length) (b : UInt8) : over (bc l) k [.int .u8 (b.toNat : Int)] = bc (l.set k b) := by
  simp only [over, bc, List.length_cons, List.length_nil, List.set_eq_take_append_cons_drop, if_pos h, List.map_append, List.map_take, List.map_drop, List.map_cons, List.append_assoc, List.cons_append, List.nil_append]
theorem bc_cut (l : List UInt8) (k : Nat) : bc l = bc (l.take k) ++ bc (l.drop k) := by
  simp only [bc, ← List.map_append, List.take_append_drop]
theorem bc_len (l : List UInt8) : (bc l).length = l.length := by simp [bc]
theorem sl_load {m : Mem} {b n z fam : Nat} {cells rest : List Value} {e : TypeId} (h : Own m b (cells ++ rest) e fam) (hn : n * z = cells.length) : loadRow m ⟨b, 0, none⟩ (n * z) = some cells := by
  have h1 := h.load (off := 0) (n * z) (by simp; omega)
  have : window (cells ++ rest) 0 (n * z) = cells := by
    simp only [window, List.drop_zero, hn]
    exact List.take_left' rfl
  rwa [this] at h1
set_option maxHeartbeats 8000000 in
theorem law_run (hK : S 10 = [([], .bool true)]) (hS : S 5 = []) (hN : Nr S) (hP : S 11 = []) (hE : S 17 = []) (hE2 : S 21 = []) (hD : S 18 = []) (hD2 : S 22 = []) (hSa : S 24 = []) (hL : S 7 = [])
    {l : List InT.D} {cs : List Value} (hl : (Ty.slice 52 InT).wf l) (ha : At m (Ty.slice 52 InT) l cs) (any : Bool)
    {bs : List Int} {bo : Option Addr} {bf : Nat} (hb : Rs m bo bs.length (bs.flatMap fun n : Int => [Value.int .u8 n]) 5 1 bf) (hbf : bf < m.next) (hbl : bs.length ≤ 1048576) (hbw : ∀ n ∈ bs, (Lit.int .u8 n).wf = true) (near : Bool) {at' to : Int} (hat : (Lit.int .i64 at').wf = true) (hto : (Lit.int .i64 to).wf = true) :
    ∃ v m', callw Tryd.prog TT S 5 [tyVal (Ty.slice 52 InT) cs, .bool any, .slice bo bs.length bs.length, .bool near, .int .i64 at', .int .i64 to] m = some (v, m') ∧ v = .bool true := by
  have hkn := fun m' => sum_ok (P := Tryd.prog) (T := TT) (m := m') hK
  obtain ⟨ao, fam, rfl, hrs⟩ := in_arg ha
  have h64 := in_64 hl
  have hll : l.length = (l.map inOf).length := by simp
  show ∃ v m', callw Tryd.prog TT S 5 [.slice ao l.length l.length, .bool any, .slice bo bs.length bs.length, .bool near, .int .i64 at', .int .i64 to] m = some (v, m') ∧ v = .bool true
  rw [hll]
  generalize l.map inOf = ls at *
  rw [by8_cells hbw] at hb
  have hb8 : bs.length = (by8 bs).length := by simp [by8]
  rw [hb8] at hb hbl ⊢
  generalize by8 bs = b8 at *
  clear hll ha hl
  obtain ⟨_, m1, c1, ⟨oa, fo, c, rfl, s1, _, hc60, hc64⟩, k1⟩ := list_run (m := m) hN hL hP hrs h64 (n := 30) (by omega) (any := any)
  have c1' : callw Tryd.prog TT S 7 [.slice ao ls.length ls.length, .int .i64 30, .bool any] m = some (.slice oa c.length c.length, m1) := c1
  have b1 := hb.keep k1 (by simp)
  have hxl := encV_len c
  obtain ⟨xl, hxl2⟩ : ∃ xl, encV c = xl := ⟨_, rfl⟩
  obtain ⟨xe, hxe⟩ : ∃ xe, encE c = xe := ⟨_, rfl⟩
  rw [hxl2] at hxl
  refine fn_w 23 [46, 60] k5 hS rfl ?_
  apply cut3_ (fun (mX : Mem) (xa : Option Addr) (xf : Nat) => Sl mX xa xl.length (bc xl) 5 1 xf ∧ Keeps m1 mX [])
  case main =>
    obtain ⟨on, kn, nn⟩ := new_own (m := m1) (cs := []) (e := 52) rfl
    have go : ∀ (k : Nat) (r : Option (Value × Mem)), k = c.length → sappend Tryd.prog 22 (m1.new [] 52) (.slice (some ⟨m1.next, 0, none⟩) 0 0) (icv c) k = r → ∃ (m3 m4 : Mem) (b3 : Nat) (xa : Option Addr) (xf : Nat), r = some (.slice (some ⟨b3, 0, none⟩) k k, m3) ∧ callw Tryd.prog TT S 17 [.slice (some ⟨b3, 0, none⟩) k k] m3 = some (.tuple #[.slice xa xl.length xl.length, .int .i64 xe], m4) ∧ Sl m4 xa xl.length (bc xl) 5 1 xf ∧ Keeps m1 m4 [] := by
      rintro _ r rfl hr
      obtain ⟨m3, b3, h3, o3, k3⟩ := copy_run (news := icv c) hr u22 ap52 (by rw [icv_len]) (by simp [one_int]) (by omega) (by omega)
      obtain ⟨v4, m4, c4, hv4, k4⟩ := enc_run (m := m3) hN hE (Sl.of o3 (by rw [icv_len])).rs (by omega)
      obtain ⟨xa, xf, rfl, sx⟩ := encd_norm hv4
      rw [hxl2, hxe] at c4
      rw [hxl2] at sx
      exact ⟨m3, m4, b3, xa, xf, h3, c4, sx, k3.trans k4⟩
    by_cases hz : c.length = 0
    · have hcn : icv c = [] := by rw [List.length_eq_zero_iff.1 hz]; rfl
      by_cases hoa : oa = none
      · intro meth
        simp [-Int.natCast_add, -w5_3, -BitVec.toNat_or, -BitVec.toNat_ofInt, -BitVec.toNat_and, buildSlice_of u22 bs52 rfl, append_s u22 sz52, buildSlice_of u48 bs5 rfl, append_s u48 sz5, len_slice u48, conv_i u3 u5, index_slice u48 sz5, store_of sz5, slice_sl u48 sz5, conv_bytes u48 u5 u9, bin_bool u4 .eql (Or.inl rfl), c1', hoa, hz]
        generalize hra : sappend _ _ _ _ _ _ = ra
        obtain ⟨m3, m4, b3, xa, xf, rfl, c4, sx, kx⟩ := go 0 ra hz.symm (by rw [hcn]; exact hra)
        simp [-Int.natCast_add, -w5_3, -BitVec.toNat_or, -BitVec.toNat_ofInt, -BitVec.toNat_and, buildSlice_of u22 bs52 rfl, append_s u22 sz52, buildSlice_of u48 bs5 rfl, append_s u48 sz5, len_slice u48, conv_i u3 u5, index_slice u48 sz5, store_of sz5, slice_sl u48 sz5, conv_bytes u48 u5 u9, bin_bool u4 .eql (Or.inl rfl), c4]
        exact w_sub (E := [(2, .slice bo b8.length b8.length), (3, .bool near), (4, .int .i64 at'), (5, .int .i64 to), (13, .slice oa c.length c.length), (14, .slice xa xl.length xl.length), (15, .int .i64 xe)]) (meth m4 xa xf ⟨sx, kx⟩) ⟨by rfl, by rfl, by rfl, by rfl, by simp [lget, hoa, hz], by rfl, by rfl, trivial⟩
      · obtain ⟨a, hoa⟩ := Option.ne_none_iff_exists'.1 hoa
        intro meth
        simp [-Int.natCast_add, -w5_3, -BitVec.toNat_or, -BitVec.toNat_ofInt, -BitVec.toNat_and, buildSlice_of u22 bs52 rfl, append_s u22 sz52, buildSlice_of u48 bs5 rfl, append_s u48 sz5, len_slice u48, conv_i u3 u5, index_slice u48 sz5, store_of sz5, slice_sl u48 sz5, conv_bytes u48 u5 u9, bin_bool u4 .eql (Or.inl rfl), c1', hoa, hz]
        generalize hra : sappend _ _ _ _ _ _ = ra
        obtain ⟨m3, m4, b3, xa, xf, rfl, c4, sx, kx⟩ := go 0 ra hz.symm (by rw [hcn]; exact hra)
        simp [-Int.natCast_add, -w5_3, -BitVec.toNat_or, -BitVec.toNat_ofInt, -BitVec.toNat_and, buildSlice_of u22 bs52 rfl, append_s u22 sz52, buildSlice_of u48 bs5 rfl, append_s u48 sz5, len_slice u48, conv_i u3 u5, index_slice u48 sz5, store_of sz5, slice_sl u48 sz5, conv_bytes u48 u5 u9, bin_bool u4 .eql (Or.inl rfl), c4]
        exact w_sub (E := [(2, .slice bo b8.length b8.length), (3, .bool near), (4, .int .i64 at'), (5, .int .i64 to), (13, .slice oa c.length c.length), (14, .slice xa xl.length xl.length), (15, .int .i64 xe)]) (meth m4 xa xf ⟨sx, kx⟩) ⟨by rfl, by rfl, by rfl, by rfl, by simp [lget, hoa, hz], by rfl, by rfl, trivial⟩
    · intro meth
      obtain ⟨cb, hoa, oc⟩ := s1.rs.rdo hz
      have lc := ((oc.keep kn (by simp)).load (off := 0) (c.length * 5) (by rw [icv_len]; omega))
      have wc : window (icv c) 0 (c.length * 5) = icv c := by
        simp only [window, List.drop_zero]
        exact List.take_of_length_le (by rw [icv_len]; omega)
      rw [wc] at lc
      simp [-Int.natCast_add, -w5_3, -BitVec.toNat_or, -BitVec.toNat_ofInt, -BitVec.toNat_and, buildSlice_of u22 bs52 rfl, append_s u22 sz52, buildSlice_of u48 bs5 rfl, append_s u48 sz5, len_slice u48, conv_i u3 u5, index_slice u48 sz5, store_of sz5, slice_sl u48 sz5, conv_bytes u48 u5 u9, bin_bool u4 .eql (Or.inl rfl), c1', hoa, hz, lc]
      generalize hra : sappend _ _ _ _ _ _ = ra
      obtain ⟨m3, m4, b3, xa, xf, rfl, c4, sx, kx⟩ := go _ ra rfl hra
      simp [-Int.natCast_add, -w5_3, -BitVec.toNat_or, -BitVec.toNat_ofInt, -BitVec.toNat_and, buildSlice_of u22 bs52 rfl, append_s u22 sz52, buildSlice_of u48 bs5 rfl, append_s u48 sz5, len_slice u48, conv_i u3 u5, index_slice u48 sz5, store_of sz5, slice_sl u48 sz5, conv_bytes u48 u5 u9, bin_bool u4 .eql (Or.inl rfl), c4]
      exact w_sub (E := [(2, .slice bo b8.length b8.length), (3, .bool near), (4, .int .i64 at'), (5, .int .i64 to), (13, .slice oa c.length c.length), (14, .slice xa xl.length xl.length), (15, .int .i64 xe)]) (meth m4 xa xf ⟨sx, kx⟩) ⟨by rfl, by rfl, by rfl, by rfl, by simp [lget, hoa], by rfl, by rfl, trivial⟩
  rintro mX xa xf ⟨sx, kX⟩
  obtain ⟨v5, m5, c5, hv5, k5⟩ := renc_run (m := mX) hN hE2 (s1.keepz kX (by simp)).rs (by omega)
  obtain ⟨ya, yf, rfl, sy⟩ := encd_norm hv5
  rw [hxl2, hxe] at c5
  rw [hxl2] at sy
  have kc5 := kX.trans k5
  have b5 := b1.keep kc5 (by simp)
  have sx5 := sx.keepz k5 (by simp)
  apply cut2_ (fun (mY : Mem) (rb : Nat) => ∃ rf, Own mY rb (bc b8) 5 rf ∧ Keeps m5 mY [])
  case main =>
    obtain ⟨on, kn, nn⟩ := new_own (m := m5) (cs := []) (e := 5) rfl
    by_cases hz : b8.length = 0
    · have hbn : bc b8 = [] := by rw [List.length_eq_zero_iff.1 hz]; rfl
      by_cases hbo : bo = none
      · intro meth
        simp [-Int.natCast_add, -w5_5, -BitVec.toNat_or, -BitVec.toNat_ofInt, -BitVec.toNat_and, buildSlice_of u22 bs52 rfl, append_s u22 sz52, buildSlice_of u48 bs5 rfl, append_s u48 sz5, len_slice u48, conv_i u3 u5, index_slice u48 sz5, store_of sz5, slice_sl u48 sz5, conv_bytes u48 u5 u9, bin_bool u4 .eql (Or.inl rfl), c5, hbo, hz]
        generalize hra : sappend _ _ _ _ _ _ = ra
        obtain ⟨m3, b3, rfl, o3, k3⟩ := copy_run hra u48 ap5 (by simp) (by simp) (by omega) (by omega)
        simp [-Int.natCast_add, -w5_5, -BitVec.toNat_or, -BitVec.toNat_ofInt, -BitVec.toNat_and, buildSlice_of u22 bs52 rfl, append_s u22 sz52, buildSlice_of u48 bs5 rfl, append_s u48 sz5, len_slice u48, conv_i u3 u5, index_slice u48 sz5, store_of sz5, slice_sl u48 sz5, conv_bytes u48 u5 u9, bin_bool u4 .eql (Or.inl rfl)]
        exact w_sub (E := [(3, .bool near), (4, .int .i64 at'), (5, .int .i64 to), (13, .slice oa c.length c.length), (14, .slice xa xl.length xl.length), (15, .int .i64 xe), (16, .slice ya xl.length xl.length), (17, .int .i64 xe), (18, .slice (some ⟨b3, 0, none⟩) b8.length b8.length)]) (meth m3 b3 ⟨_, by rw [hbn]; exact o3, k3⟩) ⟨by rfl, by rfl, by rfl, by rfl, by rfl, by rfl, by rfl, by rfl, by simp [lget, hz], trivial⟩
      · obtain ⟨a, hbo⟩ := Option.ne_none_iff_exists'.1 hbo
        intro meth
        simp [-Int.natCast_add, -w5_5, -BitVec.toNat_or, -BitVec.toNat_ofInt, -BitVec.toNat_and, buildSlice_of u22 bs52 rfl, append_s u22 sz52, buildSlice_of u48 bs5 rfl, append_s u48 sz5, len_slice u48, conv_i u3 u5, index_slice u48 sz5, store_of sz5, slice_sl u48 sz5, conv_bytes u48 u5 u9, bin_bool u4 .eql (Or.inl rfl), c5, hbo, hz]
        generalize hra : sappend _ _ _ _ _ _ = ra
        obtain ⟨m3, b3, rfl, o3, k3⟩ := copy_run hra u48 ap5 (by simp) (by simp) (by omega) (by omega)
        simp [-Int.natCast_add, -w5_5, -BitVec.toNat_or, -BitVec.toNat_ofInt, -BitVec.toNat_and, buildSlice_of u22 bs52 rfl, append_s u22 sz52, buildSlice_of u48 bs5 rfl, append_s u48 sz5, len_slice u48, conv_i u3 u5, index_slice u48 sz5, store_of sz5, slice_sl u48 sz5, conv_bytes u48 u5 u9, bin_bool u4 .eql (Or.inl rfl)]
        exact w_sub (E := [(3, .bool near), (4, .int .i64 at'), (5, .int .i64 to), (13, .slice oa c.length c.length), (14, .slice xa xl.length xl.length), (15, .int .i64 xe), (16, .slice ya xl.length xl.length), (17, .int .i64 xe), (18, .slice (some ⟨b3, 0, none⟩) b8.length b8.length)]) (meth m3 b3 ⟨_, by rw [hbn]; exact o3, k3⟩) ⟨by rfl, by rfl, by rfl, by rfl, by rfl, by rfl, by rfl, by rfl, by simp [lget, hz], trivial⟩
    · intro meth
      obtain ⟨cb, hbo, oc⟩ := b5.rdo hz
      have lc := ((oc.keep kn (by simp)).load (off := 0) b8.length (by simp))
      have wc : window (bc b8) 0 b8.length = bc b8 := by
        simp only [window, List.drop_zero]
        exact List.take_of_length_le (by simp)
      rw [wc] at lc
      simp [-Int.natCast_add, -w5_5, -BitVec.toNat_or, -BitVec.toNat_ofInt, -BitVec.toNat_and, buildSlice_of u22 bs52 rfl, append_s u22 sz52, buildSlice_of u48 bs5 rfl, append_s u48 sz5, len_slice u48, conv_i u3 u5, index_slice u48 sz5, store_of sz5, slice_sl u48 sz5, conv_bytes u48 u5 u9, bin_bool u4 .eql (Or.inl rfl), c5, hbo, hz, lc]
      generalize hra : sappend _ _ _ _ _ _ = ra
      obtain ⟨m3, b3, rfl, o3, k3⟩ := copy_run (news := bc b8) hra u48 ap5 (by simp) (by simp [one_int]) (by omega) (by omega)
      simp [-Int.natCast_add, -w5_5, -BitVec.toNat_or, -BitVec.toNat_ofInt, -BitVec.toNat_and, buildSlice_of u22 bs52 rfl, append_s u22 sz52, buildSlice_of u48 bs5 rfl, append_s u48 sz5, len_slice u48, conv_i u3 u5, index_slice u48 sz5, store_of sz5, slice_sl u48 sz5, conv_bytes u48 u5 u9, bin_bool u4 .eql (Or.inl rfl)]
      exact w_sub (E := [(3, .bool near), (4, .int .i64 at'), (5, .int .i64 to), (13, .slice oa c.length c.length), (14, .slice xa xl.length xl.length), (15, .int .i64 xe), (16, .slice ya xl.length xl.length), (17, .int .i64 xe), (18, .slice (some ⟨b3, 0, none⟩) b8.length b8.length)]) (meth m3 b3 ⟨_, o3, k3⟩) ⟨by rfl, by rfl, by rfl, by rfl, by rfl, by rfl, by rfl, by rfl, by simp [lget], trivial⟩
  rintro mY rb ⟨rf, oY, kY⟩
  apply cut3_ (fun (mZ : Mem) (rb : Nat) (raw : List UInt8) => ∃ rest rf, Own mZ rb (bc raw ++ rest) 5 rf ∧ Keeps m5 mZ [] ∧ raw.length ≤ 1048576)
  case main =>
    by_cases hn : near = true
    · by_cases hy : xl.length = 0
      · intro meth
        obtain ⟨mX, hmX⟩ : ∃ mX, mY = mX := ⟨_, rfl⟩
        obtain ⟨rX, hrX⟩ : ∃ rX, rb = rX := ⟨_, rfl⟩
        obtain ⟨raw, hraw⟩ : ∃ raw, b8 = raw := ⟨_, rfl⟩
        have fin := meth mX rX raw ⟨[], rf, by rw [← hmX, ← hrX, ← hraw]; simpa using oY, by rw [← hmX]; exact kY, by rw [← hraw]; exact hbl⟩
        simp [-Int.natCast_add, -w5_10, -BitVec.toNat_or, -BitVec.toNat_ofInt, -BitVec.toNat_and, buildSlice_of u22 bs52 rfl, append_s u22 sz52, buildSlice_of u48 bs5 rfl, append_s u48 sz5, len_slice u48, conv_i u3 u5, index_slice u48 sz5, store_of sz5, slice_sl u48 sz5, conv_bytes u48 u5 u9, bin_bool u4 .eql (Or.inl rfl), hn, hy, hmX]
        exact w_sub (E := [(13, .slice oa c.length c.length), (14, .slice xa xl.length xl.length), (15, .int .i64 xe), (16, .slice ya xl.length xl.length), (17, .int .i64 xe), (18, .slice (some ⟨rX, 0, none⟩) raw.length raw.length)]) fin ⟨by simp [lget, hy, hrX, hraw], by simp [lget, hy, hrX, hraw], by simp [lget, hy, hrX, hraw], by simp [lget, hy, hrX, hraw], by simp [lget, hy, hrX, hraw], by simp [lget, hy, hrX, hraw], trivial⟩
      · have hy1 : 0 < xl.length := by omega
        have hy2 : (0 : Int) < xl.length := by omega
        obtain ⟨yb, hya, oy⟩ := (sy.rs.keep kY (by simp)).rdo hy
        obtain ⟨on, kn, nn⟩ := new_own (m := mY) (cs := []) (e := 5) rfl
        have lc := ((oy.keep kn (by simp)).load (off := 0) xl.length (by simp))
        have wc : window (bc xl) 0 xl.length = bc xl := by
          simp only [window, List.drop_zero]
          exact List.take_of_length_le (by simp)
        rw [wc] at lc
        obtain ⟨p, hp⟩ : ∃ p : Nat, at' % (xl.length : Int) = (p : Int) := ⟨(at' % (xl.length : Int)).toNat, by have := Int.emod_nonneg at' (by omega : (xl.length : Int) ≠ 0); omega⟩
        have hp2 : p < xl.length := by have := Int.emod_lt_of_pos at' hy2; omega
        have pk := fun m' => pick_run (m := m') hP at' xl.length (by omega) (by omega)
        have em : (p : Int) ≤ 9223372036854775807 := by omega
        have hp3 : p ≤ xl.length := by omega
        rw [hp] at pk
        have go : ∀ (r : Option (Value × Mem)), sappend Tryd.prog 48 (mY.new [] 5) (.slice (some ⟨mY.next, 0, none⟩) 0 0) (bc xl) xl.length = r → ∃ (m3 m4 : Mem) (b3 : Nat) (f3 : Nat), r = some (.slice (some ⟨b3, 0, none⟩) xl.length xl.length, m3) ∧ storeRow m3 ⟨b3, p, none⟩ [.int .u8 ((u8 to).toNat : Int)] = some m4 ∧ Own m4 b3 (bc (xl.set p (u8 to))) 5 f3 ∧ Keeps m5 m4 [] := by
          intro r hr
          obtain ⟨m3, b3, h3, o3, k3⟩ := copy_run (news := bc xl) hr u48 ap5 (by simp) (by simp [one_int]) (by omega) (by omega)
          obtain ⟨m4, e4, o4, k4⟩ := store_own (r := _) rfl o3 (off := p) (vs := [.int .u8 ((u8 to).toNat : Int)]) (by simp; omega) (by simp [one_int])
          rw [bc_set hp2] at o4
          exact ⟨m3, m4, b3, _, h3, e4, o4, (kY.trans k3).fresh k4 (by simp; have := kY.1; omega)⟩
        by_cases ht : to.tmod 9 = 8
        · intro meth
          simp [-Int.natCast_add, -w5_10, -BitVec.toNat_or, -BitVec.toNat_ofInt, -BitVec.toNat_and, buildSlice_of u22 bs52 rfl, append_s u22 sz52, buildSlice_of u48 bs5 rfl, append_s u48 sz5, len_slice u48, conv_i u3 u5, index_slice u48 sz5, store_of sz5, slice_sl u48 sz5, conv_bytes u48 u5 u9, bin_bool u4 .eql (Or.inl rfl), hn, hy, hy1, hy2, hya, lc]
          generalize hra : sappend _ _ _ _ _ _ = ra
          obtain ⟨m3, m4, b3, f3, rfl, e4, o4, k4⟩ := go ra hra
          obtain ⟨mX, hmX⟩ : ∃ mX, m4 = mX := ⟨_, rfl⟩
          obtain ⟨rX, hrX⟩ : ∃ rX, b3 = rX := ⟨_, rfl⟩
          obtain ⟨raw, hraw⟩ : ∃ raw, (xl.set p (u8 to)).take p = raw := ⟨_, rfl⟩
          have hrl2 : p = raw.length := by rw [← hraw]; simp; omega
          have fin := meth mX rX raw ⟨bc ((xl.set p (u8 to)).drop p), f3, by rw [← hmX, ← hrX, ← hraw, ← bc_cut]; exact o4, by rw [← hmX]; exact k4, by omega⟩
          simp [-Int.natCast_add, -w5_10, -BitVec.toNat_or, -BitVec.toNat_ofInt, -BitVec.toNat_and, buildSlice_of u22 bs52 rfl, append_s u22 sz52, buildSlice_of u48 bs5 rfl, append_s u48 sz5, len_slice u48, conv_i u3 u5, index_slice u48 sz5, store_of sz5, slice_sl u48 sz5, conv_bytes u48 u5 u9, bin_bool u4 .eql (Or.inl rfl), pk, em, hp2, hp3, u8_wrap, e4, ht, hmX]
          exact w_sub (E := [(13, .slice oa c.length c.length), (14, .slice xa xl.length xl.length), (15, .int .i64 xe), (16, .slice ya xl.length xl.length), (17, .int .i64 xe), (18, .slice (some ⟨rX, 0, none⟩) raw.length raw.length)]) fin ⟨by simp [lget, hya, hrX, hrl2], by simp [lget, hya, hrX, hrl2], by simp [lget, hya, hrX, hrl2], by simp [lget, hya, hrX, hrl2], by simp [lget, hya, hrX, hrl2], by simp [lget, hya, hrX, hrl2], trivial⟩
        · intro meth
          simp [-Int.natCast_add, -w5_10, -BitVec.toNat_or, -BitVec.toNat_ofInt, -BitVec.toNat_and, buildSlice_of u22 bs52 rfl, append_s u22 sz52, buildSlice_of u48 bs5 rfl, append_s u48 sz5, len_slice u48, conv_i u3 u5, index_slice u48 sz5, store_of sz5, slice_sl u48 sz5, conv_bytes u48 u5 u9, bin_bool u4 .eql (Or.inl rfl), hn, hy, hy1, hy2, hya, lc]
          generalize hra : sappend _ _ _ _ _ _ = ra
          obtain ⟨m3, m4, b3, f3, rfl, e4, o4, k4⟩ := go ra hra
          obtain ⟨mX, hmX⟩ : ∃ mX, m4 = mX := ⟨_, rfl⟩
          obtain ⟨rX, hrX⟩ : ∃ rX, b3 = rX := ⟨_, rfl⟩
          obtain ⟨raw, hraw⟩ : ∃ raw, xl.set p (u8 to) = raw := ⟨_, rfl⟩
          have hrl2 : xl.length = raw.length := by rw [← hraw]; simp
          have fin := meth mX rX raw ⟨[], f3, by rw [← hmX, ← hrX, ← hraw]; simpa using o4, by rw [← hmX]; exact k4, by omega⟩
          simp [-Int.natCast_add, -w5_10, -BitVec.toNat_or, -BitVec.toNat_ofInt, -BitVec.toNat_and, buildSlice_of u22 bs52 rfl, append_s u22 sz52, buildSlice_of u48 bs5 rfl, append_s u48 sz5, len_slice u48, conv_i u3 u5, index_slice u48 sz5, store_of sz5, slice_sl u48 sz5, conv_bytes u48 u5 u9, bin_bool u4 .eql (Or.inl rfl), pk, em, hp2, hp3, u8_wrap, e4, ht, hmX]
          exact w_sub (E := [(13, .slice oa c.length c.length), (14, .slice xa xl.length xl.length), (15, .int .i64 xe), (16, .slice ya xl.length xl.length), (17, .int .i64 xe), (18, .slice (some ⟨rX, 0, none⟩) raw.length raw.length)]) fin ⟨by simp [lget, hya, hrX, hrl2], by simp [lget, hya, hrX, hrl2], by simp [lget, hya, hrX, hrl2], by simp [lget, hya, hrX, hrl2], by simp [lget, hya, hrX, hrl2], by simp [lget, hya, hrX, hrl2], trivial⟩
    · have hnf : near = false := by simpa using hn
      intro meth
      obtain ⟨mX, hmX⟩ : ∃ mX, mY = mX := ⟨_, rfl⟩
      obtain ⟨rX, hrX⟩ : ∃ rX, rb = rX := ⟨_, rfl⟩
      obtain ⟨raw, hraw⟩ : ∃ raw, b8 = raw := ⟨_, rfl⟩
      have fin := meth mX rX raw ⟨[], rf, by rw [← hmX, ← hrX, ← hraw]; simpa using oY, by rw [← hmX]; exact kY, by rw [← hraw]; exact hbl⟩
      simp [-Int.natCast_add, -w5_10, -BitVec.toNat_or, -BitVec.toNat_ofInt, -BitVec.toNat_and, buildSlice_of u22 bs52 rfl, append_s u22 sz52, buildSlice_of u48 bs5 rfl, append_s u48 sz5, len_slice u48, conv_i u3 u5, index_slice u48 sz5, store_of sz5, slice_sl u48 sz5, conv_bytes u48 u5 u9, bin_bool u4 .eql (Or.inl rfl), hnf, hmX]
      exact w_sub (E := [(13, .slice oa c.length c.length), (14, .slice xa xl.length xl.length), (15, .int .i64 xe), (16, .slice ya xl.length xl.length), (17, .int .i64 xe), (18, .slice (some ⟨rX, 0, none⟩) raw.length raw.length)]) fin ⟨by simp [lget, hrX, hraw], by simp [lget, hrX, hraw], by simp [lget, hrX, hraw], by simp [lget, hrX, hraw], by simp [lget, hrX, hraw], by simp [lget, hrX, hraw], trivial⟩
  rintro mZ rb raw ⟨rest, rf, oZ, kZ, hrl⟩
  obtain ⟨ul, hul⟩ : ∃ ul, (decP raw).1 = ul := ⟨_, rfl⟩
  obtain ⟨ue, hue⟩ : ∃ ue, (decP raw).2 = ue := ⟨_, rfl⟩
  have hull := dec_len raw
  rw [hul] at hull
  apply cut3_ (fun (mX : Mem) (ua : Option Addr) (uf : Nat) => Sl mX ua ul.length (icv ul) 52 5 uf ∧ Keeps mZ mX [])
  case main =>
    obtain ⟨on, kn, nn⟩ := new_own (m := mZ) (cs := []) (e := 5) rfl
    have go : ∀ (k : Nat) (r : Option (Value × Mem)), k = raw.length → sappend Tryd.prog 48 (mZ.new [] 5) (.slice (some ⟨mZ.next, 0, none⟩) 0 0) (bc raw) k = r → ∃ (m3 m4 : Mem) (b3 : Nat) (ua : Option Addr) (uf : Nat), r = some (.slice (some ⟨b3, 0, none⟩) k k, m3) ∧ callw Tryd.prog TT S 18 [.slice (some ⟨b3, 0, none⟩) k k] m3 = some (.tuple #[.slice ua ul.length ul.length, .int .i64 ue], m4) ∧ Sl m4 ua ul.length (icv ul) 52 5 uf ∧ Keeps mZ m4 [] := by
      rintro _ r rfl hr
      obtain ⟨m3, b3, h3, o3, k3⟩ := copy_run (news := bc raw) hr u48 ap5 (by simp) (by simp [one_int]) (by omega) (by omega)
      obtain ⟨v4, m4, c4, ⟨ua, uf, rfl, su, _⟩, k4⟩ := dec_run (m := m3) hN hD (Sl.of o3 (by simp)).rs (by omega)
      rw [hul, hue] at c4
      rw [hul] at su
      exact ⟨m3, m4, b3, ua, uf, h3, c4, su, k3.trans k4⟩
    by_cases hz : raw.length = 0
    · have hcn : bc raw = [] := by rw [List.length_eq_zero_iff.1 hz]; rfl
      intro meth
      simp [-Int.natCast_add, -w5_11, -BitVec.toNat_or, -BitVec.toNat_ofInt, -BitVec.toNat_and, buildSlice_of u22 bs52 rfl, append_s u22 sz52, buildSlice_of u48 bs5 rfl, append_s u48 sz5, len_slice u48, conv_i u3 u5, index_slice u48 sz5, store_of sz5, slice_sl u48 sz5, conv_bytes u48 u5 u9, bin_bool u4 .eql (Or.inl rfl), hz]
      generalize hra : sappend _ _ _ _ _ _ = ra
      obtain ⟨m3, m4, b3, ua, uf, rfl, c4, su, kx⟩ := go 0 ra hz.symm (by rw [hcn]; exact hra)
      simp [-Int.natCast_add, -w5_11, -BitVec.toNat_or, -BitVec.toNat_ofInt, -BitVec.toNat_and, buildSlice_of u22 bs52 rfl, append_s u22 sz52, buildSlice_of u48 bs5 rfl, append_s u48 sz5, len_slice u48, conv_i u3 u5, index_slice u48 sz5, store_of sz5, slice_sl u48 sz5, conv_bytes u48 u5 u9, bin_bool u4 .eql (Or.inl rfl), c4]
      exact w_sub (E := [(13, .slice oa c.length c.length), (14, .slice xa xl.length xl.length), (15, .int .i64 xe), (16, .slice ya xl.length xl.length), (17, .int .i64 xe), (18, .slice (some ⟨rb, 0, none⟩) raw.length raw.length), (19, .slice ua ul.length ul.length), (20, .int .i64 ue)]) (meth m4 ua uf ⟨su, kx⟩) ⟨by simp [lget, hz], by simp [lget, hz], by simp [lget, hz], by simp [lget, hz], by simp [lget, hz], by simp [lget, hz], by simp [lget, hz], by simp [lget, hz], trivial⟩
    · intro meth
      have lc := sl_load (m := mZ.new [] 5) (n := raw.length) (z := 1) (oZ.keep kn (by simp)) (by simp)
      rw [Nat.mul_one] at lc
      simp [-Int.natCast_add, -w5_11, -BitVec.toNat_or, -BitVec.toNat_ofInt, -BitVec.toNat_and, buildSlice_of u22 bs52 rfl, append_s u22 sz52, buildSlice_of u48 bs5 rfl, append_s u48 sz5, len_slice u48, conv_i u3 u5, index_slice u48 sz5, store_of sz5, slice_sl u48 sz5, conv_bytes u48 u5 u9, bin_bool u4 .eql (Or.inl rfl), hz, lc]
      generalize hra : sappend _ _ _ _ _ _ = ra
      obtain ⟨m3, m4, b3, ua, uf, rfl, c4, su, kx⟩ := go _ ra rfl hra
      simp [-Int.natCast_add, -w5_11, -BitVec.toNat_or, -BitVec.toNat_ofInt, -BitVec.toNat_and, buildSlice_of u22 bs52 rfl, append_s u22 sz52, buildSlice_of u48 bs5 rfl, append_s u48 sz5, len_slice u48, conv_i u3 u5, index_slice u48 sz5, store_of sz5, slice_sl u48 sz5, conv_bytes u48 u5 u9, bin_bool u4 .eql (Or.inl rfl), c4]
      exact w_sub (E := [(13, .slice oa c.length c.length), (14, .slice xa xl.length xl.length), (15, .int .i64 xe), (16, .slice ya xl.length xl.length), (17, .int .i64 xe), (18, .slice (some ⟨rb, 0, none⟩) raw.length raw.length), (19, .slice ua ul.length ul.length), (20, .int .i64 ue)]) (meth m4 ua uf ⟨su, kx⟩) ⟨by simp [lget], by simp [lget], by simp [lget], by simp [lget], by simp [lget], by simp [lget], by simp [lget], by simp [lget], trivial⟩
  rintro mD ua uf ⟨su, kD⟩
  obtain ⟨v6, m6, c6, ⟨va, vf, rfl, sv, _⟩, k6⟩ := rdec_run (m := mD) (lo := some ⟨rb, 0, none⟩) (l := raw) (lf := rf) hN hD2 (fun _ => ⟨rb, rest, rfl, (oZ.keep kD (by simp)).rdo⟩) hrl
  rw [hul, hue] at c6
  rw [hul] at sv
  have kz6 := (kZ.trans kD).trans k6
  have sx6 := bToS_sl (sx5.keepz kz6 (by simp))
  have sy6 := bToS_sl (sy.keepz kz6 (by simp))
  have sc6 := s1.keepz (kc5.trans kz6) (by simp)
  obtain ⟨_, m7, c7, ⟨q7, rfl, hq7⟩, k7⟩ := Right_run (m := m6) hN sc6.rs (by omega)
  obtain ⟨_, m8, c8, ⟨q8, rfl, hq8⟩, k8⟩ := code_run (m := m7) hN (sc6.keepz k7 (by simp)).rs (by omega)
  have su8 := ((su.keepz k6 (by simp)).keepz k7 (by simp)).keepz k8 (by simp)
  have sv8 := (sv.keepz k7 (by simp)).keepz k8 (by simp)
  obtain ⟨q9, c9, hq9⟩ := same_run (m := m8) hSa su8.rs sv8.rs (by omega) (by omega)
  have h9 := hq9.2 rfl
  subst h9
  have h78 : q7 = q8 := by
    cases q7 <;> cases q8 <;> simp at hq7 hq8 ⊢
    · exact hq7 hq8
    · exact hq8 hq7
  subst h78
  simp [-Int.natCast_add, -BitVec.toNat_or, -BitVec.toNat_ofInt, -BitVec.toNat_and, buildSlice_of u22 bs52 rfl, append_s u22 sz52, buildSlice_of u48 bs5 rfl, append_s u48 sz5, len_slice u48, conv_i u3 u5, index_slice u48 sz5, store_of sz5, slice_sl u48 sz5, conv_bytes u48 u5 u9, bin_bool u4 .eql (Or.inl rfl), c6, hkn, sx6, sy6, c7, c8, c9]

/- the row -/
open Go.ChangeShapes Go.WideShapes Go.ChangeAt Go.RowKit
theorem own : ownKnob Tryd.prog.godebug = none := by kernel_rfl
theorem tab : Sh.tabCheck Tryd.prog fns = true := by kernel_rfl
def tables : List (Nat × List Value) := []
theorem startT (w : World) (h : laidMetH Tryd.prog Rows.machineCodesUptoRow.laid w) : MRel Tryd.prog (inj0 Tryd.prog) (memG Tryd.prog tables) (allF w) w w := by
  refine memG_rel Tryd.prog w tables fun p hp => ?_
  simp only [tables, List.mem_cons, List.not_mem_nil, or_false] at hp

theorem walk (w : World) (hL : laidMetH Tryd.prog Rows.machineCodesUptoRow.laid w) {v0 : Value} (h0 : DatArg Tryd.prog w (Ty.slice 52 (Ty.pair (Ty.int .i64) (Ty.pair (Ty.int .i64) (Ty.pair (Ty.int .i64) (Ty.pair (Ty.int .i64) (Ty.pair (Ty.int .i64) Ty.unit)))))) v0) (x1 : Bool) {v2 : Value} (h2 : RowArg Tryd.prog w (fun n : Int => [Value.int .u8 n]) (fun n => (Lit.int .u8 n).wf = true) 5 1 v2) (hs2 : LenLe v2) (x3 : Bool) (x4 : Int) (hx4 : (Lit.int .i64 x4).wf = true) (x5 : Int) (hx5 : (Lit.int .i64 x5).wf = true) :
    Calls Tryd.prog 5 #[v0, .bool x1, v2, .bool x3, .int .i64 x4, .int .i64 x5] w fun e w' => e = .returned (.bool true) ∧ Below w.heap.size w w' := by
  have hM := startT w hL
  obtain ⟨rs0, J0, m0, cs0, hw0, le0, hM0, vr0, hr0, hk0⟩ := h0 _ _ hM
  obtain ⟨rs2, J2, m2, ao2, fr2, le2, hM2, vr2, hr2, hg2, hl2, hk2, hz2, hw2⟩ := row_in hM0 sz5 (by omega) (fun _ => rfl) h2
  have hz2 : rs2.length ≤ 1048576 := by
    cases ao2 with
    | none =>
      rcases hr2.2 with h0 | ⟨_, h0, _⟩
      · omega
      · cases h0
    | some a => obtain ⟨_, _, _, _, e, _⟩ := vr2.wslice_inv; exact hs2 _ _ _ e
  obtain ⟨v', m', h, rfl⟩ := law_run (S := sums) (m := m2) rfl rfl ⟨rfl, rfl, rfl, rfl, rfl, rfl, rfl, rfl⟩ rfl rfl rfl rfl rfl rfl rfl hw0 (hr0.keep hk2) x1 hr2 hl2 hz2 hw2 x3 hx4 hx5
  exact calls_of mixed (Sh.tab_ok tab) sumsOk Tryd.func5 (by kernel_rfl) h rfl hM2 (.cons (vr0.mono le2) (.cons (.clo _ rfl) (.cons vr2 (.cons (.clo _ rfl) (.cons (.clo _ rfl) (.cons (.clo _ rfl) LRel.nil))))))

theorem laidOut : laidOutB Tryd.prog = true := by kernel_rfl
theorem trodAll_many {H : Type} {enc : TypeId × Value → H} {P : Program} {w : World} {base : Nat} {spare : Nat → Bool} {held : Bool} {y0 y1 y2 y3 y4 y5 : TypeId} {args : Array Value} {ds : List (DataW H)} {ps : List MemPlace} (h : DataW.TrodAll enc P w base spare held [y0, y1, y2, y3, y4, y5] args.toList ds ps) :
    ∃ v0 v1 v2 v3 v4 v5 d0 d1 d2 d3 d4 d5 p0 p1 p2 p3 p4 p5, args = #[v0, v1, v2, v3, v4, v5] ∧ ds = [d0, d1, d2, d3, d4, d5] ∧ ps = p0 ++ p1 ++ p2 ++ p3 ++ p4 ++ p5 ∧ DataW.Trod enc P w base spare held y0 v0 d0 p0 ∧ DataW.Trod enc P w base spare held y1 v1 d1 p1 ∧ DataW.Trod enc P w base spare held y2 v2 d2 p2 ∧ DataW.Trod enc P w base spare held y3 v3 d3 p3 ∧ DataW.Trod enc P w base spare held y4 v4 d4 p4 ∧ DataW.Trod enc P w base spare held y5 v5 d5 p5 := by
  obtain ⟨v0, vs0, d0, es0, p0, q0, hargs, rfl, rfl, a0, b0⟩ := trodAll_cons h
  obtain ⟨v1, vs1, d1, es1, p1, q1, rfl, rfl, rfl, a1, b1⟩ := trodAll_cons b0
  obtain ⟨v2, vs2, d2, es2, p2, q2, rfl, rfl, rfl, a2, b2⟩ := trodAll_cons b1
  obtain ⟨v3, vs3, d3, es3, p3, q3, rfl, rfl, rfl, a3, b3⟩ := trodAll_cons b2
  obtain ⟨v4, vs4, d4, es4, p4, q4, rfl, rfl, rfl, a4, b4⟩ := trodAll_cons b3
  obtain ⟨v5, vs5, d5, es5, p5, q5, rfl, rfl, rfl, a5, b5⟩ := trodAll_cons b4
  obtain ⟨rfl, rfl, rfl⟩ := trodAll_nil b5
  exact ⟨v0, v1, v2, v3, v4, v5, d0, d1, d2, d3, d4, d5, p0, p1, p2, p3, p4, p5, by cases args; simp_all, rfl, by simp, a0, a1, a2, a3, a4, a5⟩
theorem trodAll_mkmany {H : Type} {enc : TypeId × Value → H} {P : Program} {w : World} {base : Nat} {spare : Nat → Bool} {held : Bool} {y0 y1 y2 y3 y4 y5 : TypeId} {v0 v1 v2 v3 v4 v5 : Value} {d0 d1 d2 d3 d4 d5 : DataW H} {p0 p1 p2 p3 p4 p5 : List MemPlace} (a0 : DataW.Trod enc P w base spare held y0 v0 d0 p0) (a1 : DataW.Trod enc P w base spare held y1 v1 d1 p1) (a2 : DataW.Trod enc P w base spare held y2 v2 d2 p2) (a3 : DataW.Trod enc P w base spare held y3 v3 d3 p3) (a4 : DataW.Trod enc P w base spare held y4 v4 d4 p4) (a5 : DataW.Trod enc P w base spare held y5 v5 d5 p5) : DataW.TrodAll enc P w base spare held [y0, y1, y2, y3, y4, y5] [v0, v1, v2, v3, v4, v5] [d0, d1, d2, d3, d4, d5] (p0 ++ (p1 ++ (p2 ++ (p3 ++ (p4 ++ (p5 ++ [])))))) := (trodAll_cons_mk a0 (trodAll_cons_mk a1 (trodAll_cons_mk a2 (trodAll_cons_mk a3 (trodAll_cons_mk a4 (trodAll_cons_mk a5 trodAll_mk0))))))

theorem contract (H : Type) (enc : TypeId × Value → H) (W : World) (base : Nat) (args : Array Value) (ds gs : List (DataW H)) (before : List MemPlace)
    (hval : ∀ (j : Nat) t v, Tryd.f5.params[j]? = some t → args[j]? = some v → Value.okWide Tryd.prog W .any base t v)
    (hW : DataW.Whole enc Tryd.prog Tryd.f5.params.toList Rows.machineCodesSpec.vars false W args.toList ds gs before) (hcd : Rows.uptoSmall H (ds ++ gs) = true) (hL : laidMetH Tryd.prog Rows.machineCodesUptoRow.laid W) :
    Calls Tryd.prog 5 args W fun e W' => ∃ v, e = .returned v ∧ Rows.machineCodesSpec.post enc Tryd.prog Tryd.f5 false true false false W args v W' := by
  have hW' := hW
  obtain ⟨p, q, hA0, hV, rfl, hfz, hnd⟩ := hW
  have hA : DataW.TrodAll enc Tryd.prog W 0 (fun _ => true) true Tryd.f5.params.toList args.toList ds p := hA0
  rw [Tryd.params5] at hA hval
  obtain ⟨v0, v1, v2, v3, v4, v5, d0, d1, d2, d3, d4, d5, p0, p1, p2, p3, p4, p5, rfl, rfl, rfl, t0, t1, t2, t3, t4, t5⟩ := trodAll_many hA
  obtain ⟨rfl, rfl⟩ := trodVars_none hV
  simp only [List.cons_append, List.nil_append, List.append_nil, Rows.uptoSmall, Rows.uptoBulkAll, decide_eq_true_eq] at hcd
  have hv0 := dat_arg (ty := (Ty.slice 52 (Ty.pair (Ty.int .i64) (Ty.pair (Ty.int .i64) (Ty.pair (Ty.int .i64) (Ty.pair (Ty.int .i64) (Ty.pair (Ty.int .i64) Ty.unit))))))) (t := 22) (by kernel_rfl) (hval 0 _ _ rfl rfl) t0
  obtain ⟨x1, rfl, rfl, rfl⟩ := open_bool u4 (hval 1 _ _ rfl rfl) t1
  have hv2 := ints_row u48 u5 sz5 (hval 2 _ _ rfl rfl) t2
  have hs2 : LenLe v2 := len_up u48 u5 (by kernel_rfl) (hval 2 _ _ rfl rfl) t2 (by omega)
  obtain ⟨x3, rfl, rfl, rfl⟩ := open_bool u4 (hval 3 _ _ rfl rfl) t3
  obtain ⟨x4, rfl, rfl, rfl, hx4⟩ := open_int u3 (hval 4 _ _ rfl rfl) t4
  obtain ⟨x5, rfl, rfl, rfl, hx5⟩ := open_int u3 (hval 5 _ _ rfl rfl) t5
  clear hA0
  simp only [List.append_nil, List.nil_append] at hW'
  refine (walk W hL hv0 x1 hv2 hs2 x3 x4 hx4 x5 hx5).mono fun e W' ⟨he, hg⟩ => ?_
  subst he
  have hlt0 : ∀ z ∈ p0, z.block < W.heap.size := fun z hz => hW'.lt z (by simp [hz])
  have hlt2 : ∀ z ∈ p2, z.block < W.heap.size := fun z hz => hW'.lt z (by simp [hz])
  exact ⟨_, rfl, Sh.law_post (pa := (p0 ++ ([] ++ (p2 ++ ([] ++ ([] ++ ([] ++ []))))))) (pv := []) hW' hg (by simp) (fun sp hsp => trodAll_mkmany (WideElems.Trod_stays laidOut (by kernel_rfl) (of_decide_eq_true (by kernel_rfl)) t0 (fun z hz => hg.same (hlt0 z hz)) (fun z hz => hsp z (by simp [hz]))) (shut_bool u4 _) (WideElems.Trod_stays laidOut (by kernel_rfl) (of_decide_eq_true (by kernel_rfl)) t2 (fun z hz => hg.same (hlt2 z hz)) (fun z hz => hsp z (by simp [hz]))) (shut_bool u4 _) (shut_int u3 hx4) (shut_int u3 hx5)) (fun _ _ => rfl) (fun _ _ _ => (trodAll_cons_mk (shut_bool u4 _) trodAll_mk0))
    (ok_one (by kernel_rfl) rfl (okWide_bool_mk u4 _))⟩
/-- A world for the witness: the settled one, the listed variables holding what is laid. -/
noncomputable def laidWorld (os : Os) : World :=
  { World.holding Tryd.prog os ⟨#[], #[], []⟩ with heap := (((World.holding Tryd.prog os ⟨#[], #[], []⟩).heap).modify 2 (Sh.laidBlock (Rows.laid_unicode_utf8_acceptRanges : DataW Unit))).modify 1 (Sh.laidBlock (Rows.laid_unicode_utf8_first : DataW Unit)) }
theorem laid_met (os : Os) : laidMet Tryd.prog Rows.machineCodesUptoRow.laid ((laidWorld os).forCall (fun _ _ => 0) ⟨#[], #[(tyVal (Ty.slice 52 (Ty.pair (Ty.int .i64) (Ty.pair (Ty.int .i64) (Ty.pair (Ty.int .i64) (Ty.pair (Ty.int .i64) (Ty.pair (Ty.int .i64) Ty.unit)))))) ((Ty.slice 52 (Ty.pair (Ty.int .i64) (Ty.pair (Ty.int .i64) (Ty.pair (Ty.int .i64) (Ty.pair (Ty.int .i64) (Ty.pair (Ty.int .i64) Ty.unit))))))).zeros), .bool false, .slice none 0 0, .bool false, .int .i64 0, .int .i64 0], []⟩).memory :=
  laidMet_of_run' 8 (by kernel_rfl) (by kernel_rfl)
theorem reads (os : Os) {H : Type} (enc : TypeId × Value → H) : ∃ places, DataW.whole enc Tryd.prog ((laidWorld os).forCall (fun _ _ => 0) ⟨#[], #[(tyVal (Ty.slice 52 (Ty.pair (Ty.int .i64) (Ty.pair (Ty.int .i64) (Ty.pair (Ty.int .i64) (Ty.pair (Ty.int .i64) (Ty.pair (Ty.int .i64) Ty.unit)))))) ((Ty.slice 52 (Ty.pair (Ty.int .i64) (Ty.pair (Ty.int .i64) (Ty.pair (Ty.int .i64) (Ty.pair (Ty.int .i64) (Ty.pair (Ty.int .i64) Ty.unit))))))).zeros), .bool false, .slice none 0 0, .bool false, .int .i64 0, .int .i64 0], []⟩).memory Tryd.f5.params.toList Rows.machineCodesSpec.vars false (#[(tyVal (Ty.slice 52 (Ty.pair (Ty.int .i64) (Ty.pair (Ty.int .i64) (Ty.pair (Ty.int .i64) (Ty.pair (Ty.int .i64) (Ty.pair (Ty.int .i64) Ty.unit)))))) ((Ty.slice 52 (Ty.pair (Ty.int .i64) (Ty.pair (Ty.int .i64) (Ty.pair (Ty.int .i64) (Ty.pair (Ty.int .i64) (Ty.pair (Ty.int .i64) Ty.unit))))))).zeros), .bool false, .slice none 0 0, .bool false, .int .i64 0, .int .i64 0] : Array Value).toList 8 = some ([(((Ty.slice 52 (Ty.pair (Ty.int .i64) (Ty.pair (Ty.int .i64) (Ty.pair (Ty.int .i64) (Ty.pair (Ty.int .i64) (Ty.pair (Ty.int .i64) Ty.unit))))))).zdata), .lit (.bool false), .nil, .lit (.bool false), .lit (.int .i64 0), .lit (.int .i64 0)], [], places) :=
  ⟨[], by kernel_rfl⟩

theorem lifted (os : Os) (started : os.Started) (H : Type) (enc : TypeId × Value → H) (F : Stop.Interp) :
    ReturnsInHanded {} Tryd.checked os 5 .any ((Rows.OpenSpec.upto Rows.machineCodesSpec).preRow enc Tryd.prog Tryd.f5 Rows.machineCodesUptoRow.domain false Rows.machineCodesUptoRow.laid) (((Rows.OpenSpec.upto Rows.machineCodesSpec).at F).post enc Tryd.prog Tryd.f5 false true false false) := by
  obtain ⟨places, hx⟩ := reads os enc
  refine returnsInHanded_of_row (C := Tryd.checked) (s := Rows.OpenSpec.upto Rows.machineCodesSpec) own started (by kernel_rfl) Tryd.func5
    (witness_row_at (enc := enc) (C := Tryd.checked) false (laidWorld os) #[(tyVal (Ty.slice 52 (Ty.pair (Ty.int .i64) (Ty.pair (Ty.int .i64) (Ty.pair (Ty.int .i64) (Ty.pair (Ty.int .i64) (Ty.pair (Ty.int .i64) Ty.unit)))))) ((Ty.slice 52 (Ty.pair (Ty.int .i64) (Ty.pair (Ty.int .i64) (Ty.pair (Ty.int .i64) (Ty.pair (Ty.int .i64) (Ty.pair (Ty.int .i64) Ty.unit))))))).zeros), .bool false, .slice none 0 0, .bool false, .int .i64 0, .int .i64 0] rfl (by kernel_rfl) (by kernel_rfl) (by kernel_rfl)
      (OpenSpec.preRow_of_cond 8 hx (by kernel_rfl) (fun k hk => by cases hk; rfl) (by kernel_rfl) (laid_met os))) ?_
  intro W base args ds gs before hval hW _ hcd hwt hL _ _
  exact contract H enc W base args ds gs before hval hW (hcd _ rfl) hL

theorem said : Rows.MachineCodesUptoSaid :=
  OpenClaim.holds_of_cond 5 Tryd.f5 rfl rfl rfl rfl rfl rfl rfl ⟨rfl, rfl, rfl, rfl, rfl⟩ rfl rfl rfl rfl rfl (by kernel_rfl) Tryd.func5 (by kernel_rfl)
    (of_decide_eq_true (by kernel_rfl)) (by unfold Func.isWrapper; first | (rw [if_pos (by decide +kernel)]; kernel_rfl) | (rw [if_neg (by decide +kernel)]; exact ⟨rfl, rfl⟩))
    (fun os started H enc _ F => by rw [OpenClaim.pre_eq_preRow]; exact lifted os started H enc F)

theorem plain (f : FuncId) (fn : Func) (hf : Tryd.pinned.checked.prog.funcNamed "turnstone/turnstonelaw25.MachineCodes" = some f) (hfn : Tryd.pinned.checked.prog.funcs[f]? = some fn) :
    false = Tryd.pinned.checked.prog.looks [] ∧ ∀ (j : Nat) t, fn.params[j]? = some t → Tryd.pinned.checked.prog.wantsStandIn t = false := by
  obtain rfl : f = 5 := Option.some.inj ((show Tryd.prog.funcNamed "turnstone/turnstonelaw25.MachineCodes" = some 5 by kernel_rfl).symm.trans hf) |>.symm
  obtain rfl : fn = Tryd.f5 := (Option.some.inj (Tryd.func5.symm.trans hfn)).symm
  refine ⟨by kernel_rfl, fun j t ht => ?_⟩
  rw [Tryd.params5] at ht
  rcases j with _ | _ | _ | _ | _ | _ | _
  all_goals first
    | (simp at ht; done)
    | (obtain rfl := Option.some.inj ht; kernel_rfl)
    | (simp at ht; subst ht; kernel_rfl)

theorem proved : Rows.MachineCodesUptoCardSaid :=
  Claim7.holds_tied_plain_at .later [] _ _ _ _ said (fun _ h => by cases h) (by kernel_rfl) (fun _ h => by cases h) machineCodesUpto_row_tie rfl ⟨rfl, rfl⟩ (by kernel_rfl) rfl plain (by kernel_rfl)
#print axioms proved
end Go.Proofs.YtkcehgajpalgnaaDoor.machineCodes

