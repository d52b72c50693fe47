/-
  This text proves what strings.Builder's methods do over the abstract run.
  Condition: nothing is known of the calls ahead ('S f = []').
-/
import Derived.Test.YtbhnojbkinbomaaDoorCodD
set_option maxRecDepth 100000
set_option linter.unusedSimpArgs false
set_option linter.unusedVariables false
namespace Go.Proofs.YtbhnojbkinbomaaDoor.base
open Go.Sh gen
variable {S : Sums} {m : Mem}
theorem add_short (a b : List UInt8) (h : a.length + b.length ≤ 9223372036854775807) : strOp .add ⟨a.toArray⟩ ⟨b.toArray⟩ = some (.string ⟨(a ++ b).toArray⟩) := by
  simp only [strOp, sz_str, cat_str]
  rw [if_pos (by omega)]
theorem fold_k (k : Nat) (cs : Array Value) (v : Value) : Array.foldl (fun (cs : Array Value) (x : Value × Nat) => cs.setIfInBounds (k + x.snd) x.fst) cs #[(v, 0)] 0 1 = cs.setIfInBounds k v := rfl
theorem fold_0 (cs : Array Value) (v : Value) : Array.foldl (fun (cs : Array Value) (x : Value × Nat) => cs.setIfInBounds x.snd x.fst) cs #[(v, 0)] 0 1 = cs.setIfInBounds 0 v := rfl
section
variable {P : Program} {ρ : Operand → Value} {d : Option Tmp} {ty : TypeId} {pos : String} {af : Array Edge} {g : Option (Nat × Bool)}
/-- two nil pointers are the same -/
theorem nil_eql {t e : TypeId} (hu : P.underlying t = some (.pointer e)) (x y : Operand) {yt : TypeId} (hx : ρ x = .pointer none) (hy : ρ y = .pointer none) :
    binF P ρ ⟨d, .binOp .eql t x y yt, ty, pos, af, g⟩ .eql t x y m = some (.bool true, m) := by
  have heq : prun P (Op.equal t (.pointer none) (.pointer none)) = some true := by
    show prun P (Op.equalIn 10000 t (.pointer none) (.pointer none)) = some true
    unfold Op.equalIn
    rw [prunB, prun_under hu]
    try rfl
  have hgd : prun P (eqGuard .eql t x y (.pointer none) (.pointer none)) = some () := by
    rfl
  have hc : closedOp P ρ ⟨d, .binOp .eql t x y yt, ty, pos, af, g⟩ = some (.bool true) := by
    refine closed_of (by simp [Op.operands, hx, hy, closedV]) ?_ (by intro u hu; cases hu; rfl)
    have ee : execOp ρ ⟨d, .binOp .eql t x y yt, ty, pos, af, g⟩ = (Next.value <$> (do eqGuard .eql t x y (ρ x) (ρ y); binOp .eql t (ρ x) (ρ y))) := rfl
    rw [ee, prunM, hx, hy, prunB, hgd]
    simp only [Option.bind_some]
    have : prun P (binOp .eql t (.pointer none) (.pointer none)) = some (.bool true) := by
      show prun P (Op.equal t (.pointer none) (.pointer none) >>= fun r => pure (Value.bool r)) = _
      rw [prunB, heq]; try rfl
    rw [this]; try rfl
  show s_binOp0 P ρ _ .eql t x y m = _
  simp only [s_binOp0, hu, hx, hy, hc]
  try rfl
end
/-- a builder: its struct in a block, its bytes -/
structure BAt (m0 m : Mem) (b f : Nat) (p : Value) (bo : Option Addr) (bf : Nat) (s : List UInt8) : Prop where
  own : Own m b [p, .slice bo s.length s.length] 45 f
  sl : Sl m bo s.length (bytC s) 5 1 bf
  d : bo ≠ none → f ≠ bf
  pv : p = .pointer none ∨ p = .pointer (some ⟨b, 0, none⟩)
  n0 : m0.next ≤ f
  n1 : bo ≠ none → m0.next ≤ bf
  k : Keeps m0 m []
  z : s = [] → bo = none
structure Nb (S : Sums) : Prop where
  chk : S 28 = []
  ws : S 21 = []
  wb : S 23 = []
  str : S 24 = []
  esc : S 34 = []
section
variable {m0 : Mem} {b f bf : Nat} {p : Value} {bo : Option Addr} {s : List UInt8}
theorem BAt.keep {m1 : Mem} (h : BAt m0 m b f p bo bf s) (k : Keeps m m1 []) : BAt m0 m1 b f p bo bf s :=
  ⟨h.own.keep k (by simp), h.sl.keepz k (by simp), h.d, h.pv, h.n0, h.n1, h.k.trans k, h.z⟩
theorem esc_run (hN : Nb S) (a : Addr) : callw Tryd.prog TT S 34 [.pointer (some a)] m = some (.pointer (some a), m) :=
  noEsc_call (fn := Tryd.f34) (by kernel_rfl) (by kernel_rfl) (by kernel_rfl) (by kernel_rfl) hN.esc a
/-- another value in its first cell -/
theorem BAt.put0 (h : BAt m0 m b f p bo bf s) {m1 : Mem} (o : Own m1 b [.pointer (some ⟨b, 0, none⟩), .slice bo s.length s.length] 45 f) (k : Keeps m m1 [f]) : BAt m0 m1 b f (.pointer (some ⟨b, 0, none⟩)) bo bf s :=
  ⟨o, h.sl.keepz k (fun hn => by simpa using fun e => h.d hn e.symm), h.d, Or.inr rfl, h.n0, h.n1, h.k.fresh k (by simpa using h.n0), h.z⟩
theorem check_run (hN : Nb S) (h : BAt m0 m b f p bo bf s) :
    ∃ v m1, callw Tryd.prog TT S 28 [.pointer (some ⟨b, 0, none⟩)] m = some (v, m1) ∧ BAt m0 m1 b f (.pointer (some ⟨b, 0, none⟩)) bo bf s ∧ Keeps m m1 [f] := by
  have l0 := h.own.load1 (off := 0) rfl
  refine fn_w 1 [6, 19] k28 hN.chk rfl ?_
  rcases h.pv with rfl | rfl
  · have u := h.own.upF (off := 0) (by simp)
    have d := h.own.downF (P := Tryd.prog) (k := 2) co45 (by omega) (by simp)
    have e := fun a => esc_run (m := m) hN a
    have nl : ∀ (ρ : Operand → Value) (d : Option Tmp) (ty : TypeId) (pos : String) (af : Array Edge) (g : Option (Nat × Bool)) (x y : Operand) (yt : TypeId) (hx : ρ x = .pointer none) (hy : ρ y = .pointer none),
        binF Tryd.prog ρ ⟨d, .binOp .eql 42 x y yt, ty, pos, af, g⟩ .eql 42 x y m = some (.bool true, m) := fun ρ d ty pos af g x y yt hx hy => nil_eql u42 x y hx hy
    simp [-BitVec.toNat_or, -BitVec.toNat_ofInt, -BitVec.toNat_and, fieldAddr_of fa45_0, load_of ld42, bin_ptr u42, conv_up u42 u58 sz45, conv_down u58 u42 sz45, store_of sz42, l0]
    rw [nl _ _ _ _ _ _ _ _ _ rfl rfl]
    simp [-BitVec.toNat_or, -BitVec.toNat_ofInt, -BitVec.toNat_and, fieldAddr_of fa45_0, load_of ld42, bin_ptr u42, conv_up u42 u58 sz45, conv_down u58 u42 sz45, store_of sz42, l0, u, d, e]
    generalize hr : storeRow _ _ _ = r
    obtain ⟨m1, rfl, o1, k1⟩ := store_own hr h.own (by simp) (by simp [one])
    simp [over] at o1
    simp [-BitVec.toNat_or, -BitVec.toNat_ofInt, -BitVec.toNat_and, fieldAddr_of fa45_0, load_of ld42, bin_ptr u42, conv_up u42 u58 sz45, conv_down u58 u42 sz45, store_of sz42]
    exact ⟨h.put0 o1 k1, k1⟩
  · have bs : ∀ (ρ : Operand → Value) (d : Option Tmp) (ty : TypeId) (pos : String) (af : Array Edge) (g : Option (Nat × Bool)) (x y : Operand) (yt : TypeId) (hx : ρ x = .pointer (some ⟨b, 0, none⟩)) (hy : ρ y = .pointer (some ⟨b, 0, none⟩)),
        binF Tryd.prog ρ ⟨d, .binOp .neq 42 x y yt, ty, pos, af, g⟩ .neq 42 x y m = some (.bool false, m) := by
      intro ρ d ty pos af g x y yt hx hy
      rw [bin_same u42 sz45 .neq x y hx hy rfl]
      simp [boolEq]
    simp [-BitVec.toNat_or, -BitVec.toNat_ofInt, -BitVec.toNat_and, fieldAddr_of fa45_0, load_of ld42, bin_ptr u42, conv_up u42 u58 sz45, conv_down u58 u42 sz45, store_of sz42, l0]
    rw [bs _ _ _ _ _ _ _ _ _ rfl rfl]
    simp [-BitVec.toNat_or, -BitVec.toNat_ofInt, -BitVec.toNat_and, fieldAddr_of fa45_0, load_of ld42, bin_ptr u42, conv_up u42 u58 sz45, conv_down u58 u42 sz45, store_of sz42]
    exact ⟨h, .refl _ _⟩
/-- bytes are written behind -/
theorem BAt.put1 {m1 m2 : Mem} {nb nf : Nat} {t : List UInt8} (h : BAt m0 m b f (.pointer (some ⟨b, 0, none⟩)) bo bf s) (ht : t ≠ []) (oN : Own m1 nb (bytC s ++ bytC t) 5 nf) (k1 : Keeps m m1 (if bo = none then [] else [bf])) (hnf : (bo ≠ none ∧ nf = bf) ∨ m.next ≤ nf)
    (o2 : Own m2 b [.pointer (some ⟨b, 0, none⟩), .slice (some ⟨nb, 0, none⟩) (s.length + t.length) (s.length + t.length)] 45 f) (k2 : Keeps m1 m2 [f]) :
    BAt m0 m2 b f (.pointer (some ⟨b, 0, none⟩)) (some ⟨nb, 0, none⟩) nf (s ++ t) := by
  have ff := h.own.flt
  have hne : nf ≠ f := by
    rcases hnf with ⟨a, rfl⟩ | a
    · exact fun e => h.d a e.symm
    · omega
  have kk : Keeps m0 m1 [] := h.k.fresh k1 (fun g hg => by
    split at hg
    · simp at hg
    · rename_i hn
      simp only [List.mem_singleton] at hg
      rw [hg]; exact h.n1 hn)
  refine ⟨by simpa using o2, Sl.of (by simpa [bytC] using oN.keep k2 (by simpa using hne)) (by simp [bytC]), fun _ e => hne e.symm, Or.inr rfl, h.n0, fun _ => ?_, kk.fresh k2 (by simpa using h.n0), fun e => by simp at e; exact absurd e.2 ht⟩
  rcases hnf with ⟨a, e⟩ | a
  · rw [e]; exact h.n1 a
  · have := h.k.1; omega
theorem write_run (hN : Nb S) (h : BAt m0 m b f p bo bf s) {t : List UInt8} (ht : t ≠ []) (hl : s.length + t.length ≤ 1000000) :
    ∃ v m1 bo' bf', callw Tryd.prog TT S 21 [.pointer (some ⟨b, 0, none⟩), .string ⟨t.toArray⟩] m = some (v, m1) ∧ BAt m0 m1 b f (.pointer (some ⟨b, 0, none⟩)) bo' bf' (s ++ t) ∧ (∃ fs, Keeps m m1 fs ∧ ∀ q, q < m.next → q ≠ f → (bo ≠ none → q ≠ bf) → q ∉ fs ∧ q ≠ bf') := by
  obtain ⟨v1, m1, c1, h1, kc⟩ := check_run hN h
  have l1 := h1.own.load1 (off := 1) rfl
  have tl := List.length_pos_iff.2 ht
  suffices hh : ∃ v m2, callw Tryd.prog TT S 21 [.pointer (some ⟨b, 0, none⟩), .string ⟨t.toArray⟩] m = some (v, m2) ∧ ∃ bo' bf', BAt m0 m2 b f (.pointer (some ⟨b, 0, none⟩)) bo' bf' (s ++ t) ∧ (∃ fs, Keeps m m2 fs ∧ ∀ q, q < m.next → q ≠ f → (bo ≠ none → q ≠ bf) → q ∉ fs ∧ q ≠ bf') by
    obtain ⟨v, m2, h1, bo', bf', h2, h3⟩ := hh
    exact ⟨v, m2, bo', bf', h1, h2, h3⟩
  refine fn_w 6 [] k21 hN.ws rfl ?_
  simp [-Int.natCast_add, -BitVec.toNat_or, -BitVec.toNat_ofInt, -BitVec.toNat_and, fieldAddr_of fa45_1, load_of ld43, append_str u9, store_of sz43, len_string u9, c1, l1]
  generalize hra : sappend _ _ _ _ _ _ = ra
  obtain ⟨m2, nb, nf, rfl, oN, k2, hnf, _⟩ := app_slz0 hra u43 ap5 h1.sl (by omega) (by simp) (by simp [List.all_eq_true, one_int]) (by omega) (by omega)
  simp [-Int.natCast_add, -BitVec.toNat_or, -BitVec.toNat_ofInt, -BitVec.toNat_and, fieldAddr_of fa45_1, load_of ld43, append_str u9, store_of sz43, len_string u9]
  generalize hr : storeRow _ _ _ = r
  have o2 := h1.own.keep k2 (by
    split
    · simp
    · rename_i hn; simpa using h1.d hn)
  obtain ⟨m3, rfl, o3, k3⟩ := store_own hr o2 (by simp) (by simp [one_slice])
  simp [over] at o3
  simp [-Int.natCast_add, -BitVec.toNat_or, -BitVec.toNat_ofInt, -BitVec.toNat_and, fieldAddr_of fa45_1, load_of ld43, append_str u9, store_of sz43, len_string u9]
  exact ⟨_, _, h1.put1 ht (by simpa [bytC] using oN) k2 hnf o3 k3, ⟨[f] ++ (if bo = none then [] else [bf]), ((kc.mono (by simp)).trans (k2.mono (by intro g hg; exact List.mem_append.2 (Or.inr hg)))).trans (k3.mono (by simp)), fun q q1 q2 q3 => ⟨fun hq => by
    rcases List.mem_append.1 hq with h | h
    · exact q2 (by simpa using h)
    · split at h
      · simp at h
      · rename_i hn; exact q3 hn (by simpa using h), by
    rcases hnf with ⟨a, e⟩ | a
    · rw [e]; exact q3 a
    · have := kc.1; omega⟩⟩⟩
theorem byte_run (hN : Nb S) (h : BAt m0 m b f p bo bf s) {c : UInt8} (hl : s.length + 1 ≤ 1000000) :
    ∃ v m1 bo' bf', callw Tryd.prog TT S 23 [.pointer (some ⟨b, 0, none⟩), .int .u8 (c.toNat : Int)] m = some (v, m1) ∧ BAt m0 m1 b f (.pointer (some ⟨b, 0, none⟩)) bo' bf' (s ++ [c]) ∧ (∃ fs, Keeps m m1 fs ∧ ∀ q, q < m.next → q ≠ f → (bo ≠ none → q ≠ bf) → q ∉ fs ∧ q ≠ bf') := by
  obtain ⟨v1, m1, c1, h1, kc⟩ := check_run hN h
  have l1 := h1.own.load1 (off := 1) rfl
  suffices hh : ∃ v m2, callw Tryd.prog TT S 23 [.pointer (some ⟨b, 0, none⟩), .int .u8 (c.toNat : Int)] m = some (v, m2) ∧ ∃ bo' bf', BAt m0 m2 b f (.pointer (some ⟨b, 0, none⟩)) bo' bf' (s ++ [c]) ∧ (∃ fs, Keeps m m2 fs ∧ ∀ q, q < m.next → q ≠ f → (bo ≠ none → q ≠ bf) → q ∉ fs ∧ q ≠ bf') by
    obtain ⟨v, m2, h1, bo', bf', h2, h3⟩ := hh
    exact ⟨v, m2, bo', bf', h1, h2, h3⟩
  refine fn_w 5 [] k23 hN.wb rfl ?_
  simp [-Int.natCast_add, -BitVec.toNat_or, -BitVec.toNat_ofInt, -BitVec.toNat_and, fieldAddr_of fa45_1, load_of ld43, buildSlice_of u43 bs5 rfl, append_s u43 sz5, store_of sz43, c1, l1]
  generalize hra : sappend _ _ _ _ _ _ = ra
  obtain ⟨m2, nb, nf, rfl, oN, k2, hnf, _⟩ := app_slz hra u43 ap5 h1.sl (by omega) (by simp) (by simp [one_int]) (by omega) (by omega)
  simp [-Int.natCast_add, -BitVec.toNat_or, -BitVec.toNat_ofInt, -BitVec.toNat_and, fieldAddr_of fa45_1, load_of ld43, buildSlice_of u43 bs5 rfl, append_s u43 sz5, store_of sz43]
  generalize hr : storeRow _ _ _ = r
  have o2 := h1.own.keep k2 (by
    split
    · simp
    · rename_i hn; simpa using h1.d hn)
  obtain ⟨m3, rfl, o3, k3⟩ := store_own hr o2 (by simp) (by simp [one_slice])
  simp [over] at o3
  simp [-Int.natCast_add, -BitVec.toNat_or, -BitVec.toNat_ofInt, -BitVec.toNat_and, fieldAddr_of fa45_1, load_of ld43, buildSlice_of u43 bs5 rfl, append_s u43 sz5, store_of sz43]
  exact ⟨_, _, h1.put1 (t := [c]) (by simp) (by simpa [bytC] using oN) k2 hnf (by simpa using o3) k3, ⟨[f] ++ (if bo = none then [] else [bf]), ((kc.mono (by simp)).trans (k2.mono (by intro g hg; exact List.mem_append.2 (Or.inr hg)))).trans (k3.mono (by simp)), fun q q1 q2 q3 => ⟨fun hq => by
    rcases List.mem_append.1 hq with h | h
    · exact q2 (by simpa using h)
    · split at h
      · simp at h
      · rename_i hn; exact q3 hn (by simpa using h), by
    rcases hnf with ⟨a, e⟩ | a
    · rw [e]; exact q3 a
    · have := kc.1; omega⟩⟩⟩
theorem bstr_run (hN : Nb S) (h : BAt m0 m b f p bo bf s) (hl : s.length ≤ 1000000) :
    ∃ v m1, callw Tryd.prog TT S 24 [.pointer (some ⟨b, 0, none⟩)] m = some (v, m1) ∧ v = .string ⟨s.toArray⟩ ∧ Keeps m0 m1 [] := by
  have l1 := h.own.load1 (off := 1) rfl
  refine fn_w 3 [] k24 hN.str rfl ?_
  by_cases h0 : s = []
  · subst h0
    have hb : bo = none := h.z rfl
    subst hb
    simp [-Int.natCast_add, -BitVec.toNat_or, -BitVec.toNat_ofInt, -BitVec.toNat_and, fieldAddr_of fa45_1, load_of ld43, len_slice u43, uns_of u54, l1]
    exact h.k
  · obtain ⟨nb, rfl, oN⟩ := h.sl.own (by simpa using h0)
    have u := oN.unsF (P := Tryd.prog) (k := s.length) co5 h0 (by omega) rfl
    have fk := frz_keeps oN
    have l2 := (h.own.keep fk (by simpa using h.d (by simp))).load1 (off := 1) rfl
    simp [-Int.natCast_add, -BitVec.toNat_or, -BitVec.toNat_ofInt, -BitVec.toNat_and, fieldAddr_of fa45_1, load_of ld43, len_slice u43, uns_of u54, l1, l2, u, h0]
    exact h.k.fresh fk (by simpa using h.n1 (by simp))
end
end Go.Proofs.YtbhnojbkinbomaaDoor.base

