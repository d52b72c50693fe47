/-
  This text proves what the cache's 'sorted', 'Keys' and 'Drop' do, over the abstract run; a cache in memory by what it has in the order of its use.
  Condition: nothing is known of the calls ahead ('S f = []').
-/
import Derived.Test.YtljklfimdanmlaaCacE
set_option maxRecDepth 100000
set_option linter.unusedSimpArgs false
set_option linter.unusedVariables false
namespace Go.Proofs.Ytljklfimdanmlaa.base
open Go.Sh gen
variable {S : Sums} {m : Mem} {cb f0 fa : Nat} {x0 x2 : Value} {a : Option Addr} {l A : List Px} {Q : Nat → Prop} {room uses : Nat}
/-- keys of two numbers each -/
abbrev Mv := Int × Int
abbrev mvc (l : List Mv) : List Value := l.flatMap fun p => [Value.int .i64 p.1, .int .i64 p.2]
theorem mvc_len (l : List Mv) : (mvc l).length = l.length * 2 := by
  induction l with
  | nil => rfl
  | cons a l ih => simp only [mvc, List.flatMap_cons, List.length_append, List.length_cons, List.length_nil] at ih ⊢; omega
theorem mvc_win {l : List Mv} {i : Nat} (h : i < l.length) : window (mvc l) (i * 2) 2 = [.int .i64 l[i].1, .int .i64 l[i].2] := by
  induction l generalizing i with
  | nil => simp at h
  | cons a l ih =>
    cases i with
    | zero => simp [window, mvc]
    | succ i =>
      have := ih (i := i) (by simpa using h)
      simp only [window, mvc, List.flatMap_cons] at this ⊢
      rw [show (i + 1) * 2 = i * 2 + 2 by omega]
      simpa using this
theorem mvc_at0 {l : List Mv} {i : Nat} (h : i < l.length) : (mvc l)[i * 2]? = some (.int .i64 l[i].1) := by
  have := congrArg (·[0]?) (mvc_win h)
  simpa [window] using this
theorem mvc_at1 {l : List Mv} {i : Nat} (h : i < l.length) : (mvc l)[i * 2 + 1]? = some (.int .i64 l[i].2) := by
  have := congrArg (·[1]?) (mvc_win h)
  simpa [window, List.getElem?_take] using this
/-- the keys of items -/
def kys (l : List Px) : List Mv := l.map fun x => (x.f, x.pc)
/-- a cache in a memory, with all places told: A has its items in the order of their use; its families are Q's -/
structure CA (Q : Nat → Prop) (m : Mem) (cb room uses : Nat) (A : List Px) (f0 : Nat) (a : Option Addr) (l : List Px) (fa : Nat) : Prop where
  h : HAt m cb f0 (.int .i64 room) (.int .u64 uses) a l fa
  hp : Hp l.length (ku l)
  pm : l.Perm A
  srt : A.Pairwise (fun x y => x.used < y.used)
  key : A.Pairwise (fun x y => ¬ (x.f = y.f ∧ x.pc = y.pc))
  le : ∀ x ∈ A, x.used ≤ uses
  nb : A.Pairwise (fun x y => x.b ≠ y.b)
  df : ∀ x ∈ A, ∀ y ∈ A, (x.sz ≠ 0 → x.cf ≠ y.b) ∧ (x.needs ≠ [] → x.nf ≠ y.b)
  q0 : Q f0
  qa : a ≠ none → Q fa
  qi : ∀ x ∈ A, Q x.b ∧ (x.sz ≠ 0 → Q x.cf) ∧ (x.needs ≠ [] → Q x.nf)
  sz : ∀ x ∈ A, x.sz ≤ 1048576 ∧ x.needs.length ≤ 1000
  len : A.length ≤ 8
def CAt (Q : Nat → Prop) (m : Mem) (cb room uses : Nat) (A : List Px) : Prop := ∃ f0 a l fa, CA Q m cb room uses A f0 a l fa
/-- only such families are turned, and new ones -/
def KQ (Q : Nat → Prop) (m m1 : Mem) : Prop := ∃ fs, Keeps m m1 fs ∧ ∀ f ∈ fs, Q f ∨ m.next ≤ f
/-- those families, and the new ones -/
def Qn (Q : Nat → Prop) (m m1 : Mem) (f : Nat) : Prop := Q f ∨ (m.next ≤ f ∧ f < m1.next)
theorem CA.mono {R : Nat → Prop} (h : CA Q m cb room uses A f0 a l fa) (hq : ∀ f, Q f → R f) : CA R m cb room uses A f0 a l fa :=
  ⟨h.h, h.hp, h.pm, h.srt, h.key, h.le, h.nb, h.df, hq _ h.q0, fun ha => hq _ (h.qa ha), fun x hx => ⟨hq _ (h.qi x hx).1, fun z => hq _ ((h.qi x hx).2.1 z), fun z => hq _ ((h.qi x hx).2.2 z)⟩, h.sz, h.len⟩
theorem CA.keep (h : CA Q m cb room uses A f0 a l fa) {m1 : Mem} {fs : List Nat} (k : Keeps m m1 fs) (hf : ∀ f ∈ fs, ¬ Q f) : CA Q m1 cb room uses A f0 a l fa := by
  have n : ∀ f, Q f → f ∉ fs := fun f hq hm => hf f hm hq
  have qi : ∀ x ∈ l, _ := fun x hx => h.qi x (h.pm.mem_iff.1 hx)
  exact ⟨⟨h.h.own.keep k (n _ h.q0), h.h.sl.keep k (fun ha => n _ (h.qa ha)), h.h.ne, fun x hx => (h.h.it x hx).keep k (n _ (qi x hx).1) (fun z => n _ ((qi x hx).2.1 z)) (fun z => n _ ((qi x hx).2.2 z)), h.h.df⟩, h.hp, h.pm, h.srt, h.key, h.le, h.nb, h.df, h.q0, h.qa, h.qi, h.sz, h.len⟩
theorem CA.keep0 (h : CA Q m cb room uses A f0 a l fa) {m1 : Mem} (k : Keeps m m1 []) : CA Q m1 cb room uses A f0 a l fa := h.keep k (by simp)
theorem CA.all (h : CA Q m cb room uses A f0 a l fa) : ∀ x ∈ A, ItAt m x := fun x hx => h.h.it x (h.pm.mem_iff.2 hx)
theorem ldS_sr {ao : Option Addr} {n : Nat} {cells : List Value} {e z fam : Nat} (h : Sr m ao n cells e z fam) : ldS m (.slice ao n n) z = some (cells, n) := by
  by_cases hn : n = 0
  · subst hn
    have hc : cells = [] := List.length_eq_zero_iff.1 (by rw [← h.1]; simp)
    subst hc
    cases ao <;> simp [ldS]
  · obtain ⟨b, rest, rfl, r⟩ := h.own hn
    simp only [ldS, if_neg hn]
    rw [r.load (n * z) (by rw [h.1]; simp)]
    have e : window (cells ++ rest) 0 (n * z) = cells := by rw [h.1]; simp [window]
    rw [e]; rfl
theorem srt_uniq {L A : List Px} (hp : L.Perm A) (hs : Srt L.length (ku L)) (hA : A.Pairwise (fun x y => x.used < y.used)) : L = A := by
  refine List.Perm.eq_of_pairwise (le := fun x y => x.used ≤ y.used) (fun x y hx hy h1 h2 => ?_) ?_ (hA.imp Nat.le_of_lt) hp
  · have hx' := hp.mem_iff.1 hx
    obtain ⟨i, hi, rfl⟩ := List.getElem_of_mem hx'
    obtain ⟨j, hj, rfl⟩ := List.getElem_of_mem hy
    rw [List.pairwise_iff_getElem] at hA
    rcases Nat.lt_trichotomy i j with h | h | h
    · have := hA i j hi hj h; omega
    · subst h; rfl
    · have := hA j i hj hi h; omega
  · rw [List.pairwise_iff_getElem]
    intro i j hi hj hij
    have := hs i j hij hj
    rw [ku_at hi, ku_at hj] at this
    exact this
theorem sorted_run (hN : Nc S) (h : CA Q m cb room uses A f0 a l fa) :
    ∃ m1 b fam, callw Try.prog TT S 30 [.pointer (some ⟨cb, 0, none⟩)] m = some (.slice (some ⟨b, 0, none⟩) A.length A.length, m1) ∧ Own m1 b (pcs A) 64 fam ∧ m.next ≤ fam ∧ Keeps m m1 [] := by
  have ll := h.pm.length_eq
  have l8 := h.len
  rw [← ll]
  suffices hx : ∃ v m1, callw Try.prog TT S 30 [.pointer (some ⟨cb, 0, none⟩)] m = some (v, m1) ∧ ∃ b fam, v = .slice (some ⟨b, 0, none⟩) l.length l.length ∧ Own m1 b (pcs A) 64 fam ∧ m.next ≤ fam ∧ Keeps m m1 [] by
    obtain ⟨v, m1, h1, b, fam, rfl, h2, h3, h4⟩ := hx
    exact ⟨m1, b, fam, h1, h2, h3, h4⟩
  have ld := (h.h.own.ln [] 64 1 1).trans (h.h.own.load1 (off := 1) rfl)
  have hz := ldS_sr (h.h.sl.keep (keeps_new m [] 64 []) (by simp))
  refine fn_w 4 [] k30 hN.sorted rfl ?_
  simp [-Int.natCast_add, -BitVec.toNat_or, -BitVec.toNat_ofInt, -BitVec.toNat_and, buildSlice_of u59 bs64 rfl, fieldAddr_of fa63_1, load_of ld60, append_z u60 sz64, ld, hz]
  generalize hra : sappend _ _ _ _ _ _ = ra
  obtain ⟨m1, b1, rfl, o1, k1⟩ := app_own hra u59 ap64 (Own.new m [] 64) (by simp) (by simp) (by simp [one_ptr]) (by omega) (by omega)
  have k01 : Keeps m m1 [] := (keeps_new m [] 64 []).fresh k1 (by simp)
  rw [List.nil_append] at o1
  have hit : ∀ x ∈ l, ∀ m3, Keeps m1 m3 [m.next] → ItAt m3 x := fun x hx m3 k3 => by
    have it := h.h.it x hx
    obtain ⟨t1, t2, t3⟩ := it.lt
    exact (it.keep k01 (by simp) (by simp) (by simp)).keep k3 (by simp; omega) (fun z => by have := t2 z; simp; omega) (fun z => by have := t3 z; simp; omega)
  obtain ⟨v2, m2, c2, ⟨L', hp, o2, hs⟩, k2⟩ := sort_run (m := m1) hN o1 hit (by omega)
  have e := srt_uniq (hp.trans h.pm) hs h.srt
  subst e
  simp [-Int.natCast_add, -BitVec.toNat_or, -BitVec.toNat_ofInt, -BitVec.toNat_and, buildSlice_of u59 bs64 rfl, fieldAddr_of fa63_1, load_of ld60, append_z u60 sz64, c2]
  exact ⟨_, o2, Nat.le_refl _, k01.fresh k2 (by simp)⟩
/-- rows of keys that were made -/
def KysR (m0 m1 : Mem) (v : Value) (K : List Mv) : Prop := ∃ ka kf, v = .slice ka K.length K.length ∧ Sl m1 ka K.length (mvc K) 50 2 kf ∧ (ka ≠ none → m0.next ≤ kf)
theorem kys_take {i : Nat} (hi : i < A.length) : kys (A.take (i + 1)) = kys (A.take i) ++ [(A[i].f, A[i].pc)] := by
  rw [List.take_succ_eq_append_getElem hi]; simp only [kys, List.map_append, List.map_cons, List.map_nil]
theorem kys_len : (kys A).length = A.length := by simp [kys]
set_option maxHeartbeats 1000000 in
theorem keys_run (hN : Nc S) (h : CA Q m cb room uses A f0 a l fa) :
    ∃ v m1, callw Try.prog TT S 13 [.pointer (some ⟨cb, 0, none⟩)] m = some (v, m1) ∧ KysR m m1 v (kys A) ∧ Keeps m m1 [] := by
  obtain ⟨m1, b, fam, c1, o1, hfam, k1⟩ := sorted_run hN h
  have l8 := h.len
  refine fn_w 10 [10] k13 hN.keys rfl ?_
  simp [-Int.natCast_add, -BitVec.toNat_or, -BitVec.toNat_ofInt, -BitVec.toNat_and, len_slice u59, index_slice u59 sz64, load_of ld64, buildSlice_of u32 bs50 rfl, append_s u32 sz50, c1]
  refine wsem_loop 10 [10] (fun d E mF => ∃ (i : Nat) (ka : Option Addr) (kf : Nat), A.length - i = d ∧ i ≤ A.length ∧ Keeps m mF [] ∧ Keeps m1 mF [] ∧ Sl mF ka i (mvc (kys (A.take i))) 50 2 kf ∧ (ka ≠ none → m1.next ≤ kf) ∧
    E = [(3, .slice ka i i), (7, .slice (some ⟨b, 0, none⟩) A.length A.length), (8, .int .i64 (A.length : Int)), (9, .int .i64 (i : Int))]) _ ⟨_, ⟨0, none, 0, rfl, by omega, k1, .refl _ _, Sl.nil _ _ _ _, by simp, rfl⟩, ⟨by rfl, by rfl, by rfl, by rfl, trivial⟩⟩ ?_
  rintro d E mF ih ⟨i, ka, kf, hd, hi, kF, kF1, sF, hb, rfl⟩
  have im : (i : Int) ≤ 9223372036854775807 := by omega
  by_cases hlt : i < A.length
  · have hlt' : (i : Int) < A.length := by omega
    have wi : IntKind.i64.wrap ((i : Int) + 1) = ((i + 1 : Nat) : Int) := by rw [wrap_i64 (by omega) (by omega)]; omega
    have l1 := (o1.keep kF1 (by simp)).load1 (pc_at hlt)
    obtain ⟨m2, c2, k2⟩ := key_run (m := mF) hN ((h.all _ (List.getElem_mem hlt)).keep kF (by simp) (by simp) (by simp))
    simp [-Int.natCast_add, -BitVec.toNat_or, -BitVec.toNat_ofInt, -BitVec.toNat_and, len_slice u59, index_slice u59 sz64, load_of ld64, buildSlice_of u32 bs50 rfl, append_s u32 sz50, hlt, hlt', l1, im, c2]
    generalize hra : sappend _ _ _ _ _ _ = ra
    obtain ⟨m3, nb, nf, rfl, o3, k3, hf3, _, _⟩ := app_slz hra u32 ap50 (sF.keep k2 (by simp)) (by omega) (by simp) (by simp [one_int]) (by omega) (by omega)
    simp [-Int.natCast_add, -BitVec.toNat_or, -BitVec.toNat_ofInt, -BitVec.toNat_and, len_slice u59, index_slice u59 sz64, load_of ld64, buildSlice_of u32 bs50 rfl, append_s u32 sz50, wi]
    have s3 : Sl m3 (some ⟨nb, 0, none⟩) (i + 1) (mvc (kys (A.take (i + 1)))) 50 2 nf := by
      rw [kys_take hlt]
      exact Sl.of (by simpa [mvc] using o3) (by rw [mvc_len, List.length_append, kys_len, List.length_take]; simp; omega)
    have kb : ∀ f ∈ (if ka = none then [] else [kf]), m1.next ≤ f := by
      intro f hf
      split at hf
      · simp at hf
      · rename_i hn
        simp at hf; rw [hf]; exact hb hn
    have n1 := k1.1
    have n2 := kF1.1
    have n3 := k2.1
    refine ih _ _ _ _ ⟨i + 1, _, nf, rfl, by omega, (kF.trans k2).fresh k3 (fun f hf => by have := kb f hf; omega), (kF1.trans k2).fresh k3 kb, s3, fun _ => ?_, rfl⟩ (by omega) ⟨by rfl, by rfl, by rfl, by rfl, trivial⟩
    rcases hf3 with ⟨h, h'⟩ | h
    · rw [h']; exact hb h
    · omega
  · have hlt' : ¬ (i : Int) < A.length := by omega
    have e : i = A.length := by omega
    rw [e, List.take_length] at sF
    simp [-Int.natCast_add, -BitVec.toNat_or, -BitVec.toNat_ofInt, -BitVec.toNat_and, len_slice u59, index_slice u59 sz64, load_of ld64, buildSlice_of u32 bs50 rfl, append_s u32 sz50, hlt, hlt']
    exact ⟨⟨ka, kf, by rw [kys_len, e], by rw [kys_len]; exact sF, fun hk => Nat.le_trans k1.1 (hb hk)⟩, kF⟩
end Go.Proofs.Ytljklfimdanmlaa.base

