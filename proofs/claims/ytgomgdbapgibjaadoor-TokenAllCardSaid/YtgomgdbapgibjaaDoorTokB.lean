/-
  This text proves what the scanner of package token does over the abstract run: put, ends, comment, IsWord.
  Condition: nothing is known of their calls ahead ('S f = []').
-/
import Derived.Test.YtgomgdbapgibjaaDoorTokA
set_option maxRecDepth 100000
set_option linter.unusedSimpArgs false
set_option linter.unusedVariables false
namespace Go.Proofs.YtgomgdbapgibjaaDoor.base
open Go.Sh gen
variable {S : Sums} {m : Mem} {b f fo : Nat} {ao : Option Addr} {σ : St}
theorem put_run (hS : S 25 = []) (h : Sc m b f ao fo σ) (hb : Bd σ) (k : Int) (t : List UInt8) (n : Int) :
    ∃ v m1, callw Tryd.prog TT S 25 [.pointer (some ⟨b, 0, none⟩), .int .i64 k, .string ⟨t.toArray⟩, .int .i64 n] m = some (v, m1) ∧ v = .tuple #[] ∧ ∃ ao1 fo1, Sc m1 b f ao1 fo1 (σ.put k t n) ∧ Keeps m m1 [f, fo] ∧ (fo1 = fo ∨ m.next ≤ fo1) := by
  have hlt := h.h.flt
  have ho := hb.o
  refine fn_w 4 [13] k25 hS rfl ?_
  by_cases hf : σ.out.length = 4000
  · simp [-BitVec.toNat_or, -BitVec.toNat_ofInt, -BitVec.toNat_and, fieldAddr_of fa52_4, load_of ld29, len_slice u29, fieldAddr_of fa52_2, load_of ld3, fieldAddr_of fa52_3, build_of bo31, fieldAddr_of fa52_5, store_of sz32, fieldAddr_of fa52_6, store_of sz31, buildSlice_of u29 bs31 rfl, append_s u29 sz31, store_of sz29, h.l4, h.l2, h.l3, hf]
    generalize hr : storeRow _ _ _ = r
    obtain ⟨m1, rfl, o1, k1⟩ := store_own hr h.h (by simp [St.cells, Tok.cells]) (by simp [one_int])
    have l2 : loadRow m1 ⟨b, 2, none⟩ 1 = some [.int .i64 σ.line] := o1.load1 (off := 2) rfl
    have l3 : loadRow m1 ⟨b, 3, none⟩ 1 = some [.int .i64 σ.col] := o1.load1 (off := 3) rfl
    simp [-BitVec.toNat_or, -BitVec.toNat_ofInt, -BitVec.toNat_and, fieldAddr_of fa52_4, load_of ld29, len_slice u29, fieldAddr_of fa52_2, load_of ld3, fieldAddr_of fa52_3, build_of bo31, fieldAddr_of fa52_5, store_of sz32, fieldAddr_of fa52_6, store_of sz31, buildSlice_of u29 bs31 rfl, append_s u29 sz31, store_of sz29, h.l2, h.l3, l2, l3]
    generalize hr2 : storeRow _ _ _ = r2
    obtain ⟨m2, rfl, o2, k2⟩ := store_own hr2 o1 (by simp [St.cells, Tok.cells, over]) (by simp [one_int, one_str])
    have l2' : loadRow m2 ⟨b, 2, none⟩ 1 = some [.int .i64 σ.line] := o2.load1 (off := 2) rfl
    have l3' : loadRow m2 ⟨b, 3, none⟩ 1 = some [.int .i64 σ.col] := o2.load1 (off := 3) rfl
    simp [-BitVec.toNat_or, -BitVec.toNat_ofInt, -BitVec.toNat_and, fieldAddr_of fa52_4, load_of ld29, len_slice u29, fieldAddr_of fa52_2, load_of ld3, fieldAddr_of fa52_3, build_of bo31, fieldAddr_of fa52_5, store_of sz32, fieldAddr_of fa52_6, store_of sz31, buildSlice_of u29 bs31 rfl, append_s u29 sz31, store_of sz29, h.l2, h.l3, l2, l3, l2', l3']
    have kk := k1.trans k2
    exact ⟨ao, fo, ⟨by simpa [St.cells, St.put, Tok.cells, over, hf] using o2, by simpa [St.put, hf] using h.o.keep kk (by simpa using h.ne.symm), h.ne⟩, kk.mono (by simp), Or.inl rfl⟩
  · have hf' : ¬ ((σ.out.length : Int) = 4000) := by omega
    simp [-BitVec.toNat_or, -BitVec.toNat_ofInt, -BitVec.toNat_and, fieldAddr_of fa52_4, load_of ld29, len_slice u29, fieldAddr_of fa52_2, load_of ld3, fieldAddr_of fa52_3, build_of bo31, fieldAddr_of fa52_5, store_of sz32, fieldAddr_of fa52_6, store_of sz31, buildSlice_of u29 bs31 rfl, append_s u29 sz31, store_of sz29, h.l4, h.l2, h.l3, hf, hf']
    generalize hr : sappend _ _ _ _ _ _ = r
    obtain ⟨m1, ao1, f1, rfl, s1, k1, hf1⟩ := app_sl_new hr u29 ap31 h.o (by simp) (by simp [one_int, one_str]) (by omega) (by omega)
    have h1 := h.h.keep k1 (by simpa using h.ne)
    have l2 : loadRow m1 ⟨b, 2, none⟩ 1 = some [.int .i64 σ.line] := h1.load1 (off := 2) rfl
    have l3 : loadRow m1 ⟨b, 3, none⟩ 1 = some [.int .i64 σ.col] := h1.load1 (off := 3) rfl
    have l4 : loadRow m1 ⟨b, 4, none⟩ 1 = some [.slice ao σ.out.length σ.out.length] := h1.load1 (off := 4) rfl
    simp [-BitVec.toNat_or, -BitVec.toNat_ofInt, -BitVec.toNat_and, fieldAddr_of fa52_4, load_of ld29, len_slice u29, fieldAddr_of fa52_2, load_of ld3, fieldAddr_of fa52_3, build_of bo31, fieldAddr_of fa52_5, store_of sz32, fieldAddr_of fa52_6, store_of sz31, buildSlice_of u29 bs31 rfl, append_s u29 sz31, store_of sz29, h.l4, h.l2, h.l3, l2, l3, l4]
    generalize hr2 : storeRow _ _ _ = r2
    obtain ⟨m2, rfl, o2, k2⟩ := store_own hr2 h1 (by simp [St.cells, Tok.cells]) (by simp [one_slice])
    have l2' : loadRow m2 ⟨b, 2, none⟩ 1 = some [.int .i64 σ.line] := o2.load1 (off := 2) rfl
    have l3' : loadRow m2 ⟨b, 3, none⟩ 1 = some [.int .i64 σ.col] := o2.load1 (off := 3) rfl
    simp [-BitVec.toNat_or, -BitVec.toNat_ofInt, -BitVec.toNat_and, fieldAddr_of fa52_4, load_of ld29, len_slice u29, fieldAddr_of fa52_2, load_of ld3, fieldAddr_of fa52_3, build_of bo31, fieldAddr_of fa52_5, store_of sz32, fieldAddr_of fa52_6, store_of sz31, buildSlice_of u29 bs31 rfl, append_s u29 sz31, store_of sz29, h.l4, h.l2, h.l3, l2, l3, l4, l2', l3', h.h.ln]
    have hne : f ≠ f1 := by
      rcases hf1 with rfl | hf1
      · exact h.ne
      · omega
    refine ⟨ao1, f1, ⟨?_, ?_, hne⟩, (k1.mono (by simp)).trans (k2.mono (by simp)), hf1⟩
    · simpa [St.cells, St.put, Tok.cells, over, hf] using o2
    · have := s1.keep k2 (by simpa using hne.symm)
      simpa [St.put, hf, outCells, Tok.cells] using this
def ender : List (List UInt8) := [[116, 114, 117, 101], [102, 97, 108, 115, 101], [110, 105, 108], [98, 114, 101, 97, 107], [99, 111, 110, 116, 105, 110, 117, 101], [114, 101, 116, 117, 114, 110], [105, 110, 116], [98, 111, 111, 108], [115, 116, 114, 105, 110, 103]]
def endsT (x : Tok) : Bool :=
  if x.k = 2 ∨ x.k = 4 ∨ x.k = 5 then true else if x.k = 3 then decide (x.t ∈ ender) else if x.k = 6 then decide (x.t = [41] ∨ x.t = [93] ∨ x.t = [125]) else false
def endsB (out : List Tok) : Bool := match out.getLast? with
  | none => false
  | some x => endsT x
theorem last_cells {l : List Tok} {x : Tok} (h : l.getLast? = some x) : window (outCells l) ((l.length - 1) * 5) 5 = x.cells := by
  obtain ⟨r, rfl⟩ := List.getLast?_eq_some_iff.1 h
  have e : (r ++ [x]).length - 1 = r.length := by simp
  rw [e, outCells_len r]
  simp only [outCells, List.flatMap_append, List.flatMap_cons, List.flatMap_nil, List.append_nil, window, List.drop_left]
  rfl
theorem ends_run (hS : S 24 = []) (h : Sc m b f ao fo σ) (hb : Bd σ) :
    ∃ v m1, callw Tryd.prog TT S 24 [.pointer (some ⟨b, 0, none⟩)] m = some (v, m1) ∧ v = .bool (endsB σ.out) ∧ Keeps m m1 [] := by
  have ho := hb.o
  refine fn_w 32 [32, 32, 32, 32, 32, 32, 32, 32, 32, 42] k24 hS rfl ?_
  by_cases hn : σ.out.length = 0
  · have hnil : σ.out = [] := List.length_eq_zero_iff.1 hn
    simp [-BitVec.toNat_or, -BitVec.toNat_ofInt, -BitVec.toNat_and, fieldAddr_of fa52_4, load_of ld29, len_slice u29, index_slice u29 sz31, load_agg ld31, alloc_of zo31, store_of sz31, fieldAddr_of fa31_0, load_of ld3, fieldAddr_of fa31_1, load_of ld9, h.l4, hnil]
    exact ⟨by simp [endsB, hnil], .refl _ _⟩
  · have hn' : ¬ ((σ.out.length : Int) = 0) := by omega
    have hne : σ.out ≠ [] := by intro e; rw [e] at hn; simp at hn
    obtain ⟨x, hx⟩ : ∃ x, σ.out.getLast? = some x := ⟨σ.out.getLast hne, List.getLast?_eq_some_getLast hne⟩
    obtain ⟨ob, rfl, hob⟩ := h.o.own hn
    have hlx : loadRow m ⟨ob, (σ.out.length - 1) * 5, none⟩ 5 = some x.cells := by
      rw [hob.load 5 (by rw [← outCells_len]; omega), last_cells hx]
    have w1 : IntKind.i64.wrap ((σ.out.length : Int) - 1) = ((σ.out.length - 1 : Nat) : Int) := by rw [wrap_i64 (by omega) (by omega)]; omega
    have hm1 : ((σ.out.length - 1 : Nat) : Int) ≤ 9223372036854775807 := by omega
    have hlt : σ.out.length - 1 < σ.out.length := by omega
    have hE : endsB σ.out = endsT x := by simp [endsB, hx]
    rw [hE]
    simp [-BitVec.toNat_or, -BitVec.toNat_ofInt, -BitVec.toNat_and, fieldAddr_of fa52_4, load_of ld29, len_slice u29, index_slice u29 sz31, load_agg ld31, alloc_of zo31, store_of sz31, fieldAddr_of fa31_0, load_of ld3, fieldAddr_of fa31_1, load_of ld9, h.l4, hn', hne, w1, hm1, hlt, hlx, Tok.cells]
    obtain ⟨on, kn, nn⟩ := new_own (m := m) (cs := [.int .i64 0, .string ⟨#[]⟩, .int .i64 0, .int .i64 0, .int .i64 0]) (e := 31) rfl
    generalize hr : storeRow _ _ _ = r
    obtain ⟨m1, rfl, o1, k1⟩ := store_own hr on (by simp) (by simp [one_int, one_str])
    have km := kn.mono2 k1 (Nat.le_refl _)
    have hh1 := h.keep km (by simp) (by simp)
    have l4 := hh1.l4
    have hlx1 : loadRow m1 ⟨ob, (σ.out.length - 1) * 5, none⟩ 5 = some x.cells := by
      rw [(hob.keep km (by simp)).load 5 (by rw [← outCells_len]; omega), last_cells hx]
    simp [over] at o1
    have x0 := o1.load1 (off := 0) rfl
    have x1 := o1.load1 (off := 1) rfl
    simp only [Tok.cells] at hlx1
    simp [-BitVec.toNat_or, -BitVec.toNat_ofInt, -BitVec.toNat_and, fieldAddr_of fa52_4, load_of ld29, len_slice u29, index_slice u29 sz31, load_agg ld31, alloc_of zo31, store_of sz31, fieldAddr_of fa31_0, load_of ld3, fieldAddr_of fa31_1, load_of ld9, h.l4, l4, hn', hne, w1, hm1, hlt, hlx, hlx1, Tok.cells, h.h.ln, hob.ln, x0]
    refine cnd_dec (fun e => by simp [-BitVec.toNat_or, -BitVec.toNat_ofInt, -BitVec.toNat_and, fieldAddr_of fa52_4, load_of ld29, len_slice u29, index_slice u29 sz31, load_agg ld31, alloc_of zo31, store_of sz31, fieldAddr_of fa31_0, load_of ld3, fieldAddr_of fa31_1, load_of ld9, e, endsT, km]) (fun e2 => ?_)
    simp [-BitVec.toNat_or, -BitVec.toNat_ofInt, -BitVec.toNat_and, fieldAddr_of fa52_4, load_of ld29, len_slice u29, index_slice u29 sz31, load_agg ld31, alloc_of zo31, store_of sz31, fieldAddr_of fa31_0, load_of ld3, fieldAddr_of fa31_1, load_of ld9, e2]
    refine cnd_dec (fun e => by simp [-BitVec.toNat_or, -BitVec.toNat_ofInt, -BitVec.toNat_and, fieldAddr_of fa52_4, load_of ld29, len_slice u29, index_slice u29 sz31, load_agg ld31, alloc_of zo31, store_of sz31, fieldAddr_of fa31_0, load_of ld3, fieldAddr_of fa31_1, load_of ld9, e, endsT, km]) (fun e4 => ?_)
    simp [-BitVec.toNat_or, -BitVec.toNat_ofInt, -BitVec.toNat_and, fieldAddr_of fa52_4, load_of ld29, len_slice u29, index_slice u29 sz31, load_agg ld31, alloc_of zo31, store_of sz31, fieldAddr_of fa31_0, load_of ld3, fieldAddr_of fa31_1, load_of ld9, e4]
    refine cnd_dec (fun e => by simp [-BitVec.toNat_or, -BitVec.toNat_ofInt, -BitVec.toNat_and, fieldAddr_of fa52_4, load_of ld29, len_slice u29, index_slice u29 sz31, load_agg ld31, alloc_of zo31, store_of sz31, fieldAddr_of fa31_0, load_of ld3, fieldAddr_of fa31_1, load_of ld9, e, endsT, km]) (fun e5 => ?_)
    simp [-BitVec.toNat_or, -BitVec.toNat_ofInt, -BitVec.toNat_and, fieldAddr_of fa52_4, load_of ld29, len_slice u29, index_slice u29 sz31, load_agg ld31, alloc_of zo31, store_of sz31, fieldAddr_of fa31_0, load_of ld3, fieldAddr_of fa31_1, load_of ld9, e5]
    refine cnd_dec (fun e3 => ?_) (fun e3 => ?_)
    · simp [-BitVec.toNat_or, -BitVec.toNat_ofInt, -BitVec.toNat_and, fieldAddr_of fa52_4, load_of ld29, len_slice u29, index_slice u29 sz31, load_agg ld31, alloc_of zo31, store_of sz31, fieldAddr_of fa31_0, load_of ld3, fieldAddr_of fa31_1, load_of ld9, e3, x1]
      refine cnd_dec (fun e => by simp [-BitVec.toNat_or, -BitVec.toNat_ofInt, -BitVec.toNat_and, fieldAddr_of fa52_4, load_of ld29, len_slice u29, index_slice u29 sz31, load_agg ld31, alloc_of zo31, store_of sz31, fieldAddr_of fa31_0, load_of ld3, fieldAddr_of fa31_1, load_of ld9, e, endsT, e3, ender, km]) (fun t1 => ?_)
      simp [-BitVec.toNat_or, -BitVec.toNat_ofInt, -BitVec.toNat_and, fieldAddr_of fa52_4, load_of ld29, len_slice u29, index_slice u29 sz31, load_agg ld31, alloc_of zo31, store_of sz31, fieldAddr_of fa31_0, load_of ld3, fieldAddr_of fa31_1, load_of ld9, t1]
      refine cnd_dec (fun e => by simp [-BitVec.toNat_or, -BitVec.toNat_ofInt, -BitVec.toNat_and, fieldAddr_of fa52_4, load_of ld29, len_slice u29, index_slice u29 sz31, load_agg ld31, alloc_of zo31, store_of sz31, fieldAddr_of fa31_0, load_of ld3, fieldAddr_of fa31_1, load_of ld9, e, endsT, e3, ender, km]) (fun t2 => ?_)
      simp [-BitVec.toNat_or, -BitVec.toNat_ofInt, -BitVec.toNat_and, fieldAddr_of fa52_4, load_of ld29, len_slice u29, index_slice u29 sz31, load_agg ld31, alloc_of zo31, store_of sz31, fieldAddr_of fa31_0, load_of ld3, fieldAddr_of fa31_1, load_of ld9, t2]
      refine cnd_dec (fun e => by simp [-BitVec.toNat_or, -BitVec.toNat_ofInt, -BitVec.toNat_and, fieldAddr_of fa52_4, load_of ld29, len_slice u29, index_slice u29 sz31, load_agg ld31, alloc_of zo31, store_of sz31, fieldAddr_of fa31_0, load_of ld3, fieldAddr_of fa31_1, load_of ld9, e, endsT, e3, ender, km]) (fun t3 => ?_)
      simp [-BitVec.toNat_or, -BitVec.toNat_ofInt, -BitVec.toNat_and, fieldAddr_of fa52_4, load_of ld29, len_slice u29, index_slice u29 sz31, load_agg ld31, alloc_of zo31, store_of sz31, fieldAddr_of fa31_0, load_of ld3, fieldAddr_of fa31_1, load_of ld9, t3]
      refine cnd_dec (fun e => by simp [-BitVec.toNat_or, -BitVec.toNat_ofInt, -BitVec.toNat_and, fieldAddr_of fa52_4, load_of ld29, len_slice u29, index_slice u29 sz31, load_agg ld31, alloc_of zo31, store_of sz31, fieldAddr_of fa31_0, load_of ld3, fieldAddr_of fa31_1, load_of ld9, e, endsT, e3, ender, km]) (fun t4 => ?_)
      simp [-BitVec.toNat_or, -BitVec.toNat_ofInt, -BitVec.toNat_and, fieldAddr_of fa52_4, load_of ld29, len_slice u29, index_slice u29 sz31, load_agg ld31, alloc_of zo31, store_of sz31, fieldAddr_of fa31_0, load_of ld3, fieldAddr_of fa31_1, load_of ld9, t4]
      refine cnd_dec (fun e => by simp [-BitVec.toNat_or, -BitVec.toNat_ofInt, -BitVec.toNat_and, fieldAddr_of fa52_4, load_of ld29, len_slice u29, index_slice u29 sz31, load_agg ld31, alloc_of zo31, store_of sz31, fieldAddr_of fa31_0, load_of ld3, fieldAddr_of fa31_1, load_of ld9, e, endsT, e3, ender, km]) (fun t5 => ?_)
      simp [-BitVec.toNat_or, -BitVec.toNat_ofInt, -BitVec.toNat_and, fieldAddr_of fa52_4, load_of ld29, len_slice u29, index_slice u29 sz31, load_agg ld31, alloc_of zo31, store_of sz31, fieldAddr_of fa31_0, load_of ld3, fieldAddr_of fa31_1, load_of ld9, t5]
      refine cnd_dec (fun e => by simp [-BitVec.toNat_or, -BitVec.toNat_ofInt, -BitVec.toNat_and, fieldAddr_of fa52_4, load_of ld29, len_slice u29, index_slice u29 sz31, load_agg ld31, alloc_of zo31, store_of sz31, fieldAddr_of fa31_0, load_of ld3, fieldAddr_of fa31_1, load_of ld9, e, endsT, e3, ender, km]) (fun t6 => ?_)
      simp [-BitVec.toNat_or, -BitVec.toNat_ofInt, -BitVec.toNat_and, fieldAddr_of fa52_4, load_of ld29, len_slice u29, index_slice u29 sz31, load_agg ld31, alloc_of zo31, store_of sz31, fieldAddr_of fa31_0, load_of ld3, fieldAddr_of fa31_1, load_of ld9, t6]
      refine cnd_dec (fun e => by simp [-BitVec.toNat_or, -BitVec.toNat_ofInt, -BitVec.toNat_and, fieldAddr_of fa52_4, load_of ld29, len_slice u29, index_slice u29 sz31, load_agg ld31, alloc_of zo31, store_of sz31, fieldAddr_of fa31_0, load_of ld3, fieldAddr_of fa31_1, load_of ld9, e, endsT, e3, ender, km]) (fun t7 => ?_)
      simp [-BitVec.toNat_or, -BitVec.toNat_ofInt, -BitVec.toNat_and, fieldAddr_of fa52_4, load_of ld29, len_slice u29, index_slice u29 sz31, load_agg ld31, alloc_of zo31, store_of sz31, fieldAddr_of fa31_0, load_of ld3, fieldAddr_of fa31_1, load_of ld9, t7]
      refine cnd_dec (fun e => by simp [-BitVec.toNat_or, -BitVec.toNat_ofInt, -BitVec.toNat_and, fieldAddr_of fa52_4, load_of ld29, len_slice u29, index_slice u29 sz31, load_agg ld31, alloc_of zo31, store_of sz31, fieldAddr_of fa31_0, load_of ld3, fieldAddr_of fa31_1, load_of ld9, e, endsT, e3, ender, km]) (fun t8 => ?_)
      simp [-BitVec.toNat_or, -BitVec.toNat_ofInt, -BitVec.toNat_and, fieldAddr_of fa52_4, load_of ld29, len_slice u29, index_slice u29 sz31, load_agg ld31, alloc_of zo31, store_of sz31, fieldAddr_of fa31_0, load_of ld3, fieldAddr_of fa31_1, load_of ld9, t8]
      refine cnd_dec (fun e => by simp [-BitVec.toNat_or, -BitVec.toNat_ofInt, -BitVec.toNat_and, fieldAddr_of fa52_4, load_of ld29, len_slice u29, index_slice u29 sz31, load_agg ld31, alloc_of zo31, store_of sz31, fieldAddr_of fa31_0, load_of ld3, fieldAddr_of fa31_1, load_of ld9, e, endsT, e3, ender, km]) (fun t9 => ?_)
      simp [-BitVec.toNat_or, -BitVec.toNat_ofInt, -BitVec.toNat_and, fieldAddr_of fa52_4, load_of ld29, len_slice u29, index_slice u29 sz31, load_agg ld31, alloc_of zo31, store_of sz31, fieldAddr_of fa31_0, load_of ld3, fieldAddr_of fa31_1, load_of ld9, t9]
      exact ⟨by simp [endsT, e3, ender, t1, t2, t3, t4, t5, t6, t7, t8, t9], km⟩
    · simp [-BitVec.toNat_or, -BitVec.toNat_ofInt, -BitVec.toNat_and, fieldAddr_of fa52_4, load_of ld29, len_slice u29, index_slice u29 sz31, load_agg ld31, alloc_of zo31, store_of sz31, fieldAddr_of fa31_0, load_of ld3, fieldAddr_of fa31_1, load_of ld9, e3]
      refine cnd_dec (fun e6 => ?_) (fun e6 => ?_)
      · by_cases u1 : x.t = [41]
        · simp [-BitVec.toNat_or, -BitVec.toNat_ofInt, -BitVec.toNat_and, fieldAddr_of fa52_4, load_of ld29, len_slice u29, index_slice u29 sz31, load_agg ld31, alloc_of zo31, store_of sz31, fieldAddr_of fa31_0, load_of ld3, fieldAddr_of fa31_1, load_of ld9, e6, x1, u1, endsT, km]
        · by_cases u2 : x.t = [93]
          · simp [-BitVec.toNat_or, -BitVec.toNat_ofInt, -BitVec.toNat_and, fieldAddr_of fa52_4, load_of ld29, len_slice u29, index_slice u29 sz31, load_agg ld31, alloc_of zo31, store_of sz31, fieldAddr_of fa31_0, load_of ld3, fieldAddr_of fa31_1, load_of ld9, e6, x1, u1, u2, endsT, km]
          · simp [-BitVec.toNat_or, -BitVec.toNat_ofInt, -BitVec.toNat_and, fieldAddr_of fa52_4, load_of ld29, len_slice u29, index_slice u29 sz31, load_agg ld31, alloc_of zo31, store_of sz31, fieldAddr_of fa31_0, load_of ld3, fieldAddr_of fa31_1, load_of ld9, e6, x1, u1, u2, endsT, km]
      · simp [-BitVec.toNat_or, -BitVec.toNat_ofInt, -BitVec.toNat_and, fieldAddr_of fa52_4, load_of ld29, len_slice u29, index_slice u29 sz31, load_agg ld31, alloc_of zo31, store_of sz31, fieldAddr_of fa31_0, load_of ld3, fieldAddr_of fa31_1, load_of ld9, e6]
        exact ⟨by simp [endsT, e2, e3, e4, e5, e6], km⟩
end Go.Proofs.YtgomgdbapgibjaaDoor.base

