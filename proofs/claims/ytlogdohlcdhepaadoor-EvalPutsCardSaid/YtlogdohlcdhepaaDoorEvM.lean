/-
  This text says where a unit and eval's machine stand in memory, and proves what the machine's 'does' does, over the abstract run.
  Condition: nothing is known of the calls ahead ('S f = []').
-/
import Derived.Test.YtlogdohlcdhepaaDoorEvU
set_option maxRecDepth 100000
set_option linter.unusedSimpArgs false
set_option linter.unusedVariables false
namespace Go.Proofs.YtlogdohlcdhepaaDoor.base
open Go.Sh gen
variable {S : Sums} {m : Mem}
abbrev UnT : Ty := (Ty.pair (Ty.int .i64) (Ty.pair (Ty.int .i64) (Ty.pair (Ty.slice 38 (Ty.pair (Ty.int .i64) (Ty.pair (Ty.int .i64) (Ty.pair (Ty.int .i64) (Ty.pair (Ty.int .i64) (Ty.pair (Ty.slice 3 (Ty.int .i64)) (Ty.pair (Ty.int .i64) Ty.unit))))))) (Ty.pair (Ty.slice 40 (Ty.pair (Ty.slice 3 (Ty.int .i64)) (Ty.pair (Ty.int .i64) (Ty.pair (Ty.int .i64) (Ty.pair (Ty.slice 3 (Ty.int .i64)) (Ty.pair (Ty.slice 3 (Ty.int .i64)) (Ty.pair (Ty.int .i64) Ty.unit))))))) (Ty.pair (Ty.slice 67 (Ty.pair (Ty.slice 64 (Ty.pair (Ty.int .i64) (Ty.pair (Ty.int .i64) (Ty.pair (Ty.slice 3 (Ty.int .i64)) (Ty.pair (Ty.slice 3 (Ty.int .i64)) Ty.unit))))) Ty.unit)) Ty.unit)))))
abbrev BlkT : Ty := (Ty.pair (Ty.slice 3 (Ty.int .i64)) (Ty.pair (Ty.int .i64) (Ty.pair (Ty.int .i64) (Ty.pair (Ty.slice 3 (Ty.int .i64)) (Ty.pair (Ty.slice 3 (Ty.int .i64)) (Ty.pair (Ty.int .i64) Ty.unit))))))
abbrev StT : Ty := (Ty.pair (Ty.slice 64 (Ty.pair (Ty.int .i64) (Ty.pair (Ty.int .i64) (Ty.pair (Ty.slice 3 (Ty.int .i64)) (Ty.pair (Ty.slice 3 (Ty.int .i64)) Ty.unit))))) Ty.unit)
abbrev FrmT : Ty := (Ty.pair (Ty.int .i64) (Ty.pair (Ty.int .i64) (Ty.pair (Ty.slice 3 (Ty.int .i64)) (Ty.pair (Ty.slice 3 (Ty.int .i64)) Ty.unit))))
theorem flat_size {css : List (List Value)} {z : Nat} (h : ∀ x ∈ css, x.length = z) : css.flatten.length = css.length * z := by
  induction css with
  | nil => simp
  | cons a r ih =>
    rw [List.flatten_cons, List.length_append, ih (fun c hc => h c (by simp [hc])), h a (by simp), List.length_cons, Nat.add_mul]
    omega
theorem win_flat {css : List (List Value)} {z i : Nat} (h : ∀ x ∈ css, x.length = z) (hi : i < css.length) : window css.flatten (i * z) z = css[i] := by
  induction css generalizing i with
  | nil => simp at hi
  | cons a r ih =>
    have ha := h a (by simp)
    cases i with
    | zero => simp [window, ← ha]
    | succ i =>
      have := ih (i := i) (fun x hx => h x (by simp [hx])) (by simpa using hi)
      simp only [window, List.flatten_cons] at this ⊢
      rw [show (i + 1) * z = a.length + i * z by rw [ha, Nat.add_mul]; omega, List.drop_append]
      have e : List.drop (a.length + i * z) a = [] := List.drop_of_length_le (by omega)
      rw [e]
      simpa using this
theorem slice_at {Q : Nat → Prop} {e : TypeId} {t : Ty} {l : List t.D} {ao : Option Addr} (h : AtQ Q m (Ty.slice e t) l [.slice ao l.length l.length]) :
    ∃ (css : List (List Value)) (fam : Nat), css.length = l.length ∧ (∀ (i : Nat) d c, l[i]? = some d → css[i]? = some c → AtQ Q m t d c) ∧ Rs m ao l.length css.flatten e t.size fam ∧ (l.length ≠ 0 → Q fam) := by
  obtain ⟨ao', css, fam, h1, h2, h3, h4, h5⟩ := h
  simp only [List.cons.injEq, Value.slice.injEq, and_true] at h1
  rw [← h1] at h4
  exact ⟨css, fam, h2, h3, h4, h5⟩
theorem slice_elem {Q : Nat → Prop} {e : TypeId} {t : Ty} {l : List t.D} {ao : Option Addr} (h : AtQ Q m (Ty.slice e t) l [.slice ao l.length l.length]) {i : Nat} (hi : i < l.length) :
    ∃ (vb : Nat) (c : List Value) (fam : Nat), ao = some ⟨vb, 0, none⟩ ∧ AtQ Q m t l[i] c ∧ loadRow m ⟨vb, i * t.size, none⟩ t.size = some c ∧ Q fam ∧ c.length = t.size := by
  obtain ⟨css, fam, hcl, hce, hr, hq⟩ := slice_at h
  obtain ⟨vb, rfl, o⟩ := hr.rdo (by omega)
  have hce' : ∀ (j : Nat) d c, l[j]? = some d → css[j]? = some c → At m t d c := fun j d c h1 h2 => (hce j d c h1 h2).at_
  obtain ⟨c, hc, hw⟩ := At.elem hcl hce' hi
  have hci : i < css.length := by omega
  have hat := hce i l[i] css[i] (List.getElem?_eq_getElem hi) (List.getElem?_eq_getElem hci)
  have hlen : ∀ x ∈ css, x.length = t.size := by
    intro x hx
    obtain ⟨j, hj⟩ := List.getElem?_of_mem hx
    have hjl : j < l.length := by have := (List.getElem?_eq_some_iff.1 hj).1; omega
    exact (hce' j l[j] x (List.getElem?_eq_getElem hjl) hj).len
  have hwin := win_flat hlen hci
  have hfl : css.flatten.length = css.length * t.size := flat_size hlen
  have hb : i * t.size + t.size ≤ css.flatten.length := by
    rw [hfl, ← Nat.succ_mul]
    exact Nat.mul_le_mul_right _ hci
  exact ⟨vb, css[i], fam, rfl, hat, by rw [o.load t.size hb, hwin], hq (by omega), hlen _ (List.getElem_mem hci)⟩
theorem load_sub {b off n k : Nat} {cs : List Value} {v : Value} (h : loadRow m ⟨b, off, none⟩ n = some cs) (hk : cs[k]? = some v) : loadRow m ⟨b, off + k, none⟩ 1 = some [v] := by
  unfold loadRow at h ⊢
  simp only at h ⊢
  cases hr : m.readable b with
  | none => rw [hr] at h; cases h
  | some bl =>
    rw [hr] at h
    simp only at h ⊢
    split at h
    · rename_i hle
      simp only [Option.some.injEq] at h
      subst h
      have hkl := (List.getElem?_eq_some_iff.1 hk).1
      have hwl : (window bl.cells off n).length = n := window_length hle
      rw [hwl] at hkl
      rw [if_pos (by omega)]
      obtain ⟨_, hk2⟩ := window_get hk
      have hlt := (List.getElem?_eq_some_iff.1 hk2).1
      unfold window
      rw [List.drop_eq_getElem_cons hlt]
      have := (List.getElem?_eq_some_iff.1 hk2).2
      rw [this]
      rfl
    · cases h
structure UAt (Q : Nat → Prop) (m : Mem) (u : UnT.D) (vo bo so : Option Addr) : Prop where
  v : AtQ Q m (Ty.slice 38 (Ty.pair (Ty.int .i64) (Ty.pair (Ty.int .i64) (Ty.pair (Ty.int .i64) (Ty.pair (Ty.int .i64) (Ty.pair (Ty.slice 3 (Ty.int .i64)) (Ty.pair (Ty.int .i64) Ty.unit))))))) u.2.2.1 [.slice vo u.2.2.1.length u.2.2.1.length]
  b : AtQ Q m (Ty.slice 40 (Ty.pair (Ty.slice 3 (Ty.int .i64)) (Ty.pair (Ty.int .i64) (Ty.pair (Ty.int .i64) (Ty.pair (Ty.slice 3 (Ty.int .i64)) (Ty.pair (Ty.slice 3 (Ty.int .i64)) (Ty.pair (Ty.int .i64) Ty.unit))))))) u.2.2.2.1 [.slice bo u.2.2.2.1.length u.2.2.2.1.length]
  s : AtQ Q m (Ty.slice 67 (Ty.pair (Ty.slice 64 (Ty.pair (Ty.int .i64) (Ty.pair (Ty.int .i64) (Ty.pair (Ty.slice 3 (Ty.int .i64)) (Ty.pair (Ty.slice 3 (Ty.int .i64)) Ty.unit))))) Ty.unit)) u.2.2.2.2.1 [.slice so u.2.2.2.2.1.length u.2.2.2.2.1.length]
theorem UAt.keep {Q : Nat → Prop} {m1 : Mem} {u : UnT.D} {vo bo so : Option Addr} {fs : List Nat} (h : UAt Q m u vo bo so) (k : Keeps m m1 fs) (hf : ∀ f ∈ fs, ¬ Q f) : UAt Q m1 u vo bo so :=
  ⟨h.v.keep k hf, h.b.keep k hf, h.s.keep k hf⟩
theorem ints_of {Q : Nat → Prop} {l : List Int} {c : List Value} (h : AtQ Q m (Ty.slice 3 (Ty.int .i64)) l c) : ∃ ao f, c = [.slice ao l.length l.length] ∧ Rs m ao l.length (l.map (Value.int .i64)) 3 1 f ∧ (l.length ≠ 0 → Q f) := by
  obtain ⟨ao, css, fam, h1, h2, h3, h4, h5⟩ := h
  have := ints_cells (e := 3) h2 (fun i d c h6 h7 => (h3 i d c h6 h7).at_)
  rw [this] at h4
  exact ⟨ao, fam, h1, h4, h5⟩
abbrev valC (x : ValT.D) (ao : Option Addr) : List Value := [.int .i64 x.1, .int .i64 x.2.1, .int .i64 x.2.2.1, .int .i64 x.2.2.2.1, .slice ao x.2.2.2.2.1.length x.2.2.2.2.1.length, .int .i64 x.2.2.2.2.2.1]
theorem val_at {Q : Nat → Prop} {u : UnT.D} {vo bo so : Option Addr} (h : UAt Q m u vo bo so) {i : Nat} (hi : i < u.2.2.1.length) :
    ∃ (vb : Nat) (ao : Option Addr) (f : Nat), vo = some ⟨vb, 0, none⟩ ∧ loadRow m ⟨vb, i * 6, none⟩ 6 = some (valC (u.2.2.1[i]) ao) ∧ Rs m ao (u.2.2.1[i]).2.2.2.2.1.length ((show List Int from (u.2.2.1[i]).2.2.2.2.1).map (Value.int .i64)) 3 1 f ∧ ((u.2.2.1[i]).2.2.2.2.1.length ≠ 0 → Q f) := by
  obtain ⟨vb, c, fam, e, hc, hl, hq, _⟩ := slice_elem h.v hi
  obtain ⟨_, _, e1, rfl, _, _, e2, rfl, _, _, e3, rfl, _, _, e4, rfl, _, _, e5, h5, _, _, e6, rfl, h7⟩ := hc
  simp only [AtQ] at h7
  subst h7
  obtain ⟨ao, f, rfl, hr, hqf⟩ := ints_of h5
  refine ⟨vb, ao, f, e, ?_, hr, hqf⟩
  rw [e1, e2, e3, e4, e5, e6] at hl
  exact hl
structure Kv where
  x : Nat
  f : Nat
  hb : Nat
  hf : Nat
  hwf : Nat
  wb : Nat
  wf : Nat
  room : Int
  vo : Option Addr
  bo : Option Addr
  so : Option Addr
structure Vv where
  hwb : Nat
  hw : List Int
  ws : List Int
  wish : Int
  steps : Int
abbrev nv (u : UnT.D) : Nat := u.2.2.1.length
structure Ev (Q : Nat → Prop) (m : Mem) (u : UnT.D) (K : Kv) (V : Vv) : Prop where
  own : Own m K.x [.int .i64 u.1, .int .i64 u.2.1, .slice K.vo (nv u) (nv u), .slice K.bo u.2.2.2.1.length u.2.2.2.1.length, .slice K.so u.2.2.2.2.1.length u.2.2.2.2.1.length, .pointer (some ⟨K.hb, 0, none⟩), .slice (some ⟨K.wb, 0, none⟩) (nv u) (nv u), .int .i64 V.wish, .int .i64 V.steps] 78 K.f
  wds : Own m K.wb (words V.ws) 45 K.wf
  len : V.ws.length = nv u
  wd : Wd V.ws
  hwd : Wd V.hw
  hl : V.hw.length ≤ 65536
  heap : HeapAt m K.hb K.hf V.hwb K.hwf V.hw K.room
  unit : UAt Q m u K.vo K.bo K.so
  nq : ¬ Q K.f ∧ ¬ Q K.wf ∧ ¬ Q K.hf ∧ ¬ Q K.hwf
  nd : K.f ≠ K.wf ∧ K.f ≠ K.hf ∧ K.f ≠ K.hwf ∧ K.wf ≠ K.hf ∧ K.wf ≠ K.hwf ∧ K.hf ≠ K.hwf
theorem Ev.keep {Q : Nat → Prop} {m1 : Mem} {u : UnT.D} {K : Kv} {V : Vv} {fs : List Nat} (h : Ev Q m u K V) (k : Keeps m m1 fs) (h1 : K.f ∉ fs) (h2 : K.wf ∉ fs) (h3 : K.hf ∉ fs) (h4 : K.hwf ∉ fs) (h5 : ∀ f ∈ fs, ¬ Q f) : Ev Q m1 u K V :=
  ⟨h.own.keep k h1, h.wds.keep k h2, h.len, h.wd, h.hwd, h.hl, h.heap.keep k h3 h4, h.unit.keep k h5, h.nq, h.nd⟩
theorem Ev.keep0 {Q : Nat → Prop} {m1 : Mem} {u : UnT.D} {K : Kv} {V : Vv} (h : Ev Q m u K V) (k : Keeps m m1 []) : Ev Q m1 u K V := h.keep k (by simp) (by simp) (by simp) (by simp) (by simp)
theorem words_len (l : List Int) : (words l).length = l.length := by simp [words]
theorem Ev.setw {Q : Nat → Prop} {u : UnT.D} {K : Kv} {V : Vv} (h : Ev Q m u K V) {i : Nat} (hi : i < nv u) {v : Int} (hv : 0 ≤ v ∧ v ≤ 18446744073709551615) :
    ∃ m1, storeRow m ⟨K.wb, i, none⟩ [.int .u64 v] = some m1 ∧ Ev Q m1 u K { V with ws := V.ws.set i v } ∧ Keeps m m1 [K.wf] := by
  obtain ⟨m1, e1, o1, k1⟩ := store_own (r := _) rfl h.wds (off := i) (vs := [.int .u64 v]) (by rw [words_len, h.len]; simp; omega) (by simp [one_int])
  rw [over_words v (by rw [h.len]; exact hi)] at o1
  have nd := h.nd
  refine ⟨m1, e1, ⟨h.own.keep k1 (by simpa using nd.1), o1, by simpa using h.len, ?_, h.hwd, h.hl, h.heap.keep k1 (by simpa using fun e => nd.2.2.2.1 e.symm) (by simpa using fun e => nd.2.2.2.2.1 e.symm), h.unit.keep k1 (by simpa using h.nq.2.1), h.nq, nd⟩, k1⟩
  intro w hw
  rcases List.mem_or_eq_of_mem_set hw with h1 | h1
  · exact h.wd w h1
  · rw [h1]; exact hv
end Go.Proofs.YtlogdohlcdhepaaDoor.base

