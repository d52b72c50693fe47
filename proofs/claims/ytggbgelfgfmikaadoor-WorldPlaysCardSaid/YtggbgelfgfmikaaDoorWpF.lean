/-
  This text joins the two worlds in one memory: what is asked of both is answered alike, and both are alike behind it.
  Condition: nothing is known of the calls ahead ('S f = []'); the table of powers of ten is laid.
-/
import Derived.Test.YtggbgelfgfmikaaDoorWpE
set_option maxRecDepth 100000
set_option linter.unusedSimpArgs false
set_option linter.unusedVariables false
namespace Go.Proofs.YtggbgelfgfmikaaDoor.base
open Go.Sh gen
variable {S : Sums} {m : Mem}
structure Kx where
  x : Nat
  hb : Nat
  wf : Nat
  y : Nat
  hb2 : Nat
  wf2 : Nat
  tb : Nat
  tf : Nat
  tcs : List Value
  tb2 : Nat
  tf2 : Nat
  tcs2 : List Value
  lo : Option Addr
  lf : Nat
  lo2 : Option Addr
  lf2 : Nat
  lits : List Int
  ib : Nat
  jf : Nat
  jo2 : Option Addr
  jf2 : Nat
  ins : List Int
  room : Int
  p1 : Value
  p2 : Value
  p3 : Value
  p4 : Value
  N0 : Nat
structure Vx where
  wb : Nat
  vb : Nat
  ws : List Int
  tk : Nat
  no : Option Addr
  nf : Nat
  no2 : Option Addr
  nf2 : Nat
  lines : List (List UInt8)
def Kx.F (K : Kx) : List Nat := [K.x, K.hb, K.wf, K.y, K.hb2, K.wf2]
def Kx.G (K : Kx) : List Nat := [K.tf, K.tf2, K.lf, K.lf2, K.jf, K.jf2, 0]
structure Kok (K : Kx) : Prop where
  nd : (K.x ≠ K.y ∧ K.x ≠ K.hb2 ∧ K.x ≠ K.wf2) ∧ (K.hb ≠ K.y ∧ K.hb ≠ K.hb2 ∧ K.hb ≠ K.wf2) ∧ (K.wf ≠ K.y ∧ K.wf ≠ K.hb2 ∧ K.wf ≠ K.wf2)
  lt : ∀ g ∈ K.F, g < K.N0
  gl : ∀ g ∈ K.G, g < K.N0 ∧ g ∉ K.F
  room : 1 ≤ K.room ∧ K.room ≤ 65536
  lits : K.lits.length ≤ 1000
  ins : K.ins.length ≤ 1000
structure Ro (m : Mem) (K : Kx) : Prop where
  ty : TyT m K.tb K.tf K.tcs
  ty2 : TyT m K.tb2 K.tf2 K.tcs2
  li : Rs m K.lo K.lits.length (words K.lits) 22 1 K.lf
  li2 : Rs m K.lo2 K.lits.length (words K.lits) 22 1 K.lf2
  io : Rs m (some ⟨K.ib, 0, none⟩) K.ins.length (int64s K.ins) 2 1 K.jf
  io2 : Rs m K.jo2 K.ins.length (int64s K.ins) 2 1 K.jf2
  pw : ∃ e, Rdo m 0 powC e 0
theorem TyT.keep {m1 : Mem} {tb tf : Nat} {tcs : List Value} {fs : List Nat} (h : TyT m tb tf tcs) (k : Keeps m m1 fs) (hf : tf ∉ fs) : TyT m1 tb tf tcs := ⟨h.o.keep k hf, h.len, h.at_⟩
theorem Ro.keep {m1 : Mem} {K : Kx} {fs : List Nat} (hK : Kok K) (h : Ro m K) (k : Keeps m m1 fs) (hg : ∀ g ∈ fs, g ∈ K.F ∨ K.N0 ≤ g) : Ro m1 K := by
  have no : ∀ g ∈ K.G, g ∉ fs := fun g h1 h2 => by
    have h3 := hK.gl g h1
    rcases hg g h2 with h4 | h4
    · exact h3.2 h4
    · omega
  obtain ⟨e, hp⟩ := h.pw
  exact ⟨h.ty.keep k (no _ (by simp [Kx.G])), h.ty2.keep k (no _ (by simp [Kx.G])), h.li.keep k (no _ (by simp [Kx.G])), h.li2.keep k (no _ (by simp [Kx.G])), h.io.keep k (no _ (by simp [Kx.G])), h.io2.keep k (no _ (by simp [Kx.G])), e, hp.keep k (no _ (by simp [Kx.G]))⟩
abbrev PS (m : Mem) (K : Kx) (V : Vx) : Prop := PWat m K.x K.x K.hb K.hb V.wb K.wf V.ws K.room (.slice (some ⟨K.tb, 0, none⟩) 7 7) (.slice K.lo K.lits.length K.lits.length) (.slice (some ⟨K.ib, 0, none⟩) K.ins.length K.ins.length) V.tk V.no V.nf V.lines
abbrev RS (m : Mem) (K : Kx) (V : Vx) : Prop := RWat m K.y K.y K.hb2 K.hb2 V.vb K.wf2 V.ws K.room (.slice (some ⟨K.tb2, 0, none⟩) 7 7) K.p1 K.p2 K.p3 K.p4 (.slice K.lo2 K.lits.length K.lits.length) (.slice K.jo2 K.ins.length K.ins.length) V.tk V.no2 V.nf2 V.lines
structure St (m : Mem) (K : Kx) (V : Vx) : Prop where
  p : PS m K V
  r : RS m K V
  o : Ro m K
  g : GoodW V.ws K.room
  t : V.tk ≤ K.ins.length
  l : V.lines.length ≤ 4096
  n1 : V.no ≠ none → K.N0 ≤ V.nf
  n2 : V.no2 ≠ none → K.N0 ≤ V.nf2
  n3 : V.no ≠ none → V.no2 ≠ none → V.nf ≠ V.nf2
  m0 : K.N0 ≤ m.next
def Mu (K : Kx) (V : Vx) : List Nat := K.F ++ ((if V.no = none then [] else [V.nf]) ++ (if V.no2 = none then [] else [V.nf2]))
section
variable {K : Kx} {V : Vx}
theorem sl_flt {m : Mem} {ao : Option Addr} {n z fam : Nat} {cells : List Value} {e : TypeId} (h : Sl m ao n cells e z fam) (hn : ao ≠ none) : fam < m.next := by
  rcases h.2 with ⟨h1, _⟩ | ⟨b, _, o⟩
  · exact absurd h1 hn
  · exact o.flt
theorem mu_nf (V : Vx) (h : V.no ≠ none) : V.nf ∈ Mu K V := by simp [Mu, h]
theorem mu_nf2 (V : Vx) (h : V.no2 ≠ none) : V.nf2 ∈ Mu K V := by simp [Mu, h]
theorem mu_F {g : Nat} (V : Vx) (h : g ∈ K.F) : g ∈ Mu K V := by simp [Mu, h]
theorem mu_cases {g : Nat} (h : g ∈ Mu K V) : g ∈ K.F ∨ (V.no ≠ none ∧ g = V.nf) ∨ (V.no2 ≠ none ∧ g = V.nf2) := by
  simp only [Mu, List.mem_append] at h
  rcases h with h | h | h
  · exact Or.inl h
  · split at h
    · cases h
    · exact Or.inr (Or.inl ⟨by assumption, by simpa using h⟩)
  · split at h
    · cases h
    · exact Or.inr (Or.inr ⟨by assumption, by simpa using h⟩)
theorem St.mu_lt (h : St m K V) : ∀ g ∈ Mu K V, g < m.next := by
  intro g hg
  rcases mu_cases hg with h1 | ⟨h1, rfl⟩ | ⟨h1, rfl⟩
  · have a1 := h.p.own.flt
    have a2 := h.p.heap.h.flt
    have a3 := h.p.heap.w.flt
    have a4 := h.r.own.flt
    have a5 := h.r.heap.h.flt
    have a6 := h.r.heap.w.flt
    simp only [Kx.F, List.mem_cons, List.not_mem_nil, or_false] at h1
    omega
  · exact sl_flt h.p.lines h1
  · exact sl_flt h.r.lines h1
theorem St.mu_hi (h : St m K V) : ∀ g ∈ Mu K V, g ∈ K.F ∨ K.N0 ≤ g := by
  intro g hg
  rcases mu_cases hg with h1 | ⟨h1, rfl⟩ | ⟨h1, rfl⟩
  · exact Or.inl h1
  · exact Or.inr (h.n1 h1)
  · exact Or.inr (h.n2 h1)
def pm (K : Kx) (V : Vx) (g : Nat) : Prop := g = K.x ∨ g = K.hb ∨ g = K.wf ∨ (V.no ≠ none ∧ g = V.nf)
def rm (K : Kx) (V : Vx) (g : Nat) : Prop := g = K.y ∨ g = K.hb2 ∨ g = K.wf2 ∨ (V.no2 ≠ none ∧ g = V.nf2)
theorem pm_mu {g : Nat} (h : pm K V g) : g ∈ Mu K V := by
  rcases h with h | h | h | ⟨h, rfl⟩
  · exact mu_F V (by simp [Kx.F, h])
  · exact mu_F V (by simp [Kx.F, h])
  · exact mu_F V (by simp [Kx.F, h])
  · exact mu_nf V h
theorem rm_mu {g : Nat} (h : rm K V g) : g ∈ Mu K V := by
  rcases h with h | h | h | ⟨h, rfl⟩
  · exact mu_F V (by simp [Kx.F, h])
  · exact mu_F V (by simp [Kx.F, h])
  · exact mu_F V (by simp [Kx.F, h])
  · exact mu_nf2 V h
theorem St.pr (hK : Kok K) (h : St m K V) {g q : Nat} (h1 : pm K V g) (h2 : rm K V q) : q ≠ g := by
  have nd := hK.nd
  have a : ∀ g ∈ K.F, g < K.N0 := hK.lt
  have b1 := a K.x (by simp [Kx.F])
  have b2 := a K.hb (by simp [Kx.F])
  have b3 := a K.wf (by simp [Kx.F])
  have b4 := a K.y (by simp [Kx.F])
  have b5 := a K.hb2 (by simp [Kx.F])
  have b6 := a K.wf2 (by simp [Kx.F])
  rcases h1 with h1 | h1 | h1 | ⟨h1, h1'⟩
  all_goals rcases h2 with h2 | h2 | h2 | ⟨h2, h2'⟩
  all_goals try omega
  all_goals try (have c1 := h.n1 h1; omega)
  all_goals try (have c2 := h.n2 h2; omega)
  · have := h.n3 h1 h2
    omega
theorem St.rkeep (hK : Kok K) (h : St m K V) {m1 : Mem} {fs : List Nat} (k : Keeps m m1 fs) (hf : ∀ g ∈ fs, pm K V g) : RS m1 K V :=
  h.r.keep k (fun hx => h.pr hK (hf _ hx) (Or.inl rfl) rfl) (fun hx => h.pr hK (hf _ hx) (Or.inr (Or.inl rfl)) rfl) (fun hx => h.pr hK (hf _ hx) (Or.inr (Or.inr (Or.inl rfl))) rfl) (fun hn hx => h.pr hK (hf _ hx) (Or.inr (Or.inr (Or.inr ⟨hn, rfl⟩))) rfl)
theorem St.print (hN : Pw S) (hR : Rw S) (hK : Kok K) (h : St m K V) {k v : Int} (hv : 0 ≤ v) :
    ∃ r m1 r2 m2 V1, callw Tryd.prog TT S 12 [.pointer (some ⟨K.x, 0, none⟩), .int .i64 k, .int .u64 v] m = some (r, m1) ∧ callw Tryd.prog TT S 29 [.pointer (some ⟨K.y, 0, none⟩), .int .i64 k, .int .u64 v] m1 = some (r2, m2) ∧ St m2 K V1 ∧ Keeps m m1 (Mu K V) ∧ Keeps m1 m2 (Mu K V) := by
  obtain ⟨e, hp⟩ := h.o.pw
  have hG := h.g
  have hle := hG.le
  have hrm := hK.room
  obtain ⟨r, m1, c1, ⟨no1, nf1, P1, hnf1⟩, nq, k1, hnq⟩ := pprint_run hN hp h.p (by omega) hG.wd h.l (k := k) hv
  have f1 : ∀ g ∈ [K.x, nq], pm K V g := by
    intro g hg
    simp only [List.mem_cons, List.not_mem_nil, or_false] at hg
    rcases hg with rfl | rfl
    · exact Or.inl rfl
    · rcases hnq with rfl | ⟨a, rfl⟩
      · exact Or.inl rfl
      · exact Or.inr (Or.inr (Or.inr ⟨a, rfl⟩))
  have R1 := h.rkeep hK k1 f1
  obtain ⟨r2, m2, c2, ⟨no2, nf2, Q2, hnf2⟩, nq2, k2, hnq2⟩ := rprint_run hR R1 (by omega) hG.wd hG.zero h.l (k := k) hv
  have f2 : ∀ g ∈ [K.y, nq2], rm K V g := by
    intro g hg
    simp only [List.mem_cons, List.not_mem_nil, or_false] at hg
    rcases hg with rfl | rfl
    · exact Or.inl rfl
    · rcases hnq2 with rfl | ⟨a, rfl⟩
      · exact Or.inl rfl
      · exact Or.inr (Or.inr (Or.inr ⟨a, rfl⟩))
  have mlt := h.mu_lt
  have q2 := fun hn : V.no2 ≠ none => mlt V.nf2 (mu_nf2 V hn)
  have m12 := k1.1
  have hi1 : no1 ≠ none → K.N0 ≤ nf1 := fun hn => by
    rcases hnf1 hn with ⟨a, b⟩ | a
    · rw [b]; exact h.n1 a
    · have := h.m0; omega
  have hi2 : no2 ≠ none → K.N0 ≤ nf2 := fun hn => by
    rcases hnf2 hn with ⟨a, b⟩ | a
    · rw [b]; exact h.n2 a
    · have := h.m0; omega
  have n1 := fun hn : no1 ≠ none => sl_flt P1.lines hn
  have hF := hK.lt
  have P2 : PWat m2 K.x K.x K.hb K.hb V.wb K.wf V.ws K.room (.slice (some ⟨K.tb, 0, none⟩) 7 7) (.slice K.lo K.lits.length K.lits.length) (.slice (some ⟨K.ib, 0, none⟩) K.ins.length K.ins.length) V.tk no1 nf1 (addL V.lines V.ws k v) := by
    refine P1.keep k2 (fun hx => h.pr hK (g := K.x) (Or.inl rfl) (f2 _ hx) rfl) (fun hx => h.pr hK (g := K.hb) (Or.inr (Or.inl rfl)) (f2 _ hx) rfl) (fun hx => h.pr hK (g := K.wf) (Or.inr (Or.inr (Or.inl rfl))) (f2 _ hx) rfl) (fun hn hx => ?_)
    rcases hnf1 hn with ⟨a, b⟩ | a
    · rw [b] at hx
      exact h.pr hK (Or.inr (Or.inr (Or.inr ⟨a, rfl⟩))) (f2 _ hx) rfl
    · have := mlt nf1 (rm_mu (f2 _ hx))
      omega
  refine ⟨r, m1, r2, m2, { V with no := no1, nf := nf1, no2 := no2, nf2 := nf2, lines := addL V.lines V.ws k v }, c1, c2, ⟨P2, Q2, (h.o.keep hK k1 (fun g hg => h.mu_hi g (pm_mu (f1 g hg)))).keep hK k2 (fun g hg => h.mu_hi g (rm_mu (f2 g hg))), hG, h.t, ?_, hi1, hi2, ?_, by have := k2.1; have := h.m0; omega⟩, k1.mono (fun g hg => pm_mu (f1 g hg)), k2.mono (fun g hg => rm_mu (f2 g hg))⟩
  · show (addL V.lines V.ws k v).length ≤ 4096
    have := h.l
    unfold addL
    split
    · simp; omega
    · omega
  · intro a b
    show nf1 ≠ nf2
    have n1' := n1 a
    rcases hnf1 a with ⟨a1, b1⟩ | a1
    · rcases hnf2 b with ⟨a2, b2⟩ | a2
      · rw [b1, b2]; exact h.n3 a1 a2
      · omega
    · rcases hnf2 b with ⟨a2, b2⟩ | a2
      · have := q2 a2; omega
      · omega
theorem St.step (hK : Kok K) (h : St m K V) {m1 m2 : Mem} {fs1 fs2 : List Nat} {wb vb tk : Nat} {ws : List Int} (P1 : PS m1 K { V with wb := wb, ws := ws, tk := tk }) (k1 : Keeps m m1 fs1) (f1 : ∀ g ∈ fs1, pm K V g) (Q2 : RS m2 K { V with vb := vb, ws := ws, tk := tk }) (k2 : Keeps m1 m2 fs2) (f2 : ∀ g ∈ fs2, rm K V g) (hG : GoodW ws K.room) (ht : tk ≤ K.ins.length) :
    St m2 K { V with wb := wb, vb := vb, ws := ws, tk := tk } ∧ Keeps m m1 (Mu K V) ∧ Keeps m1 m2 (Mu K V) := by
  have P2 : PS m2 K { V with wb := wb, ws := ws, tk := tk } := P1.keep k2 (fun hx => h.pr hK (g := K.x) (Or.inl rfl) (f2 _ hx) rfl) (fun hx => h.pr hK (g := K.hb) (Or.inr (Or.inl rfl)) (f2 _ hx) rfl) (fun hx => h.pr hK (g := K.wf) (Or.inr (Or.inr (Or.inl rfl))) (f2 _ hx) rfl) (fun hn hx => h.pr hK (Or.inr (Or.inr (Or.inr ⟨hn, rfl⟩))) (f2 _ hx) rfl)
  exact ⟨⟨P2, Q2, (h.o.keep hK k1 (fun g hg => h.mu_hi g (pm_mu (f1 g hg)))).keep hK k2 (fun g hg => h.mu_hi g (rm_mu (f2 g hg))), hG, ht, h.l, h.n1, h.n2, h.n3, by have := k1.1; have := k2.1; have := h.m0; omega⟩, k1.mono (fun g hg => pm_mu (f1 g hg)), k2.mono (fun g hg => rm_mu (f2 g hg))⟩
theorem pm_x {g : Nat} (h : g ∈ [K.x]) : pm K V g := by simp only [List.mem_singleton] at h; exact Or.inl h
theorem rm_y {g : Nat} (h : g ∈ [K.y]) : rm K V g := by simp only [List.mem_singleton] at h; exact Or.inl h
theorem pm_h {g : Nat} (h : g ∈ [K.hb, K.wf]) : pm K V g := by
  simp only [List.mem_cons, List.not_mem_nil, or_false] at h
  rcases h with h | h
  · exact Or.inr (Or.inl h)
  · exact Or.inr (Or.inr (Or.inl h))
theorem rm_h {g : Nat} (h : g ∈ [K.hb2, K.wf2]) : rm K V g := by
  simp only [List.mem_cons, List.not_mem_nil, or_false] at h
  rcases h with h | h
  · exact Or.inr (Or.inl h)
  · exact Or.inr (Or.inr (Or.inl h))
theorem inT_le {ins : List Int} {t : Nat} (h : t ≤ ins.length) : inT ins t ≤ ins.length := by unfold inT; split <;> omega
def Both (S : Sums) (K : Kx) (V : Vx) (m : Mem) (f1 f2 : Nat) (xs : List Value) (v : Value) : Prop :=
  ∃ m1 m2 V1, callw Tryd.prog TT S f1 (.pointer (some ⟨K.x, 0, none⟩) :: xs) m = some (v, m1) ∧ callw Tryd.prog TT S f2 (.pointer (some ⟨K.y, 0, none⟩) :: xs) m1 = some (v, m2) ∧ St m2 K V1 ∧ Keeps m m1 (Mu K V) ∧ Keeps m1 m2 (Mu K V)
theorem St.input (hN : Pw S) (hR : Rw S) (hK : Kok K) (h : St m K V) : Both S K V m 22 30 [] (.int .u64 (inV K.ins V.tk)) := by
  have j1 := (hK.gl K.jf (by simp [Kx.G])).2
  have j2 := (hK.gl K.jf2 (by simp [Kx.G])).2
  simp only [Kx.F, List.mem_cons, List.not_mem_nil, or_false, not_or] at j1 j2
  obtain ⟨_, m1, c1, rfl, P1, k1⟩ := pinput_run hN h.p h.o.io hK.ins h.t j1.1
  have f1 : ∀ g ∈ [K.x], pm K V g := fun g hg => pm_x hg
  have O1 := h.o.keep hK k1 (fun g hg => h.mu_hi g (pm_mu (f1 g hg)))
  obtain ⟨_, m2, c2, rfl, Q2, k2⟩ := rinput_run hR (h.rkeep hK k1 f1) O1.io2 hK.ins h.t j2.2.2.2.1
  obtain ⟨a, b, c⟩ := h.step hK (wb := V.wb) (vb := V.vb) (ws := V.ws) P1 k1 f1 Q2 k2 (fun g hg => rm_y hg) h.g (inT_le h.t)
  exact ⟨m1, m2, _, c1, c2, a, b, c⟩
theorem St.object (hN : Pw S) (hR : Rw S) (hK : Kok K) (h : St m K V) (t : Int) : Both S K V m 23 31 [.int .i64 t] (.tuple #[.int .u64 (allocV V.ws K.room t (fieldsN t)), .bool (allocB V.ws K.room t (fieldsN t))]) := by
  have hle := h.g.le
  have hrm := hK.room
  obtain ⟨_, m1, c1, rfl, ⟨wb1, P1⟩, k1⟩ := pobject_run hN h.p h.o.ty (by omega) (by omega) h.p.heap.ne (t := t)
  have f1 : ∀ g ∈ [K.hb, K.wf], pm K V g := fun g hg => pm_h hg
  have O1 := h.o.keep hK k1 (fun g hg => h.mu_hi g (pm_mu (f1 g hg)))
  obtain ⟨_, m2, c2, rfl, ⟨vb1, Q2⟩, k2⟩ := robject_run hR (h.rkeep hK k1 f1) O1.ty2 (by omega) (by omega) (t := t)
  obtain ⟨a, b, c⟩ := h.step hK (wb := wb1) (vb := vb1) (tk := V.tk) P1 k1 f1 Q2 k2 (fun g hg => rm_h hg) h.g.alloc h.t
  exact ⟨m1, m2, _, c1, c2, a, b, c⟩
theorem St.slice (hN : Pw S) (hR : Rw S) (hK : Kok K) (h : St m K V) {n : Int} (hn : -9223372036854775808 ≤ n ∧ n ≤ 9223372036854775807) : Both S K V m 24 32 [.int .i64 6, .int .i64 n] (.tuple #[.int .u64 (allocV V.ws K.room 6 n), .bool (allocB V.ws K.room 6 n)]) := by
  have hle := h.g.le
  have hrm := hK.room
  obtain ⟨_, m1, c1, rfl, ⟨wb1, P1⟩, k1⟩ := pslice_run hN h.p (by omega) (by omega) hn
  have f1 : ∀ g ∈ [K.hb, K.wf], pm K V g := fun g hg => pm_h hg
  obtain ⟨_, m2, c2, rfl, ⟨vb1, Q2⟩, k2⟩ := rslice_run hR (h.rkeep hK k1 f1) (by omega) (by omega) hn
  obtain ⟨a, b, c⟩ := h.step hK (wb := wb1) (vb := vb1) (tk := V.tk) P1 k1 f1 Q2 k2 (fun g hg => rm_h hg) h.g.alloc h.t
  exact ⟨m1, m2, _, c1, c2, a, b, c⟩
theorem GoodW.cat {ws : List Int} {room : Int} (h : GoodW ws room) (hr : room ≤ 65536) (a b : Int) : GoodW (catW ws room a b) room := by
  unfold catW
  split
  · exact h
  · exact h.text hr
theorem catV_nn (ws : List Int) (room a b : Int) : 0 ≤ catV ws room a b := by
  unfold catV textV
  split
  · omega
  · split
    · omega
    · split <;> omega
theorem St.cat (hN : Pw S) (hR : Rw S) (hK : Kok K) (h : St m K V) {a b : Int} (ha : 0 ≤ a) (hb : 0 ≤ b) : Both S K V m 16 33 [.int .u64 a, .int .u64 b] (.tuple #[.int .u64 (catV V.ws K.room a b), .bool (catB V.ws K.room a b)]) := by
  have hle := h.g.le
  have hrm := hK.room
  obtain ⟨_, m1, c1, rfl, ⟨wb1, P1⟩, k1⟩ := pcat_run hN h.p (by omega) (by omega) h.g.wd ha hb
  have f1 : ∀ g ∈ [K.hb, K.wf], pm K V g := fun g hg => pm_h hg
  obtain ⟨_, m2, c2, rfl, ⟨vb1, Q2⟩, k2⟩ := rcat_run hR (h.rkeep hK k1 f1) (by omega) (by omega) h.g.wd h.g.zero h.g.pos ha hb
  obtain ⟨a, b, c⟩ := h.step hK (wb := wb1) (vb := vb1) (tk := V.tk) P1 k1 f1 Q2 k2 (fun g hg => rm_h hg) (h.g.cat (by omega) _ _) h.t
  exact ⟨m1, m2, _, c1, c2, a, b, c⟩
theorem St.keep0 (hK : Kok K) (h : St m K V) {m1 : Mem} (k : Keeps m m1 []) : St m1 K V :=
  ⟨h.p.keep0 k, h.r.keep0 k, h.o.keep hK k (fun g hg => by simp at hg), h.g, h.t, h.l, h.n1, h.n2, h.n3, by have := k.1; have := h.m0; omega⟩
end
end Go.Proofs.YtggbgelfgfmikaaDoor.base

