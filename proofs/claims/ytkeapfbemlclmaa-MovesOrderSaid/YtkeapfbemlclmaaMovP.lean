/-
  This text proves, in plain Lean, that moves done one by one as the orderer of chapter 23 does them come to what they are at once, and how many they are.
  No condition but what the theorems themselves say.
-/
import Derived.Test.YtkeapfbemlclmaaShD
set_option linter.unusedVariables false
set_option linter.unusedSimpArgs false
namespace Go.Proofs.Ytkeapfbemlclmaa.base
abbrev Mv := Int × Int
/-- what a place has, among some that were told -/
def fnd (now : List Mv) (p : Int) : Int := now.foldl (fun a x => if x.2 = p then x.1 else a) p
theorem fnd_nil (p : Int) : fnd [] p = p := rfl
theorem fnd_snoc (now : List Mv) (x : Mv) (p : Int) : fnd (now ++ [x]) p = if x.2 = p then x.1 else fnd now p := by simp [fnd]
/-- the places that were written, each with what it then had -/
def told (got : List Mv) : List Mv := got.foldl (fun now g => now ++ [(fnd now g.1, g.2)]) []
theorem told_snoc (got : List Mv) (x : Mv) : told (got ++ [x]) = told got ++ [(fnd (told got) x.1, x.2)] := by simp [told]
theorem told_len (got : List Mv) : (told got).length = got.length := by
  have : ∀ (l now : List Mv), (l.foldl (fun now g => now ++ [(fnd now g.1, g.2)]) now).length = now.length + l.length := by
    intro l
    induction l with
    | nil => intro now; rfl
    | cons x l ih => intro now; simp only [List.foldl_cons, ih, List.length_append, List.length_cons, List.length_nil]; omega
  have h := this got []
  unfold told
  simpa using h
theorem told_to (got : List Mv) : (told got).map (·.2) = got.map (·.2) := by
  have : ∀ (l now : List Mv), (l.foldl (fun now g => now ++ [(fnd now g.1, g.2)]) now).map (·.2) = now.map (·.2) ++ l.map (·.2) := by
    intro l
    induction l with
    | nil => intro now; simp
    | cons x l ih => intro now; simp only [List.foldl_cons, ih, List.map_append, List.map_cons, List.map_nil, List.append_assoc, List.cons_append, List.nil_append]
  have h := this got []
  unfold told
  simpa using h
/-- what a place has behind them -/
def sg (got : List Mv) (p : Int) : Int := fnd (told got) p
theorem sg_nil (p : Int) : sg [] p = p := rfl
theorem sg_snoc (got : List Mv) (a b p : Int) : sg (got ++ [(a, b)]) p = if b = p then sg got a else sg got p := by
  simp only [sg, told_snoc, fnd_snoc]

/-- how many of D's places are moved from p -/
def cnt (F : Int → Int) (D : List Int) (p : Int) : Nat := (D.filter fun q => decide (F q = p)).length
theorem cnt_nil (F : Int → Int) (p : Int) : cnt F [] p = 0 := rfl
theorem cnt_snoc (F : Int → Int) (D : List Int) (q p : Int) : cnt F (D ++ [q]) p = cnt F D p + if F q = p then 1 else 0 := by
  simp only [cnt, List.filter_append, List.length_append, List.filter_cons, List.filter_nil]
  split <;> simp_all
theorem cnt_zero {F : Int → Int} {D : List Int} {p : Int} : cnt F D p = 0 ↔ ∀ q ∈ D, F q ≠ p := by
  simp only [cnt, List.length_eq_zero_iff, List.filter_eq_nil_iff, decide_eq_true_eq]
theorem cnt_le (F : Int → Int) (D : List Int) (p : Int) : cnt F D p ≤ D.length := List.length_filter_le _ _
theorem cnt_erase {F : Int → Int} {D : List Int} {q : Int} (hq : q ∈ D) (p : Int) : cnt F (D.erase q) p + (if F q = p then 1 else 0) = cnt F D p := by
  induction D with
  | nil => simp at hq
  | cons a D ih =>
    by_cases h : a = q
    · subst h
      rw [List.erase_cons_head]
      simp only [cnt, List.filter_cons]
      split <;> simp_all
    · have hq' : q ∈ D := by simpa [Ne.symm h, eq_comm, h] using hq
      rw [List.erase_cons_tail (by simpa using h)]
      have := ih hq'
      simp only [cnt, List.filter_cons] at this ⊢
      by_cases hp : F a = p
      · simp only [hp, decide_true, if_true, List.length_cons]; omega
      · simp only [hp, decide_false, Bool.false_eq_true, if_false]; exact this

/-- the flow's state: D: the places that are still to be moved to -/
structure Flow (F : Int → Int) (T : List Int) (spare : Int) (D free : List Int) (out : List Mv) : Prop where
  nd : D.Nodup
  sub : ∀ q ∈ D, q ∈ T
  fnd : free.Nodup
  fin : ∀ p ∈ free, p ∈ D ∧ cnt F D p = 0
  fall : ∀ p ∈ D, cnt F D p = 0 → p ∈ free
  sig : ∀ p, p ≠ spare → sg out p = if p ∈ T ∧ p ∉ D then F p else p
  src : ∀ q ∈ D, F q ∈ D ∨ F q ∉ T
  len : out.length + D.length = T.length
  ok : ∀ x ∈ out, x.1 ≠ x.2 ∧ x.2 ∈ T
  cyc : ∀ C : Int → Prop, (∀ c, C c → c ∈ T ∧ ∃ q, C q ∧ F q = c) → ∀ c, C c → c ∈ D

section
variable {F : Int → Int} {T : List Int} {spare : Int} {D free : List Int} {out : List Mv}
/-- moves that may be: no two to a place, none from or to the spare one, none from a place to itself -/
structure Mov (F : Int → Int) (T : List Int) (spare : Int) : Prop where
  nd : T.Nodup
  ne : ∀ t ∈ T, F t ≠ t
  sp : spare ∉ T
  spf : ∀ t ∈ T, F t ≠ spare

theorem Flow.start (h : Mov F T spare) (hf : ∀ p, p ∈ free ↔ p ∈ T ∧ cnt F T p = 0) (hn : free.Nodup) : Flow F T spare T free [] :=
  ⟨h.nd, fun _ h => h, hn, fun p hp => (hf p).1 hp, fun p hp hc => (hf p).2 ⟨hp, hc⟩, fun p _ => by rw [if_neg (fun h => h.2 h.1)]; rfl, fun q hq => Classical.em _, by simp, fun x hx => by simp at hx, fun C hC c hc => (hC c hc).1⟩

theorem Flow.step (hM : Mov F T spare) (h : Flow F T spare D free out) {p : Int} {rest : List Int} (hp : free.Perm (p :: rest)) {free' : List Int}
    (hf : if F p ∈ D ∧ cnt F (D.erase p) (F p) = 0 then free'.Perm (F p :: rest) else free'.Perm rest) :
    Flow F T spare (D.erase p) free' (out ++ [(F p, p)]) := by
  obtain ⟨hpD, hp0⟩ := h.fin p (hp.symm.subset (by simp))
  have hpT := h.sub p hpD
  have hne := hM.ne p hpT
  have hsp : p ≠ spare := fun e => hM.sp (e ▸ hpT)
  have hfs := hM.spf p hpT
  have hmem : ∀ q, q ∈ D.erase p ↔ q ≠ p ∧ q ∈ D := fun q => h.nd.mem_erase_iff
  have hcp : ∀ q, cnt F (D.erase p) q + (if F p = q then 1 else 0) = cnt F D q := fun q => cnt_erase hpD q
  have hnr : (p :: rest).Nodup := hp.nodup_iff.1 h.fnd
  have hnr2 := List.nodup_cons.1 hnr
  have hrest : ∀ q ∈ rest, q ∈ D ∧ cnt F D q = 0 ∧ q ≠ p := fun q hq => by
    obtain ⟨h1, h2⟩ := h.fin q (hp.symm.subset (by simp [hq]))
    exact ⟨h1, h2, fun e => hnr2.1 (e ▸ hq)⟩
  have hFr : F p ∉ rest := fun hq => cnt_zero.1 (hrest _ hq).2.1 p hpD rfl
  have hsig : ∀ q, q ≠ spare → sg out q = if q ∈ T ∧ q ∉ D then F q else q := h.sig
  have hmf : ∀ q, q ∈ free' ↔ (q ∈ rest ∨ (q = F p ∧ F p ∈ D ∧ cnt F (D.erase p) (F p) = 0)) := by
    intro q
    split at hf
    · rename_i hc
      rw [hf.mem_iff]
      simp only [List.mem_cons, hc, and_self, and_true, true_and]
      exact ⟨Or.symm, Or.symm⟩
    · rename_i hc
      rw [hf.mem_iff]
      exact ⟨Or.inl, fun h => h.elim id (fun h => absurd h.2 hc)⟩
  refine ⟨h.nd.erase p, fun q hq => h.sub q ((hmem q).1 hq).2, ?_, fun q hq => ?_, fun q hq hc => ?_, fun q hq => ?_, fun q hq => ?_, ?_, fun x hx => ?_, fun C hC c hc => ?_⟩
  · split at hf
    · exact hf.nodup_iff.2 (List.nodup_cons.2 ⟨hFr, hnr2.2⟩)
    · exact hf.nodup_iff.2 hnr2.2
  · rcases (hmf q).1 hq with hq | ⟨rfl, h1, h2⟩
    · obtain ⟨a, b, c⟩ := hrest q hq
      refine ⟨(hmem q).2 ⟨c, a⟩, ?_⟩
      have := hcp q
      omega
    · exact ⟨(hmem _).2 ⟨hne, h1⟩, h2⟩
  · obtain ⟨q1, q2⟩ := (hmem q).1 hq
    have := hcp q
    rw [hmf]
    by_cases e : F p = q
    · right
      subst e
      exact ⟨rfl, q2, hc⟩
    · rw [if_neg e] at this
      have hqf := h.fall q q2 (by omega)
      rcases List.mem_cons.1 (hp.subset hqf) with hh | hh
      · exact absurd hh q1
      · exact Or.inl hh
  · rw [sg_snoc]
    by_cases e : p = q
    · subst e
      rw [if_pos rfl, hsig _ hfs, if_neg, if_pos ⟨hpT, fun hx => ((hmem p).1 hx).1 rfl⟩]
      rintro ⟨h1, h2⟩
      rcases h.src p hpD with h3 | h3
      · exact h2 h3
      · exact h3 h1
    · rw [if_neg e, hsig q hq]
      have : (q ∈ T ∧ q ∉ D) ↔ (q ∈ T ∧ q ∉ D.erase p) := by
        rw [hmem]
        constructor
        · rintro ⟨a, b⟩; exact ⟨a, fun h => b h.2⟩
        · rintro ⟨a, b⟩; exact ⟨a, fun h => b ⟨fun h => e h.symm, h⟩⟩
      simp only [this]
  · obtain ⟨q1, q2⟩ := (hmem q).1 hq
    rcases h.src q q2 with h1 | h1
    · left
      exact (hmem _).2 ⟨cnt_zero.1 hp0 q q2, h1⟩
    · exact Or.inr h1
  · have := h.len
    rw [List.length_append, List.length_erase_of_mem hpD]
    have := List.length_pos_of_mem hpD
    simp only [List.length_cons, List.length_nil]; omega
  · rcases List.mem_append.1 hx with hx | hx
    · exact h.ok x hx
    · simp at hx; subst hx; exact ⟨hne, hpT⟩
  · have hcD := h.cyc C hC
    refine (hmem c).2 ⟨fun e => ?_, hcD c hc⟩
    subst e
    obtain ⟨q, hq, hqc⟩ := (hC c hc).2
    exact cnt_zero.1 hp0 q (hcD q hq) hqc

/-- a place's way back -/
def itr (F : Int → Int) : Nat → Int → Int
  | 0, x => x
  | k + 1, x => F (itr F k x)
/-- the least one of a ring -/
def Good (F : Int → Int) (T : List Int) (m : Int) : Prop := ∃ n : Nat, 0 < n ∧ n ≤ T.length ∧ itr F n m = m ∧ ∀ i, itr F i m ∈ T ∧ m ≤ itr F i m

/-- the rings' state -/
structure Ring (F : Int → Int) (T : List Int) (spare : Int) (D0 D : List Int) (out : List Mv) (ms : List Int) : Prop where
  nd : D.Nodup
  sub : ∀ q ∈ D, q ∈ D0
  sub0 : ∀ q ∈ D0, q ∈ T
  src : ∀ q ∈ D, F q ∈ D
  inj : ∀ p ∈ D, ∀ q ∈ D, F p = F q → p = q
  sig : ∀ p, p ≠ spare → sg out p = if p ∈ T ∧ p ∉ D then F p else p
  len : out.length + D.length = T.length + ms.length
  ok : ∀ x ∈ out, x.1 ≠ x.2 ∧ (x.2 ∈ T ∨ x.2 = spare)
  msn : ms.Nodup
  msg : ∀ m ∈ ms, Good F T m ∧ m ∈ D0 ∧ m ∉ D
  none0 : ms = [] → D = D0

theorem sum_cnt (F : Int → Int) : ∀ (D E : List Int), E.Nodup → (∀ p ∈ E, 1 ≤ cnt F D p) → E.length ≤ D.length
  | [], E, hn, h => by
    cases E with
    | nil => simp
    | cons a E => have := h a (by simp); simp [cnt] at this
  | d :: D, E, hn, h => by
    have ih := sum_cnt F D (E.erase (F d)) (hn.erase _) (fun p hp => by
      obtain ⟨h1, h2⟩ := hn.mem_erase_iff.1 hp
      have := h p h2
      simp only [cnt, List.filter_cons] at this
      rw [if_neg (by simpa using Ne.symm h1)] at this
      exact this)
    by_cases hm : F d ∈ E
    · rw [List.length_erase_of_mem hm] at ih
      simp only [List.length_cons]; omega
    · rw [List.erase_of_not_mem hm] at ih
      simp only [List.length_cons]; omega
theorem cnt_inj {F : Int → Int} {D : List Int} (hn : D.Nodup) (h : ∀ p ∈ D, 1 ≤ cnt F D p) : (∀ q ∈ D, F q ∈ D) ∧ ∀ p ∈ D, ∀ q ∈ D, F p = F q → p = q := by
  constructor
  · intro q hq
    by_cases hF : F q ∈ D
    · exact hF
    · exfalso
      have := sum_cnt F (D.erase q) D hn (fun p hp => by
        have h1 := h p hp
        have h2 := cnt_erase (F := F) hq p
        rw [if_neg (fun e => hF (by rw [e]; exact hp))] at h2
        omega)
      rw [List.length_erase_of_mem hq] at this
      have := List.length_pos_of_mem hq
      omega
  · intro p hp q hq e
    by_cases hpq : p = q
    · exact hpq
    · exfalso
      have := sum_cnt F (D.erase q) D hn (fun x hx => by
        have h1 := h x hx
        have h2 := cnt_erase (F := F) hq x
        by_cases hx2 : F q = x
        · have hpe : p ∈ D.erase q := hn.mem_erase_iff.2 ⟨hpq, hp⟩
          have : cnt F (D.erase q) x ≠ 0 := fun h0 => cnt_zero.1 h0 p hpe (e.trans hx2)
          omega
        · rw [if_neg hx2] at h2; omega)
      rw [List.length_erase_of_mem hq] at this
      have := List.length_pos_of_mem hq
      omega

theorem Flow.rings (h : Flow F T spare D [] out) : Ring F T spare D D out [] := by
  have hc : ∀ p ∈ D, 1 ≤ cnt F D p := fun p hp => by
    have := h.fall p hp
    simp at this
    omega
  obtain ⟨h1, h2⟩ := cnt_inj h.nd hc
  exact ⟨h.nd, fun _ h => h, h.sub, h1, h2, h.sig, by simpa using h.len, fun x hx => ⟨(h.ok x hx).1, Or.inl (h.ok x hx).2⟩, by simp, fun m hm => by simp at hm, fun _ => rfl⟩

/-- within a ring: k moves of it are done; Dc: what is left -/
structure In (F : Int → Int) (T : List Int) (spare : Int) (D0 D : List Int) (out0 : List Mv) (ms : List Int) (first : Int) (k : Nat) (Dc : List Int) (out : List Mv) : Prop where
  r : Ring F T spare D0 D out0 ms
  fD : first ∈ D
  nd : Dc.Nodup
  mem : ∀ x, x ∈ Dc ↔ x ∈ D ∧ ∀ i, i < k → x ≠ itr F i first
  to : itr F k first ∈ Dc
  dk : ∀ i, i < k → itr F i first ∈ D
  len : Dc.length + k = D.length
  sig : ∀ p, p ≠ spare → sg out p = if p ∈ T ∧ p ∉ Dc then F p else p
  ss : sg out spare = first
  ol : out.length = out0.length + 1 + k
  ok : ∀ x ∈ out, x.1 ≠ x.2 ∧ (x.2 ∈ T ∨ x.2 = spare)

theorem Ring.begin {D0 : List Int} {ms : List Int} (hM : Mov F T spare) (h : Ring F T spare D0 D out ms) {first : Int} (hf : first ∈ D) : In F T spare D0 D out ms first 0 D (out ++ [(first, spare)]) := by
  have hfT := h.sub0 first (h.sub first hf)
  have hfs : first ≠ spare := fun e => hM.sp (e ▸ hfT)
  refine ⟨h, hf, h.nd, fun x => ⟨fun hx => ⟨hx, fun i hi => absurd hi (by omega)⟩, fun hx => hx.1⟩, hf, fun i hi => absurd hi (by omega), by omega, fun p hp => ?_, ?_, by simp, fun x hx => ?_⟩
  · rw [sg_snoc, if_neg (fun e => hp e.symm)]; exact h.sig p hp
  · rw [sg_snoc, if_pos rfl, h.sig first hfs, if_neg (fun hx => hx.2 hf)]
  · rcases List.mem_append.1 hx with hx | hx
    · exact h.ok x hx
    · simp at hx; subst hx; exact ⟨hfs, Or.inr rfl⟩

theorem In.next {D0 Dc : List Int} {out0 : List Mv} {ms : List Int} {first : Int} {k : Nat} (hM : Mov F T spare) (h : In F T spare D0 D out0 ms first k Dc out) (hne : F (itr F k first) ≠ first) :
    In F T spare D0 D out0 ms first (k + 1) (Dc.erase (itr F k first)) (out ++ [(F (itr F k first), itr F k first)]) := by
  have hto := h.to
  have htoD := ((h.mem _).1 hto).1
  have htT := h.r.sub0 _ (h.r.sub _ htoD)
  have hts : itr F k first ≠ spare := fun e => hM.sp (e ▸ htT)
  have hfD : F (itr F k first) ∈ D := h.r.src _ htoD
  have hfT := h.r.sub0 _ (h.r.sub _ hfD)
  have hfs : F (itr F k first) ≠ spare := fun e => hM.sp (e ▸ hfT)
  have hft := hM.ne _ htT
  have hmem : ∀ q, q ∈ Dc.erase (itr F k first) ↔ q ≠ itr F k first ∧ q ∈ Dc := fun q => h.nd.mem_erase_iff
  have hfc : F (itr F k first) ∈ Dc := (h.mem _).2 ⟨hfD, fun i hi e => by
    cases i with
    | zero => exact hne e
    | succ i =>
      have := h.r.inj _ htoD _ (h.dk i (by omega)) e
      exact ((h.mem _).1 hto).2 i (by omega) this⟩
  refine ⟨h.r, h.fD, h.nd.erase _, fun x => ?_, (hmem _).2 ⟨hft, hfc⟩, fun i hi => ?_, ?_, fun p hp => ?_, ?_, ?_, fun x hx => ?_⟩
  · rw [hmem, h.mem]
    constructor
    · rintro ⟨a, b, c⟩
      refine ⟨b, fun i hi => ?_⟩
      rcases Nat.lt_succ_iff_lt_or_eq.1 hi with hi | rfl
      · exact c i hi
      · exact a
    · rintro ⟨a, b⟩
      exact ⟨b k (by omega), a, fun i hi => b i (by omega)⟩
  · rcases Nat.lt_succ_iff_lt_or_eq.1 hi with hi | rfl
    · exact h.dk i hi
    · exact htoD
  · have := h.len
    have := List.length_pos_of_mem hto
    rw [List.length_erase_of_mem hto]; omega
  · rw [sg_snoc]
    by_cases e : itr F k first = p
    · subst e
      rw [if_pos rfl, h.sig _ hfs, if_neg (fun hx => hx.2 hfc), if_pos ⟨htT, fun hx => ((hmem _).1 hx).1 rfl⟩]
    · rw [if_neg e, h.sig p hp]
      have : (p ∈ T ∧ p ∉ Dc) ↔ (p ∈ T ∧ p ∉ Dc.erase (itr F k first)) := by
        rw [hmem]
        constructor
        · rintro ⟨a, b⟩; exact ⟨a, fun h => b h.2⟩
        · rintro ⟨a, b⟩; exact ⟨a, fun h => b ⟨fun h => e h.symm, h⟩⟩
      simp only [this]
  · rw [sg_snoc, if_neg hts]; exact h.ss
  · rw [List.length_append, h.ol]; simp only [List.length_cons, List.length_nil]; omega
  · rcases List.mem_append.1 hx with hx | hx
    · exact h.ok x hx
    · simp at hx; subst hx; exact ⟨hft, Or.inl htT⟩

theorem itr_add (F : Int → Int) (a b : Nat) (x : Int) : itr F (a + b) x = itr F a (itr F b x) := by
  induction a with
  | zero => simp [itr]
  | succ a ih => rw [show a + 1 + b = (a + b) + 1 by omega]; simp only [itr, ih]
theorem itr_per {F : Int → Int} {n : Nat} {x : Int} (h : itr F n x = x) : ∀ i, itr F (i * n) x = x
  | 0 => by simp [itr]
  | i + 1 => by rw [show (i + 1) * n = n + i * n by rw [Nat.add_mul]; omega, itr_add, itr_per h i, h]
theorem itr_mod {F : Int → Int} {n : Nat} {x : Int} (h : itr F n x = x) (i : Nat) : itr F i x = itr F (i % n) x := by
  have e : i = i % n + i / n * n := by have := Nat.mod_add_div i n; rw [Nat.mul_comm] at this; omega
  rw [show itr F i x = itr F (i % n + i / n * n) x by rw [← e], itr_add, itr_per h]

theorem least_of (l : List Int) (h : l ≠ []) : ∃ m ∈ l, ∀ x ∈ l, m ≤ x := by
  induction l with
  | nil => exact absurd rfl h
  | cons a l ih =>
    by_cases hl : l = []
    · subst hl; exact ⟨a, by simp, fun x hx => by simp at hx; omega⟩
    · obtain ⟨m, h1, h2⟩ := ih hl
      by_cases hm : a ≤ m
      · exact ⟨a, by simp, fun x hx => by
          rcases List.mem_cons.1 hx with rfl | hx
          · omega
          · have := h2 x hx; omega⟩
      · exact ⟨m, by simp [h1], fun x hx => by
          rcases List.mem_cons.1 hx with rfl | hx
          · omega
          · exact h2 x hx⟩

theorem In.done {D0 Dc : List Int} {out0 : List Mv} {ms : List Int} {first : Int} {k : Nat} (hM : Mov F T spare) (hlen : D.length ≤ T.length) (h : In F T spare D0 D out0 ms first k Dc out) (he : F (itr F k first) = first) :
    (∃ m, Ring F T spare D0 (Dc.erase (itr F k first)) (out ++ [(spare, itr F k first)]) (ms ++ [m])) ∧ first ∉ Dc.erase (itr F k first) ∧ ∀ q ∈ Dc.erase (itr F k first), q ∈ D := by
  have hto := h.to
  have htoD := ((h.mem _).1 hto).1
  have htT := h.r.sub0 _ (h.r.sub _ htoD)
  have hts : itr F k first ≠ spare := fun e => hM.sp (e ▸ htT)
  have hmem : ∀ q, q ∈ Dc.erase (itr F k first) ↔ q ∈ D ∧ ∀ i, i < k + 1 → q ≠ itr F i first := fun q => by
    rw [h.nd.mem_erase_iff, h.mem]
    constructor
    · rintro ⟨a, b, c⟩
      refine ⟨b, fun i hi => ?_⟩
      rcases Nat.lt_succ_iff_lt_or_eq.1 hi with hi | rfl
      · exact c i hi
      · exact a
    · rintro ⟨a, b⟩
      exact ⟨b k (by omega), a, fun i hi => b i (by omega)⟩
  have hper : itr F (k + 1) first = first := he
  have hall : ∀ i, ∃ j, j < k + 1 ∧ itr F i first = itr F j first := fun i => ⟨i % (k + 1), Nat.mod_lt _ (by omega), itr_mod hper i⟩
  have hiD : ∀ i, i < k + 1 → itr F i first ∈ D := fun i hi => by
    rcases Nat.lt_succ_iff_lt_or_eq.1 hi with hi | rfl
    · exact h.dk i hi
    · exact htoD
  obtain ⟨m, hm1, hm2⟩ := least_of ((List.range (k + 1)).map fun i => itr F i first) (by simp)
  obtain ⟨j, hj, rfl⟩ := List.mem_map.1 hm1
  have hj := List.mem_range.1 hj
  have hlk : k + 1 ≤ T.length := by
    have := h.len
    have := List.length_pos_of_mem hto
    omega
  have hgood : Good F T (itr F j first) := by
    refine ⟨k + 1, by omega, hlk, ?_, fun i => ?_⟩
    · rw [← itr_add, Nat.add_comm, itr_add, hper]
    · obtain ⟨q, hq, e⟩ := hall (i + j)
      rw [← itr_add, e]
      exact ⟨h.r.sub0 _ (h.r.sub _ (hiD q hq)), hm2 _ (List.mem_map.2 ⟨q, List.mem_range.2 hq, rfl⟩)⟩
  refine ⟨?_, fun hx => ((hmem _).1 hx).2 0 (by omega) rfl, fun q hq => ((hmem _).1 hq).1⟩
  refine ⟨itr F j first, (h.nd.erase _), fun q hq => h.r.sub q ((hmem q).1 hq).1, h.r.sub0, fun q hq => ?_, fun p hp q hq => h.r.inj p ((hmem p).1 hp).1 q ((hmem q).1 hq).1, fun p hp => ?_, ?_, fun x hx => ?_, ?_, fun m hm => ?_, fun e => by simp at e⟩
  · obtain ⟨q1, q2⟩ := (hmem q).1 hq
    refine (hmem _).2 ⟨h.r.src q q1, fun i hi e => ?_⟩
    cases i with
    | zero =>
      have e2 : F q = F (itr F k first) := by rw [he]; exact e
      exact q2 k (by omega) (h.r.inj q q1 _ htoD e2)
    | succ i => exact q2 i (by omega) (h.r.inj q q1 _ (hiD i (by omega)) e)
  · have hmem2 : ∀ q, q ∈ Dc.erase (itr F k first) ↔ q ≠ itr F k first ∧ q ∈ Dc := fun q => h.nd.mem_erase_iff
    rw [sg_snoc]
    by_cases e : itr F k first = p
    · subst e
      rw [if_pos rfl, h.ss, if_pos ⟨htT, fun hx => ((hmem2 _).1 hx).1 rfl⟩, he]
    · rw [if_neg e, h.sig p hp]
      have : (p ∈ T ∧ p ∉ Dc) ↔ (p ∈ T ∧ p ∉ Dc.erase (itr F k first)) := by
        rw [hmem2]
        constructor
        · rintro ⟨a, b⟩; exact ⟨a, fun h => b h.2⟩
        · rintro ⟨a, b⟩; exact ⟨a, fun h => b ⟨fun h => e h.symm, h⟩⟩
      simp only [this]
  · have h1 := h.len
    have h2 := h.ol
    have h3 := h.r.len
    have := List.length_pos_of_mem hto
    rw [List.length_append, List.length_append, List.length_erase_of_mem hto]
    simp only [List.length_cons, List.length_nil]; omega
  · rcases List.mem_append.1 hx with hx | hx
    · exact h.ok x hx
    · simp at hx; subst hx; exact ⟨Ne.symm hts, Or.inl htT⟩
  · refine List.nodup_append.2 ⟨h.r.msn, by simp, fun a ha b hb => ?_⟩
    simp at hb; subst hb
    intro e
    exact (h.r.msg a ha).2.2 (by rw [e]; exact hiD j hj)
  · rcases List.mem_append.1 hm with hm | hm
    · obtain ⟨a, b, c⟩ := h.r.msg m hm
      exact ⟨a, b, fun hx => c ((hmem m).1 hx).1⟩
    · simp at hm; subst hm
      exact ⟨hgood, h.r.sub _ (hiD j hj), fun hx => ((hmem _).1 hx).2 j hj rfl⟩

/-- what One answers -/
structure Done (F : Int → Int) (T : List Int) (spare : Int) (out : List Mv) (ms : List Int) : Prop where
  sig : ∀ p, p ≠ spare → sg out p = if p ∈ T then F p else p
  len : out.length = T.length + ms.length
  ok : ∀ x ∈ out, x.1 ≠ x.2 ∧ (x.2 ∈ T ∨ x.2 = spare)
  msn : ms.Nodup
  msg : ∀ m ∈ ms, Good F T m
  cyc : ∀ C : Int → Prop, (∀ c, C c → c ∈ T ∧ ∃ q, C q ∧ F q = c) → ∀ c, C c → ms ≠ []
theorem Ring.done {D0 : List Int} {ms : List Int} (h : Ring F T spare D0 [] out ms) (hc : ∀ C : Int → Prop, (∀ c, C c → c ∈ T ∧ ∃ q, C q ∧ F q = c) → ∀ c, C c → c ∈ D0) : Done F T spare out ms :=
  ⟨fun p hp => by rw [h.sig p hp]; simp, by have := h.len; simp at this; omega, h.ok, h.msn, fun m hm => (h.msg m hm).1, fun C hC c hc2 e => by
    have h1 := hc C hC c hc2
    rw [← h.none0 e] at h1
    simp at h1⟩
end
end Go.Proofs.Ytkeapfbemlclmaa.base

