/- This text proves, in Z2i Lean, what a heap's steps and a sort by insertion keep: which of the numbers at two places is the smaller. No condition but what the theorems themselves say. -/
import Derived.Test.YtbldiceiindbdaaGreatDoorShD
set_option linter.unusedVariables false
set_option linter.unusedSimpArgs false
namespace Go.Proofs.YtbldiceiindbdaaGreatDoor.base
def sw (k:Nat→Nat)(i j x:Nat):Nat:=if x=j then k i else if x=i then k j else k x
def Hp (n:Nat)(k:Nat→Nat):Prop:=∀ c,0 < c→c < n→k ((c - 1) / 2)≤k c
def Up (n:Nat)(k:Nat→Nat)(j:Nat):Prop:=(∀ c,0 < c→c < n→c≠j→k ((c - 1) / 2)≤k c)∧∀ c,0 < c→c < n→(c - 1) / 2=j→0 < j→k ((j - 1) / 2)≤k c
def Dn (n:Nat)(k:Nat→Nat)(i0 i:Nat):Prop:=(∀ c,0 < c→c < n→(c - 1) / 2≠i→c≠i0→k ((c - 1) / 2)≤k c)∧(∀ c,0 < c→c < n→(c - 1) / 2=i→0 < i→k ((i - 1) / 2)≤k c)∧(i≠i0→0 < i0→k ((i0 - 1) / 2)≤k i0)
variable {n:Nat}{k:Nat→Nat}
theorem Z1e {j p:Nat}(h:Up n k j)(hj:0 < j)(hn:j < n)(hp:(j - 1) / 2=p)(hlt:k j < k p):Up n (sw k p j) p:=by
 obtain⟨h1,h2⟩:=h
 have hpj:p≠j:=by omega
 constructor
 ·intro c h0 hc hne
  by_cases e1:c=j
  ·subst e1
   rw [hp];simp only [sw,if_true,if_neg hpj];omega
  ·have g1:=h1 c h0 hc e1
   by_cases e2:(c - 1) / 2=j
   ·have g2:=h2 c h0 hc e2 hj
    rw [hp] at g2
    rw [e2];simp only [sw,if_true,if_neg e1,if_neg hne];exact g2
   ·by_cases e3:(c - 1) / 2=p
    ·rw [e3] at g1 ⊢
     simp only [sw,if_neg hpj,if_true,if_neg e1,if_neg hne];omega
    ·simp only [sw,if_neg e1,if_neg e2,if_neg e3,if_neg hne];exact g1
 ·intro c h0 hc e h0p
  have g0:=h1 p h0p (by omega) hpj
  have n1:¬ (p - 1) / 2=j:=by omega
  have n2:¬ (p - 1) / 2=p:=by omega
  have n3:¬ c=p:=by omega
  simp only [sw,if_neg n1,if_neg n2,if_neg n3]
  split
  ·exact g0
  ·rename_i hcj
   have g1:=h1 c h0 hc hcj
   rw [e] at g1
   omega
theorem Zvc {j:Nat}(h:Up n k j)(he:j=0∨k ((j - 1) / 2)≤k j):Hp n k:=by
 intro c h0 hc
 by_cases e:c=j
 ·subst e
  rcases he with h | h
  ·omega
  ·exact h
 ·exact h.1 c h0 hc e
theorem Z0n {i0 i j:Nat}(h:Dn n k i0 i)(h0j:0 < j)(hj:j < n)(hp:(j - 1) / 2=i)(hm:∀ c,0 < c→c < n→(c - 1) / 2=i→k j≤k c)(hlt:k j < k i)(hi:i0≤i):Dn n (sw k i j) i0 j:=by
 obtain⟨h1,h2,h3⟩:=h
 have hij:i≠j:=by omega
 refine⟨?_,?_,?_⟩
 ·intro c h0 hc hne hc0
  by_cases e2:(c - 1) / 2=i
  ·have g:=hm c h0 hc e2
   rw [e2]
   simp only [sw,if_neg hij,if_true]
   split
   ·omega
   ·split
    ·omega
    ·exact g
  ·have g:=h1 c h0 hc e2 hc0
   by_cases e3:c=i
   ·have:=h2 j h0j hj hp (by omega)
    rw [← e3] at this
    subst e3
    simp only [sw,if_neg hne,if_neg e2,if_neg hij,if_true];exact this
   ·have e4:c≠j:=fun e=>e2 (by rw [e];exact hp)
    simp only [sw,if_neg hne,if_neg e2,if_neg e3,if_neg e4];exact g
 ·intro c h0 hc e h0'
  rw [hp]
  have g:=h1 c h0 hc (by omega) (by omega)
  rw [e] at g
  have n1:¬ c=j:=by omega
  have n2:¬ c=i:=by omega
  simp only [sw,if_neg hij,if_true,if_neg n1,if_neg n2];exact g
 ·intro hne h00
  have n1:¬ (i0 - 1) / 2=j:=by omega
  have n2:¬ (i0 - 1) / 2=i:=by omega
  have n3:¬ i0=j:=by omega
  simp only [sw,if_neg n1,if_neg n2,if_neg n3]
  split
  ·rename_i e
   subst e
   exact h2 j h0j hj hp h00
  ·rename_i e
   exact h3 (fun x=>e x.symm) h00
theorem Z3l {i0 i:Nat}(h:Dn n k i0 i)(he:∀ c,0 < c→c < n→(c - 1) / 2=i→k i≤k c):(i≠i0→Hp n k)∧(i=i0→Up n k i0):=by
 obtain⟨h1,h2,h3⟩:=h
 constructor
 ·intro hne c h0 hc
  by_cases e:c=i0
  ·subst e;exact h3 hne h0
  ·by_cases e2:(c - 1) / 2=i
   ·rw [e2];exact he c h0 hc e2
   ·exact h1 c h0 hc e2 e
 ·rintro rfl
  refine⟨fun c h0 hc hne=>?_,fun c h0 hc e h0'=>h2 c h0 hc e h0'⟩
  by_cases e2:(c - 1) / 2=i
  ·rw [e2];exact he c h0 hc e2
  ·exact h1 c h0 hc e2 hne
theorem Z3c (h:Hp n k):∀ c,c < n→k 0≤k c:=by
 intro c
 induction c using Nat.strongRecOn with
 | ind c ih =>
  intro hc
  by_cases e:c=0
  ·subst e;exact Nat.le_refl _
  ·exact Nat.le_trans (ih ((c - 1) / 2) (by omega) (by omega)) (h c (by omega) hc)
theorem Z44 {i:Nat}(h:Hp (n+1) k)(hi:i < n):Dn n (sw k i n) i i:=by
 refine⟨fun c h0 hc h1 h2=>?_,fun c h0 hc h1 h2=>?_,fun h=>absurd rfl h⟩
 ·have g:=h c h0 (by omega)
  have n1:¬ (c - 1) / 2=n:=by omega
  have n2:¬ c=n:=by omega
  simp only [sw,if_neg n1,if_neg h1,if_neg n2,if_neg h2];exact g
 ·have g1:=h c h0 (by omega)
  have g2:=h i h2 (by omega)
  rw [h1] at g1
  have n1:¬ (i - 1) / 2=n:=by omega
  have n2:¬ (i - 1) / 2=i:=by omega
  have n3:¬ c=n:=by omega
  have n4:¬ c=i:=by omega
  simp only [sw,if_neg n1,if_neg n2,if_neg n3,if_neg n4];omega
theorem Zxp {k':Nat→Nat}(h:Hp n k)(he:∀ c,c < n→k' c=k c):Hp n k':=fun c h0 hc=>by rw [he _ (by omega),he c hc];exact h c h0 hc
theorem Z3g (h:Hp n k):Up (n+1) k n:=⟨fun c h0 hc hn=>h c h0 (by omega),fun c h0 hc h1 h2=>by omega⟩
end Go.Proofs.YtbldiceiindbdaaGreatDoor.base
