/- This text proves, in plain Lean, what the document's Run does at a block's begin and end, and what its heads are. No condition but what the theorems themselves say. -/
import Derived.Test.YtlogdohlcdhepaaDoorM22
set_option linter.unusedVariables false
set_option linter.unusedSimpArgs false
section
set_option maxRecDepth 100000
namespace Go.Proofs.YtlogdohlcdhepaaDoor.base
open Go.Sh gen
variable {S:Zb2}{m:Mem}
theorem Z3r {Q:Nat→Prop}{u:UnT.D}{vo bo so:Option Addr}(h:UAt Q m u vo bo so){i:Nat}(hi:i < u.2.2.1.length) :
  ∃ (vb:Nat) (ao:Option Addr) (f:Nat),vo=some ⟨vb,0,none⟩∧(∀ (m':Mem) (gs:List Nat),Zaa m m' gs→(∀ f∈gs,¬ Q f)→loadRow m' ⟨vb,i * 6,none⟩ 6=some (Zkr (u.2.2.1[i]) ao))∧Rs m ao (u.2.2.1[i]).2.2.2.2.1.length ((show List Int from (u.2.2.1[i]).2.2.2.2.1).map (Value.int .i64)) 3 1 f∧((u.2.2.1[i]).2.2.2.2.1.length≠0→Q f):=by
 obtain⟨vb,c,e,hc,hl⟩:=Zix h.v hi
 obtain⟨_,_,e1,rfl,_,_,e2,rfl,_,_,e3,rfl,_,_,e4,rfl,_,_,e5,h5,_,_,e6,rfl,h7⟩:=hc
 simp only [AtQ] at h7
 subst h7
 obtain⟨ao,f,rfl,hr,hqf⟩:=Zfr h5
 refine⟨vb,ao,f,e,fun m' gs k hf=>?_,hr,hqf⟩
 have hl':=hl m' gs k hf
 rw [e1,e2,e3,e4,e5,e6] at hl'
 exact hl'
def Zgm (u:UnT.D)(loc pr:List Int)(from_:Int)(ws:List Int)(v:Int):Int:=
 if (Za1 u v).1=1 then (if (show Int from (Za1 u v).2.2.2.1) < loc.length then loc.getD (show Int from (Za1 u v).2.2.2.1).toNat 0 else 0) else Zu6 ws (Za1 u v).2.2.2.2.1 from_ pr 0
theorem Zdg {u:UnT.D}{loc pr:List Int}{from_:Int}{ws:List Int}{v:Int}{r:List Int}(h:Zaq (Za1 u v).1=true):Za6 u loc pr from_ ws (v::r)=Zgm u loc pr from_ ws v::Za6 u loc pr from_ ws r:=by
 rw [Za6]
 unfold Zgm
 by_cases h1:(Za1 u v).1=1
 ·rw [if_pos h1,if_pos h1]
 ·have h2:(Za1 u v).1=21:=by simpa [Zaq,h1] using h
  rw [if_neg h1,if_pos h2,if_neg h1]
theorem Zem {u:UnT.D}{loc pr:List Int}{from_:Int}{ws:List Int}{v:Int}{r:List Int}(h:Zaq (Za1 u v).1=false):Za6 u loc pr from_ ws (v::r)=[]:=by
 rw [Za6]
 simp [Zaq] at h
 rw [if_neg h.2,if_neg h.1]
theorem Zmc {u:UnT.D}{loc pr:List Int}{from_:Int}{ws:List Int}:∀ (a b:List Int),(Za6 u loc pr from_ ws a).length=a.length→Za6 u loc pr from_ ws (a++b)=Za6 u loc pr from_ ws a++Za6 u loc pr from_ ws b
 | [],b,_=>by simp [Za6]
 | v::r,b,h=>by
  by_cases hh:Zaq (Za1 u v).1=true
  ·rw [List.cons_append,Zdg hh,Zdg hh,List.cons_append,Zmc r b (by rw [Zdg hh] at h;simpa using h)]
  ·rw [Zem (by simpa using hh)] at h;simp at h
theorem Z4y {u:UnT.D}{loc pr:List Int}{from_:Int}{ws:List Int}(h:Wd ws)(hl:Wd loc)(v:Int):wd (Zgm u loc pr from_ ws v):=by
 unfold Zgm
 split
 ·split
  ·exact hl.at_ _
  ·unfold wd;omega
 ·exact Zxb h _ _
theorem Zt1 {u:UnT.D}{loc pr:List Int}{from_:Int}{ws:List Int}(h:Wd ws)(hl:Wd loc):∀ l,Wd (Za6 u loc pr from_ ws l)
 | []=>by intro w hw;simp [Za6] at hw
 | v::r=>by
  by_cases hh:Zaq (Za1 u v).1=true
  ·rw [Zdg hh]
   intro w hw
   rcases List.mem_cons.1 hw with e | e
   ·rw [e];exact Z4y h hl v
   ·exact Zt1 h hl r w e
  ·rw [Zem (by simpa using hh)];intro w hw;simp at hw
structure Hd (u:UnT.D):Prop where
 fst:∀ b < nb u,∀ j k,j < k→k < (vlD u b).length→Zaq (Za1 u ((vlD u b).getD k 0)).1=true→Zaq (Za1 u ((vlD u b).getD j 0)).1=true
 z:∀ v∈vlD u 0,(Za1 u v).1≠21
 nz:∀ b < nb u,b≠0→∀ v∈vlD u b,(Za1 u v).1≠1
 pr:∀ b < nb u,∀ t∈nxD u b,(b:Int)∈prD u t.toNat
 nd:∀ b < nb u,(vlD u b).Nodup
 e0:prD u 0=[]
 en:∀ b < nb u,(Zbt u b).2.1=1∨(Zbt u b).2.1=2∨(Zbt u b).2.1=3
 ph:∀ b < nb u,∀ v∈vlD u b,(Za1 u v).1=21→(agV u v.toNat).length=(prD u b).length∧∀ z∈agV u v.toNat,(0:Int)≤z∧z < nv u
theorem Rf.mv {Q:Nat→Prop}{u:UnT.D}{K:Kr}{V1 V2:Vv}(h:Rf Q m u K V1)(e1:V2.hwb=V1.hwb)(e2:V2.hw=V1.hw)(e3:V2.ws=V1.ws):Rf Q m u K V2:=
 ⟨h.un,h.re,by rw [e3];exact h.wds,by rw [e3];exact h.len,by rw [e3];exact h.wd,by rw [e2];exact h.hwd,by rw [e2];exact h.hl,by rw [e1,e2];exact h.heap,h.unit,h.nq,h.nd⟩
theorem Zo {u:UnT.D}{loc pr:List Int}{from_:Int}{ws:List Int}:∀ l:List Int,(Za6 u loc pr from_ ws l).length < l.length→Zaq (Za1 u (l.getD (Za6 u loc pr from_ ws l).length 0)).1=false
 | [],h=>by simp at h
 | v::r,h=>by
  by_cases hh:Zaq (Za1 u v).1=true
  ·rw [Zdg hh] at h ⊢
   exact Zo r (by simpa using h)
  ·have hh:Zaq (Za1 u v).1=false:=by simpa using hh
   rw [Zem hh]
   exact hh
theorem Zl6 {u:UnT.D}{loc pr:List Int}{from_:Int}{ws:List Int}{f:Int}{V:Vv}:∀ l:List Int,Zcq u f l V=Zcq u f (l.drop (Za6 u loc pr from_ ws l).length) V
 | []=>by simp
 | v::r=>by
  by_cases hh:Zaq (Za1 u v).1=true
  ·rw [Zdg hh,List.length_cons,List.drop_succ_cons,← Zl6 r,Zcq]
   dsimp only
   rw [if_pos (by simpa [Zaq] using hh)]
  ·rw [Zem (by simpa using hh)];rfl
theorem Zvs {u:UnT.D}(hd:Hd u){b:Nat}(hb:b < nb u){loc pr:List Int}{from_:Int}{ws:List Int}{i:Nat}(h1:(Za6 u loc pr from_ ws (vlD u b)).length≤i)(h2:i < (vlD u b).length):Zaq (Za1 u ((vlD u b).getD i 0)).1=false:=by
 have h3:=Zo (u:=u) (loc:=loc) (pr:=pr) (from_:=from_) (ws:=ws) (vlD u b) (by omega)
 by_cases e:(Za6 u loc pr from_ ws (vlD u b)).length=i
 ·rw [e] at h3;exact h3
 ·cases h4:Zaq (Za1 u ((vlD u b).getD i 0)).1 with
  | false=>rfl
  | true =>
   have:=hd.fst b hb _ i (by omega:(Za6 u loc pr from_ ws (vlD u b)).length < i) h2 h4
   rw [this] at h3;cases h3
variable {u:UnT.D}{f:Int}{k b:Nat}{V1 V2:Vv}
theorem Zw (hk:f < V1.steps+k)(h:Zcq u f (vlD u b) V1=.tired V2):Zib u f k b V1=.tired V2:=by
 cases k with
 | zero =>
  rw [Zib]
  rcases Zlq (u:=u) (f:=f) (V:=V1) (by omega) (vlD u b) with e | e
  ·rw [e] at h;cases h
  ·rw [e] at h;exact h
 | succ k=>rw [Zib];dsimp only;rw [h]
theorem Zyk {st:Nat}{w:Int}(hk:f < V1.steps+k)(h:Zcq u f (vlD u b) V1=.left V2 st w):Zib u f k b V1=.left V2 st w:=by
 cases k with
 | zero =>
  rcases Zlq (u:=u) (f:=f) (V:=V1) (by omega) (vlD u b) with e | e
  ·rw [e] at h;cases h
  ·rw [e] at h;cases h
 | succ k=>rw [Zib];dsimp only;rw [h]
theorem Z18 (hk:f < V1.steps+k)(h:Zcq u f (vlD u b) V1=.go V2)(hf:f≤V2.steps):Zib u f k b V1=.tired V2:=by
 cases k with
 | zero =>
  rw [Zib]
  rcases Zlq (u:=u) (f:=f) (V:=V1) (by omega) (vlD u b) with e | e
  ·rw [e] at h;cases h;rfl
  ·rw [e] at h;cases h
 | succ k=>rw [Zib];dsimp only;rw [h];dsimp only;rw [if_pos hf]
theorem Z2y (hk:f < V1.steps+k)(h:Zcq u f (vlD u b) V1=.go V2)(hf:¬ f≤V2.steps)(h3:(Zbt u b).2.1=3):Zib u f k b V1=.left { V2 with steps:=V2.steps+1 } (show Int from (Zbt u b).2.2.2.2.2.1).toNat (-1):=by
 have hg:=Zli (u:=u) (f:=f) (vlD u b) V1
 rw [h] at hg
 have hg:V1.steps≤V2.steps:=hg
 cases k with
 | zero=>omega
 | succ k=>rw [Zib];dsimp only;rw [h];dsimp only;rw [if_neg hf,if_pos h3]
theorem Zur {ws args:List Int}{from_:Int}:∀ (pr:List Int) (j:Nat),from_∈pr→Zu6 ws args from_ pr j=ws.getD (args.getD (j+Zh3 pr from_) 0).toNat 0
 | [],j,h=>by cases h
 | [a],j,h=>by
  have e:a=from_:=(List.mem_singleton.1 h).symm
  rw [Zu6,if_pos e];rfl
 | a::c::r,j,h=>by
  rw [Zu6,Zh3]
  by_cases e:a=from_
  ·rw [if_pos e,if_pos e];rfl
  ·rw [if_neg e,if_neg e,Zur (c::r) (j+1) ((List.mem_cons.1 h).resolve_left (fun q=>e q.symm))]
   rw [show j+1+Zh3 (c::r) from_=j+(Zh3 (c::r) from_+1) by omega]
theorem Zp4 {loc pr:List Int}{from_:Int}{ws:List Int}(hm:from_∈pr):∀ l:List Int,(∀ v∈l,(Za1 u v).1≠1)→l.Pairwise (fun v w=>Zaq (Za1 u w).1=true→Zaq (Za1 u v).1=true)→Za6 u loc pr from_ ws l=Zki u l (Zh3 pr from_) ws
 | [],_,_=>rfl
 | v::r,h1,h2=>by
  rw [List.pairwise_cons] at h2
  have e:Zki u (v::r) (Zh3 pr from_) ws=(if (Za1 u v).1=21 then [ws.getD ((show List Int from (Za1 u v).2.2.2.2.1).getD (Zh3 pr from_) 0).toNat 0] else [])++Zki u r (Zh3 pr from_) ws:=rfl
  rw [e]
  have n1:=h1 v (by simp)
  by_cases hh:Zaq (Za1 u v).1=true
  ·have h21:(Za1 u v).1=21:=by simpa [Zaq,n1] using hh
   rw [Zdg hh,Zp4 hm r (fun w hw=>h1 w (by simp [hw])) h2.2,if_pos h21]
   unfold Zgm
   rw [if_neg n1,Zur _ _ hm,Nat.zero_add]
   rfl
  ·have hf:Zaq (Za1 u v).1=false:=by simpa using hh
   have h21:¬ (Za1 u v).1=21:=fun q=>hh (by rw [q];rfl)
   rw [Zem hf,if_neg h21,List.nil_append]
   unfold Zki
   symm
   rw [List.flatMap_eq_nil_iff]
   intro w hw
   have:¬ Zaq (Za1 u w).1=true:=fun q=>hh (h2.1 w hw q)
   rw [if_neg (fun q=>this (by rw [q];rfl))]
theorem Hd.pw (hd:Hd u){b:Nat}(hb:b < nb u):(vlD u b).Pairwise (fun v w=>Zaq (Za1 u w).1=true→Zaq (Za1 u v).1=true):=by
 rw [List.pairwise_iff_getElem]
 intro i j hi hj hij h
 have:=hd.fst b hb i j hij hj (by rw [List.getD_eq_getElem?_getD,List.getElem?_eq_getElem hj];exact h)
 rw [List.getD_eq_getElem?_getD,List.getElem?_eq_getElem hi] at this
 exact this
theorem Zz7 (hd:Hd u)(hok:UOk u)(loc:List Int)(hb:b < nb u)(hk:f < V1.steps+k)(h:Zcq u f (vlD u b) V1=.go V2)(hf:¬ f≤V2.steps)(h3:(Zbt u b).2.1≠3){to:Nat}(hto:(nxD u b).getD (Zhs (Zbt u b) V2.ws) 0=(to:Int))(hmem:(to:Int)∈nxD u b) :
  ∃ k',Zib u f k b V1=Zib u f k' to (Znc u loc b to { V2 with steps:=V2.steps+1 })∧f < V2.steps+1+k'∧to < nb u:=by
 have hg:=Zli (u:=u) (f:=f) (vlD u b) V1
 rw [h] at hg
 have hg:V1.steps≤V2.steps:=hg
 have htn:to < nb u:=by have:=((hok.bl b hb).nx _ hmem).2.1;omega
 have hpr:=hd.pr b hb _ hmem
 rw [Int.toNat_natCast] at hpr
 have t0:to≠0:=by
  intro e
  rw [e,hd.e0] at hpr;cases hpr
 cases k with
 | zero=>omega
 | succ k =>
  refine⟨k,?_,by omega,htn⟩
  rw [Zib]
  dsimp only
  rw [h]
  dsimp only
  rw [if_neg hf,if_neg h3]
  have e1:((show List Int from (Zbt u b).2.2.2.1).getD (Zhs (Zbt u b) V2.ws) 0).toNat=to:=by
   rw [show (show List Int from (Zbt u b).2.2.2.1)=nxD u b from rfl,hto,Int.toNat_natCast]
  rw [e1]
  unfold Znc
  rw [Zp4 hpr _ (hd.nz to htn t0) (hd.pw htn)]
theorem Zui {x:Zbj.D}(ws:List Int)(h:Zc5 x.1=true):Zsz ws (Zcc x)=ws.getD (show Int from x.2.1).toNat 0∧Zts ws (Zcc x)=ws.getD (show Int from x.2.2.1).toNat 0∧(x.2.1:Int)∈Zcc x∧(x.2.2.1:Int)∈Zcc x:=by
 have e:Zcc x=(show Int from x.2.1)::(show Int from x.2.2.1)::(if x.1=20 then (show List Int from x.2.2.2.2.1).take 1 else if x.1=21 then x.2.2.2.2.1 else []):=by
  unfold Zcc Ze7;rw [if_pos h];rfl
 rw [e]
 exact⟨by simp [Zsz],by simp [Zts],by simp,by simp⟩
theorem Zlm {x:Zbj.D}(ws:List Int)(h:Zgb x.1=true):Zsz ws (Zcc x)=ws.getD (show Int from x.2.1).toNat 0∧Zts ws (Zcc x)=0∧(x.2.1:Int)∈Zcc x:=by
 have hm:x.1∈([8,9,15,16,17,22]:List Int):=by simpa [Zgb] using h
 have h2:Zc5 x.1=false:=by
  simp only [List.mem_cons,List.not_mem_nil,or_false] at hm
  rcases hm with q | q | q | q | q | q <;> rw [q] <;> rfl
 have h3:x.1≠20∧x.1≠21:=by
  simp only [List.mem_cons,List.not_mem_nil,or_false] at hm
  rcases hm with q | q | q | q | q | q <;> rw [q] <;> exact⟨by decide,by decide⟩
 have e:Zcc x=[(show Int from x.2.1)]:=by
  unfold Zcc Ze7
  rw [if_neg (by rw [h2];simp),if_pos h,if_neg h3.1,if_neg h3.2];rfl
 rw [e]
 exact⟨by simp [Zsz],by simp [Zts],by simp⟩
theorem Zws {x:Zbj.D}(h:x.1≠23)(w:Int):Zcl x w=w:=by
 unfold Zcl
 rw [if_neg (fun q=>h q.1)]
end Go.Proofs.YtlogdohlcdhepaaDoor.base
end
