/- This text proves what rows of things are that are copied and turned in places, Zbx the abstract run. No condition. -/
import Derived.Test.YtcgmchechmbmeaaDoorM22
import Derived.Test.YtcgmchechmbmeaaDoorM16
set_option linter.unusedVariables false
set_option linter.unusedSimpArgs false
section
set_option maxRecDepth 100000
namespace Go.Proofs.YtcgmchechmbmeaaDoor.base
open Go.Sh gen
variable {S:Zb4}{m m1:Mem}{Q Q':Nat→Prop}
theorem Zsx {m:Mem}(fs:List Nat):Zaa m m fs:=(Zdy m).mono (by simp)
structure Zjf (Q:Nat→Prop)(m:Mem)(b f:Nat)(e:TypeId)(t:Ty)(l:List t.D)(css:List (List Value)):Prop where
 len:css.length=l.length
 el:∀ (i:Nat) d c,l[i]?=some d→css[i]?=some c→AtI Q m t d c
 own:Own m b css.flatten e f
theorem Zjf.sz {b f e:Nat}{t:Ty}{l:List t.D}{css:List (List Value)}(h:Zjf Q m b f e t l css):∀ c∈css,c.length=t.size:=by
 intro c hc
 obtain⟨i,hi,rfl⟩:=List.getElem_of_mem hc
 exact (h.el i _ _ (List.getElem?_eq_getElem (by rw [← h.len];exact hi)) (List.getElem?_eq_getElem hi)).len
theorem Zjf.keep {b f e:Nat}{t:Ty}{l:List t.D}{css:List (List Value)}{fs:List Nat}(h:Zjf Q m b f e t l css)(k:Zaa m m1 fs)(hq:∀ f∈fs,¬ Q f)(hf:f∉fs):Zjf Q m1 b f e t l css:=
 ⟨h.len,fun i d c h1 h2=>(h.el i d c h1 h2).keep k hq,h.own.keep k hf⟩
theorem Zjf.mono {b f e:Nat}{t:Ty}{l:List t.D}{css:List (List Value)}(h:Zjf Q m b f e t l css)(hq:∀ f,Q f→Q' f):Zjf Q' m b f e t l css:=
 ⟨h.len,fun i d c h1 h2=>(h.el i d c h1 h2).mono hq,h.own⟩
theorem Zjf.fl {b f e:Nat}{t:Ty}{l:List t.D}{css:List (List Value)}(h:Zjf Q m b f e t l css):css.flatten.length=l.length * t.size:=by
 rw [Zj9 h.sz,h.len]
theorem Zjf.at_ {b f e:Nat}{t:Ty}{l:List t.D}{css:List (List Value)}(h:Zjf Q m b f e t l css)(hq:Q f):AtI Q m (Ty.slice e t) l [.slice (some ⟨b,0,none⟩) l.length l.length]:=
 ⟨_,css,f,rfl,h.len,h.el,(RsT.of (Sl.of h.own (by rw [h.fl])).rs),fun _=>hq⟩
theorem Zjf.store {b f e:Nat}{t:Ty}{l:List t.D}{css:List (List Value)}(h:Zjf Q m b f e t l css){p k:Nat}(hp:p < l.length)(hk:k < t.size){v:Value}(hv:one v=true) :
  ∃ (hp':p < css.length) (m1:Mem),Zad m ⟨b,p * t.size+k,none⟩ [v]=some m1∧Own m1 b (css.set p (css[p].set k v)).flatten e f∧Zaa m m1 [f]:=by
 have hp':p < css.length:=by rw [h.len];exact hp
 have hfl:=h.fl
 have hle:p * t.size+k+1≤l.length * t.size:=by
  have:(p+1) * t.size≤l.length * t.size:=Nat.mul_le_mul_right _ hp
  rw [Nat.add_mul] at this;omega
 obtain⟨m1,e1,o1,k1⟩:=Zap (r:=_) rfl h.own (off:=p * t.size+k) (vs:=[v]) (by simp only [List.length_cons,List.length_nil];rw [hfl];omega) (by simp [hv])
 rw [Zmc h.sz hp' hk] at o1
 exact⟨hp',m1,e1,o1,k1⟩
theorem Zjf.upd {b f e:Nat}{t:Ty}{l:List t.D}{css:List (List Value)}(h:Zjf Q m b f e t l css){mf:Mem}{fs:List Nat}(k:Zaa m mf fs)(hq:∀ f∈fs,¬ Q f)(hm:∀ f,Q f→Q' f){p:Nat}{d':t.D}{c':List Value}(ho:Own mf b (css.set p c').flatten e f)(hd:AtI Q' mf t d' c') :
  Zjf Q' mf b f e t (l.set p d') (css.set p c'):=by
 refine⟨by simp [h.len],fun i d c h1 h2=>?_,ho⟩
 by_cases e:i=p
 ·subst e
  rw [List.getElem?_set] at h1 h2
  simp only [if_true] at h1 h2
  split at h1
  ·split at h2
   ·simp only [Option.some.injEq] at h1 h2;subst h1;subst h2;exact hd
   ·cases h2
  ·cases h1
 ·rw [List.getElem?_set_ne (Ne.symm e)] at h1 h2
  exact ((h.el i d c h1 h2).keep k hq).mono hm
theorem Zjf.ld {b f e:Nat}{t:Ty}{l:List t.D}{css:List (List Value)}(h:Zjf Q m b f e t l css){p:Nat}(hp:p < l.length):∃ (hp':p < css.length),loadRow m ⟨b,p * t.size,none⟩ t.size=some css[p]∧AtI Q m t l[p] css[p]:=by
 have hp':p < css.length:=by rw [h.len];exact hp
 refine⟨hp',?_,h.el p _ _ (List.getElem?_eq_getElem hp) (List.getElem?_eq_getElem hp')⟩
 have hle:(p+1) * t.size≤l.length * t.size:=Nat.mul_le_mul_right _ hp
 rw [Nat.add_mul,Nat.one_mul] at hle
 rw [h.own.load t.size (off:=p * t.size) (by rw [h.fl];exact hle),Zpz h.sz hp']
theorem Zxr {t:Ty}{l:List t.D}{css:List (List Value)}(hl:css.length=l.length)(h:∀ (i:Nat) d c,l[i]?=some d→css[i]?=some c→AtI Q m t d c)(h1:∀ (d:t.D) c,AtI Q m t d c→c.all one=true):css.flatten.all one=true:=by
 rw [List.all_eq_true]
 intro v hv
 obtain⟨c,hc,hv⟩:=List.mem_flatten.1 hv
 obtain⟨i,hi,rfl⟩:=List.getElem_of_mem hc
 have:=h1 _ _ (h i _ _ (List.getElem?_eq_getElem (by omega)) (List.getElem?_eq_getElem hi))
 exact List.all_eq_true.1 this v hv
theorem Zpv {ty e bt:Nat}{t:Ty}{l:List t.D}{ao:Option Addr}(ht:Tryd.prog.underlying ty=some (.slice e))(ha:Zir Tryd.prog e t.size bt=true)(h1:∀ (d:t.D) c,AtI Q m t d c→c.all one=true)
  (h:AtI Q m (Ty.slice e t) l [.slice ao l.length l.length]) (hQ:∀ f,Q f→f < m.next) (hb:l.length * bt≤140737488355328) (h63:l.length≤9223372036854775807) (hs:Zi5 t=true:=by rfl) :
  ∃ css,(∀ m',Zaa m m' []→ldS m' (.slice ao l.length l.length) t.size=some (css.flatten,l.length))∧∀ r,Zak Tryd.prog ty (m.new [] e) (.slice (some ⟨m.next,0,none⟩) 0 0) css.flatten l.length=r→
   ∃ m1 b,r=some (.slice (some ⟨b,0,none⟩) l.length l.length,m1)∧Zjf Q m1 b m.next e t l css∧Zaa m m1 []∧m.next < m1.next:=by
 obtain⟨css,fam,hcl,hel,hr,hq⟩:=Zp0 h hs
 refine⟨css,fun m' k=>Z2p (hr.keep0 k (by simp)),fun r hr'=>?_⟩
 have hfl:css.flatten.length=l.length * t.size:=by
  rw [Zj9 (fun c hc=>by
   obtain⟨i,hi,rfl⟩:=List.getElem_of_mem hc
   exact (hel i _ _ (List.getElem?_eq_getElem (by omega)) (List.getElem?_eq_getElem hi)).len),hcl]
 obtain⟨m1,b,e1,o1,k1⟩:=Zg hr' ht ha (Own.new m [] e) (by simp) hfl (Zxr hcl hel h1) (by simpa using hb) (by simpa using h63)
 rw [Nat.zero_add] at e1
 have kk:Zaa m m1 []:=(Za4 m [] e []).fresh k1 (by simp)
 refine⟨m1,b,e1,⟨hcl,fun i d c a1 a2=>(hel i d c a1 a2).keep kk (by simp),by simpa using o1⟩,kk,?_⟩
 have:=k1.1
 simp [Mem.new] at this;omega
theorem Z4x {d:Za9.D}{c:List Value}(h:AtI Q m Za9 d c):c.all one=true:=by
 obtain⟨ao,rfl,_⟩:=Zgs h
 simp [Zau,Zae]
theorem Zg9 {d:Zct.D}{c:List Value}(h:AtI Q m Zct d c):∃ vo no po,c=Zwe d vo no po∧Zah Q m vo d.1∧Zah Q m no d.2.2.2.1∧Zah Q m po d.2.2.2.2.1:=by
 obtain⟨_,_,rfl,h1,_,_,rfl,rfl,_,_,rfl,rfl,_,_,rfl,h4,_,_,rfl,h5,_,_,rfl,rfl,h7⟩:=h
 simp only [AtI] at h7
 subst h7
 obtain⟨vo,f1,rfl,r1,q1⟩:=Zdv h1
 obtain⟨no,f2,rfl,r2,q2⟩:=Zdv h4
 obtain⟨po,f3,rfl,r3,q3⟩:=Zdv h5
 exact⟨vo,no,po,rfl,⟨f1,r1,q1⟩,⟨f2,r2,q2⟩,f3,r3,q3⟩
theorem Zqu {d:Zct.D}{vo no po:Option Addr}(h1:Zah Q m vo d.1)(h2:Zah Q m no d.2.2.2.1)(h3:Zah Q m po d.2.2.2.2.1):AtI Q m Zct d (Zwe d vo no po):=
 ⟨[_],_,rfl,Zea h1,[_],_,rfl,rfl,[_],_,rfl,rfl,[_],_,rfl,Zea h2,[_],_,rfl,Zea h3,[_],[],rfl,rfl,rfl⟩
theorem Z26 {d:Zct.D}{c:List Value}(h:AtI Q m Zct d c):c.all one=true:=by
 obtain⟨vo,no,po,rfl,_⟩:=Zg9 h
 simp [Zau,Zae]
theorem Zmi {d:StT.D}{c:List Value}(h:AtI Q m StT d c):∃ fo,c=[.slice fo (show List Zeg.D from d.1).length (show List Zeg.D from d.1).length]∧AtI Q m (Ty.slice 52 (Ty.pair (Ty.int .i64) (Ty.pair (Ty.int .i64) (Ty.pair (Ty.slice 3 (Ty.int .i64)) (Ty.pair (Ty.slice 3 (Ty.int .i64)) Ty.unit))))) d.1 [.slice fo (show List Zeg.D from d.1).length (show List Zeg.D from d.1).length]:=by
 obtain⟨_,_,rfl,h1,h2⟩:=h
 simp only [AtI] at h2
 subst h2
 have h1':=h1
 obtain⟨ao,css,fm,rfl,_⟩:=h1
 exact⟨ao,rfl,h1'⟩
theorem Z4m {d:StT.D}{fo:Option Addr}(h:AtI Q m (Ty.slice 52 (Ty.pair (Ty.int .i64) (Ty.pair (Ty.int .i64) (Ty.pair (Ty.slice 3 (Ty.int .i64)) (Ty.pair (Ty.slice 3 (Ty.int .i64)) Ty.unit))))) d.1 [.slice fo (show List Zeg.D from d.1).length (show List Zeg.D from d.1).length]):AtI Q m StT d [.slice fo (show List Zeg.D from d.1).length (show List Zeg.D from d.1).length]:=
 ⟨[_],[],rfl,h,rfl⟩
theorem Z49 {d:StT.D}{c:List Value}(h:AtI Q m StT d c):c.all one=true:=by
 obtain⟨fo,rfl,_⟩:=Zmi h
 simp [Zae]
theorem Zpe {d:Zeg.D}{c:List Value}(h:AtI Q m Zeg d c):∃ lo so,c=frC d lo so∧Zah Q m lo d.2.2.1∧Zah Q m so d.2.2.2.1:=by
 obtain⟨_,_,rfl,rfl,_,_,rfl,rfl,_,_,rfl,h3,_,_,rfl,h4,h5⟩:=h
 simp only [AtI] at h5
 subst h5
 obtain⟨ao3,f3,rfl,hr3,hqf3⟩:=Zdv h3
 obtain⟨ao4,f4,rfl,hr4,hqf4⟩:=Zdv h4
 exact⟨ao3,ao4,rfl,⟨f3,hr3,hqf3⟩,f4,hr4,hqf4⟩
theorem Z6r {d:Zeg.D}{lo so:Option Addr}(h1:Zah Q m lo d.2.2.1)(h2:Zah Q m so d.2.2.2.1):AtI Q m Zeg d (frC d lo so):=
 ⟨[_],_,rfl,rfl,[_],_,rfl,rfl,[_],_,rfl,Zea h1,[_],[],rfl,Zea h2,rfl⟩
theorem Z34 {d:Zeg.D}{c:List Value}(h:AtI Q m Zeg d c):c.all one=true:=by
 obtain⟨lo,so,rfl,_⟩:=Zpe h
 simp [Zau,Zae]
structure Zl3 (K:Nat)(u:UnT.D):Prop where
 v:nv u≤1000
 b:nb u≤1000
 s:ns u≤1000
 va:∀ v∈u.2.2.1,List.length v.2.2.2.2.1≤K
 bl:∀ b∈u.2.2.2.1,List.length b.1≤K∧List.length b.2.2.2.1≤K∧List.length b.2.2.2.2.1≤K
 st:∀ s∈u.2.2.2.2.1,List.length s.1≤K∧∀ f∈(show List Zeg.D from s.1),List.length f.2.2.1≤K∧List.length f.2.2.2.1≤K
theorem Zl3.sizeOk {K:Nat}{u:UnT.D}(h:Zl3 K u)(hK:K≤1000000):Zli u:=
 ⟨fun b hb=>by have:=h.bl b hb;omega,fun s hs=>⟨by have:=(h.st s hs).1;omega,fun f hf=>by have:=(h.st s hs).2 f hf;omega⟩,fun v hv=>by have:=h.va v hv;omega⟩
theorem Zl3.mono {K K':Nat}{u:UnT.D}(h:Zl3 K u)(hk:K≤K'):Zl3 K' u:=
 ⟨h.v,h.b,h.s,fun v hv=>by have:=h.va v hv;omega,fun b hb=>by have:=h.bl b hb;omega,fun s hs=>⟨by have:=(h.st s hs).1;omega,fun f hf=>by have:=(h.st s hs).2 f hf;omega⟩⟩
def qJ (m:Mem)(ub rb bd fv fb fs f:Nat):Prop:=f < m.next∧f≠ub∧(f≠rb∧f≠bd)∧f≠fv∧f≠fb∧f≠fs
structure R3 (Q0:Nat→Prop)(u:UnT.D)(ub rb bd vb bb sb fv fb fs K:Nat)(m3:Mem)(cv cb cs:List (List Value)):Prop where
 v:Zjf Q0 m3 vb fv 43 Za9 u.2.2.1 cv
 b:Zjf Q0 m3 bb fb 36 Zct u.2.2.2.1 cb
 s:Zjf Q0 m3 sb fs 41 StT u.2.2.2.2.1 cs
 hq:∀ f,Q0 f→f < fv∧f≠ub∧(f≠rb∧f≠bd)
 lt:fv < fb∧fb < fs∧fs < m3.next∧ub < fv∧rb < fv∧bd < fv
 sm:Zl3 K u
def BJ (u:UnT.D)(ub rb bd vb bb sb fv fb fs K:Nat)(m3 mX:Mem):Prop:=
 ∃ (lv:List Za9.D) (lb:List Zct.D) (ls:List StT.D) (cv cb cs:List (List Value)),
  Zjf (qJ mX ub rb bd fv fb fs) mX vb fv 43 Za9 lv cv∧Zjf (qJ mX ub rb bd fv fb fs) mX bb fb 36 Zct lb cb∧Zjf (qJ mX ub rb bd fv fb fs) mX sb fs 41 StT ls cs∧
  lv.length=nv u∧lb.length=nb u∧ls.length=ns u∧Zl3 K (u.1,u.2.1,lv,lb,ls,())∧Zaa m3 mX [fv,fb,fs]
variable {Q0:Nat→Prop}{u:UnT.D}{ub rb bd vb bb sb fv fb fs K:Nat}{m3 mf:Mem}{cv cb cs:List (List Value)}
theorem R3.qj (h:R3 Q0 u ub rb bd vb bb sb fv fb fs K m3 cv cb cs)(hn:m3.next≤mf.next):∀ f,Q0 f→qJ mf ub rb bd fv fb fs f:=fun f hf=>by
 have:=h.hq f hf
 have:=h.lt
 exact⟨by omega,by omega,by omega,by omega,by omega,by omega⟩
theorem R3.off (h:R3 Q0 u ub rb bd vb bb sb fv fb fs K m3 cv cb cs){gs:List Nat}(hg:∀ g∈gs,fv≤g):∀ f∈gs,¬ Q0 f:=fun f hf hq=>by
 have:=h.hq f hq
 have:=hg f hf
 omega
theorem Zmh {gs hs:List Nat}(k:Zaa m m1 gs)(h:∀ g∈gs,g∈hs∨m.next≤g):Zaa m m1 hs:=
 Zcs (Zsx hs) k (fun g hl hg=>(h g hg).resolve_right (by omega))
theorem Zl9 {α:Type}{l:List α}{p:Nat}{d x:α}(h:x∈l.set p d):x∈l∨x=d:=by
 rcases List.mem_or_eq_of_mem_set h with h | h
 ·exact Or.inl h
 ·exact Or.inr h
theorem BJ.val (h:R3 Q0 u ub rb bd vb bb sb fv fb fs K m3 cv cb cs){gs:List Nat}(k:Zaa m3 mf gs)(hg:∀ g∈gs,g=fv∨m3.next≤g){p:Nat}{d':Za9.D}{c':List Value}(ho:Own mf vb (cv.set p c').flatten 43 fv)(hd:AtI (qJ mf ub rb bd fv fb fs) mf Za9 d' c')(hK:List.length d'.2.2.2.2.1≤K+1):BJ u ub rb bd vb bb sb fv fb fs (K+1) m3 mf:=by
 have hlt:=h.lt
 have hoff:=h.off (gs:=gs) (fun g hm=>by rcases hg g hm with e | e <;> omega)
 have hqj:=h.qj k.1
 refine⟨u.2.2.1.set p d',u.2.2.2.1,u.2.2.2.2.1,_,cb,cs,h.v.upd k hoff hqj ho hd,(h.b.keep k hoff (fun hm=>by rcases hg _ hm with e | e <;> omega)).mono hqj,(h.s.keep k hoff (fun hm=>by rcases hg _ hm with e | e <;> omega)).mono hqj,by simp,rfl,rfl,?_,Zmh k (fun g hm=>by rcases hg g hm with e | e <;> simp [e])⟩
 have sm:=h.sm.mono (Nat.le_succ K)
 exact⟨by show (List.set u.2.2.1 p d').length≤1000;rw [List.length_set];exact sm.v,sm.b,sm.s,fun v hv=>by
  rcases Zl9 hv with hv | rfl
  ·exact sm.va v hv
  ·exact hK,sm.bl,sm.st⟩
theorem BJ.blk (h:R3 Q0 u ub rb bd vb bb sb fv fb fs K m3 cv cb cs){gs:List Nat}(k:Zaa m3 mf gs)(hg:∀ g∈gs,g=fb∨m3.next≤g){p:Nat}{d':Zct.D}{c':List Value}(ho:Own mf bb (cb.set p c').flatten 36 fb)(hd:AtI (qJ mf ub rb bd fv fb fs) mf Zct d' c')(hK:List.length d'.1≤K+1∧List.length d'.2.2.2.1≤K+1∧List.length d'.2.2.2.2.1≤K+1):BJ u ub rb bd vb bb sb fv fb fs (K+1) m3 mf:=by
 have hlt:=h.lt
 have hoff:=h.off (gs:=gs) (fun g hm=>by rcases hg g hm with e | e <;> omega)
 have hqj:=h.qj k.1
 refine⟨u.2.2.1,u.2.2.2.1.set p d',u.2.2.2.2.1,cv,_,cs,(h.v.keep k hoff (fun hm=>by rcases hg _ hm with e | e <;> omega)).mono hqj,h.b.upd k hoff hqj ho hd,(h.s.keep k hoff (fun hm=>by rcases hg _ hm with e | e <;> omega)).mono hqj,rfl,by simp,rfl,?_,Zmh k (fun g hm=>by rcases hg g hm with e | e <;> simp [e])⟩
 have sm:=h.sm.mono (Nat.le_succ K)
 exact⟨sm.v,by show (List.set u.2.2.2.1 p d').length≤1000;rw [List.length_set];exact sm.b,sm.s,sm.va,fun v hv=>by
  rcases Zl9 hv with hv | rfl
  ·exact sm.bl v hv
  ·exact hK,sm.st⟩
theorem BJ.sta (h:R3 Q0 u ub rb bd vb bb sb fv fb fs K m3 cv cb cs){gs:List Nat}(k:Zaa m3 mf gs)(hg:∀ g∈gs,g=fs∨m3.next≤g){p:Nat}{d':StT.D}{c':List Value}(ho:Own mf sb (cs.set p c').flatten 41 fs)(hd:AtI (qJ mf ub rb bd fv fb fs) mf StT d' c')(hK:List.length d'.1≤K+1∧∀ f∈(show List Zeg.D from d'.1),List.length f.2.2.1≤K+1∧List.length f.2.2.2.1≤K+1):BJ u ub rb bd vb bb sb fv fb fs (K+1) m3 mf:=by
 have hlt:=h.lt
 have hoff:=h.off (gs:=gs) (fun g hm=>by rcases hg g hm with e | e <;> omega)
 have hqj:=h.qj k.1
 refine⟨u.2.2.1,u.2.2.2.1,u.2.2.2.2.1.set p d',cv,cb,_,(h.v.keep k hoff (fun hm=>by rcases hg _ hm with e | e <;> omega)).mono hqj,(h.b.keep k hoff (fun hm=>by rcases hg _ hm with e | e <;> omega)).mono hqj,h.s.upd k hoff hqj ho hd,rfl,rfl,by simp,?_,Zmh k (fun g hm=>by rcases hg g hm with e | e <;> simp [e])⟩
 have sm:=h.sm.mono (Nat.le_succ K)
 exact⟨sm.v,sm.b,by show (List.set u.2.2.2.2.1 p d').length≤1000;rw [List.length_set];exact sm.s,sm.va,sm.bl,fun v hv=>by
  rcases Zl9 hv with hv | rfl
  ·exact sm.st v hv
  ·exact hK⟩
theorem Zjf.store2 {b f e:Nat}{t:Ty}{l:List t.D}{css:List (List Value)}(h:Zjf Q m b f e t l css){p k:Nat}(hp:p < l.length)(hk:k < t.size){v:Value}(hv:one v=true) :
  ∃ (hp':p < css.length) (m1:Mem),Zad m ⟨b,p * t.size+k,none⟩ [v]=some m1∧Own m1 b (css.set p (css[p].set k v)).flatten e f∧Zaa m m1 [f]∧∀ mX gs,Zaa m1 mX gs→f∉gs→loadRow mX ⟨b,p * t.size+k,none⟩ 1=some [v]:=by
 obtain⟨hp',m1,e1,o1,k1⟩:=h.store hp hk hv
 refine⟨hp',m1,e1,o1,k1,fun mX gs kx hf=>(o1.keep kx hf).load1 ?_⟩
 have hsz:∀ x∈css.set p (css[p].set k v),x.length=t.size:=by
  intro x hx
  rcases Zl9 hx with hx | rfl
  ·exact h.sz x hx
  ·rw [List.length_set];exact h.sz _ (List.getElem_mem hp')
 rw [Zsh hsz (p:=p) (by simpa using hp') hk]
 rw [List.getElem_set_self]
 rw [List.getElem?_set_self (by rw [h.sz _ (List.getElem_mem hp')];exact hk)]
theorem Zjf.cell {b f e:Nat}{t:Ty}{l:List t.D}{css:List (List Value)}(h:Zjf Q m b f e t l css){p k:Nat}(hp:p < l.length)(hk:k < t.size)(hp':p < css.length){v:Value}(hv:css[p][k]?=some v):loadRow m ⟨b,p * t.size+k,none⟩ 1=some [v]:=by
 refine h.own.load1 ?_
 rw [Zsh h.sz hp' hk]
 exact hv
theorem Zz0 (l:List Int):(ints l).all one=true:=by simp [List.all_eq_true,Zau]
theorem Zuw {ao:Option Addr}{l:List Int}(h:Zah Q m ao l)(hl:l.length≤1000000) :
  (∀ m',Zaa m m' []→ldS m' (.slice ao l.length l.length) 1=some (ints l,l.length))∧∀ r,Zak Tryd.prog 22 (m.new [] 3) (.slice (some ⟨m.next,0,none⟩) 0 0) (ints l) l.length=r→
   ∃ m1 b,r=some (.slice (some ⟨b,0,none⟩) l.length l.length,m1)∧Own m1 b (ints l) 3 m.next∧Zaa m m1 []∧m.next < m1.next:=by
 obtain⟨f,hr,_⟩:=h
 refine⟨fun m' k=>Zrq (hr.keep0 k (by simp)),fun r hr'=>?_⟩
 obtain⟨m1,b,e1,o1,k1⟩:=Zg hr' u22 ap3 (Own.new m [] 3) (by simp) (by simp) (Zz0 l) (by omega) (by omega)
 rw [Nat.zero_add] at e1
 have:=k1.1
 exact⟨m1,b,e1,by simpa using o1,(Za4 m [] 3 []).fresh k1 (by simp),by simp [Mem.new] at this;omega⟩
theorem Zd5 {b f:Nat}{l:List Int}{R:Nat→Prop}(h:Own m b (ints l) 3 f)(hq:R f):Zah R m (some ⟨b,0,none⟩) l:=⟨f,Zp1 (Sl.of h (by simp)).rs,fun _=>hq⟩
end Go.Proofs.YtcgmchechmbmeaaDoor.base
end
section
set_option maxRecDepth 100000
namespace Go.Proofs.YtcgmchechmbmeaaDoor.base
open Go.Sh gen
variable {S:Zb4}{m:Mem}{Q0:Nat→Prop}{u:UnT.D}{ub rb bd vb bb sb fv fb fs K:Nat}{m3 mY mf:Mem}{cv cb cs:List (List Value)}
theorem Z44 (h:mY.next≤mf.next){f:Nat}(hf:qJ mY ub rb bd fv fb fs f):qJ mf ub rb bd fv fb fs f:=⟨by have:=hf.1;omega,hf.2⟩
theorem Zhv (R:R3 Q0 u ub rb bd vb bb sb fv fb fs K m3 cv cb cs){gs:List Nat}(kY:Zaa m3 mY gs)(hgs:∀ g∈gs,m3.next≤g){b:Nat}(hb:b < u.2.2.2.1.length){k:Nat}(hk:k=0∨k=3∨k=4){ao:Option Addr}{l:List Int}(hi:Zah (qJ mY ub rb bd fv fb fs) mY ao l)(hl:l.length≤K+1) :
  ∃ mf,Zad mY ⟨bb,b * 6+k,none⟩ [.slice ao l.length l.length]=some mf∧BJ u ub rb bd vb bb sb fv fb fs (K+1) m3 mf:=by
 have hlt:=R.lt
 have hgq:∀ f∈gs,¬ Q0 f:=R.off (fun g hg=>by have:=hgs g hg;omega)
 obtain⟨hp',mf,e1,o1,k1⟩:=(R.b.keep kY hgq (fun hm=>by have:=hgs _ hm;omega)).store (p:=b) (k:=k) hb (by show k < 6;omega) (v:=.slice ao l.length l.length) (Zae _ _ _)
 refine⟨mf,e1,?_⟩
 have k2:Zaa m3 mf (gs++[fb]):=(kY.mono (fun x hx=>List.mem_append_left _ hx)).trans (k1.mono (fun x hx=>List.mem_append_right _ hx))
 have hel:=R.b.el b _ _ (List.getElem?_eq_getElem hb) (List.getElem?_eq_getElem hp')
 obtain⟨vo',no',po',hc,h1,h2,h3⟩:=Zg9 hel
 have hq2:∀ f∈gs++[fb],¬ Q0 f:=R.off (fun g hg=>by
  simp at hg;rcases hg with hg | hg
  ·have:=hgs g hg;omega
  ·omega)
 have hg2:∀ g∈gs++[fb],g=fb∨m3.next≤g:=fun g hg=>by
  simp at hg;rcases hg with hg | hg
  ·exact Or.inr (hgs g hg)
  ·exact Or.inl hg
 have tr:∀ {ao l},Zah Q0 m3 ao l→Zah (qJ mf ub rb bd fv fb fs) mf ao l:=fun h=>(h.keep k2 hq2).mono (R.qj k2.1)
 have hi':Zah (qJ mf ub rb bd fv fb fs) mf ao l:=(hi.keep k1 (fun f hf hq=>by simp at hf;exact hq.2.2.2.2.1 hf)).mono (fun f hf=>Z44 k1.1 hf)
 rw [hc] at o1
 have hargs:=R.sm.bl _ (List.getElem_mem hb)
 rcases hk with rfl | rfl | rfl
 ·exact BJ.blk R k2 hg2 (d':=(l,(u.2.2.2.1[b]).2)) o1 (Zqu (d:=(l,(u.2.2.2.1[b]).2)) hi' (tr h2) (tr h3)) ⟨hl,by show List.length (u.2.2.2.1[b]).2.2.2.1≤_;omega,by show List.length (u.2.2.2.1[b]).2.2.2.2.1≤_;omega⟩
 ·exact BJ.blk R k2 hg2 (d':=((u.2.2.2.1[b]).1,(u.2.2.2.1[b]).2.1,(u.2.2.2.1[b]).2.2.1,l,(u.2.2.2.1[b]).2.2.2.2)) o1 (Zqu (d:=((u.2.2.2.1[b]).1,(u.2.2.2.1[b]).2.1,(u.2.2.2.1[b]).2.2.1,l,(u.2.2.2.1[b]).2.2.2.2)) (tr h1) hi' (tr h3)) ⟨by show List.length (u.2.2.2.1[b]).1≤_;omega,hl,by show List.length (u.2.2.2.1[b]).2.2.2.2.1≤_;omega⟩
 ·exact BJ.blk R k2 hg2 (d':=((u.2.2.2.1[b]).1,(u.2.2.2.1[b]).2.1,(u.2.2.2.1[b]).2.2.1,(u.2.2.2.1[b]).2.2.2.1,l,(u.2.2.2.1[b]).2.2.2.2.2)) o1 (Zqu (d:=((u.2.2.2.1[b]).1,(u.2.2.2.1[b]).2.1,(u.2.2.2.1[b]).2.2.1,(u.2.2.2.1[b]).2.2.2.1,l,(u.2.2.2.1[b]).2.2.2.2.2)) (tr h1) (tr h2) hi') ⟨by show List.length (u.2.2.2.1[b]).1≤_;omega,by show List.length (u.2.2.2.1[b]).2.2.2.1≤_;omega,hl⟩
theorem Zx9 (R:R3 Q0 u ub rb bd vb bb sb fv fb fs K m3 cv cb cs){gs:List Nat}(kY:Zaa m3 mY gs)(hgs:∀ g∈gs,m3.next≤g){s:Nat}(hs:s < u.2.2.2.2.1.length){fo:Option Addr}{F:List Zeg.D}(hF:AtI (qJ mY ub rb bd fv fb fs) mY (Ty.slice 52 (Ty.pair (Ty.int .i64) (Ty.pair (Ty.int .i64) (Ty.pair (Ty.slice 3 (Ty.int .i64)) (Ty.pair (Ty.slice 3 (Ty.int .i64)) Ty.unit))))) F [.slice fo F.length F.length])(hl:F.length≤K+1∧∀ f∈F,List.length f.2.2.1≤K+1∧List.length f.2.2.2.1≤K+1) :
  ∃ mf,Zad mY ⟨sb,s,none⟩ [.slice fo F.length F.length]=some mf∧BJ u ub rb bd vb bb sb fv fb fs (K+1) m3 mf:=by
 have hlt:=R.lt
 have hgq:∀ f∈gs,¬ Q0 f:=R.off (fun g hg=>by have:=hgs g hg;omega)
 obtain⟨hp',mf,e1,o1,k1⟩:=(R.s.keep kY hgq (fun hm=>by have:=hgs _ hm;omega)).store (p:=s) (k:=0) hs (by decide) (v:=.slice fo F.length F.length) (Zae _ _ _)
 refine⟨mf,?_,?_⟩
 ·have e:s * StT.size+0=s:=by show s * 1+0=s;omega
  rw [← e];exact e1
 have k2:Zaa m3 mf (gs++[fs]):=(kY.mono (fun x hx=>List.mem_append_left _ hx)).trans (k1.mono (fun x hx=>List.mem_append_right _ hx))
 have hel:=R.s.el s _ _ (List.getElem?_eq_getElem hs) (List.getElem?_eq_getElem hp')
 obtain⟨fo',hc,h1⟩:=Zmi hel
 have hg2:∀ g∈gs++[fs],g=fs∨m3.next≤g:=fun g hg=>by
  simp at hg;rcases hg with hg | hg
  ·exact Or.inr (hgs g hg)
  ·exact Or.inl hg
 have hF':AtI (qJ mf ub rb bd fv fb fs) mf (Ty.slice 52 (Ty.pair (Ty.int .i64) (Ty.pair (Ty.int .i64) (Ty.pair (Ty.slice 3 (Ty.int .i64)) (Ty.pair (Ty.slice 3 (Ty.int .i64)) Ty.unit))))) F [.slice fo F.length F.length]:=(hF.keep k1 (fun f hf hq=>by simp at hf;exact hq.2.2.2.2.2 hf)).mono (fun f hf=>Z44 k1.1 hf)
 rw [hc] at o1
 exact BJ.sta R k2 hg2 (d':=(F,())) o1 (Z4m (d:=(F,())) hF') hl
theorem Z43 (R:R3 Q0 u ub rb bd vb bb sb fv fb fs K m3 cv cb cs)(kY:Zaa m3 mY []){v:Nat}(hv:v < u.2.2.1.length){xb fx:Nat}{l:List Int}(hi:Own mY xb (ints l) 3 fx)(hfx:m3.next≤fx)(hl:l.length≤K+1) :
  ∃ mf,Zad mY ⟨vb,v * 6+4,none⟩ [.slice (some ⟨xb,0,none⟩) l.length l.length]=some mf∧loadRow mf ⟨vb,v * 6+4,none⟩ 1=some [.slice (some ⟨xb,0,none⟩) l.length l.length]∧BJ u ub rb bd vb bb sb fv fb fs (K+1) m3 mf∧
   ∀ (p:Nat) (y:Int),p < l.length→∃ mg,Zad mf ⟨xb,p,none⟩ [.int .i64 y]=some mg∧BJ u ub rb bd vb bb sb fv fb fs (K+1) m3 mg:=by
 have hlt:=R.lt
 obtain⟨hp',mf,e1,o1,k1,rd⟩:=(R.v.keep kY (by simp) (by simp)).store2 (p:=v) (k:=4) hv (by decide) (v:=.slice (some ⟨xb,0,none⟩) l.length l.length) (by simp [Zae])
 have hel:=R.v.el v _ _ (List.getElem?_eq_getElem hv) (List.getElem?_eq_getElem hp')
 obtain⟨ao',hc,hi'⟩:=Zgs hel
 have hfy:=hi.flt
 have k2:Zaa m3 mf [fv]:=(kY.mono (by simp)).trans k1
 rw [hc] at o1
 have hqx:∀ mg:Mem,mY.next≤mg.next→qJ mg ub rb bd fv fb fs fx:=fun mg h=>⟨by omega,by omega,by omega,by omega,by omega,by omega⟩
 refine⟨mf,e1,rd mf [] (.refl _ _) (by simp),?_,fun p y hp=>?_⟩
 ·have hi2:Zah (qJ mf ub rb bd fv fb fs) mf (some ⟨xb,0,none⟩) l:=Zd5 (hi.keep k1 (by simp;omega)) (hqx mf k1.1)
  exact BJ.val R k2 (by simp) (d':=((u.2.2.1[v]).1,(u.2.2.1[v]).2.1,(u.2.2.1[v]).2.2.1,(u.2.2.1[v]).2.2.2.1,l,(u.2.2.1[v]).2.2.2.2.2)) o1 (Zhu (d:=((u.2.2.1[v]).1,(u.2.2.1[v]).2.1,(u.2.2.1[v]).2.2.1,(u.2.2.1[v]).2.2.2.1,l,(u.2.2.1[v]).2.2.2.2.2)) hi2) hl
 ·obtain⟨mg,e2,o2,k3⟩:=Zap (r:=_) rfl (hi.keep k1 (by simp;omega)) (off:=p) (vs:=[.int .i64 y]) (by simp;omega) (by simp [Zau])
  have eo:Zbx (ints l) p [.int .i64 y]=ints (l.set p y):=Zgg y hp
  rw [eo] at o2
  have hi2:Zah (qJ mg ub rb bd fv fb fs) mg (some ⟨xb,0,none⟩) (l.set p y):=Zd5 o2 (hqx mg (by have:=k1.1;have:=k3.1;omega))
  have k4:Zaa m3 mg [fv,fx]:=(k2.mono (by simp)).trans (k3.mono (by simp))
  refine⟨mg,e2,?_⟩
  have o1':Own mf vb (cv.set v ((Zlt u.2.2.1[v] ao').set 4 (.slice (some ⟨xb,0,none⟩) (l.set p y).length (l.set p y).length))).flatten 43 fv:=by rw [List.length_set];exact o1
  exact BJ.val R k4 (by simp;omega) (d':=((u.2.2.1[v]).1,(u.2.2.1[v]).2.1,(u.2.2.1[v]).2.2.1,(u.2.2.1[v]).2.2.2.1,l.set p y,(u.2.2.1[v]).2.2.2.2.2)) (o1'.keep k3 (by simp;omega)) (Zhu (d:=((u.2.2.1[v]).1,(u.2.2.1[v]).2.1,(u.2.2.1[v]).2.2.1,(u.2.2.1[v]).2.2.2.1,l.set p y,(u.2.2.1[v]).2.2.2.2.2)) hi2) (by show (l.set p y).length≤_;rw [List.length_set];exact hl)
theorem Zt6 {R:Nat→Prop}{b f:Nat}{l:List Int}(h:Own m b (ints l) 3 f)(hl:l.length≠0)(hq:R f):Zah R m (some ⟨b,1,none⟩) (l.drop 1):=by
 refine⟨f,⟨by simp,Or.inr ⟨b,[.int .i64 (l.getD 0 0)],rfl,?_⟩⟩,fun _=>hq⟩
 have e:[Value.int .i64 (l.getD 0 0)]++(l.drop 1).map (Value.int .i64)=ints l:=by
  cases l with
  | nil=>exact absurd rfl hl
  | cons x r=>rfl
 rw [e]
 exact h.rdo
theorem Zy8 {Q1:Nat→Prop}(R:R3 Q0 u ub rb bd vb bb sb fv fb fs K m3 cv cb cs){m4:Mem}(k4:Zaa m3 m4 [])(n4:m3.next < m4.next){F:List Zeg.D}{cf:List (List Value)}{xb:Nat}(rf:Zjf Q0 m4 xb m3.next 52 Zeg F cf)(hF:0 < F.length)(hFl:F.length≤K+1∧∀ f∈F,List.length f.2.2.1≤K+1∧List.length f.2.2.2.1≤K+1){s:Nat}(hs:s < u.2.2.2.2.1.length)
  {gs:List Nat} (k6:Zaa m4 mY gs) (hgs:∀ g∈gs,m4.next≤g) {ao:Option Addr} {l:List Int} (hi:Zah Q1 mY ao l) (hq1:∀ f,Q1 f→f≠m3.next∧qJ mY ub rb bd fv fb fs f) (hl:l.length≤K+1) :
  ∃ m7,Zad mY ⟨xb,2,none⟩ [.slice ao l.length l.length]=some m7∧∃ mf,Zad m7 ⟨sb,s,none⟩ [.slice (some ⟨xb,0,none⟩) F.length F.length]=some mf∧BJ u ub rb bd vb bb sb fv fb fs (K+1) m3 mf:=by
 have hlt:=R.lt
 have hgq:∀ f∈gs,¬ Q0 f:=R.off (fun g hg=>by have:=hgs g hg;omega)
 obtain⟨hp',m7,e1,o1,k7⟩:=(rf.keep k6 hgq (fun hm=>by have:=hgs _ hm;omega)).store (p:=0) (k:=2) hF (by decide) (v:=.slice ao l.length l.length) (Zae _ _ _)
 have hel:=rf.el 0 _ _ (List.getElem?_eq_getElem hF) (List.getElem?_eq_getElem hp')
 obtain⟨lo',so',hc,h1,h2⟩:=Zpe hel
 rw [hc] at o1
 have k8:Zaa m4 m7 (gs++[m3.next]):=(k6.mono (fun x hx=>List.mem_append_left _ hx)).trans (k7.mono (fun x hx=>List.mem_append_right _ hx))
 have hq8:∀ f∈gs++[m3.next],¬ Q0 f:=R.off (fun g hg=>by
  simp at hg;rcases hg with hg | hg
  ·have:=hgs g hg;omega
  ·omega)
 have n7:m3.next≤m7.next:=by have:=k8.1;omega
 have hi':Zah (qJ m7 ub rb bd fv fb fs) m7 ao l:=(hi.keep k7 (fun f hf hq=>by simp at hf;exact (hq1 f hq).1 hf)).mono (fun f hf=>Z44 k7.1 (hq1 f hf).2)
 have h2':Zah (qJ m7 ub rb bd fv fb fs) m7 so' (F[0]).2.2.2.1:=(h2.keep k8 hq8).mono (R.qj n7)
 have rf2:=rf.upd (Q':=qJ m7 ub rb bd fv fb fs) k8 hq8 (R.qj n7) (p:=0) (d':=((F[0]).1,(F[0]).2.1,l,(F[0]).2.2.2)) o1 (Z6r (d:=((F[0]).1,(F[0]).2.1,l,(F[0]).2.2.2)) hi' h2')
 have hQx:qJ m7 ub rb bd fv fb fs m3.next:=⟨by have:=k8.1;omega,by omega,by omega,by omega,by omega,by omega⟩
 have hA:=rf2.at_ hQx
 have hg9:∀ g∈gs++[m3.next],m3.next≤g:=fun g hg=>by
  simp at hg;rcases hg with hg | hg
  ·have:=hgs g hg;omega
  ·omega
 have hF0:=hFl.2 _ (List.getElem_mem hF)
 obtain⟨mf,e2,hJ⟩:=Zx9 R ((k4.mono (by simp)).trans k8) hg9 hs hA ⟨by rw [List.length_set];exact hFl.1,fun f hf=>by
  rcases Zl9 hf with hf | rfl
  ·exact hFl.2 f hf
  ·exact⟨hl,hF0.2⟩⟩
 rw [List.length_set] at e2
 exact⟨m7,e1,mf,e2,hJ⟩
end Go.Proofs.YtcgmchechmbmeaaDoor.base
end
