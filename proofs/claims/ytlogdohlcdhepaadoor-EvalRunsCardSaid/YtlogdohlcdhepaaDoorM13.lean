/- This text proves what the parts of turnstonehand.Unit do, Zbr the abstract run: state. Condition: nothing is known of the calls ahead ('S f = []'). -/
import Derived.Test.YtlogdohlcdhepaaDoorM12
set_option linter.unusedVariables false
set_option linter.unusedSimpArgs false
section
set_option maxRecDepth 100000
namespace Go.Proofs.YtlogdohlcdhepaaDoor.base
open Go.Sh gen
variable {S:Zb2}{T T':Tg}{m m1 m2:Mem}{is js:List Nat}{ub kb bb ab rb nx px sx:Nat}{ops sh:List Int}{n:Int}{s:Us}
theorem Z5c {t:Ty}{d:t.D}{cs:List Value}(h:AtQ (DQ T m) m t d cs)(r:∀ f,T f≤10→T' f=T f):AtQ (DQ T' m) m t d cs:=h.mono (fun f hq=>⟨(r f (by rw [hq.1];omega)).trans hq.1,hq.2⟩)
theorem Zoe {ao:Option Addr}{l:List Int}(h:Za2 (DQ T m) m ao l)(r:∀ f,T f≤10→T' f=T f):Za2 (DQ T' m) m ao l:=by
 obtain⟨f,hr,hq⟩:=h
 exact⟨f,hr,fun hz=>⟨(r f (by rw [(hq hz).1];omega)).trans (hq hz).1,(hq hz).2⟩⟩
theorem Zes.ret {b e i:Nat}{cells:List Value}(h:Zes T i m b cells e)(hi:i≤10)(r:∀ f,T f≤10→T' f=T f):Zes T' i m b cells e:=by
 obtain⟨fam,o,rfl⟩:=h
 exact⟨fam,o,r _ hi⟩
theorem SlT.ret {ao:Option Addr}{n e z i:Nat}{cells:List Value}(h:SlT T i m ao n cells e z)(hi:i≤10)(r:∀ f,T f≤10→T' f=T f):SlT T' i m ao n cells e z:=by
 obtain⟨fam,o,ht⟩:=h
 exact⟨fam,o,fun hn=>(r _ (by rw [ht hn];exact hi)).trans (ht hn)⟩
theorem SrT.ret {ao:Option Addr}{n e z i:Nat}{cells:List Value}(h:SrT T i m ao n cells e z)(hi:i≤10)(r:∀ f,T f≤10→T' f=T f):SrT T' i m ao n cells e z:=by
 obtain⟨fam,o,ht⟩:=h
 exact⟨fam,o,fun hn=>(r _ (by rw [ht hn];exact hi)).trans (ht hn)⟩
theorem Zig.ret {e i:Nat}{t:Ty}{l:List t.D}{ao:Option Addr}(h:Zig T m e t l ao i)(hi:i≤10)(r:∀ f,T f≤10→T' f=T f):Zig T' m e t l ao i:=by
 obtain⟨css,h1,h2,h3⟩:=h
 exact⟨css,h1,fun j d c hd hc=>Z5c (h2 j d c hd hc) r,h3.ret hi r⟩
theorem AtT.ret {ab x:Nat}(h:AtT T m ab x)(hi:9≤10)(r:∀ f,T f≤10→T' f=T f):AtT T' m ab x:=h.imp id (fun o=>o.ret hi r)
theorem UM.ret (h:UM T m ub kb bb ab s)(r:∀ f,T f≤10→T' f=T f):UM T' m ub kb bb ab s:=by
 obtain⟨va,ba,sa,u1,u2,u3,u4⟩:=h.u
 obtain⟨ka,k1,k2⟩:=h.k
 obtain⟨va',pa,b1,b2,b3⟩:=h.b
 exact⟨⟨va,ba,sa,u1.ret (by omega) r,u2.ret (by omega) r,u3.ret (by omega) r,u4.ret (by omega) r⟩,⟨ka,k1.ret (by omega) r,k2.ret (by omega) r⟩,⟨va',pa,b1.ret (by omega) r,b2.ret (by omega) r,Zoe b3 r⟩,h.a.ret (by omega) r⟩
theorem UC.ret (h:UC T m ub kb bb ab rb nx px sx ops sh n)(r:∀ f,T f≤10→T' f=T f):UC T' m ub kb bb ab rb nx px sx ops sh n:=by
 obtain⟨oa,sa,r1,r2,r3⟩:=h.r
 exact⟨⟨oa,sa,r1.ret (by omega) r,Zoe r2 r,Zoe r3 r⟩,h.cn.ret (by omega) r,h.cp.ret (by omega) r,h.cs.ret (by omega) r,h.z⟩
theorem Zdk (f:FuncId)(b:Array Value)(h:eqA b b=true):eqV (.func (.func f) #[] b) (.func (.func f) #[] b)=true:=by simp [eqV,h,eqA,eqL]
theorem Zoq (a b:Option Addr):eqA #[.pointer a,.pointer b] #[.pointer a,.pointer b]=true:=by simp [eqV,eqA,eqL]
theorem Yae (a b c:Option Addr):eqA #[.pointer a,.pointer b,.pointer c] #[.pointer a,.pointer b,.pointer c]=true:=by simp [eqV,eqA,eqL]
def Zbb (ops:List Int)(s:Us):Us × Int:=((Zar ops (s.known.length:Nat) s).1,s.known.getD (Zar ops (s.known.length:Nat) s).2.toNat 0)
def Zfq (ops:List Int):Nat→Us→List Int→Us × List Int
 | 0,s,l=>(s,l)
 | k+1,s,l=>Zfq ops k (Zbb ops s).1 (l++[(Zbb ops s).2])
def Zcw (s:Us):Int:=s.known.getD (s.known.length - 1) 0
def Zae (ops:List Int)(s:Us):Us × Int:=
 let q:=Zar ops 4 s
 let r:=Zfq ops q.2.toNat q.1 []
 ({ r.1 with sts:=r.1.sts++[([((1:Int),(s.sts.length:Int),r.2,[Zcw s],())],())] },(s.sts.length:Nat))
theorem Za7 (k:Int):(Zar ops k s).1.known=s.known∧(Zar ops k s).1.sts=s.sts∧(Zar ops k s).1.vals=s.vals∧(Zar ops k s).1.bv=s.bv∧(Zar ops k s).1.blks=s.blks∧(Zar ops k s).1.bp=s.bp:=by
 obtain⟨a,e⟩:=Zg8 ops k s
 rw [e];exact⟨rfl,rfl,rfl,rfl,rfl,rfl⟩
theorem Zos (k:Int)(h:s.at_≤ops.length):(Zar ops k s).1.at_≤ops.length:=by
 unfold Zar
 split
 ·simp only;omega
 ·exact h
theorem UM.known (h:UM T m ub kb bb ab s){j:Nat}(hj:j < s.known.length):∃ ka kv,loadRow m ⟨kb,0,none⟩ 1=some [.slice ka s.known.length s.known.length]∧ka=some ⟨kv,0,none⟩∧loadRow m ⟨kv,j,none⟩ 1=some [.int .i64 (s.known.getD j 0)]:=by
 obtain⟨ka,⟨f5,k1,_⟩,⟨f6,k2,_⟩⟩:=h.k
 obtain⟨kv,rest,e,o⟩:=k2.own (by omega)
 refine⟨ka,kv,k1.load1 (off:=0) rfl,e,o.load1 ?_⟩
 rw [List.getElem?_append_left (by simpa using hj)]
 simp [hj]
theorem UM.known2 (h:UM T m ub kb bb ab s)(k:KT T is m m1)(h5:5∉is)(h6:6∉is){j:Nat}(hj:j < s.known.length):∃ kv,loadRow m ⟨kb,0,none⟩ 1=some [.slice (some ⟨kv,0,none⟩) s.known.length s.known.length]∧loadRow m1 ⟨kb,0,none⟩ 1=some [.slice (some ⟨kv,0,none⟩) s.known.length s.known.length]∧loadRow m ⟨kv,j,none⟩ 1=some [.int .i64 (s.known.getD j 0)]∧loadRow m1 ⟨kv,j,none⟩ 1=some [.int .i64 (s.known.getD j 0)]:=by
 obtain⟨ka,k1,k2⟩:=h.k
 obtain⟨f5,o5,_⟩:=k1
 obtain⟨f6,o6,t6⟩:=k2
 obtain⟨f5',o5',_⟩:=Zes.keep ⟨f5,o5,by assumption⟩ k Ag.refl h5
 obtain⟨fs,kk,hf⟩:=k
 have hne:ka≠none:=by
  obtain⟨kv,_,e,_⟩:=o6.own (by omega)
  rw [e];simp
 obtain⟨kv,rest,rfl,o⟩:=o6.own (by omega)
 have o':=o.keep kk (fun hm=>h6 (by rw [← t6 hne];exact hf _ hm o.flt))
 have e:(ints s.known++rest)[j]?=some (.int .i64 (s.known.getD j 0)):=by
  rw [List.getElem?_append_left (by simpa using hj)]
  simp [hj]
 exact⟨kv,o5.load1 (off:=0) rfl,o5'.load1 (off:=0) rfl,o.load1 e,o'.load1 e⟩
set_option maxHeartbeats 2000000 in
theorem Zj5 (hN:Nq S)(hT:∀ f,T f≤10)(h:UM T m ub kb bb ab s)(hc:UC T m ub kb bb ab rb nx px sx ops sh n)(hat:s.at_≤ops.length)(hol:ops.length≤9223372036854775807)(hkn:1≤s.known.length∧s.known.length≤1000)(hst:s.sts.length≤1000) :
  ∃ v m1,Zag Tryd.prog TT S 33 [.pointer (some ⟨ub,0,none⟩),.pointer (some ⟨nx,0,none⟩),.pointer (some ⟨kb,0,none⟩)] m=some (v,m1)∧v=.int .i64 (Zae ops s).2∧∃ T',UM T' m1 ub kb bb ab (Zae ops s).1∧UC T' m1 ub kb bb ab rb nx px sx ops sh n∧Ag T T' m∧KT T [1,4,9,11,12] m m1∧∀ f,T' f≤10:=by
 obtain⟨va,ba,sa,⟨f1,u1,t1⟩,_,_,_⟩:=h.u
 have lu:=u1.load1 (off:=4) rfl
 have wst:IntKind.i64.wrap (s.sts.length:Int)=s.sts.length:=Zab (by omega) (by omega)
 obtain⟨T1,a1,oF,k1,n1,_⟩:=Znh (m:=m) T 11 (cs:=[.int .i64 0,.int .i64 0,.slice none 0 0,.slice none 0 0]) (e:=64) rfl
 have h1:=h.keep (KT.of (is:=[]) k1) a1 (by simp)
 have hc1:=hc.keep (KT.of (is:=[]) k1) a1 (by simp) (by simp)
 refine Zfi 6 [13] k33 hN.f3 rfl ?_
 simp [-Int.natCast_add,-w33_2,Zau Ycv,lu]
 obtain⟨fb,hfb⟩:∃ fb,m.next=fb:=⟨_,rfl⟩
 rw [hfb] at oF
 generalize m.new _ _=m1 at *
 generalize hra:Zaf _ _ _=ra
 obtain⟨m2,rfl,oF2,k2⟩:=Zc6 hra (by rw [hfb];exact oF) (by simp) (by simp [Zam,Zad])
 clear hra
 simp [Zbr] at oF2
 rw [hfb] at oF2
 have h2:=h1.keep k2 Ag.refl (by simp)
 have hc2:=hc1.keep k2 Ag.refl (by simp) (by simp)
 obtain⟨fn,on,tn⟩:=hc2.cn
 have ln:=on.load1 (off:=0) rfl
 obtain⟨v3,m3,c3,rfl,h3,hc3,k3⟩:=Zex hN h2 hc2 hat hol (k:=4) (by omega) (by omega)
 simp [-Int.natCast_add,-w33_3,ln,c3]
 rw [hfb]
 have q0:=Zcg (ops:=ops) (s:=s) (k:=4) (by omega)
 obtain⟨q1,q2,q3,q4,q5,q6⟩:=Za7 (ops:=ops) (s:=s) 4
 have q7:=Zos (k:=4) hat
 obtain⟨qn,hqn⟩:∃ qn:Nat,(Zar ops 4 s).2=qn:=⟨(Zar ops 4 s).2.toNat,by omega⟩
 have hqt:(Zar ops 4 s).2.toNat=qn:=by omega
 have eS:Zae ops s=({ (Zfq ops qn (Zar ops 4 s).1 []).1 with sts:=(Zfq ops qn (Zar ops 4 s).1 []).1.sts++[([((1:Int),(s.sts.length:Int),(Zfq ops qn (Zar ops 4 s).1 []).2,[Zcw s],())],())] },((s.sts.length:Nat):Int)):=by unfold Zae;simp only [hqt]
 rw [eS,hqn]
 have oF3:=oF2.keep k3 Ag.refl (by simp)
 have kk3:KT T [9,11,12] m m3:=((KT.of (is:=[9,11,12]) k1).trans a1 (k2.mono (by simp))).trans (a1.trans Ag.refl (KT.of (is:=[]) (T:=T) k1).le) (k3.mono (by simp))
 obtain⟨R,hR⟩:∃ R,Zfq ops qn (Zar ops 4 s).1 []=R:=⟨_,rfl⟩
 rw [hR]
 refine Zai 6 [13] (fun d E mG=>∃ (k:Nat) (s':Us) (locs:List Int) (T':Tg) (la:Option Addr),k=d∧UM T' mG ub kb bb ab s'∧UC T' mG ub kb bb ab rb nx px sx ops sh n∧Zes T' 11 mG fb [.int .i64 1,.int .i64 (s.sts.length:Nat),.slice la locs.length locs.length,.slice none 0 0] 64∧SlT T' 12 mG la locs.length (ints locs) 3 1∧Ag T T' m∧KT T [9,11,12] m mG∧Zfq ops k s' locs=R∧s'.known=s.known∧s'.sts=s.sts∧s'.at_≤ops.length∧locs.length+k≤3∧
  E=[(0,.pointer (some ⟨ub,0,none⟩)),(1,.pointer (some ⟨nx,0,none⟩)),(2,.pointer (some ⟨kb,0,none⟩)),(4,.pointer (some ⟨fb,0,none⟩)),(5,.int .i64 (k:Int))]) _ ⟨_,⟨qn,(Zar ops 4 s).1,[],T1,none,rfl,h3,hc3,oF3,⟨0,Sl.nil _ _ _ _,by simp⟩,a1,kk3,hR,q1,q2,q7,by simp;omega,rfl⟩,(by repeat' constructor)⟩ ?_
 clear h1 hc1 h2 hc2 h3 hc3 oF oF2 oF3 k2 k3 kk3 c3 ln on tn
 clear fn
 rintro d E mG ih ⟨k,s',locs,T',la,rfl,hU,hC,oG,sG,aG,kG,hL,ek,es,eat,hlk,rfl⟩
 have km:(k:Int)≤9223372036854775807:=by omega
 obtain⟨fG,oGo,tG⟩:=oG
 have lf:=oGo.load1 (off:=2) rfl
 by_cases hk0:k=0
 ·subst hk0
  clear ih
  rw [Zfq] at hL
  simp [-Int.natCast_add,-w33_6]
  obtain⟨va',ba',sa',v1,v2,v3,v4⟩:=hU.u
  obtain⟨kv,lk,_,lx,_⟩:=hU.known2 (KT.refl (is:=[])) (by simp) (by simp) (j:=s'.known.length - 1) (by rw [ek];omega)
  obtain⟨L1,hL1⟩:∃ L1,s'.known.length - 1=L1:=⟨_,rfl⟩
  have hks:s'.known.length=L1+1:=by rw [ek] at hL1 ⊢;omega
  have hL1n:L1≤1000:=by rw [ek] at hks;omega
  rw [hL1] at lx
  have wl:IntKind.i64.wrap ((s'.known.length:Int) - 1)=(L1:Int):=by rw [Zab (by omega) (by omega)];omega
  have l1:(L1:Int)≤9223372036854775807:=by omega
  have l2:L1 < s'.known.length:=by omega
  have l3:(L1:Int) < s'.known.length:=by omega
  have elast:s'.known.getD L1 0=Zcw s:=by rw [ek] at hL1 ⊢;rw [Zcw,hL1]
  rw [elast] at lx
  obtain⟨y,hy⟩:∃ y,Zcw s=y:=⟨_,rfl⟩
  rw [hy] at lx ⊢
  simp [-Int.natCast_add,-w33_7,Za u36 bs3 rfl,lk,wl,l1,l2,lx]
  obtain⟨T5,a5,o5,k5,n5,_⟩:=Znh (m:=mG) T' 0 (cs:=[.int .i64 y]) (e:=3) rfl
  obtain⟨yb,hyb⟩:∃ yb,mG.next=yb:=⟨_,rfl⟩
  rw [hyb] at o5 ⊢
  have kt5:KT T' [] mG (mG.new [.int .i64 y] 3):=KT.of k5
  generalize mG.new _ _=m5 at *
  have oF5:Zes T5 11 m5 fb _ _:=Zes.keep ⟨fG,oGo,tG⟩ kt5 a5 (by simp)
  generalize hrc:Zaf _ _ _=rc
  obtain⟨m6,rfl,oF6,k6⟩:=Zc6 hrc oF5 (by simp) (by simp [Zad])
  clear hrc
  simp [Zbr] at oF6
  have kg6:KT T' [11] mG m6:=(kt5.mono (by simp)).trans a5 k6
  have ag6:Ag T' T5 mG:=a5
  have aG5:Ag T T5 m:=aG.trans a5 kG.le
  have kG6:KT T [9,11,12] m m6:=kG.trans aG (kg6.mono (by simp))
  obtain⟨T6,hT6⟩:∃ T6:Tg,T6=fun f=>if T5 f≤10 then T5 f else 0:=⟨_,rfl⟩
  have ret:∀ f,T5 f≤10→T6 f=T5 f:=fun f hf=>by rw [hT6];exact if_pos hf
  have ret0:∀ f,¬ T5 f≤10→T6 f=0:=fun f hf=>by rw [hT6];exact if_neg hf
  have aG6:Ag T T6 m:=fun f hf=>by rw [← aG5 f hf];exact ret f (by rw [aG5 f hf];exact hT f)
  have hU6:UM T6 m6 ub kb bb ab s':=((hU.keep kt5 a5 (by simp)).keep k6 Ag.refl (by simp)).ret ret
  have hC6:UC T6 m6 ub kb bb ab rb nx px sx ops sh n:=((hC.keep kt5 a5 (by simp) (by simp)).keep k6 Ag.refl (by simp) (by simp)).ret ret
  have s6:=(sG.keep kt5 a5 (by simp)).keep k6 Ag.refl (by simp)
  have y6:=(o5.keep k6 Ag.refl (by simp)).ret (by omega) ret
  have dl:Za2 (DQ T6 m6) m6 la locs:=by
   obtain⟨lf',sl,tl⟩:=s6
   refine⟨lf',sl.rs,fun hz=>?_⟩
   have hne:la≠none:=by
    obtain⟨_,e,_⟩:=sl.own hz
    rw [e];simp
   exact⟨ret0 _ (by rw [tl hne];omega),sl.sr.flt hne⟩
  have dy:Za2 (DQ T6 m6) m6 (some ⟨yb,0,none⟩) [y]:=by
   obtain⟨yf,yo,yt⟩:=y6
   exact⟨yf,⟨by simp,Or.inr ⟨yb,rfl,yo.rdo⟩⟩,fun _=>⟨yt,yo.flt⟩⟩
  obtain⟨fF,oFo,_⟩:=oF6
  obtain⟨va6,ba6,sa6,w1,w2,w3,w4⟩:=hU6.u
  obtain⟨ka6,q61,q62⟩:=hU6.k
  obtain⟨vb6,pb6,b61,b62,b63⟩:=hU6.b
  obtain⟨fu6,ou6,tu6⟩:=w1
  have lU6:=ou6.load1 (off:=4) rfl
  have lF6:loadRow m6 ⟨fb,0,none⟩ 4=_:=oFo.load (off:=0) 4 (by simp)
  simp only [Zao,List.drop_zero,List.take_succ_cons,List.take_zero] at lF6
  simp [-Int.natCast_add,-w33_8,Za u65 Ybv rfl,Zau Ycy,Za u32 Yce rfl,Za0 u32 Z96,lU6,lF6]
  obtain⟨T7,a7,o7,k7,n7,t7⟩:=Znh (m:=m6) T6 0 (cs:=[.int .i64 1,.int .i64 (s.sts.length:Nat),.slice la locs.length locs.length,.slice (some ⟨yb,0,none⟩) 1 1]) (e:=64) rfl
  have kt7:KT T6 [] m6 (m6.new [.int .i64 1,.int .i64 (s.sts.length:Nat),.slice la locs.length locs.length,.slice (some ⟨yb,0,none⟩) 1 1] 64):=KT.of k7
  generalize hm7:m6.new _ _=m7 at *
  generalize hrc:Zan _ _ _ _ _ _=rc
  have dl7:=Zh9 (Zap dl kt7 a7 (by simp))
  have dy7:=Zh9 (Zap dy kt7 a7 (by simp))
  obtain⟨f7,o7o,t7o⟩:=o7
  have dS:AtQ (DQ T7 m7) m7 StT ([((1:Int),(s.sts.length:Int),locs,[y],())],()) [.slice (some ⟨m6.next,0,none⟩) 1 1]:=by
   refine⟨[_],[],rfl,⟨some ⟨m6.next,0,none⟩,[[.int .i64 1,.int .i64 (s.sts.length:Nat),.slice la locs.length locs.length,.slice (some ⟨yb,0,none⟩) 1 1]],f7,rfl,rfl,fun i d c hd hc=>?_,⟨rfl,Or.inr ⟨_,rfl,o7o.rdo⟩⟩,fun _=>⟨t7o,o7o.flt⟩⟩,rfl⟩
   cases i with
   | zero =>
    simp at hd hc
    subst hd hc
    exact⟨[_],_,rfl,rfl,[_],_,rfl,rfl,[_],_,rfl,dl7,[_],[],rfl,dy7,rfl⟩
   | succ i=>simp at hd
  have w47:=w4.keep kt7 a7 (by simp) (by simp)
  obtain⟨m8,b8,T8,rfl,r8,a8,k8,t8⟩:=Zig.app (c:=[.slice (some ⟨m6.next,0,none⟩) 1 1]) w47 (by omega) dS hrc u32 Ydm (by simp [Zad]) (by rw [es];omega) (by rw [es];omega)
  clear hrc
  have u8:Zes T8 1 m8 ub _ _:=(Zes.keep ⟨fu6,ou6,tu6⟩ kt7 a7 (by simp)).keep k8 a8 (by simp)
  simp [-Int.natCast_add,-w33_8]
  generalize hrd:Zaf _ _ _=rd
  obtain⟨m9,rfl,u9,k9⟩:=Zc6 hrd u8 (by simp) (by simp [Zad])
  clear hrd
  simp [Zbr] at u9
  have u9c:=u9
  obtain⟨fu9,ou9,tu9⟩:=u9
  have lU9:=ou9.load1 (off:=4) rfl
  obtain⟨N,hN1⟩:∃ N,s'.sts.length+1=N:=⟨_,rfl⟩
  rw [hN1] at lU9
  have wN:IntKind.i64.wrap ((N:Int) - 1)=(s.sts.length:Int):=by rw [Zab (by rw [es] at hN1;omega) (by rw [es] at hN1;omega)];rw [es] at hN1;omega
  simp [-Int.natCast_add,lU9,wN]
  have hL':R=(s',locs):=hL.symm
  rw [hL']
  have kS:KT T [1,4,9,11,12] m m9:=(((kG6.mono (by simp)).trans aG6 (kt7.mono (by simp))).trans (aG6.trans a7 kG6.le) (k8.mono (by simp))).trans ((aG6.trans a7 kG6.le).trans a8 (by have:=kG6.le;have:=kt7.le;omega)) (k9.mono (by simp))
  refine⟨T8,⟨⟨va6,ba6,some ⟨b8,0,none⟩,?_,((w2.keep kt7 a7 (by simp) (by simp)).keep k8 a8 (by simp) (by simp)).keep k9 Ag.refl (by simp) (by simp),((w3.keep kt7 a7 (by simp) (by simp)).keep k8 a8 (by simp) (by simp)).keep k9 Ag.refl (by simp) (by simp),r8.keep k9 Ag.refl (by simp) (by simp)⟩,⟨ka6,((q61.keep kt7 a7 (by simp)).keep k8 a8 (by simp)).keep k9 Ag.refl (by simp),((q62.keep kt7 a7 (by simp)).keep k8 a8 (by simp)).keep k9 Ag.refl (by simp)⟩,⟨vb6,pb6,((b61.keep kt7 a7 (by simp)).keep k8 a8 (by simp)).keep k9 Ag.refl (by simp),((b62.keep kt7 a7 (by simp)).keep k8 a8 (by simp)).keep k9 Ag.refl (by simp),Zap (Zap (Zap b63 kt7 a7 (by simp)) k8 a8 (by simp)) k9 Ag.refl (by simp)⟩,((hU6.a.keep kt7 a7 (by simp)).keep k8 a8 (by simp)).keep k9 Ag.refl (by simp)⟩,((hC6.keep kt7 a7 (by simp) (by simp)).keep k8 a8 (by simp) (by simp)).keep k9 Ag.refl (by simp) (by simp),(aG6.trans a7 kG6.le).trans a8 (by have:=kG6.le;have:=kt7.le;omega),kS,fun f=>?_⟩
  ·simpa using u9c
  ·have h6:T6 f≤10:=by
    by_cases hf:T5 f≤10
    ·rw [ret f hf];exact hf
    ·rw [ret0 f hf];omega
   have:=t7 f
   have:=t8 f
   omega
 ·have hk1:0 < k:=by omega
  have hk1':0 < (k:Int):=by omega
  obtain⟨j,hj⟩:∃ j,j+1=k:=⟨k - 1,by omega⟩
  have wk:IntKind.i64.wrap ((k:Int) - 1)=(j:Int):=by rw [Zab (by omega) (by omega)];omega
  obtain⟨fn,on,tn⟩:=hC.cn
  have ln:=on.load1 (off:=0) rfl
  rw [← ek] at hkn
  obtain⟨v4,m4,c4,rfl,hU4,hC4,k4⟩:=Zex hN hU hC eat hol (k:=(s'.known.length:Nat)) (by omega) (by omega)
  have z0:=Zcg (ops:=ops) (s:=s') (k:=(s'.known.length:Nat)) (by omega)
  obtain⟨z1,z2,z3,z4,z5,z6⟩:=Za7 (ops:=ops) (s:=s') (s'.known.length:Nat)
  have z7:=Zos (k:=(s'.known.length:Nat)) eat
  obtain⟨x,hx⟩:∃ x:Nat,(Zar ops (s'.known.length:Nat) s').2=x:=⟨(Zar ops (s'.known.length:Nat) s').2.toNat,by omega⟩
  have hxl:x < s'.known.length:=by omega
  obtain⟨kv,lk,lk4,_,lx⟩:=hU.known2 k4 (by simp) (by simp) hxl
  rw [hx] at c4
  have oG4:Zes T' 11 m4 fb _ _:=Zes.keep ⟨fG,oGo,tG⟩ k4 Ag.refl (by simp)
  have sG4:=sG.keep k4 Ag.refl (by simp)
  obtain⟨fG4,oG4o,tG4⟩:=oG4
  have lf4:=oG4o.load1 (off:=2) rfl
  have lf4n:=(oG4o.ln [.int .i64 (s'.known.getD x 0)] 3 2 1).trans lf4
  have hxi:(x:Int)≤9223372036854775807:=by omega
  have hxl':(x:Int) < s'.known.length:=by omega
  have eA:Zbb ops s'=((Zar ops (s'.known.length:Nat) s').1,s'.known.getD x 0):=by unfold Zbb;rw [hx];rfl
  obtain⟨y,hy⟩:∃ y,s'.known.getD x 0=y:=⟨_,rfl⟩
  rw [hy] at lx eA lf4n
  rw [← hj,Zfq,eA] at hL
  simp [-Int.natCast_add,-w33_6,Za u36 bs3 rfl,Za0 u36 sz3,hk1,lf,lk,ln,c4,hxi,hxl,lx]
  generalize hrc:Zan _ _ _ _ _ _=rc
  obtain⟨m5,b5,T5,rfl,s5,a5,k5,_⟩:=Z54 hrc u36 ap3 sG4 (by omega) (by simp) (by simp [Zam]) (by omega) (by omega)
  clear hrc
  have oG5:Zes T5 11 m5 fb _ _:=Zes.keep ⟨fG4,oG4o,tG4⟩ k5 a5 (by simp)
  simp [-Int.natCast_add,-w33_6]
  generalize hrd:Zaf _ _ _=rd
  obtain⟨m6,rfl,oG6,k6⟩:=Zc6 hrd oG5 (by simp) (by simp [Zad])
  clear hrd
  simp [Zbr] at oG6
  simp [-Int.natCast_add,-w33_6,Zdk _ _ (Zoq _ _),lf,lf4,lf4n,lk,lk4,ln,lx,wk]
  have aG5:Ag T T5 m:=aG.trans (Ag.trans Ag.refl a5 k4.le) kG.le
  refine ih _ [(0,.pointer (some ⟨ub,0,none⟩)),(1,.pointer (some ⟨nx,0,none⟩)),(2,.pointer (some ⟨kb,0,none⟩)),(4,.pointer (some ⟨fb,0,none⟩)),(5,.int .i64 (j:Int))] _ _ ⟨j,(Zar ops (s'.known.length:Nat) s').1,locs++[y],T5,some ⟨b5,0,none⟩,rfl,(hU4.keep (is:=[12]) (k5.mono (by simp)) a5 (by simp)).keep (is:=[11]) k6 Ag.refl (by simp),(hC4.keep k5 a5 (by simp) (by simp)).keep k6 Ag.refl (by simp) (by simp),by simpa using oG6,by simpa using s5.keep k6 Ag.refl (by simp),aG5,?_,hL,z1.trans ek,z2.trans es,z7,by simp;omega,rfl⟩ (by omega) (by repeat' constructor)
  exact ((kG.trans aG (k4.mono (by simp))).trans (aG.trans Ag.refl kG.le) (k5.mono (by simp))).trans aG5 (k6.mono (by simp))
end Go.Proofs.YtlogdohlcdhepaaDoor.base
end
section
set_option maxRecDepth 100000
namespace Go.Proofs.YtlogdohlcdhepaaDoor.base
open Go.Sh gen
variable {S:Zb2}{T T':Tg}{m m1 m2:Mem}{is js:List Nat}{ub kb bb ab rb nx px sx:Nat}{ops sh:List Int}{n:Int}{s:Us}
theorem Zes.re {b e i:Nat}{cells:List Value}(h:Zes T i m b cells e)(r:∀ f,T f=i→T' f=i):Zes T' i m b cells e:=by
 obtain⟨fam,o,t⟩:=h
 exact⟨fam,o,r _ t⟩
theorem SlT.re {ao:Option Addr}{n e z i:Nat}{cells:List Value}(h:SlT T i m ao n cells e z)(r:∀ f,T f=i→T' f=i):SlT T' i m ao n cells e z:=by
 obtain⟨fam,o,t⟩:=h
 exact⟨fam,o,fun hn=>r _ (t hn)⟩
theorem SrT.re {ao:Option Addr}{n e z i:Nat}{cells:List Value}(h:SrT T i m ao n cells e z)(r:∀ f,T f=i→T' f=i):SrT T' i m ao n cells e z:=by
 obtain⟨fam,o,t⟩:=h
 exact⟨fam,o,fun hn=>r _ (t hn)⟩
theorem Zo3 {ao:Option Addr}{l:List Int}(h:Za2 (DQ T m) m ao l)(r:∀ f,T f=0→T' f=0):Za2 (DQ T' m) m ao l:=by
 obtain⟨f,hr,hq⟩:=h
 exact⟨f,hr,fun hz=>⟨r _ (hq hz).1,(hq hz).2⟩⟩
theorem Zig.re {e i:Nat}{t:Ty}{l:List t.D}{ao:Option Addr}(h:Zig T m e t l ao i)(r:∀ f,T f=i→T' f=i)(r0:∀ f,T f=0→T' f=0):Zig T' m e t l ao i:=by
 obtain⟨css,h1,h2,h3⟩:=h
 exact⟨css,h1,fun j d c hd hc=>(h2 j d c hd hc).mono (fun f hq=>⟨r0 _ hq.1,hq.2⟩),h3.re r⟩
theorem AtT.re {ab x:Nat}(h:AtT T m ab x)(r:∀ f,T f=9→T' f=9):AtT T' m ab x:=h.imp id (fun o=>o.re r)
theorem UC.re (h:UC T m ub kb bb ab rb nx px sx ops sh n)(r:∀ f,T f=10→T' f=10)(r0:∀ f,T f=0→T' f=0):UC T' m ub kb bb ab rb nx px sx ops sh n:=by
 obtain⟨oa,sa,r1,r2,r3⟩:=h.r
 exact⟨⟨oa,sa,r1.re r,Zo3 r2 r0,Zo3 r3 r0⟩,h.cn.re r,h.cp.re r,h.cs.re r,h.z⟩
def Zbn (e c:Int)(next:List Int)(st:Int)(s:Us):Us:={ s with blks:=s.blks++[(s.bv,e,c,next,s.bp,st,())],bv:=[],bp:=[] }
set_option maxHeartbeats 2000000 in
theorem Z1l (hN:Nq S)(hT:∀ f,T f≤10)(h:UM T m ub kb bb ab s)(hc:UC T m ub kb bb ab rb nx px sx ops sh n)(hbl:s.blks.length≤1000){e c st:Int}{next:List Int}{na:Option Addr}(hd:Za2 (DQ T m) m na next) :
  ∃ v m1,Zag Tryd.prog TT S 35 [.agg #[.slice none 0 0,.int .i64 e,.int .i64 c,.slice na next.length next.length,.slice none 0 0,.int .i64 st],.pointer (some ⟨bb,0,none⟩),.pointer (some ⟨ub,0,none⟩)] m=some (v,m1)∧v=.int .i64 (s.blks.length:Nat)∧∃ T',UM T' m1 ub kb bb ab (Zbn e c next st s)∧UC T' m1 ub kb bb ab rb nx px sx ops sh n∧(∀ f,f < m.next→T f≠8→T' f=T f)∧KT T [1,3,7,8,11] m m1∧∀ f,T' f≤10:=by
 obtain⟨T1,a1,o1,k1,n1,t1⟩:=Znh (m:=m) T 11 (cs:=[.slice none 0 0,.int .i64 e,.int .i64 c,.slice na next.length next.length,.slice none 0 0,.int .i64 st]) (e:=40) rfl
 have kt1:KT T [] m (m.new [.slice none 0 0,.int .i64 e,.int .i64 c,.slice na next.length next.length,.slice none 0 0,.int .i64 st] 40):=KT.of k1
 have h1:=h.keep kt1 a1 (by simp)
 have hd1:=Zap hd kt1 a1 (by simp)
 have hc1:=hc.keep kt1 a1 (by simp) (by simp)
 obtain⟨va,ba,sa,u1,u2,u3,u4⟩:=h1.u
 obtain⟨ka,q1,q2⟩:=h1.k
 obtain⟨va',pa,b1,b2,b3⟩:=h1.b
 refine Zfi 5 [] k35 hN.f5 rfl ?_
 simp [-Int.natCast_add,-w35_1,Zcu b40]
 obtain⟨xb,hxb⟩:∃ xb,m.next=xb:=⟨_,rfl⟩
 rw [hxb] at o1 ⊢
 generalize m.new _ _=m1 at *
 obtain⟨fb,ob,tb⟩:=b1
 have l0:=ob.load1 (off:=0) rfl
 have l4:=ob.load1 (off:=4) rfl
 simp [-Int.natCast_add,-w35_2,l0]
 generalize hra:Zaf _ _ _=ra
 obtain⟨m2,rfl,o2,k2⟩:=Zc6 hra o1 (by simp) (by simp [Zad])
 clear hra
 simp [Zbr] at o2
 have b12:Zes T1 7 m2 bb _ _:=Zes.keep ⟨fb,ob,tb⟩ k2 Ag.refl (by simp)
 obtain⟨fb2,ob2,tb2⟩:=b12
 have l42:=ob2.load1 (off:=4) rfl
 simp [-Int.natCast_add,-w35_3,l42]
 generalize hrb:Zaf _ _ _=rb'
 obtain⟨m3,rfl,o3,k3⟩:=Zc6 hrb o2 (by simp) (by simp [Zad])
 clear hrb
 simp [Zbr] at o3
 have k13:KT T1 [11] m1 m3:=k2.trans Ag.refl k3
 obtain⟨T3,hT3⟩:∃ T3:Tg,T3=fun f=>if T1 f≤10∧T1 f≠8 then T1 f else 0:=⟨_,rfl⟩
 have re:∀ i,i≤10→i≠8→∀ f,T1 f=i→T3 f=i:=fun i h1 h2 f hf=>by rw [hT3];simp only [hf];exact if_pos ⟨h1,h2⟩
 have re8:∀ f,T1 f=8→T3 f=0:=fun f hf=>by rw [hT3];simp only [hf];rfl
 have reb:∀ f,T3 f≤10:=fun f=>by
  rw [hT3];simp only
  split
  ·rename_i h;exact h.1
  ·omega
 have hc3:=(hc1.keep k13 Ag.refl (by simp) (by simp)).re (re 10 (by omega) (by omega)) (re 0 (by omega) (by omega))
 have u13:=(u1.keep k13 Ag.refl (by simp)).re (re 1 (by omega) (by omega))
 have u23:=(u2.keep k13 Ag.refl (by simp) (by simp)).re (re 2 (by omega) (by omega)) (re 0 (by omega) (by omega))
 have u33:=(u3.keep k13 Ag.refl (by simp) (by simp)).re (re 3 (by omega) (by omega)) (re 0 (by omega) (by omega))
 have u43:=(u4.keep k13 Ag.refl (by simp) (by simp)).re (re 4 (by omega) (by omega)) (re 0 (by omega) (by omega))
 have q13:=(q1.keep k13 Ag.refl (by simp)).re (re 5 (by omega) (by omega))
 have q23:=(q2.keep k13 Ag.refl (by simp)).re (re 6 (by omega) (by omega))
 have oA3:=(h1.a.keep k13 Ag.refl (by simp)).re (re 9 (by omega) (by omega))
 have b13:Zes T3 7 m3 bb _ _:=((Zes.keep ⟨fb,ob,tb⟩ k13 Ag.refl (by simp))).re (re 7 (by omega) (by omega))
 have b33:=Zo3 (Zap b3 k13 Ag.refl (by simp)) (re 0 (by omega) (by omega))
 have hd3:=Zo3 (Zap hd1 k13 Ag.refl (by simp)) (re 0 (by omega) (by omega))
 have b23:Za2 (DQ T3 m3) m3 va' s.bv:=by
  obtain⟨bf,sl,tl⟩:=b2.keep k13 Ag.refl (by simp)
  refine⟨bf,sl.rs,fun hz=>?_⟩
  have hne:va'≠none:=by
   obtain⟨_,e,_⟩:=sl.own hz
   rw [e];simp
  exact⟨re8 _ (tl hne),sl.sr.flt hne⟩
 obtain⟨fu,ou,tu⟩:=u13
 obtain⟨fx,ox,tx⟩:=o3
 have lu:=ou.load1 (off:=3) rfl
 have lx:loadRow m3 ⟨xb,0,none⟩ 6=_:=ox.load (off:=0) 6 (by simp)
 simp only [Zao,List.drop_zero,List.take_succ_cons,List.take_zero] at lx
 simp [-Int.natCast_add,-w35_4,Za u31 Yb2 rfl,Za0 u31 Yad,lu,lx]
 generalize hrc:Zan _ _ _ _ _ _=rc
 have dB:AtQ (DQ T3 m3) m3 Zfk (s.bv,e,c,next,s.bp,st,()) [.slice va' s.bv.length s.bv.length,.int .i64 e,.int .i64 c,.slice na next.length next.length,.slice pa s.bp.length s.bp.length,.int .i64 st]:=
  ⟨[_],_,rfl,Zh9 b23,[_],_,rfl,rfl,[_],_,rfl,rfl,[_],_,rfl,Zh9 hd3,[_],_,rfl,Zh9 b33,[_],[],rfl,rfl,rfl⟩
 obtain⟨m4,b4,T4,rfl,r4,a4,k4,t4⟩:=Zig.app (c:=[.slice va' s.bv.length s.bv.length,.int .i64 e,.int .i64 c,.slice na next.length next.length,.slice pa s.bp.length s.bp.length,.int .i64 st]) u33 (by omega) dB hrc u31 Yc1 (by simp [Zam,Zad]) (by omega) (by omega)
 clear hrc
 have u4':Zes T4 1 m4 ub _ _:=Zes.keep ⟨fu,ou,tu⟩ k4 a4 (by simp)
 simp [-Int.natCast_add,-w35_4]
 generalize hrd:Zaf _ _ _=rd
 obtain⟨m5,rfl,u5,k5⟩:=Zc6 hrd u4' (by simp) (by simp [Zad])
 clear hrd
 simp [Zbr] at u5
 have b15:Zes T4 7 m5 bb _ _:=(b13.keep k4 a4 (by simp)).keep k5 Ag.refl (by simp)
 simp [-Int.natCast_add,-w35_5,Zau Zz5]
 generalize hre:Zaf _ _ _=re'
 obtain⟨m6,rfl,b6,k6⟩:=Zc6 hre b15 (by simp) (by simp [Zam,Zad])
 clear hre
 simp [Zbr] at b6
 have u6:=u5.keep k6 Ag.refl (by simp)
 have u6c:=u6
 obtain⟨fu6,ou6,tu6⟩:=u6
 have lu6:=ou6.load1 (off:=3) rfl
 obtain⟨N,hN1⟩:∃ N,s.blks.length+1=N:=⟨_,rfl⟩
 rw [hN1] at lu6
 have wN:IntKind.i64.wrap ((N:Int) - 1)=(s.blks.length:Int):=by rw [Zab (by omega) (by omega)];omega
 simp [-Int.natCast_add,lu6,wN]
 have k36:KT T3 [1,3,7] m3 m6:=((k4.mono (by simp)).trans a4 (k5.mono (by simp))).trans (Ag.trans a4 Ag.refl k4.le) (k6.mono (by simp))
 have k03:KT T [11] m m3:=(kt1.mono (by simp)).trans a1 k13
 refine⟨T4,⟨⟨va,some ⟨b4,0,none⟩,sa,?_,((u23.keep k4 a4 (by simp) (by simp)).keep k5 Ag.refl (by simp) (by simp)).keep k6 Ag.refl (by simp) (by simp),(r4.keep k5 Ag.refl (by simp) (by simp)).keep k6 Ag.refl (by simp) (by simp),((u43.keep k4 a4 (by simp) (by simp)).keep k5 Ag.refl (by simp) (by simp)).keep k6 Ag.refl (by simp) (by simp)⟩,⟨ka,((q13.keep k4 a4 (by simp)).keep k5 Ag.refl (by simp)).keep k6 Ag.refl (by simp),((q23.keep k4 a4 (by simp)).keep k5 Ag.refl (by simp)).keep k6 Ag.refl (by simp)⟩,⟨none,none,b6,⟨0,Sl.nil _ _ _ _,by simp⟩,⟨0,⟨by simp [Zbn],Or.inl ⟨rfl,.nil⟩⟩,by simp [Zbn]⟩⟩,((oA3.keep k4 a4 (by simp)).keep k5 Ag.refl (by simp)).keep k6 Ag.refl (by simp)⟩,((hc3.keep k4 a4 (by simp) (by simp)).keep k5 Ag.refl (by simp) (by simp)).keep k6 Ag.refl (by simp) (by simp),fun f hf h8=>?_,?_,fun f=>?_⟩
 ·simpa [Zbn] using u6c
 ·have e1:=a1 f (by omega)
  have e3:T3 f=T1 f:=re (T1 f) (by rw [e1];exact hT f) (by rw [e1];exact h8) f rfl
  rw [a4 f (by have:=k03.le;omega),e3,e1]
 ·obtain⟨fs,kk,hf⟩:=k03
  obtain⟨gs,kk2,hg⟩:=k36
  refine⟨fs++gs,(kk.mono (fun q hq=>List.mem_append_left _ hq)).trans (kk2.mono (fun q hq=>List.mem_append_right _ hq)),fun f hm hl=>?_⟩
  rcases List.mem_append.1 hm with hm | hm
  ·have:=hf f hm (by omega);simp at this;simp [this]
  ·have h3:=hg f hm (by have:=kk.1;omega)
   have e1:=a1 f (by omega)
   by_cases h8:T f=8
   ·simp [h8]
   ·have e3:T3 f=T1 f:=re (T1 f) (by rw [e1];exact hT f) (by rw [e1];exact h8) f rfl
    rw [e3,e1] at h3
    simp at h3 ⊢
    omega
 ·have:=t4 f
  have:=reb f
  omega
end Go.Proofs.YtlogdohlcdhepaaDoor.base
end
section
set_option maxRecDepth 100000
namespace Go.Proofs.YtlogdohlcdhepaaDoor.base
open Go.Sh gen
variable {S:Zb2}{T T':Tg}{m m1 m2:Mem}{is js:List Nat}{ub kb bb ab rb nx px sx:Nat}{ops sh:List Int}{n:Int}{s s1:Us}
theorem Zug {l e e' fam fam':Nat}{c c':List Value}(h:Own m l c e fam)(k:Own m l c' e' fam'):c=c':=by
 have:=h.blk
 rw [k.blk] at this
 simp only [Option.some.injEq,Blk.mk.injEq] at this
 exact this.1.symm
theorem UM.kn (h:UM T m ub kb bb ab s)(h1:UM T' m1 ub kb bb ab s1)(k:KT T is m m1)(a:Ag T T' m)(hi:5∉is)(e:s1.known=s.known)(hT:∀ f,T' f≤10)(hl:s.known.length≤1000)(v:Int):∃ ka,loadRow m ⟨kb,0,none⟩ 1=some [.slice ka s.known.length s.known.length]∧loadRow m1 ⟨kb,0,none⟩ 1=some [.slice ka s.known.length s.known.length]∧
  loadRow (m1.new [.int .i64 v] 3) ⟨kb,0,none⟩ 1=some [.slice ka s.known.length s.known.length]∧
  ∃ m2 ka2 m3 T2,Zan Tryd.prog 36 (m1.new [.int .i64 v] 3) (.slice ka s.known.length s.known.length) [.int .i64 v] 1=some (.slice ka2 (s.known.length+1) (s.known.length+1),m2)∧loadRow m2 ⟨kb,0,none⟩ 1=some [.slice ka s.known.length s.known.length]∧
   Zaf m2 ⟨kb,0,none⟩ [.slice ka2 (s.known.length+1) (s.known.length+1)]=some m3∧UM T2 m3 ub kb bb ab { s1 with known:=s.known++[v] }∧Ag T' T2 m1∧KT T' [5,6] m1 m3∧∀ f,T2 f≤10:=by
 obtain⟨ka0,q1,q2⟩:=h.k
 obtain⟨ka,q11,q12⟩:=h1.k
 have q13:=q1.keep k a hi
 obtain⟨f0,o0,_⟩:=q1
 obtain⟨f1,o1,t1⟩:=q11
 obtain⟨f3,o3,_⟩:=q13
 have ec:=Zug o1 o3
 rw [e] at ec o1 q12
 have eka:ka=ka0:=by simpa using ec
 subst eka
 obtain⟨va,ba,sa,u1,u2,u3,u4⟩:=h1.u
 obtain⟨va',pa,b1,b2,b3⟩:=h1.b
 obtain⟨m2,ka2,T2,e2,r2,hne,a2,k2,w2⟩:=Z3i (m:=m1) (k:=1) (news:=[.int .i64 v]) (cs:=[.int .i64 v]) (e0:=3) rfl u36 ap3 q12 (by omega) (by simp) (by simp [Zam]) (by omega) (by omega)
 obtain⟨f2,o2,t2⟩:Zes T2 5 m2 kb _ _:=Zes.keep ⟨f1,o1,t1⟩ k2 a2 (by simp)
 obtain⟨m3,e3,o3',k3⟩:=Zc6 (vs:=[.slice ka2 (s.known.length+1) (s.known.length+1)]) (off:=0) rfl (⟨f2,o2,t2⟩:Zes T2 5 m2 kb _ _) (by simp) (by simp [Zad])
 simp [Zbr] at o3'
 refine⟨ka,o0.load1 (off:=0) rfl,o1.load1 (off:=0) rfl,(o1.ln _ _ 0 1).trans (o1.load1 (off:=0) rfl),m2,ka2,m3,T2,e2,o2.load1 (off:=0) rfl,e3,⟨⟨va,ba,sa,(u1.keep k2 a2 (by simp)).keep k3 Ag.refl (by simp),(u2.keep k2 a2 (by simp) (by simp)).keep k3 Ag.refl (by simp) (by simp),(u3.keep k2 a2 (by simp) (by simp)).keep k3 Ag.refl (by simp) (by simp),(u4.keep k2 a2 (by simp) (by simp)).keep k3 Ag.refl (by simp) (by simp)⟩,⟨ka2,by simpa using o3',by simpa using r2.keep k3 Ag.refl (by simp)⟩,⟨va',pa,(b1.keep k2 a2 (by simp)).keep k3 Ag.refl (by simp),(b2.keep k2 a2 (by simp)).keep k3 Ag.refl (by simp),Zap (Zap b3 k2 a2 (by simp)) k3 Ag.refl (by simp)⟩,(h1.a.keep k2 a2 (by simp)).keep k3 Ag.refl (by simp)⟩,a2,(k2.mono (by simp)).trans a2 (k3.mono (by simp)),fun f=>by have:=hT f;have:=w2 f;omega⟩
structure Bd (ops:List Int)(s:Us):Prop where
 k1:1≤s.known.length
 k2:s.known.length≤s.vals.length
 b:s.bv.length≤s.vals.length
 st:s.sts.length≤s.vals.length+s.blks.length
 a:s.at_≤ops.length
def knP (d:Zbj.D)(s:Us):Us:={ Zbi d s with known:=s.known++[(s.vals.length:Int)] }
def Zd7 (ops:List Int)(a b:Int)(k:Int)(s:Us):Us:=
 if k < 12 then knP (3+k,a,b,0,[],0,()) s
 else if k=12 then knP (2,0,0,(Zar ops 1048576 s).2 - 9,[],0,()) (Zar ops 1048576 s).1
 else if k=13 then knP (17,a,0,(Zar ops 5 s).2,[],0,()) (Zar ops 5 s).1
 else if k=14 then knP (18,a,b,0,[],0,()) s
 else if k=15 then Zbi (19,a,b,(Zar ops 5 s).2,[],0,()) (Zar ops 5 s).1
 else if k=16 then Zbi (20,a,b,0,[(Zbb ops s).2],0,()) (Zbb ops s).1
 else if k=17 then Zbi (22,a,0,0,[],(Zae ops s).2,()) (Zae ops s).1
 else if k=18 then Zbi (23,0,0,0,[],(Zae ops s).2,()) (Zae ops s).1
 else knP (15+(Zar ops 2 s).2,a,0,0,[],0,()) (Zar ops 2 s).1
def Z9v (ops:List Int)(s:Us):Us:=
 Zd7 ops (Zbb ops s).2 (Zbb ops (Zbb ops s).1).2 (Zar ops 20 (Zbb ops (Zbb ops s).1).1).2 (Zar ops 20 (Zbb ops (Zbb ops s).1).1).1
def Zgo (ops:List Int):Nat→Us→Us
 | 0,s=>s
 | i+1,s=>if s.vals.length < 200 then Zgo ops i (Z9v ops s) else s
def Zfx (ops:List Int)(s:Us):Us:=Zgo ops (1+(Zar ops 6 s).2.toNat) (Zar ops 6 s).1
theorem Bd.next (h:Bd ops s)(k:Int):Bd ops (Zar ops k s).1:=by
 obtain⟨q1,q2,q3,q4,q5,q6⟩:=Za7 (ops:=ops) (s:=s) k
 have q7:=Zos k h.a
 exact⟨by rw [q1];exact h.k1,by rw [q1,q3];exact h.k2,by rw [q4,q3];exact h.b,by rw [q2,q3,q5];exact h.st,q7⟩
theorem Bd.put (h:Bd ops s)(d:Zbj.D):Bd ops (Zbi d s):=⟨h.k1,by simp [Zbi];have:=h.k2;omega,by simp [Zbi];exact h.b,by simp [Zbi];have:=h.st;omega,h.a⟩
theorem Bd.kn (h:Bd ops s)(d:Zbj.D):Bd ops (knP d s):=⟨by simp [knP,Zbi],by simp [knP,Zbi];exact h.k2,by simp [knP,Zbi];exact h.b,by simp [knP,Zbi];have:=h.st;omega,h.a⟩
theorem Zfv (h:Bd ops s):Bd ops (Zbb ops s).1:=h.next _
theorem Z0p (k:Nat):∀ {s:Us} {l:List Int},Bd ops s→Bd ops (Zfq ops k s l).1∧(Zfq ops k s l).1.vals=s.vals∧(Zfq ops k s l).1.sts=s.sts∧(Zfq ops k s l).1.known=s.known∧(Zfq ops k s l).1.blks=s.blks∧(Zfq ops k s l).1.bv=s.bv:=by
 induction k with
 | zero=>intro s l h;exact⟨h,rfl,rfl,rfl,rfl,rfl⟩
 | succ k ih =>
  intro s l h
  obtain⟨q1,q2,q3,q4,q5,q6⟩:=Za7 (ops:=ops) (s:=s) (s.known.length:Nat)
  obtain⟨h1,h2,h3,h4,h5,h6⟩:=ih (l:=l++[(Zbb ops s).2]) (Zfv h)
  rw [Zfq]
  exact⟨h1,h2.trans q3,h3.trans q2,h4.trans q1,h5.trans q5,h6.trans q4⟩
theorem Zc7 (h:Bd ops s)(d:Zbj.D):Bd ops (Zbi d (Zae ops s).1)∧(Zae ops s).1.vals=s.vals∧(Zae ops s).1.known=s.known∧(Zae ops s).1.bv=s.bv∧(Zae ops s).1.blks=s.blks∧(Zae ops s).1.sts.length=s.sts.length+1∧(Zae ops s).1.at_≤ops.length:=by
 obtain⟨h1,h2,h3,h4,h5,h6⟩:=Z0p (ops:=ops) (Zar ops 4 s).2.toNat (s:=(Zar ops 4 s).1) (l:=[]) (h.next 4)
 obtain⟨q1,q2,q3,q4,q5,q6⟩:=Za7 (ops:=ops) (s:=s) 4
 have e1:=h2.trans q3
 have e2:=h4.trans q1
 have e3:=h6.trans q4
 have e4:=h5.trans q5
 have e5:=h3.trans q2
 refine⟨⟨?_,?_,?_,?_,?_⟩,e1,e2,e3,e4,?_,?_⟩
 ·simp only [Zbi,Zae,e2];exact h.k1
 ·simp only [Zbi,Zae,e2,e1,List.length_append,List.length_cons,List.length_nil];have:=h.k2;omega
 ·simp only [Zbi,Zae,e3,e1,List.length_append,List.length_cons,List.length_nil];have:=h.b;omega
 ·simp only [Zbi,Zae,e5,e1,e4,List.length_append,List.length_cons,List.length_nil];have:=h.st;omega
 ·exact h1.a
 ·simp only [Zae,e5,List.length_append,List.length_cons,List.length_nil]
 ·exact h1.a
end Go.Proofs.YtlogdohlcdhepaaDoor.base
end
