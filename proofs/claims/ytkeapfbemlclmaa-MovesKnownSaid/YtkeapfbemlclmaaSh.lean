/-
  This text proves that an abstract, deterministic run of the model's code (logical blocks in the place of addresses, no capacities) is sound: where it answers, every run of the model answers alike and leaves all older memory as it was ('closed_true', 'call_sound').
  No condition but what the theorems themselves say: the program's orders are mixed, and the functions that are run pass the static check 'funcOk'.
-/
import Derived.Calls
import Derived.Below
import Derived.Laws.IdiomCopy
import Derived.ArgAppend
import Derived.Orders
import Derived.Laws.IdiomStrings
import Derived.Laws.BytesString
import Derived.LoopN
import Derived.WalkKit
import Derived.ProofKit
import Derived.OpenShut
import Derived.ChangeSame

/- The abstract run of the model's code: definitions. -/
namespace Go.Sh

inductive Tree (α : Type) where
  | leaf
  | node (v : Option α) (l r : Tree α)

namespace Tree
def get {α : Type} : Tree α → Nat → Option α
  | .leaf, _ => none
  | .node v l r, n => match n with
    | 0 => v
    | k + 1 => match k % 2 with
      | 0 => l.get (k / 2)
      | _ + 1 => r.get (k / 2)

def setF {α : Type} (x : α) : Nat → Tree α → Nat → Tree α
  | 0, t, _ => t
  | f + 1, t, n =>
    match t, n with
    | .leaf, 0 => .node (some x) .leaf .leaf
    | .node _ l r, 0 => .node (some x) l r
    | .leaf, k + 1 => match k % 2 with
      | 0 => .node none (setF x f .leaf (k / 2)) .leaf
      | _ + 1 => .node none .leaf (setF x f .leaf (k / 2))
    | .node v l r, k + 1 => match k % 2 with
      | 0 => .node v (setF x f l (k / 2)) r
      | _ + 1 => .node v l (setF x f r (k / 2))

def set {α : Type} (t : Tree α) (n : Nat) (x : α) : Tree α := setF x (n + 1) t n

theorem get_leaf {α : Type} (n : Nat) : (Tree.leaf : Tree α).get n = none := by simp [get]

theorem get_setF {α : Type} (x : α) : ∀ (f : Nat) (t : Tree α) (n k : Nat), n < f → (setF x f t n).get k = if k = n then some x else t.get k := by
  intro f
  induction f with
  | zero => intro t n k h; omega
  | succ f ih =>
    intro t n k h
    cases t with
    | leaf =>
      cases n with
      | zero => cases k <;> simp [setF, get]; split <;> rfl
      | succ n =>
        simp only [setF]
        cases hn : n % 2 with
        | zero =>
          cases k with
          | zero => simp [get]
          | succ k =>
            simp only [get]
            cases hk : k % 2 with
            | zero => simp only [ih _ _ _ (show n / 2 < f by omega), get_leaf]; by_cases e : k = n <;> simp [e] <;> omega
            | succ j => simp only []; rw [if_neg (by omega)]
        | succ i =>
          cases k with
          | zero => simp [get]
          | succ k =>
            simp only [get]
            cases hk : k % 2 with
            | zero => simp only []; rw [if_neg (by omega)]
            | succ j => simp only [ih _ _ _ (show n / 2 < f by omega), get_leaf]; by_cases e : k = n <;> simp [e] <;> omega
    | node v l r =>
      cases n with
      | zero => cases k <;> simp [setF, get]
      | succ n =>
        simp only [setF]
        cases hn : n % 2 with
        | zero =>
          cases k with
          | zero => simp [get]
          | succ k =>
            simp only [get]
            cases hk : k % 2 with
            | zero => simp only [ih _ _ _ (show n / 2 < f by omega)]; by_cases e : k = n <;> simp [e] <;> omega
            | succ j => simp only []; rw [if_neg (by omega)]
        | succ i =>
          cases k with
          | zero => simp [get]
          | succ k =>
            simp only [get]
            cases hk : k % 2 with
            | zero => simp only []; rw [if_neg (by omega)]
            | succ j => simp only [ih _ _ _ (show n / 2 < f by omega)]; by_cases e : k = n <;> simp [e] <;> omega

theorem get_set {α : Type} (t : Tree α) (n k : Nat) (x : α) : (t.set n x).get k = if k = n then some x else t.get k :=
  get_setF x (n + 1) t n k (by omega)
theorem get_set_self {α : Type} (t : Tree α) (n : Nat) (x : α) : (t.set n x).get n = some x := by simp [get_set]
theorem get_set_ne {α : Type} (t : Tree α) {n k : Nat} (x : α) (h : k ≠ n) : (t.set n x).get k = t.get k := by simp [get_set, h]
end Tree

def one : Value → Bool
  | .agg _ | .tuple _ => false
  | _ => true

mutual
/-- no address in it -/
def closedV : Value → Bool
  | .bool _ | .int _ _ | .float _ _ | .complex _ _ _ | .string _ | .nilFunc | .nilIface => true
  | .pointer a => a.isNone
  | .slice a n c => a.isNone && n == 0 && c == 0
  | .map r | .chan r => r.isNone
  | .func fn first cap => (match fn with | .func _ => true | _ => false) && closedA first && closedA cap
  | .iface _ v => closedV v
  | .agg cs => closedA cs
  | .tuple cs => closedA cs
def closedA : Array Value → Bool
  | ⟨l⟩ => closedL l
def closedL : List Value → Bool
  | [] => true
  | v :: r => closedV v && closedL r
end

structure Blk where
  cells : List Value
  elem : TypeId
  fam : Nat

structure Fam where
  live : Option Nat
  kill : Nat

structure SMap where
  entries : List MapEntry
  clock : Nat

structure Mem where
  next : Nat
  blks : Tree Blk
  fams : Tree Fam
  maps : Tree SMap

def Mem.readable (m : Mem) (l : Nat) : Option Blk :=
  match m.blks.get l with
  | none => none
  | some b => match m.fams.get b.fam with
    | none => none
    | some f => if f.kill ≤ l then some b else none

def Mem.writable (m : Mem) (l : Nat) : Option Blk :=
  match m.blks.get l with
  | none => none
  | some b => match m.fams.get b.fam with
    | none => none
    | some f => if f.live == some l && f.kill ≤ l then some b else none

def Mem.put (m : Mem) (l : Nat) (b : Blk) (cells : List Value) : Mem :=
  { next := m.next, blks := m.blks.set l { b with cells := cells }, fams := m.fams.set b.fam ⟨some l, l⟩, maps := m.maps }

def Mem.new (m : Mem) (cells : List Value) (elem : TypeId) : Mem :=
  { next := m.next + 1, blks := m.blks.set m.next ⟨cells, elem, m.next⟩, fams := m.fams.set m.next ⟨some m.next, m.next⟩, maps := m.maps }

/-- a map's block is set -/
def Mem.setMap (m : Mem) (l : Nat) (s : SMap) : Mem := { next := m.next, blks := m.blks, fams := m.fams, maps := m.maps.set l s }

/-- a new map -/
def Mem.newMap (m : Mem) : Mem := { next := m.next + 1, blks := m.blks, fams := m.fams, maps := m.maps.set m.next ⟨[], 0⟩ }

/-- a block grows: a new number in its family; keep: the elder numbers can still be read -/
def Mem.grow (m : Mem) (b : Blk) (cells : List Value) (keep : Bool) : Mem :=
  { next := m.next + 1, blks := m.blks.set m.next ⟨cells, b.elem, b.fam⟩,
    fams := m.fams.set b.fam ⟨some m.next, if keep then (match m.fams.get b.fam with | some f => f.kill | none => m.next) else m.next⟩, maps := m.maps }

/-- the cells [off, off + k) of a list -/
def window (cs : List Value) (off k : Nat) : List Value := (cs.drop off).take k

/-- overwriting -/
def over (cs : List Value) (off : Nat) (new : List Value) : List Value := cs.take off ++ new ++ cs.drop (off + new.length)

def loadRow (m : Mem) (a : Addr) (k : Nat) : Option (List Value) :=
  match a.spot with
  | some _ => none
  | none => match m.readable a.block with
    | none => none
    | some b => if a.off + k ≤ b.cells.length then some (window b.cells a.off k) else none

def storeRow (m : Mem) (a : Addr) (vs : List Value) : Option Mem :=
  match a.spot with
  | some _ => none
  | none => match m.writable a.block with
    | none => none
    | some b => if a.off + vs.length ≤ b.cells.length && vs.all one then some (m.put a.block b (over b.cells a.off vs)) else none

def ev (t : Tree Value) : Operand → Value
  | .tmp i => (t.get i).getD undef
  | .const v => v
  | .global g => .pointer (some ⟨g, 0, none⟩)
  | .func f => .func (.func f) #[] #[]

inductive SExit where
  | normal | exit (id : Nat) | ret

/-- a run of a model's term that touches no memory and draws nothing -/
def prun (P : Program) {α : Type} : Sem α → Option α
  | .pure a => some a
  | .program k => prun P (k P)
  | .mark _ k => prun P k
  | _ => none

def prunV (P : Program) (s : Sem Value) : Option Value := prun P s

def sizeOfT (P : Program) (t : TypeId) : Option Nat := (P.info? t).map (·.size)

def isAggT (P : Program) (t : TypeId) : Bool := match P.underlying t with
  | some (.struct _) | some (.array _ _) => true
  | _ => false

def known (P : Program) (t : TypeId) : Bool := (P.underlying t).isSome

/-- append of k elements, their cells 'news' -/
def sappend (P : Program) (t : TypeId) (m : Mem) (s : Value) (news : List Value) (k : Nat) : Option (Value × Mem) :=
  match P.underlying t with
  | some (.slice e) => match P.info? e with
    | none => none
    | some i =>
      if !(0 < i.size && i.zero.any (fun z => z.cells.size == i.size) && news.length == k * i.size && news.all one) then none else
      match s with
      | .slice none 0 0 =>
        if k == 0 then some (.slice none 0 0, m) else
        if k * i.bytes ≤ 140737488355328 && k ≤ 9223372036854775807 then some (.slice (some ⟨m.next, 0, none⟩) k k, m.new news e) else none
      | .slice (some a) n _ =>
        if a.spot.isNone && (n + k) * i.bytes ≤ 140737488355328 && n + k ≤ 9223372036854775807 then
          match m.writable a.block with
          | none => none
          | some b =>
            if b.elem != e then none else
            if k == 0 then some (s, m) else
            if a.off + n * i.size + news.length ≤ b.cells.length then
              some (.slice (some a) (n + k) (n + k), m.put a.block b (over b.cells (a.off + n * i.size) news))
            else if a.off + n * i.size ≤ b.cells.length && a.off == 0 then
              some (.slice (some ⟨m.next, 0, none⟩) (n + k) (n + k), m.grow b (b.cells.take (n * i.size) ++ news) (n * i.size == b.cells.length))
            else none
        else none
      | _ => none
  | _ => none

/-- what is appended: the cells, and how many elements -/
def newsOf (P : Program) (m : Mem) (t : TypeId) (x : Value) : Option (List Value × Nat) :=
  match P.underlying t with
  | some (.slice e) => match sizeOfT P e, x with
    | some _, .slice none 0 0 => some ([], 0)
    | some z, .slice (some a) n _ => if n == 0 then none else (loadRow m a (n * z)).map (·, n)
    | _, _ => none
  | some .string => match x with
    | .string s => some ((s.data.map fun b => Value.int .u8 b.toNat).toList, s.size)
    | _ => none
  | _ => none

def isIntT (P : Program) (t : TypeId) : Bool := match P.underlying t with | some (.int _) => true | _ => false

def natOf : Value → Option Nat
  | .int _ n => if 0 ≤ n && n ≤ 9223372036854775807 then some n.toNat else none
  | _ => none

def zerosOf (P : Program) (e : TypeId) (k : Nat) : Option (List Value) :=
  match P.info? e with
  | some i => match i.zero with
    | some z => if closedA z.cells && z.cells.size == i.size && k * i.bytes ≤ 281474976710656 then some (List.replicate k z.cells.toList).flatten else none
    | none => none
  | none => none

abbrev CallH := FuncId → List Value → Mem → Option (Value × Mem)

/-- an operation whose operands hold no address -/
def closedOp (P : Program) (ρ : Operand → Value) (o : Oper) : Option Value :=
  if o.op.operands.all (fun x => closedV (ρ x)) then
    match prun P (execOp ρ o) with
    | some (.value v) => if closedV v then some v else none
    | _ => none
  else none

def fieldOf (P : Program) (s : TypeId) (f : Nat) : Option Field :=
  match P.underlying s with
  | some (.struct fs) => fs[f]?
  | _ => none

def placesOf (fields : Array Field) : Sem (Array (Nat × Nat)) := fields.mapM fun f => do pure (f.offset, ← sizeOf f.type)

/-- a part of an aggregate's cells -/
def partOf (P : Program) (t : TypeId) (cs : Array Value) (off : Nat) : Option Value :=
  match P.underlying t with
  | none => none
  | some _ =>
    if isAggT P t then match sizeOfT P t with
      | some z => some (.agg (cs.extract off (off + z)))
      | none => none
    else cs[off]?

/-- cells that are bytes -/
def bytesOf : List Value → Option (List UInt8)
  | [] => some []
  | .int .u8 n :: r => if 0 ≤ n && n < 256 then (bytesOf r).map (UInt8.ofNat n.toNat :: ·) else none
  | _ => none

/-- a map's entries, for a look-up -/
def entriesOf (m : Mem) : Value → Option (List MapEntry)
  | .map none => some []
  | .map (some l) => (m.maps.get l).map (·.entries)
  | _ => none

/-- where a key stands in a map: its number and value; the keys hold no address -/
def sfind (P : Program) (empty : Bool) (kt : TypeId) (k : Value) (es : List MapEntry) : Option (Option (Nat × Value)) :=
  if closedV k && es.all (fun e => closedV e.key) then
    match prun P (Instr.checkKey empty 10000 kt k) with
    | some _ => prun P (Instr.findKey kt k es)
    | none => none
  else none

def setEntry (es : List MapEntry) (i : Nat) (f : MapEntry → MapEntry) : List MapEntry :=
  match es[i]? with
  | some e => es.set i (f e)
  | none => es

/-- a key's entry, there or made: the entries behind, the clock behind, the value, the entry's stamp -/
def sentry (P : Program) (kt : TypeId) (k : Value) (s : SMap) (zero : Value) : Option (SMap × Value × Nat) :=
  match sfind P false kt k s.entries with
  | some (some (i, v)) => match s.entries[i]? with
    | some e => if Instr.sameBits 10000 e.key k then some (⟨setEntry s.entries i fun e => { e with key := k }, s.clock⟩, v, e.born) else none
    | none => none
  | some none => some (⟨s.entries ++ [{ key := k, val := zero, born := s.clock }], s.clock + 1⟩, zero, s.clock)
  | none => none

def sput (P : Program) (kt : TypeId) (k x : Value) (s : SMap) : Option SMap :=
  match sfind P false kt k s.entries with
  | some (some (i, _)) => match s.entries[i]? with
    | some e => if Instr.sameBits 10000 e.key k then some ⟨setEntry s.entries i fun e => { e with key := k, val := x }, s.clock⟩ else none
    | none => none
  | some none => some ⟨s.entries ++ [{ key := k, val := x, born := s.clock }], s.clock + 1⟩
  | none => none

/-- the method of an interface value: its function and receiver -/
def smethod (P : Program) (t : TypeId) (v : Value) (name : String) : Option (FuncId × Value) :=
  match P.info? t with
  | some i => match i.methods.find? (·.name == name) with
    | some mt => if mt.path.isEmpty then match mt.func, P.underlying t with
        | some (f, true), some (.pointer _) => some (f, v)
        | some (_, false), some (.pointer _) => none
        | some (_, true), _ => none
        | some (f, false), some _ => some (f, v)
        | _, _ => none
      else none
    | none => none
  | none => none

def boolEq (op : BinOp) (b : Bool) : Option Value :=
  match op with
  | .eql => some (.bool b)
  | .neq => some (.bool (!b))
  | _ => none

def sopCall (P : Program) (H : CallH) (ρ : Operand → Value) (o : Oper) (c : Call) (m : Mem) : Option (Value × Mem) :=
  match c.callee with
  | .value f => match ρ f with
    | .func (.func fid) first captured => H fid (first.toList ++ c.args.toList.map ρ ++ captured.toList) m
    | _ => none
  | .invoke r name => match ρ r with
    | .iface t v => match smethod P t v name with
      | some (f, recv) => H f (recv :: c.args.toList.map ρ) m
      | none => none
    | _ => none
  | .builtin .delete =>
    match c.args.toList, c.argTypes.toList with
    | [x, y], tm :: _ => match P.underlying tm, ρ x with
      | some (.map kt _), .map (some l) => match m.maps.get l with
        | some s => match sfind P s.entries.isEmpty kt (ρ y) s.entries with
          | some (some (i, _)) => some (.tuple #[], m.setMap l ⟨s.entries.eraseIdx i, s.clock⟩)
          | some none => some (.tuple #[], m.setMap l s)
          | none => none
        | none => none
      | _, _ => none
    | _, _ => none
  | .builtin .append =>
    match c.args.toList, c.argTypes.toList with
    | [s, x], [ts, tx] =>
      if isIntT P tx then
        match P.underlying ts, natOf (ρ x) with
        | some (.slice e), some k => match zerosOf P e k with
          | some z => sappend P ts m (ρ s) z k
          | none => none
        | _, _ => none
      else match newsOf P m tx (ρ x) with
        | some (news, k) => sappend P ts m (ρ s) news k
        | none => none
    | _, _ => none
  | .builtin .len =>
    match c.args.toList, c.argTypes.toList with
    | [x], [t] => match P.underlying t, ρ x with
      | some (.slice _), .slice _ n _ => some (.int .i64 n, m)
      | some .string, .string s => some (.int .i64 s.size, m)
      | some (.map _ _), .map (some l) => match m.maps.get l with
        | some s => some (.int .i64 s.entries.length, m)
        | none => none
      | some (.map _ _), .map none => some (.int .i64 0, m)
      | _, _ => none
    | _, _ => none
  | .builtin .copy =>
    match c.args.toList, c.argTypes.toList with
    | [d, x], [ts, tx] => match P.underlying ts, P.underlying tx, ρ d, ρ x with
      | some (.slice e), some (.slice _), .slice (some da) dn _, .slice (some sa) sn _ => match sizeOfT P e with
        | some z =>
          if Nat.min sn dn == 0 then some (.int .i64 0, m) else
          match loadRow m sa (Nat.min sn dn * z) with
          | some cs => match storeRow m da cs with
            | some m' => some (.int .i64 (Nat.min sn dn), m')
            | none => none
          | none => none
        | none => none
      | _, _, _, _ => none
    | _, _ => none
  | _ => (closedOp P ρ o).map (·, m)

def sop (P : Program) (H : CallH) (ρ : Operand → Value) (o : Oper) (m : Mem) : Option (Value × Mem) :=
  match o.op with
  | .move x | .assign x => some (ρ x, m)
  | .pick c a b => match ρ c with
    | .bool t => some (if t then ρ a else ρ b, m)
    | _ => none
  | .nilCheck x => match ρ x with
    | .pointer (some a) => some (.pointer (some a), m)
    | .func (.func f) a b => some (.func (.func f) a b, m)
    | .iface t v => some (.iface t v, m)
    | _ => none
  | .alloc e => match P.info? e with
    | some i => match i.zero with
      | some z => if closedA z.cells then some (.pointer (some ⟨m.next, 0, none⟩), m.new z.cells.toList e) else none
      | none => none
    | none => none
  | .box e x => match P.info? e with
    | some _ => some (.pointer (some ⟨m.next, 0, none⟩), m.new (ρ x).cells.toList e)
    | none => none
  | .build t parts => match P.info? t with
    | some i => match i.zero with
      | some z => if closedA z.cells then match P.underlying t with
          | some (.struct fields) => match prun P (placesOf fields) with
            | some places => (Instr.fill (places[·]?) z.cells (parts.map fun (i, x) => (i, ρ x)).toList).map fun cs => (.agg cs, m)
            | none => none
          | some (.array _ e) => match sizeOfT P e with
            | some size => (Instr.fill (fun i => some (i * size, size)) z.cells (parts.map fun (i, x) => (i, ρ x)).toList).map fun cs => (.agg cs, m)
            | none => none
          | _ => none
        else none
      | none => none
    | none => none
  | .buildSlice t len parts => match P.underlying t with
    | some (.slice e) => match P.info? e with
      | some i => match i.zero with
        | some z =>
          if 0 < i.size && len * i.size ≤ 16777216 && closedA z.cells && z.cells.size == i.size then
            match Instr.fill (fun j => some (j * i.size, i.size)) (if len * i.size = 0 then #[] else (Array.range (len * i.size)).map (z.cells[· % z.cells.size]!)) (parts.map fun (i, x) => (i, ρ x)).toList with
            | some cells => some (.slice (some ⟨m.next, 0, none⟩) len len, m.new cells.toList e)
            | none => none
          else none
        | none => none
      | none => none
    | _ => none
  | .load t x => match ρ x with
    | .pointer (some a) => match P.underlying t with
      | none => none
      | some _ => if isAggT P t then match sizeOfT P t with
          | some z => (loadRow m a z).map fun cs => (.agg cs.toArray, m)
          | none => none
        else match loadRow m a 1 with
          | some [v] => some (v, m)
          | _ => none
    | _ => none
  | .store t x y => match ρ x with
    | .pointer (some a) => if sizeOfT P t == some (ρ y).cells.size then (storeRow m a (ρ y).cells.toList).map (undef, ·) else none
    | _ => none
  | .fieldAddr s x f => match fieldOf P s f, ρ x with
    | some fl, .pointer (some a) => match sizeOfT P fl.type with
      | some (_ + 1) => if a.spot.isNone then some (.pointer (some { a with off := a.off + fl.offset }), m) else none
      | _ => none
    | _, _ => none
  | .field s x f => match fieldOf P s f, ρ x with
    | some fl, .agg cs => (partOf P fl.type cs fl.offset).map (·, m)
    | _, _ => none
  | .indexAddr t x ix => match natOf (ρ ix) with
    | none => none
    | some i => match P.underlying t, ρ x with
      | some (.slice e), .slice (some a) n _ => match sizeOfT P e with
        | some z => if i < n && a.spot.isNone then some (.pointer (some { a with off := a.off + i * z }), m) else none
        | none => none
      | some (.array n e), .pointer (some a) => match sizeOfT P e with
        | some z => if i < n && a.spot.isNone then some (.pointer (some { a with off := a.off + i * z }), m) else none
        | none => none
      | _, _ => none
  | .index t x ix => match natOf (ρ ix) with
    | none => none
    | some i => match P.underlying t, ρ x with
      | some (.array n e), .agg cs => match sizeOfT P e with
        | some z => if i < n then (partOf P e cs (i * z)).map (·, m) else none
        | none => none
      | some .string, .string s => match s.data[i]? with
        | some b => some (.int .u8 b.toNat, m)
        | none => none
      | _, _ => none
  | .extract x i => match ρ x with
    | .tuple vs => vs[i]?.map (·, m)
    | _ => none
  | .makeSlice t l c => match P.underlying t with
    | some (.slice e) => match P.info? e, natOf (ρ l), natOf (ρ c) with
      | some i, some ln, some cp => match zerosOf P e ln with
        | some z => if 0 < i.size && ln ≤ cp && cp * i.bytes ≤ 281474976710656 then some (.slice (some ⟨m.next, 0, none⟩) ln ln, m.new z e) else none
        | none => none
      | _, _, _ => none
    | _ => none
  | .slice t x lo hi none => match P.underlying t, ρ x with
    | some (.slice e), .slice (some a) n _ =>
      match sizeOfT P e, (match lo with | none => some 0 | some l => natOf (ρ l)), (match hi with | none => some n | some h => natOf (ρ h)), m.blks.get a.block with
      | some z, some l, some h, some b => if l ≤ h && h ≤ n && b.elem == e && a.spot.isNone then some (.slice (some { a with off := a.off + l * z }) (h - l) (h - l), m) else none
      | _, _, _, _ => none
    | some _, _ => (closedOp P ρ o).map (·, m)
    | _, _ => none
  | .binOp op t x y _ => match P.underlying t, ρ x, ρ y with
    | some (.pointer _), .pointer (some _), .pointer none | some (.pointer _), .pointer none, .pointer (some _) => (boolEq op false).map (·, m)
    | some (.slice _), .slice (some _) _ _, .slice none 0 0 | some (.slice _), .slice none 0 0, .slice (some _) _ _ => (boolEq op false).map (·, m)
    | some (.interface _), .iface _ _, .nilIface | some (.interface _), .nilIface, .iface _ _ => (boolEq op false).map (·, m)
    | _, _, _ => (closedOp P ρ o).map (·, m)
  | .makeFunc (.func f) first captured => some (.func (.func f) (first.map ρ) (captured.map ρ), m)
  | .convert src dst x => match P.underlying src, P.underlying dst, ρ x with
    | some (.slice e), some .string, .slice (some a) n _ => (match P.underlying e with
        | some (.int .u8) => if n == 0 then some (.string ⟨#[]⟩, m) else
          match loadRow m a n with
          | some cs => (bytesOf cs).map fun s => (.string ⟨s.toArray⟩, m)
          | none => none
        | _ => none)
    | some .string, some (.slice e), .string s => (match P.underlying e, P.info? e with
        | some (.int .u8), some i => if s.size ≤ 9223372036854775807 && i.size == 1 then some (.slice (some ⟨m.next, 0, none⟩) s.size s.size, m.new (s.data.map fun b => Value.int .u8 b.toNat).toList e) else none
        | _, _ => none)
    | _, _, _ => (closedOp P ρ o).map (·, m)
  | .makeInterface t x => match P.underlying t with
    | some (.interface _) => none
    | some _ => some (.iface t (ρ x), m)
    | none => none
  | .typeAssert x _ asserted ok => match P.underlying asserted, ρ x with
    | some (.interface _), _ => none
    | some _, .iface t v => if t == asserted then some (if ok then .tuple #[v, .bool true] else v, m) else none
    | _, _ => none
  | .makeMap t r => match P.underlying t with
    | some (.map _ _) => match r with
      | none => some (.map (some m.next), m.newMap)
      | some x => match ρ x with
        | .int _ _ => some (.map (some m.next), m.newMap)
        | _ => none
    | _ => none
  | .lookup t x y ok => match P.underlying t, entriesOf m (ρ x) with
    | some (.map kt e), some es => match sfind P es.isEmpty kt (ρ y) es with
      | some (some (_, v)) => some (if ok then .tuple #[v, .bool true] else v, m)
      | some none => match P.info? e with
        | some i => match i.zero with
          | some z => if closedV z then some (if ok then .tuple #[z, .bool false] else z, m) else none
          | none => none
        | none => none
      | none => none
    | _, _ => none
  | .mapUpdate t x k y | .insert t x k y => match P.underlying t, ρ x with
    | some (.map kt _), .map (some l) => match m.maps.get l with
      | some s => match sput P kt (ρ k) (ρ y) s with
        | some s' => some (undef, m.setMap l s')
        | none => none
      | none => none
    | _, _ => none
  | .mapEntry t x k => match P.underlying t, ρ x with
    | some (.map kt e), .map (some l) => match m.maps.get l, P.info? e with
      | some s, some i => match i.zero with
        | some z => if closedV z then match sentry P kt (ρ k) s z with
            | some (s', v, b) => some (.tuple #[v, .int .i64 b], m.setMap l s')
            | none => none
          else none
        | none => none
      | _, _ => none
    | _, _ => none
  | .entryStore _ x b y => match ρ x, natOf (ρ b) with
    | .map (some l), some st => match m.maps.get l with
      | some s => match s.entries.findIdx? (fun e => e.born == st) with
        | some i => some (undef, m.setMap l ⟨setEntry s.entries i fun e => { e with val := ρ y }, s.clock⟩)
        | none => none
      | none => none
    | _, _ => none
  | .call c => sopCall P H ρ o c m
  | .select _ _ => none
  | _ => (closedOp P ρ o).map (·, m)
end Go.Sh

/- The abstract run of the model's code: regions, code, calls. -/
namespace Go.Sh

def syield (ops : List Oper) (t : Tree Value) (j : Nat) : Option Bool :=
  match (ops[j]?).bind (·.dst) with
  | some d => match t.get d with
    | some (.bool b) => some b
    | _ => none
  | none => none

def swanted (ops : List Oper) (t : Tree Value) (o : Oper) : Bool :=
  match o.guard with
  | none => true
  | some (j, want) => syield ops t j == some want

def put (t : Tree Value) (dst : Option Tmp) (v : Value) : Tree Value :=
  match dst with
  | some d => t.set d v
  | none => t

/-- one operation, wanted or not -/
def sop1 (P : Program) (H : CallH) (all : List Oper) (o : Oper) (t : Tree Value) (m : Mem) : Option (Value × Mem) :=
  if swanted all t o then sop P H (ev t) o m else some (undef, m)

def sops (P : Program) (H : CallH) (all : List Oper) : List Oper → Tree Value → Mem → Option (Tree Value × Mem)
  | [], t, m => some (t, m)
  | o :: rest, t, m => match sop1 P H all o t m with
    | some (v, m') => sops P H all rest (put t o.dst v) m'
    | none => none

/- regions that draw their order -/
def loudB (P : Program) (o : Oper) : Bool :=
  match o.op with
  | .move _ | .assign _ | .pick .. | .nilCheck _ | .load .. | .fieldAddr .. | .field .. | .indexAddr .. | .index .. | .extract .. | .slice .. | .binOp .. | .unOp .. | .makeFunc .. | .build .. | .makeInterface .. | .typeAssert .. | .lookup .. => false
  | .convert _ dst _ => match P.underlying dst with
    | some (.slice _) => true
    | _ => false
  | .call { callee := .builtin b, .. } => match b with
    | .len | .min | .max => false
    | _ => true
  | _ => true

/-- a silent operation that looks at the memory -/
def readsB (o : Oper) : Bool :=
  match o.op with
  | .load .. | .slice .. | .convert .. | .lookup .. => true
  | .call { callee := .builtin .len, .. } => true
  | _ => false

/-- for each operation the operations ahead of it, as bits -/
def ancs : List Oper → List Nat → List Nat
  | [], acc => acc
  | o :: rest, acc => ancs rest (acc ++ [o.after.toList.foldl (fun s e => if Region.binds .any e then s ||| 2 ^ e.on ||| acc.getD e.on 0 else s) 0])

/-- the states ahead of each operation, and behind the last -/
def states (P : Program) (H : CallH) (all : List Oper) : List Oper → Tree Value → Mem → Option (List (Tree Value × Mem))
  | [], t, m => some [(t, m)]
  | o :: rest, t, m => match sop1 P H all o t m with
    | some (v, m') => match states P H all rest (put t o.dst v) m' with
      | some l => some ((t, m) :: l)
      | none => none
    | none => none

/-- the places (numbers of operations, or one past the last) at which the memory may have turned -/
def louds (P : Program) (ops : List Oper) : List Nat := (List.range ops.length).filter fun i => (ops[i]?).any (loudB P)

/-- can operation j be carried out when just the loud operations ahead of place i have been? -/
def compat (A : List Nat) (L : List Nat) (j i : Nat) : Bool :=
  L.all fun k => (!(A.getD j 0).testBit k || k < i) && (!(A.getD k 0).testBit j || i ≤ k)

/-- for each silent operation that reads: the places at which it must read the same -/
def readPlaces (P : Program) (ops : List Oper) : List (Nat × List Nat) :=
  let A := ancs ops []
  let L := louds P ops
  (List.range ops.length).filterMap fun j => match ops[j]? with
    | some o => if readsB o && !loudB P o then some (j, (L ++ [ops.length]).filter fun i => compat A L j i) else none
    | none => none

mutual
def eqV : Value → Value → Bool
  | .bool a, .bool b => a == b
  | .int k a, .int j b => k == j && a == b
  | .string a, .string b => a.data == b.data
  | .pointer a, .pointer b => a == b
  | .slice a n c, .slice b m d => a == b && n == m && c == d
  | .map a, .map b => a == b
  | .nilFunc, .nilFunc | .nilIface, .nilIface => true
  | .func (.func f) a b, .func (.func g) c d => f == g && eqA a c && eqA b d
  | .iface t v, .iface u w => t == u && eqV v w
  | .agg a, .agg b => eqA a b
  | .tuple a, .tuple b => eqA a b
  | _, _ => false
def eqA : Array Value → Array Value → Bool
  | ⟨a⟩, ⟨b⟩ => eqL a b
def eqL : List Value → List Value → Bool
  | [], [] => true
  | a :: r, b :: s => eqV a b && eqL r s
  | _, _ => false
end

/-- what a silent operation that reads yields in another memory -/
def readsSame (P : Program) (H : CallH) (all : List Oper) (o : Oper) (t : Tree Value) (v : Value) (m : Mem) : Bool :=
  match sop1 P H all o t m with
  | some (v', _) => eqV v v'
  | none => false

def checkReads (P : Program) (H : CallH) (all : List Oper) (S : List (Tree Value × Mem)) : Bool :=
  (readPlaces P all).all fun (j, is) => match all[j]?, S[j]? with
    | some o, some (t, m) => match sop1 P H all o t m with
      | some (v, _) => is.all fun i => match S[i]? with
        | some (_, m') => readsSame P H all o t v m'
        | none => false
      | none => false
    | _, _ => false

def sregion (P : Program) (H : CallH) (ops : List Oper) (draw : Bool) (t : Tree Value) (m : Mem) : Option (Tree Value × Mem) :=
  if draw then
    match states P H ops ops t m with
    | some S => if checkReads P H ops S then S.getLast? else none
    | none => none
  else sops P H ops ops t m

def fill (t : Tree Value) : List Value → Nat → Tree Value
  | [], _ => t
  | v :: r, i => fill (t.set i v) r (i + 1)

def sresult (P : Program) (t : Tree Value) (m : Mem) : ResultVar → Option Value
  | .tmp i => some ((t.get i).getD undef)
  | .cell a ty => match (t.get a).getD undef with
    | .pointer (some ad) => match P.underlying ty with
      | none => none
      | some _ => if isAggT P ty then match sizeOfT P ty with
          | some z => (loadRow m ad z).map fun cs => .agg cs.toArray
          | none => none
        else match loadRow m ad 1 with
          | some [v] => some v
          | _ => none
    | _ => none

def sresultsL (P : Program) (t : Tree Value) (m : Mem) : List ResultVar → Option (List Value)
  | [] => some []
  | r :: rest => match sresult P t m r with
    | some v => (sresultsL P t m rest).map (v :: ·)
    | none => none

def sresults (P : Program) (rs : List ResultVar) (t : Tree Value) (m : Mem) : Option Value :=
  match sresultsL P t m rs with
  | some [v] => some v
  | some vs => some (.tuple vs.toArray)
  | none => none

abbrev Ex := Code → Tree Value → Mem → Option (SExit × Tree Value × Mem)

def callF (P : Program) (T : FuncId → Option Func) (ex : Ex) : CallH := fun f args m =>
  match T f with
  | none => none
  | some fn => match fn.body with
    | none => if args.all closedV && (Extern.findNext fn).isNone then
        match Extern.find fn with
        | some e => match prun P (e args.toArray) with
          | some v => if closedV v then some (v, m) else none
          | none => none
        | none => none
      else none
    | some c => if args.length ≤ fn.ntmps then match ex c (fill .leaf args 0) m with
      | some (.normal, t, m') | some (.ret, t, m') => match sresults P fn.results.toList t m' with
        | some v => some (v, m')
        | none => none
      | _ => none
      else none

def step (P : Program) (H : CallH) (ex : Ex) : Ex := fun c t m =>
  match c with
  | .skip | .label _ => some (.normal, t, m)
  | .ret => some (.ret, t, m)
  | .exit id => some (.exit id, t, m)
  | .seq a b => match ex a t m with
    | some (.normal, t', m') => ex b t' m'
    | r => r
  | .cond x a b => match ev t x with
    | .bool true => ex a t m
    | .bool false => ex b t m
    | _ => none
  | .block id b => match ex b t m with
    | some (.exit i, t', m') => some (if i = id then .normal else .exit i, t', m')
    | r => r
  | .loop b => match ex b t m with
    | some (.normal, t', m') => ex (.loop b) t' m'
    | r => r
  | .region _ ops draw => match sregion P H ops.toList draw t m with
    | some (t', m') => some (.normal, t', m')
    | none => none
  | _ => none

/-- n: how deep the run may go -/
def exec (P : Program) (T : FuncId → Option Func) : Nat → Ex
  | 0 => fun _ _ _ => none
  | n + 1 => step P (callF P T (exec P T n)) (exec P T n)

def call (P : Program) (T : FuncId → Option Func) (n : Nat) : CallH := callF P T (exec P T n)

/-- nothing but the variables' numbers -/
def mem0 (P : Program) : Mem := ⟨P.globals.size, .leaf, .leaf, .leaf⟩

def isTrue (r : Option (Value × Mem)) : Bool := match r with | some (.bool b, _) => b | _ => false
/-- an operand that the abstract run may look at -/
def opdOk (G n : Nat) : Operand → Bool
  | .tmp i => i < n
  | .const v => closedV v
  | .global g => decide (g < G)
  | .func _ => true

def operOk (G n : Nat) (o : Oper) : Bool := o.op.operands.all (opdOk G n) && (match o.dst with | some d => decide (d < n) | none => true)

/- the static part of what is asked of a region that draws its order -/
def namesOf (ops : List Oper) (o : Oper) : List Nat :=
  o.op.operands.toList.filterMap (fun | .tmp t => some t | _ => none) ++ (match o.guard with | some (g, _) => ((ops[g]?).bind (·.dst)).toList | none => [])

def pairOk (P : Program) (ops : List Oper) (A : List Nat) (i j : Nat) : Bool :=
  match ops[i]?, ops[j]? with
  | some x, some y =>
    let before := (A.getD j 0).testBit i
    (match x.dst with | some d => !((namesOf ops y).contains d) && y.dst != some d || before | none => true) &&
    (match y.dst with | some d => !((namesOf ops x).contains d) || before | none => true) &&
    (!(loudB P x && loudB P y) || before)
  | _, _ => false

def ordOk (P : Program) (ops : List Oper) : Bool :=
  let A := ancs ops []
  (List.range ops.length).all fun j => (List.range j).all fun i => pairOk P ops A i j

def drawOk (P : Program) (ops : List Oper) : Bool :=
  ordOk P ops && (ops.zipIdx.all fun (o, j) => o.after.all (fun e => !Region.binds .any e || e.on < j)) &&
  ops.all (fun o => match o.guard with | some (g, _) => decide (g < ops.length) | none => true)

def codeOk (P : Program) (n : Nat) : Code → Bool
  | .region _ ops draw => ops.toList.all (operOk P.globals.size n) && (!draw || drawOk P ops.toList)
  | .seq a b => codeOk P n a && codeOk P n b
  | .cond c a b => opdOk P.globals.size n c && codeOk P n a && codeOk P n b
  | .block _ b | .loop b => codeOk P n b
  | _ => true

def resOk (n : Nat) : ResultVar → Bool
  | .tmp i => decide (i < n)
  | .cell i _ => decide (i < n)

def funcOk (P : Program) (fn : Func) : Bool :=
  !(fn.name == "runtime.NumGoroutine") && (match fn.body with | some c => codeOk P fn.ntmps c | none => true) && fn.results.toList.all (resOk fn.ntmps)

end Go.Sh

/- What the abstract memory has to do with the model's world. -/
namespace Go.Sh
open Go.RowKit
set_option linter.unusedVariables false
set_option linter.unusedSimpArgs false

structure Inj where
  n : Nat
  blk : Nat → Nat
  base : Nat → Nat
  ext : Nat → Nat
  esz : Nat → Nat

structure Inj.le (J K : Inj) : Prop where
  n : J.n ≤ K.n
  blk : ∀ l, l < J.n → K.blk l = J.blk l
  base : ∀ l, l < J.n → K.base l = J.base l
  ext : ∀ l, l < J.n → K.ext l = J.ext l
  esz : ∀ l, l < J.n → K.esz l = J.esz l

theorem Inj.le.rfl (J : Inj) : J.le J := ⟨Nat.le_refl _, fun _ _ => Eq.refl _, fun _ _ => Eq.refl _, fun _ _ => Eq.refl _, fun _ _ => Eq.refl _⟩
theorem Inj.le.trans {J K L : Inj} (h : J.le K) (g : K.le L) : J.le L :=
  ⟨Nat.le_trans h.n g.n, fun l hl => (g.blk l (Nat.lt_of_lt_of_le hl h.n)).trans (h.blk l hl), fun l hl => (g.base l (Nat.lt_of_lt_of_le hl h.n)).trans (h.base l hl),
   fun l hl => (g.ext l (Nat.lt_of_lt_of_le hl h.n)).trans (h.ext l hl), fun l hl => (g.esz l (Nat.lt_of_lt_of_le hl h.n)).trans (h.esz l hl)⟩

def Inj.snoc (J : Inj) (b ba ex z : Nat) : Inj :=
  { n := J.n + 1, blk := fun l => if l = J.n then b else J.blk l, base := fun l => if l = J.n then ba else J.base l,
    ext := fun l => if l = J.n then ex else J.ext l, esz := fun l => if l = J.n then z else J.esz l }

theorem Inj.le_snoc (J : Inj) (b ba ex z : Nat) : J.le (J.snoc b ba ex z) := by
  refine ⟨by simp [snoc], ?_, ?_, ?_, ?_⟩ <;> intro l hl <;> simp only [snoc] <;> rw [if_neg (by omega)]

inductive VRel (J : Inj) : Value → Value → Prop
  | clo (v : Value) : closedV v = true → VRel J v v
  | ptr (l o : Nat) : l < J.n → VRel J (.pointer (some ⟨l, o, none⟩)) (.pointer (some ⟨J.blk l, J.base l + o, none⟩))
  | slice (l o n c : Nat) (a' : Addr) (c' : Nat) : l < J.n → n ≤ c' → c' ≤ 9223372036854775807 → o + c' * J.esz l = J.ext l →
      (c' = 0 ∨ a' = ⟨J.blk l, J.base l + o, none⟩) → VRel J (.slice (some ⟨l, o, none⟩) n c) (.slice (some a') n c')
  | agg (xs ys : Array Value) : xs.size = ys.size → (∀ (i : Nat) x y, xs[i]? = some x → ys[i]? = some y → VRel J x y) → VRel J (.agg xs) (.agg ys)
  | tuple (xs ys : Array Value) : xs.size = ys.size → (∀ (i : Nat) x y, xs[i]? = some x → ys[i]? = some y → VRel J x y) → VRel J (.tuple xs) (.tuple ys)
  | func (f : FuncId) (a b a' b' : Array Value) : a.size = a'.size → (∀ (i : Nat) x y, a[i]? = some x → a'[i]? = some y → VRel J x y) →
      b.size = b'.size → (∀ (i : Nat) x y, b[i]? = some x → b'[i]? = some y → VRel J x y) → VRel J (.func (.func f) a b) (.func (.func f) a' b')
  | iface (t : TypeId) (v v' : Value) : VRel J v v' → VRel J (.iface t v) (.iface t v')
  | map (l : Nat) : l < J.n → VRel J (.map (some l)) (.map (some (J.blk l)))

def LRel (J : Inj) (xs ys : List Value) : Prop := xs.length = ys.length ∧ ∀ (i : Nat) x y, xs[i]? = some x → ys[i]? = some y → VRel J x y

theorem VRel.mono {J K : Inj} (h : J.le K) {v v' : Value} (r : VRel J v v') : VRel K v v' := by
  induction r with
  | clo v hv => exact .clo v hv
  | ptr l o hl => rw [← h.blk l hl, ← h.base l hl]; exact .ptr l o (Nat.lt_of_lt_of_le hl h.n)
  | slice l o n c a' c' hl h1 h2 h3 h4 =>
    refine .slice l o n c a' c' (Nat.lt_of_lt_of_le hl h.n) h1 h2 ?_ ?_
    · rw [h.esz l hl, h.ext l hl]; exact h3
    · rw [h.blk l hl, h.base l hl]; exact h4
  | agg xs ys hs _ ih => exact .agg xs ys hs ih
  | tuple xs ys hs _ ih => exact .tuple xs ys hs ih
  | func f a b a' b' h1 _ h2 _ ih1 ih2 => exact .func f a b a' b' h1 ih1 h2 ih2
  | iface t v v' _ ih => exact .iface t v v' ih
  | map l hl => rw [← h.blk l hl]; exact .map l (Nat.lt_of_lt_of_le hl h.n)

theorem LRel.mono {J K : Inj} (h : J.le K) {xs ys : List Value} (r : LRel J xs ys) : LRel K xs ys := ⟨r.1, fun i x y hx hy => (r.2 i x y hx hy).mono h⟩

theorem closedL_iff (l : List Value) : closedL l = true ↔ ∀ v ∈ l, closedV v = true := by
  induction l with
  | nil => simp [closedL]
  | cons v r ih => simp [closedL, ih]

theorem closedA_iff (a : Array Value) : closedA a = true ↔ ∀ (i : Nat) x, a[i]? = some x → closedV x = true := by
  obtain ⟨l⟩ := a
  simp only [closedA, closedL_iff, List.getElem?_toArray]
  constructor
  · intro h i x hx; exact h x (List.mem_of_getElem? hx)
  · intro h v hv
    obtain ⟨i, hi⟩ := List.getElem?_of_mem hv
    exact h i v hi

theorem arr_eq {xs ys : Array Value} (hs : xs.size = ys.size) (h : ∀ (i : Nat) x y, xs[i]? = some x → ys[i]? = some y → y = x) : ys = xs := by
  apply Array.ext hs.symm
  intro i h1 h2
  exact h i _ _ (by simp [h2]) (by simp [h1])

theorem VRel.closed_eq {J : Inj} {v v' : Value} (r : VRel J v v') : closedV v = true → v' = v := by
  induction r with
  | clo v hv => intro _; rfl
  | ptr l o hl => intro h; simp [closedV] at h
  | slice l o n c a' c' hl h1 h2 h3 h4 => intro h; simp [closedV] at h
  | agg xs ys hs _ ih =>
    intro h; simp only [closedV, closedA_iff] at h
    rw [arr_eq hs fun i x y hx hy => ih i x y hx hy (h i x hx)]
  | tuple xs ys hs _ ih =>
    intro h; simp only [closedV, closedA_iff] at h
    rw [arr_eq hs fun i x y hx hy => ih i x y hx hy (h i x hx)]
  | func f a b a' b' h1 _ h2 _ ih1 ih2 =>
    intro h; simp only [closedV, Bool.and_eq_true, closedA_iff, Bool.true_and] at h
    rw [arr_eq h1 fun i x y hx hy => ih1 i x y hx hy (h.1 i x hx), arr_eq h2 fun i x y hx hy => ih2 i x y hx hy (h.2 i x hx)]
  | iface t v v' _ ih =>
    intro h; simp only [closedV] at h
    rw [ih h]
  | map l hl => intro h; simp [closedV] at h

/-- A relation at 'undef'. -/
theorem VRel.undef (J : Inj) : VRel J undef undef := .clo _ (by decide)

/-- the entries of a map -/
def EsRel (J : Inj) (es es' : List MapEntry) : Prop :=
  es.length = es'.length ∧ ∀ (i : Nat) e e', es[i]? = some e → es'[i]? = some e' → VRel J e.key e'.key ∧ e'.born = e.born ∧ VRel J e.val e'.val

theorem EsRel.mono {J K : Inj} (h : J.le K) {es es' : List MapEntry} (r : EsRel J es es') : EsRel K es es' :=
  ⟨r.1, fun i e e' h1 h2 => ⟨(r.2 i e e' h1 h2).1.mono h, (r.2 i e e' h1 h2).2.1, (r.2 i e e' h1 h2).2.2.mono h⟩⟩

structure MRel (P : Program) (J : Inj) (m : Mem) (B : Nat) (W w : World) : Prop where
  n : J.n = m.next
  dom : ∀ l b, m.blks.get l = some b → l < m.next
  esz : ∀ l b, m.blks.get l = some b → ∃ i, P.info? b.elem = some i ∧ i.size = J.esz l
  blk : ∀ l b, m.readable l = some b → J.blk l < w.heap.size
  rd : ∀ l b, m.readable l = some b → ∀ i v, b.cells[i]? = some v → ∃ v', w.cell? ⟨J.blk l, J.base l + i, none⟩ = some v' ∧ VRel J v v'
  wr : ∀ l b, m.writable l = some b → B ≤ J.blk l ∧ J.base l = 0 ∧ b.cells.length ≤ J.ext l ∧
    ∀ i, i < J.ext l → (w.cell? ⟨J.blk l, i, none⟩).isSome = true ∧ w.frozen? ⟨J.blk l, i, none⟩ = false
  sep : ∀ l b l' b', m.writable l = some b → m.readable l' = some b' → J.blk l' = J.blk l → b'.fam = b.fam ∧ l' ≤ l ∧ b'.cells.length ≤ b.cells.length ∧ J.base l' = 0
  below : Below B W w
  size : B ≤ w.heap.size
  glob : ∀ g, g < P.globals.size → g < J.n ∧ J.blk g = g ∧ J.base g = 0
  mp : ∀ l s, m.maps.get l = some s → l < m.next ∧ B ≤ J.blk l ∧ ∃ es', w.heap[J.blk l]? = some (.map es' s.clock) ∧ EsRel J s.entries es'.toList
  mi : ∀ l l' s s', m.maps.get l = some s → m.maps.get l' = some s' → J.blk l = J.blk l' → l = l'
  ms : ∀ l s l' b, m.maps.get l = some s → m.readable l' = some b → J.blk l' ≠ J.blk l


variable {P : Program} {J : Inj} {m : Mem} {B : Nat} {W w w' : World}

theorem Mem.readable_iff {m : Mem} {l : Nat} {b : Blk} : m.readable l = some b ↔ m.blks.get l = some b ∧ ∃ f, m.fams.get b.fam = some f ∧ f.kill ≤ l := by
  unfold Mem.readable
  constructor
  · intro h
    split at h
    · cases h
    · split at h
      · cases h
      · split at h
        · simp only [Option.some.injEq] at h; subst h; exact ⟨by assumption, _, by assumption, by assumption⟩
        · cases h
  · rintro ⟨h1, f, h2, h3⟩
    simp [h1, h2, h3]

theorem Mem.writable_iff {m : Mem} {l : Nat} {b : Blk} : m.writable l = some b ↔ m.blks.get l = some b ∧ ∃ f, m.fams.get b.fam = some f ∧ f.live = some l ∧ f.kill ≤ l := by
  unfold Mem.writable
  constructor
  · intro h
    split at h
    · cases h
    · split at h
      · cases h
      · split at h
        · rename_i hc
          simp only [Bool.and_eq_true, beq_iff_eq, decide_eq_true_eq] at hc
          simp only [Option.some.injEq] at h; subst h; exact ⟨by assumption, _, by assumption, hc.1, hc.2⟩
        · cases h
  · rintro ⟨h1, f, h2, h3, h4⟩
    simp [h1, h2, h3, h4]

theorem Mem.readable_of_writable {m : Mem} {l : Nat} {b : Blk} (h : m.writable l = some b) : m.readable l = some b := by
  obtain ⟨h1, f, h2, _, h4⟩ := Mem.writable_iff.1 h
  exact Mem.readable_iff.2 ⟨h1, f, h2, h4⟩

/-- two writable blocks of one family are one -/
theorem Mem.writable_fam {m : Mem} {l l' : Nat} {b b' : Blk} (h : m.writable l = some b) (h' : m.writable l' = some b') (e : b.fam = b'.fam) : l = l' := by
  obtain ⟨_, f, h2, h3, _⟩ := Mem.writable_iff.1 h
  obtain ⟨_, f', h2', h3', _⟩ := Mem.writable_iff.1 h'
  rw [e, h2'] at h2
  simp only [Option.some.injEq] at h2
  subst h2
  rw [h3] at h3'
  simpa using h3'

/-- THE WORLD MAY BE ANOTHER with the same heap. -/
theorem MRel.same (h : MRel P J m B W w) (hh : w'.heap = w.heap) (hb : Below B W w') : MRel P J m B W w' where
  n := h.n
  dom := h.dom
  esz := h.esz
  blk := fun l b hl => hh ▸ h.blk l b hl
  rd := fun l b hl i v hv => by
    have : ∀ x, w'.cell? x = w.cell? x := fun x => by unfold World.cell?; rw [hh]
    rw [this]; exact h.rd l b hl i v hv
  wr := fun l b hl => by
    have c : ∀ x, w'.cell? x = w.cell? x := fun x => by unfold World.cell?; rw [hh]
    have f : ∀ x, w'.frozen? x = w.frozen? x := fun x => by unfold World.frozen?; rw [hh]
    obtain ⟨h1, h2, h3, h4⟩ := h.wr l b hl
    exact ⟨h1, h2, h3, fun i hi => by rw [c, f]; exact h4 i hi⟩
  sep := h.sep
  below := hb
  size := hh ▸ h.size
  glob := h.glob
  mp := fun l s hl => by rw [hh]; exact h.mp l s hl
  mi := h.mi
  ms := h.ms

theorem MRel.drew (h : MRel P J m B W w) : MRel P J m B W w.drew := h.same rfl h.below.drew

/-- A block's cells turn. -/
theorem MRel.put (h : MRel P J m B W w) {l : Nat} {b : Blk} (hw : m.writable l = some b) {cells : List Value} (hlen : cells.length = b.cells.length)
    (hh : ∀ k, k ≠ J.blk l → w'.heap[k]? = w.heap[k]?) (hs : w'.heap.size = w.heap.size) (hb : Below B W w') (hf : ∀ x, w'.frozen? x = w.frozen? x) (ho : ∀ x : Addr, x.block ≠ J.blk l → w'.cell? x = w.cell? x)
    (hi : ∀ i, (w.cell? ⟨J.blk l, i, none⟩).isSome = true → (w'.cell? ⟨J.blk l, i, none⟩).isSome = true)
    (hn : ∀ i v, cells[i]? = some v → ∃ v', w'.cell? ⟨J.blk l, i, none⟩ = some v' ∧ VRel J v v') : MRel P J (m.put l b cells) B W w' := by
  obtain ⟨hg, f, hfam, hlive, hkill⟩ := Mem.writable_iff.1 hw
  have hrd := Mem.readable_of_writable hw
  obtain ⟨w1, w2, w3, w4⟩ := h.wr l b hw
  -- what is readable behind
  have rd' : ∀ l' b', (m.put l b cells).readable l' = some b' → (l' = l ∧ b' = { b with cells := cells }) ∨ (l' ≠ l ∧ m.readable l' = some b' ∧ J.blk l' ≠ J.blk l) := by
    intro l' b' hr
    obtain ⟨g1, f', g2, g3⟩ := Mem.readable_iff.1 hr
    simp only [Mem.put] at g1 g2
    by_cases e : l' = l
    · subst e
      rw [Tree.get_set_self] at g1
      simp only [Option.some.injEq] at g1
      exact Or.inl ⟨rfl, g1.symm⟩
    · refine Or.inr ⟨e, ?_⟩
      rw [Tree.get_set_ne _ _ e] at g1
      have hold : m.readable l' = some b' := by
        refine Mem.readable_iff.2 ⟨g1, ?_⟩
        by_cases ef : b'.fam = b.fam
        · rw [ef, Tree.get_set_self] at g2
          simp only [Option.some.injEq] at g2
          subst g2
          exact ⟨f, by rw [ef]; exact hfam, Nat.le_trans hkill g3⟩
        · rw [Tree.get_set_ne _ _ ef] at g2
          exact ⟨f', g2, g3⟩
      refine ⟨hold, fun eb => ?_⟩
      obtain ⟨s1, s2, _⟩ := h.sep l b l' b' hw hold eb
      rw [s1, Tree.get_set_self] at g2
      simp only [Option.some.injEq] at g2
      subst g2
      simp only at g3
      omega
  have wr' : ∀ l' b', (m.put l b cells).writable l' = some b' → (l' = l ∧ b' = { b with cells := cells }) ∨ (l' ≠ l ∧ m.writable l' = some b' ∧ b'.fam ≠ b.fam) := by
    intro l' b' hr
    obtain ⟨g1, f', g2, g3, g4⟩ := Mem.writable_iff.1 hr
    simp only [Mem.put] at g1 g2
    by_cases e : l' = l
    · subst e
      rw [Tree.get_set_self] at g1
      simp only [Option.some.injEq] at g1
      exact Or.inl ⟨rfl, g1.symm⟩
    · refine Or.inr ⟨e, ?_⟩
      rw [Tree.get_set_ne _ _ e] at g1
      by_cases ef : b'.fam = b.fam
      · rw [ef, Tree.get_set_self] at g2
        simp only [Option.some.injEq] at g2
        subst g2
        simp only [Option.some.injEq] at g3
        exact absurd g3.symm e
      · rw [Tree.get_set_ne _ _ ef] at g2
        exact ⟨Mem.writable_iff.2 ⟨g1, f', g2, g3, g4⟩, ef⟩
  constructor
  · exact h.n
  · intro l' b' hl
    simp only [Mem.put, Tree.get_set] at hl ⊢
    split at hl
    · rename_i e; subst e; exact h.dom _ _ hg
    · exact h.dom _ _ hl
  · intro l' b' hl
    simp only [Mem.put, Tree.get_set] at hl
    split at hl
    · rename_i e; subst e
      simp only [Option.some.injEq] at hl; subst hl
      exact h.esz _ b hg
    · exact h.esz _ _ hl
  · intro l' b' hl
    rw [hs]
    rcases rd' l' b' hl with ⟨rfl, _⟩ | ⟨_, g, _⟩
    · exact h.blk _ _ hrd
    · exact h.blk _ _ g
  · intro l' b' hl i v hv
    rcases rd' l' b' hl with ⟨rfl, rfl⟩ | ⟨_, g, gb⟩
    · rw [w2, Nat.zero_add]; exact hn i v hv
    · rw [ho _ gb]; exact h.rd _ _ g i v hv
  · intro l' b' hl
    rcases wr' l' b' hl with ⟨rfl, rfl⟩ | ⟨ne, g, gb⟩
    · exact ⟨w1, w2, by simpa [hlen] using w3, fun i hi' => ⟨hi i (w4 i hi').1, by rw [hf]; exact (w4 i hi').2⟩⟩
    · obtain ⟨v1, v2, v3, v4⟩ := h.wr _ _ g
      refine ⟨v1, v2, v3, fun i hi' => ?_⟩
      rw [ho _ (fun e => ?_), hf]
      · exact v4 i hi'
      · exact gb (h.sep _ _ _ _ hw (Mem.readable_of_writable g) e).1
  · intro l1 b1 l2 b2 h1 h2 e
    rcases wr' l1 b1 h1 with ⟨rfl, rfl⟩ | ⟨n1, g1, gb1⟩ <;> rcases rd' l2 b2 h2 with ⟨rfl, rfl⟩ | ⟨n2, g2, gb2⟩
    · exact ⟨rfl, Nat.le_refl _, Nat.le_refl _, w2⟩
    · exact absurd e gb2
    · have := h.sep _ _ _ _ g1 hrd e
      exact ⟨this.1, this.2.1, by simpa [hlen] using this.2.2.1, this.2.2.2⟩
    · exact h.sep _ _ _ _ g1 g2 e
  · exact hb
  · exact hs ▸ h.size
  · exact h.glob
  · intro l1 s1 h1
    obtain ⟨q1, q2, es', q3, q4⟩ := h.mp l1 s1 h1
    exact ⟨q1, q2, es', by rw [hh _ (fun e => h.ms l1 s1 l b h1 hrd e.symm)]; exact q3, q4⟩
  · exact h.mi
  · intro l1 s1 l2 b2 h1 h2
    rcases rd' l2 b2 h2 with ⟨rfl, _⟩ | ⟨_, g, _⟩
    · exact h.ms l1 s1 _ b h1 hrd
    · exact h.ms l1 s1 l2 b2 h1 g

theorem VRel.snoc {v v' : Value} (r : VRel J v v') (b ba ex z : Nat) : VRel (J.snoc b ba ex z) v v' := r.mono (J.le_snoc b ba ex z)

theorem Inj.snoc_blk_lt (J : Inj) {l : Nat} (hl : l < J.n) (b ba ex z : Nat) : (J.snoc b ba ex z).blk l = J.blk l := (J.le_snoc b ba ex z).blk l hl
theorem Inj.snoc_base_lt (J : Inj) {l : Nat} (hl : l < J.n) (b ba ex z : Nat) : (J.snoc b ba ex z).base l = J.base l := (J.le_snoc b ba ex z).base l hl
theorem Inj.snoc_ext_lt (J : Inj) {l : Nat} (hl : l < J.n) (b ba ex z : Nat) : (J.snoc b ba ex z).ext l = J.ext l := (J.le_snoc b ba ex z).ext l hl
theorem Inj.snoc_esz_lt (J : Inj) {l : Nat} (hl : l < J.n) (b ba ex z : Nat) : (J.snoc b ba ex z).esz l = J.esz l := (J.le_snoc b ba ex z).esz l hl

/-- A NEW BLOCK. -/
theorem MRel.new (h : MRel P J m B W w) (cells : List Value) (e : TypeId) (i : TypeInfo) (he : P.info? e = some i) (ex : Nat) (hex : cells.length ≤ ex)
    (hh : ∀ k, k < w.heap.size → w'.heap[k]? = w.heap[k]?) (hs : w'.heap.size = w.heap.size + 1) (hb : Below B W w') (ho : ∀ x : Addr, x.block < w.heap.size → w'.cell? x = w.cell? x ∧ w'.frozen? x = w.frozen? x)
    (hx : ∀ i, i < ex → (w'.cell? ⟨w.heap.size, i, none⟩).isSome = true ∧ w'.frozen? ⟨w.heap.size, i, none⟩ = false)
    (hn : ∀ i v, cells[i]? = some v → ∃ v', w'.cell? ⟨w.heap.size, i, none⟩ = some v' ∧ VRel J v v') :
    MRel P (J.snoc w.heap.size 0 ex i.size) (m.new cells e) B W w' := by
  have hJ := h.n
  have rd' : ∀ l' b', (m.new cells e).readable l' = some b' → (l' = m.next ∧ b' = ⟨cells, e, m.next⟩) ∨ (l' < m.next ∧ m.blks.get l' = some b' ∧ (b'.fam ≠ m.next → m.readable l' = some b')) := by
    intro l' b' hr
    obtain ⟨g1, f', g2, g3⟩ := Mem.readable_iff.1 hr
    simp only [Mem.new] at g1 g2
    by_cases e' : l' = m.next
    · subst e'
      rw [Tree.get_set_self] at g1
      simp only [Option.some.injEq] at g1
      exact Or.inl ⟨rfl, g1.symm⟩
    · refine Or.inr ?_
      rw [Tree.get_set_ne _ _ e'] at g1
      refine ⟨h.dom _ _ g1, g1, fun ne => ?_⟩
      rw [Tree.get_set_ne _ _ ne] at g2
      exact Mem.readable_iff.2 ⟨g1, f', g2, g3⟩
  have rd2 : ∀ l' b', (m.new cells e).readable l' = some b' → (l' = m.next ∧ b' = ⟨cells, e, m.next⟩) ∨ (l' < m.next ∧ m.readable l' = some b') := by
    intro l' b' hr
    rcases rd' l' b' hr with g | ⟨g1, g2, g3⟩
    · exact Or.inl g
    · refine Or.inr ⟨g1, ?_⟩
      by_cases ef : b'.fam = m.next
      · -- the family's kill is the new number: such a block can't be read
        obtain ⟨_, f', k2, k3⟩ := Mem.readable_iff.1 hr
        simp only [Mem.new] at k2
        rw [ef, Tree.get_set_self] at k2
        simp only [Option.some.injEq] at k2
        subst k2
        simp only at k3
        omega
      · exact g3 ef
  have wr2 : ∀ l' b', (m.new cells e).writable l' = some b' → (l' = m.next ∧ b' = ⟨cells, e, m.next⟩) ∨ (l' < m.next ∧ m.writable l' = some b') := by
    intro l' b' hr
    obtain ⟨g1, f', g2, g3, g4⟩ := Mem.writable_iff.1 hr
    rcases rd2 l' b' (Mem.readable_of_writable hr) with g | ⟨k1, k2⟩
    · exact Or.inl g
    · refine Or.inr ⟨k1, ?_⟩
      obtain ⟨q1, q, q2, q3⟩ := Mem.readable_iff.1 k2
      simp only [Mem.new] at g2
      by_cases ef : b'.fam = m.next
      · rw [ef, Tree.get_set_self] at g2
        simp only [Option.some.injEq] at g2
        subst g2
        simp only [Option.some.injEq] at g3
        omega
      · rw [Tree.get_set_ne _ _ ef] at g2
        exact Mem.writable_iff.2 ⟨q1, f', g2, g3, g4⟩
  have hblk : ∀ l', l' < m.next → (J.snoc w.heap.size 0 ex i.size).blk l' = J.blk l' := fun l' hl => J.snoc_blk_lt (hJ ▸ hl) _ _ _ _
  have hself : (J.snoc w.heap.size 0 ex i.size).blk m.next = w.heap.size := by simp [Inj.snoc, hJ]
  have hbase : (J.snoc w.heap.size 0 ex i.size).base m.next = 0 := by simp [Inj.snoc, hJ]
  have hext : (J.snoc w.heap.size 0 ex i.size).ext m.next = ex := by simp [Inj.snoc, hJ]
  constructor
  · simp [Inj.snoc, Mem.new, hJ]
  · intro l' b' hl
    simp only [Mem.new, Tree.get_set] at hl ⊢
    split at hl
    · omega
    · have := h.dom _ _ hl; omega
  · intro l' b' hl
    simp only [Mem.new, Tree.get_set] at hl
    split at hl
    · rename_i e'; subst e'
      simp only [Option.some.injEq] at hl; subst hl
      exact ⟨i, he, by simp [Inj.snoc, hJ]⟩
    · rw [J.snoc_esz_lt (hJ ▸ h.dom _ _ hl)]; exact h.esz _ _ hl
  · intro l' b' hl
    rw [hs]
    rcases rd2 l' b' hl with ⟨rfl, _⟩ | ⟨g1, g⟩
    · rw [hself]; omega
    · rw [hblk _ g1]; have := h.blk _ _ g; omega
  · intro l' b' hl j v hv
    rcases rd2 l' b' hl with ⟨rfl, rfl⟩ | ⟨g1, g⟩
    · obtain ⟨v', k1, k2⟩ := hn j v hv
      exact ⟨v', by rw [hself, hbase, Nat.zero_add]; exact k1, k2.snoc _ _ _ _⟩
    · obtain ⟨v', k1, k2⟩ := h.rd _ _ g j v hv
      refine ⟨v', ?_, k2.snoc _ _ _ _⟩
      rw [hblk _ g1, J.snoc_base_lt (hJ ▸ g1), (ho _ (h.blk _ _ g)).1]
      exact k1
  · intro l' b' hl
    rcases wr2 l' b' hl with ⟨rfl, rfl⟩ | ⟨g1, g⟩
    · refine ⟨by rw [hself]; exact h.size, hbase, by rw [hext]; exact hex, fun j hj => ?_⟩
      rw [hext] at hj
      rw [hself]
      exact hx j hj
    · obtain ⟨v1, v2, v3, v4⟩ := h.wr _ _ g
      rw [hblk _ g1, J.snoc_base_lt (hJ ▸ g1), J.snoc_ext_lt (hJ ▸ g1)]
      refine ⟨v1, v2, v3, fun j hj => ?_⟩
      have hlt := h.blk _ _ (Mem.readable_of_writable g)
      rw [(ho ⟨J.blk l', j, none⟩ hlt).1, (ho ⟨J.blk l', j, none⟩ hlt).2]
      exact v4 j hj
  · intro l1 b1 l2 b2 h1 h2 e'
    rcases wr2 l1 b1 h1 with ⟨rfl, rfl⟩ | ⟨n1, g1⟩ <;> rcases rd2 l2 b2 h2 with ⟨rfl, rfl⟩ | ⟨n2, g2⟩
    · exact ⟨rfl, Nat.le_refl _, Nat.le_refl _, hbase⟩
    · rw [hself, hblk _ n2] at e'
      have := h.blk _ _ g2; omega
    · rw [hself, hblk _ n1] at e'
      have := h.blk _ _ (Mem.readable_of_writable g1); omega
    · rw [hblk _ n1, hblk _ n2] at e'
      rw [J.snoc_base_lt (hJ ▸ n2)]
      exact h.sep _ _ _ _ g1 g2 e'
  · exact hb
  · have := h.size; omega
  · intro g hg
    obtain ⟨g1, g2, g3⟩ := h.glob g hg
    exact ⟨Nat.lt_of_lt_of_le g1 (J.le_snoc _ _ _ _).n, by rw [J.snoc_blk_lt g1]; exact g2, by rw [J.snoc_base_lt g1]; exact g3⟩
  · intro l1 s1 h1
    obtain ⟨q1, q2, es', q3, q4⟩ := h.mp l1 s1 h1
    have hlt : J.blk l1 < w.heap.size := (Array.getElem?_eq_some_iff.1 q3).1
    refine ⟨by simp only [Mem.new]; omega, by rw [hblk _ q1]; exact q2, es', by rw [hblk _ q1, hh _ hlt]; exact q3, q4.mono (J.le_snoc _ _ _ _)⟩
  · intro l1 l2 s1 s2 h1 h2 e'
    have q1 := (h.mp l1 s1 h1).1
    have q2 := (h.mp l2 s2 h2).1
    rw [hblk _ q1, hblk _ q2] at e'
    exact h.mi l1 l2 s1 s2 h1 h2 e'
  · intro l1 s1 l2 b2 h1 h2
    obtain ⟨q1, q2, es', q3, q4⟩ := h.mp l1 s1 h1
    have hlt : J.blk l1 < w.heap.size := (Array.getElem?_eq_some_iff.1 q3).1
    rw [hblk _ q1]
    rcases rd2 l2 b2 h2 with ⟨rfl, _⟩ | ⟨g1, g⟩
    · rw [hself]; omega
    · rw [hblk _ g1]; exact h.ms l1 s1 l2 b2 h1 g

/-- A BLOCK GROWS: a new number in its family; its cells lie where the old ones lay (there was room), or in a new row. -/
theorem MRel.extend (h : MRel P J m B W w) {l : Nat} {b : Blk} (hw : m.writable l = some b) (k : Nat) (hk : k ≤ b.cells.length) (news : List Value) (nb ex : Nat)
    (hgrow : b.cells.length ≤ k + news.length) (hB : B ≤ nb) (hnb : nb < w'.heap.size) (hs : w.heap.size ≤ w'.heap.size) (hb : Below B W w')
    (hex : k + news.length ≤ ex)
    (ho : ∀ x : Addr, x.block < w.heap.size → (x.block = J.blk l → x.off < k) → w'.cell? x = w.cell? x)
    (hsm : ∀ x : Addr, x.block < w.heap.size → (w.cell? x).isSome = true → (w'.cell? x).isSome = true)
    (hof : ∀ x : Addr, x.block < w.heap.size → w'.frozen? x = w.frozen? x)
    (hh : ∀ k, k < w.heap.size → k ≠ J.blk l → w'.heap[k]? = w.heap[k]?) (hplace : nb = J.blk l ∨ nb = w.heap.size)
    (hother : nb = w.heap.size → ∀ x : Addr, x.block < w.heap.size → w'.cell? x = w.cell? x)
    (hx : ∀ i, i < ex → (w'.cell? ⟨nb, i, none⟩).isSome = true ∧ w'.frozen? ⟨nb, i, none⟩ = false)
    (hn : ∀ i v, (b.cells.take k ++ news)[i]? = some v → ∃ v', w'.cell? ⟨nb, i, none⟩ = some v' ∧ VRel J v v') :
    MRel P (J.snoc nb 0 ex (J.esz l)) (m.grow b (b.cells.take k ++ news) (k == b.cells.length)) B W w' := by
  have hJ := h.n
  obtain ⟨hg, f, hfam, hlive, hkill⟩ := Mem.writable_iff.1 hw
  have hrd := Mem.readable_of_writable hw
  have hl := h.dom _ _ hg
  obtain ⟨w1, w2, w3, w4⟩ := h.wr l b hw
  have hblks : (m.grow b (b.cells.take k ++ news) (k == b.cells.length)).blks = m.blks.set m.next ⟨b.cells.take k ++ news, b.elem, b.fam⟩ := rfl
  have hfams : (m.grow b (b.cells.take k ++ news) (k == b.cells.length)).fams = m.fams.set b.fam ⟨some m.next, if k == b.cells.length then f.kill else m.next⟩ := by simp [Mem.grow, hfam]
  have hnext : (m.grow b (b.cells.take k ++ news) (k == b.cells.length)).next = m.next + 1 := rfl
  have hmaps : (m.grow b (b.cells.take k ++ news) (k == b.cells.length)).maps = m.maps := rfl
  generalize m.grow b (b.cells.take k ++ news) (k == b.cells.length) = m' at hblks hfams hnext hmaps ⊢
  have rd2 : ∀ l' b', m'.readable l' = some b' → (l' = m.next ∧ b' = ⟨b.cells.take k ++ news, b.elem, b.fam⟩) ∨ (l' < m.next ∧ m.readable l' = some b' ∧ (b'.fam = b.fam → k = b.cells.length)) := by
    intro l' b' hr
    obtain ⟨g1, f', g2, g3⟩ := Mem.readable_iff.1 hr
    rw [hblks] at g1
    rw [hfams] at g2
    by_cases e' : l' = m.next
    · subst e'
      rw [Tree.get_set_self] at g1
      simp only [Option.some.injEq] at g1
      exact Or.inl ⟨rfl, g1.symm⟩
    · rw [Tree.get_set_ne _ _ e'] at g1
      have hd := h.dom _ _ g1
      refine Or.inr ⟨hd, ?_⟩
      by_cases ef : b'.fam = b.fam
      · rw [ef, Tree.get_set_self] at g2
        simp only [Option.some.injEq] at g2
        subst g2
        by_cases ek : k = b.cells.length
        · simp only [ek, beq_self_eq_true, if_true] at g3
          exact ⟨Mem.readable_iff.2 ⟨g1, f, by rw [ef]; exact hfam, g3⟩, fun _ => ek⟩
        · have : (k == b.cells.length) = false := by simpa using ek
          simp only [this] at g3
          simp at g3
          omega
      · rw [Tree.get_set_ne _ _ ef] at g2
        exact ⟨Mem.readable_iff.2 ⟨g1, f', g2, g3⟩, fun q => absurd q ef⟩
  have wr2 : ∀ l' b', m'.writable l' = some b' → (l' = m.next ∧ b' = ⟨b.cells.take k ++ news, b.elem, b.fam⟩) ∨ (l' < m.next ∧ m.writable l' = some b' ∧ b'.fam ≠ b.fam) := by
    intro l' b' hr
    obtain ⟨g1, f', g2, g3, g4⟩ := Mem.writable_iff.1 hr
    rcases rd2 l' b' (Mem.readable_of_writable hr) with g | ⟨k1, k2, _⟩
    · exact Or.inl g
    · refine Or.inr ⟨k1, ?_⟩
      obtain ⟨q1, q, q2, q3⟩ := Mem.readable_iff.1 k2
      rw [hfams] at g2
      by_cases ef : b'.fam = b.fam
      · rw [ef, Tree.get_set_self] at g2
        simp only [Option.some.injEq] at g2
        subst g2
        simp only [Option.some.injEq] at g3
        omega
      · rw [Tree.get_set_ne _ _ ef] at g2
        exact ⟨Mem.writable_iff.2 ⟨q1, f', g2, g3, g4⟩, ef⟩
  have hblk : ∀ l', l' < m.next → (J.snoc nb 0 ex (J.esz l)).blk l' = J.blk l' := fun l' hl => J.snoc_blk_lt (hJ ▸ hl) _ _ _ _
  have hself : (J.snoc nb 0 ex (J.esz l)).blk m.next = nb := by simp [Inj.snoc, hJ]
  have hbase : (J.snoc nb 0 ex (J.esz l)).base m.next = 0 := by simp [Inj.snoc, hJ]
  have hext : (J.snoc nb 0 ex (J.esz l)).ext m.next = ex := by simp [Inj.snoc, hJ]
  have hlenN : (b.cells.take k ++ news).length = k + news.length := by simp; omega
  constructor
  · simp [Inj.snoc, hnext, hJ]
  · intro l' b' hl
    rw [hblks] at hl
    simp only [Tree.get_set] at hl
    rw [hnext]
    split at hl
    · omega
    · have := h.dom _ _ hl; omega
  · intro l' b' hl'
    rw [hblks] at hl'
    simp only [Tree.get_set] at hl'
    split at hl'
    · rename_i e'; subst e'
      simp only [Option.some.injEq] at hl'; subst hl'
      obtain ⟨i, q1, q2⟩ := h.esz _ _ hg
      exact ⟨i, q1, by simp [Inj.snoc, hJ, q2]⟩
    · rw [J.snoc_esz_lt (hJ ▸ h.dom _ _ hl')]; exact h.esz _ _ hl'
  · intro l' b' hl'
    rcases rd2 l' b' hl' with ⟨rfl, _⟩ | ⟨g1, g, _⟩
    · rw [hself]; exact hnb
    · rw [hblk _ g1]; have := h.blk _ _ g; omega
  · intro l' b' hl' j v hv
    rcases rd2 l' b' hl' with ⟨rfl, rfl⟩ | ⟨g1, g, gk⟩
    · obtain ⟨v', k1, k2⟩ := hn j v hv
      exact ⟨v', by rw [hself, hbase, Nat.zero_add]; exact k1, k2.snoc _ _ _ _⟩
    · obtain ⟨v', k1, k2⟩ := h.rd _ _ g j v hv
      refine ⟨v', ?_, k2.snoc _ _ _ _⟩
      rw [hblk _ g1, J.snoc_base_lt (hJ ▸ g1), ho _ (h.blk _ _ g)]
      · exact k1
      · intro eb
        simp only at eb ⊢
        obtain ⟨s1, s2, s3, s4⟩ := h.sep _ _ _ _ hw g eb
        have := gk s1
        have hj : j < b'.cells.length := (List.getElem?_eq_some_iff.1 hv).1
        rw [s4]
        omega
  · intro l' b' hl'
    rcases wr2 l' b' hl' with ⟨rfl, rfl⟩ | ⟨g1, g, gf⟩
    · refine ⟨by rw [hself]; exact hB, hbase, by rw [hext]; simp only [hlenN]; exact hex, fun j hj => ?_⟩
      rw [hext] at hj
      rw [hself]
      exact hx j hj
    · obtain ⟨v1, v2, v3, v4⟩ := h.wr _ _ g
      rw [hblk _ g1, J.snoc_base_lt (hJ ▸ g1), J.snoc_ext_lt (hJ ▸ g1)]
      refine ⟨v1, v2, v3, fun j hj => ?_⟩
      have hlt := h.blk _ _ (Mem.readable_of_writable g)
      rw [hof ⟨J.blk l', j, none⟩ hlt]
      exact ⟨hsm _ hlt (v4 j hj).1, (v4 j hj).2⟩
  · intro l1 b1 l2 b2 h1 h2 e'
    rcases wr2 l1 b1 h1 with ⟨rfl, rfl⟩ | ⟨n1, g1, gf1⟩ <;> rcases rd2 l2 b2 h2 with ⟨rfl, rfl⟩ | ⟨n2, g2, gk2⟩
    · exact ⟨rfl, Nat.le_refl _, Nat.le_refl _, hbase⟩
    · rw [hself, hblk _ n2] at e'
      rcases hplace with p | p
      · obtain ⟨s1, s2, s3, s4⟩ := h.sep _ _ _ _ hw g2 (e'.trans p)
        exact ⟨s1, by omega, by simp only [hlenN]; omega, by rw [J.snoc_base_lt (hJ ▸ n2)]; exact s4⟩
      · have := h.blk _ _ g2; omega
    · rw [hself, hblk _ n1] at e'
      rcases hplace with p | p
      · have := h.sep _ _ _ _ g1 hrd (p.symm.trans e')
        exact absurd this.1.symm gf1
      · have := h.blk _ _ (Mem.readable_of_writable g1); omega
    · rw [hblk _ n1, hblk _ n2] at e'
      rw [J.snoc_base_lt (hJ ▸ n2)]
      exact h.sep _ _ _ _ g1 g2 e'
  · exact hb
  · have := h.size; omega
  · intro g hg
    obtain ⟨g1, g2, g3⟩ := h.glob g hg
    exact ⟨Nat.lt_of_lt_of_le g1 (J.le_snoc _ _ _ _).n, by rw [J.snoc_blk_lt g1]; exact g2, by rw [J.snoc_base_lt g1]; exact g3⟩
  · intro l1 s1 h1
    rw [hmaps] at h1
    obtain ⟨q1, q2, es', q3, q4⟩ := h.mp l1 s1 h1
    have hlt : J.blk l1 < w.heap.size := (Array.getElem?_eq_some_iff.1 q3).1
    refine ⟨by omega, by rw [hblk _ q1]; exact q2, es', by rw [hblk _ q1, hh _ hlt (fun e => h.ms l1 s1 l b h1 hrd e.symm)]; exact q3, q4.mono (J.le_snoc _ _ _ _)⟩
  · intro l1 l2 s1 s2 h1 h2 e'
    rw [hmaps] at h1 h2
    have q1 := (h.mp l1 s1 h1).1
    have q2 := (h.mp l2 s2 h2).1
    rw [hblk _ q1, hblk _ q2] at e'
    exact h.mi l1 l2 s1 s2 h1 h2 e'
  · intro l1 s1 l2 b2 h1 h2
    rw [hmaps] at h1
    obtain ⟨q1, q2, es', q3, q4⟩ := h.mp l1 s1 h1
    have hlt : J.blk l1 < w.heap.size := (Array.getElem?_eq_some_iff.1 q3).1
    rw [hblk _ q1]
    rcases rd2 l2 b2 h2 with ⟨rfl, _⟩ | ⟨g1, g, _⟩
    · rw [hself]
      rcases hplace with p | p
      · rw [p]; exact h.ms l1 s1 l b h1 hrd
      · omega
    · rw [hblk _ g1]; exact h.ms l1 s1 l2 b2 h1 g

/-- A MAP's BLOCK TURNS. -/
theorem MRel.setMap (h : MRel P J m B W w) {l : Nat} {s0 s : SMap} (hl : m.maps.get l = some s0) {es' : Array MapEntry} (hes : EsRel J s.entries es'.toList) :
    MRel P J (m.setMap l s) B W { w with heap := w.heap.setIfInBounds (J.blk l) (.map es' s.clock) } := by
  obtain ⟨q1, q2, es0, q3, q4⟩ := h.mp l s0 hl
  have hlt : J.blk l < w.heap.size := (Array.getElem?_eq_some_iff.1 q3).1
  have hh : ∀ k, k ≠ J.blk l → (w.heap.setIfInBounds (J.blk l) (.map es' s.clock))[k]? = w.heap[k]? := fun k hk => Array.getElem?_setIfInBounds_ne (fun e => hk e.symm)
  have hc : ∀ x : Addr, x.block ≠ J.blk l → ({ w with heap := w.heap.setIfInBounds (J.blk l) (.map es' s.clock) } : World).cell? x = w.cell? x := fun x hx => World.cell?_of_block (hh _ hx)
  have hf : ∀ x : Addr, x.block ≠ J.blk l → ({ w with heap := w.heap.setIfInBounds (J.blk l) (.map es' s.clock) } : World).frozen? x = w.frozen? x := fun x hx => World.frozen?_of_block (hh _ hx)
  have hrd : ∀ l' b', (m.setMap l s).readable l' = some b' → m.readable l' = some b' := fun l' b' h => h
  have hwr : ∀ l' b', (m.setMap l s).writable l' = some b' → m.writable l' = some b' := fun l' b' h => h
  constructor
  · exact h.n
  · exact h.dom
  · exact h.esz
  · intro l' b' hl'; simp only [Array.size_setIfInBounds]; exact h.blk l' b' hl'
  · intro l' b' hl' i v hv
    rw [hc _ (h.ms l s0 l' b' hl hl')]
    exact h.rd l' b' hl' i v hv
  · intro l' b' hl'
    obtain ⟨v1, v2, v3, v4⟩ := h.wr l' b' hl'
    have hne := h.ms l s0 l' b' hl (Mem.readable_of_writable hl')
    exact ⟨v1, v2, v3, fun i hi => by rw [hc ⟨J.blk l', i, none⟩ hne, hf ⟨J.blk l', i, none⟩ hne]; exact v4 i hi⟩
  · exact h.sep
  · exact ⟨h.below.os, h.below.tape, h.below.output, by simp only [Array.size_setIfInBounds]; exact h.below.size, fun k hk => by rw [hh k (by omega)]; exact h.below.block k hk⟩
  · simp only [Array.size_setIfInBounds]; exact h.size
  · exact h.glob
  · intro l1 s1 h1
    simp only [Mem.setMap, Tree.get_set] at h1
    split at h1
    · rename_i e
      subst e
      simp only [Option.some.injEq] at h1
      subst h1
      exact ⟨q1, q2, es', by simp [hlt], hes⟩
    · rename_i e
      obtain ⟨r1, r2, es1, r3, r4⟩ := h.mp l1 s1 h1
      exact ⟨r1, r2, es1, by rw [hh _ (fun eb => e (h.mi l1 l s1 s0 h1 hl eb))]; exact r3, r4⟩
  · intro l1 l2 s1 s2 h1 h2 e
    have k1 : ∃ x, m.maps.get l1 = some x := by
      simp only [Mem.setMap, Tree.get_set] at h1
      split at h1
      · rename_i e1; subst e1; exact ⟨_, hl⟩
      · exact ⟨_, h1⟩
    have k2 : ∃ x, m.maps.get l2 = some x := by
      simp only [Mem.setMap, Tree.get_set] at h2
      split at h2
      · rename_i e1; subst e1; exact ⟨_, hl⟩
      · exact ⟨_, h2⟩
    exact h.mi l1 l2 _ _ k1.choose_spec k2.choose_spec e
  · intro l1 s1 l2 b2 h1 h2
    have k1 : ∃ x, m.maps.get l1 = some x := by
      simp only [Mem.setMap, Tree.get_set] at h1
      split at h1
      · rename_i e1; subst e1; exact ⟨_, hl⟩
      · exact ⟨_, h1⟩
    exact h.ms l1 _ l2 b2 k1.choose_spec h2

/-- A NEW MAP. -/
theorem MRel.newMap (h : MRel P J m B W w) : MRel P (J.snoc w.heap.size 0 0 0) m.newMap B W (w.alloc (.map #[] 0)) := by
  have hJ := h.n
  have hh : ∀ k, k < w.heap.size → (w.alloc (.map #[] 0)).heap[k]? = w.heap[k]? := fun k hk => Below.heap_alloc _ _ _ hk
  have hsz : (w.alloc (.map #[] 0)).heap.size = w.heap.size + 1 := by show (w.heap.push _).size = _; simp
  have hself : (J.snoc w.heap.size 0 0 0).blk m.next = w.heap.size := by simp [Inj.snoc, hJ]
  have hblk : ∀ l', l' < m.next → (J.snoc w.heap.size 0 0 0).blk l' = J.blk l' := fun l' hl => J.snoc_blk_lt (hJ ▸ hl) _ _ _ _
  have hrl : ∀ l' b', m.readable l' = some b' → l' < m.next := fun l' b' hr => h.dom l' b' (Mem.readable_iff.1 hr).1
  constructor
  · simp [Inj.snoc, Mem.newMap, hJ]
  · intro l' b' hl
    have := h.dom l' b' hl
    simp only [Mem.newMap]; omega
  · intro l' b' hl
    rw [J.snoc_esz_lt (hJ ▸ h.dom _ _ hl)]; exact h.esz _ _ hl
  · intro l' b' hl
    rw [hsz, hblk _ (hrl l' b' hl)]
    have := h.blk l' b' hl; omega
  · intro l' b' hl i v hv
    obtain ⟨v', k1, k2⟩ := h.rd l' b' hl i v hv
    refine ⟨v', ?_, k2.snoc _ _ _ _⟩
    rw [hblk _ (hrl l' b' hl), J.snoc_base_lt (hJ ▸ hrl l' b' hl), World.cell?_of_block (w := w) (hh _ (h.blk l' b' hl))]
    exact k1
  · intro l' b' hl
    have hr := Mem.readable_of_writable hl
    have hr' : m.readable l' = some b' := hr
    obtain ⟨v1, v2, v3, v4⟩ := h.wr l' b' hl
    rw [hblk _ (hrl l' b' hr'), J.snoc_base_lt (hJ ▸ hrl l' b' hr'), J.snoc_ext_lt (hJ ▸ hrl l' b' hr')]
    exact ⟨v1, v2, v3, fun i hi => by rw [World.cell?_of_block (w := w) (hh _ (h.blk l' b' hr')), World.frozen?_of_block (w := w) (hh _ (h.blk l' b' hr'))]; exact v4 i hi⟩
  · intro l1 b1 l2 b2 h1 h2 e
    have k1 := hrl l1 b1 (Mem.readable_of_writable h1)
    have k2 := hrl l2 b2 h2
    rw [hblk _ k1, hblk _ k2] at e
    rw [J.snoc_base_lt (hJ ▸ k2)]
    exact h.sep l1 b1 l2 b2 h1 h2 e
  · exact h.below.alloc h.size _
  · rw [hsz]; have := h.size; omega
  · intro g hg
    obtain ⟨g1, g2, g3⟩ := h.glob g hg
    exact ⟨Nat.lt_of_lt_of_le g1 (J.le_snoc _ _ _ _).n, by rw [J.snoc_blk_lt g1]; exact g2, by rw [J.snoc_base_lt g1]; exact g3⟩
  · intro l1 s1 h1
    simp only [Mem.newMap, Tree.get_set] at h1
    split at h1
    · rename_i e
      subst e
      simp only [Option.some.injEq] at h1
      subst h1
      refine ⟨by simp [Mem.newMap], by rw [hself]; exact h.size, #[], by rw [hself]; exact heap_alloc_new w _, rfl, fun i e e' h => by simp at h⟩
    · obtain ⟨q1, q2, es', q3, q4⟩ := h.mp l1 s1 h1
      have hlt : J.blk l1 < w.heap.size := (Array.getElem?_eq_some_iff.1 q3).1
      exact ⟨by simp only [Mem.newMap]; omega, by rw [hblk _ q1]; exact q2, es', by rw [hblk _ q1, hh _ hlt]; exact q3, q4.mono (J.le_snoc _ _ _ _)⟩
  · intro l1 l2 s1 s2 h1 h2 e
    simp only [Mem.newMap, Tree.get_set] at h1 h2
    split at h1 <;> split at h2
    · rename_i e1 e2; rw [e1, e2]
    · rename_i e1 e2
      obtain ⟨q1, _, es', q3, _⟩ := h.mp l2 s2 h2
      have hlt : J.blk l2 < w.heap.size := (Array.getElem?_eq_some_iff.1 q3).1
      rw [e1, hself, hblk _ q1] at e; omega
    · rename_i e1 e2
      obtain ⟨q1, _, es', q3, _⟩ := h.mp l1 s1 h1
      have hlt : J.blk l1 < w.heap.size := (Array.getElem?_eq_some_iff.1 q3).1
      rw [e2, hself, hblk _ q1] at e; omega
    · rw [hblk _ (h.mp l1 s1 h1).1, hblk _ (h.mp l2 s2 h2).1] at e
      exact h.mi l1 l2 s1 s2 h1 h2 e
  · intro l1 s1 l2 b2 h1 h2
    have k2 : m.readable l2 = some b2 := h2
    have hl2 := h.blk l2 b2 k2
    rw [hblk _ (hrl l2 b2 k2)]
    simp only [Mem.newMap, Tree.get_set] at h1
    split at h1
    · rename_i e; subst e; rw [hself]; omega
    · rw [hblk _ (h.mp l1 s1 h1).1]
      exact h.ms l1 s1 l2 b2 h1 k2
end Go.Sh

/- One operation: what the abstract run yields, the model's yields too. -/
namespace Go.Sh
open Go.RowKit
set_option linter.unusedVariables false
set_option linter.unusedSimpArgs false

variable {P : Program} {J : Inj} {m m' : Mem} {B : Nat} {W w w' : World}

theorem list_of_forall {α : Type} {Q : Nat → α → Prop} : ∀ k, (∀ i, i < k → ∃ v, Q i v) → ∃ l : List α, l.length = k ∧ ∀ (i : Nat) v, l[i]? = some v → Q i v
  | 0, _ => ⟨[], rfl, fun i v h => by simp at h⟩
  | k + 1, h => by
    obtain ⟨l, hl, hq⟩ := list_of_forall k (fun i hi => h i (by omega))
    obtain ⟨v, hv⟩ := h k (by omega)
    refine ⟨l ++ [v], by simp [hl], fun i x hx => ?_⟩
    by_cases hi : i < l.length
    · rw [List.getElem?_append_left hi] at hx; exact hq i x hx
    · rw [List.getElem?_append_right (by omega)] at hx
      have : i - l.length = 0 := by
        have := (List.getElem?_eq_some_iff.1 hx).1; simp at this; omega
      rw [this] at hx
      simp at hx
      subst hx
      have : i = k := by omega
      subst this
      exact hv

theorem VRel.one {v v' : Value} (r : VRel J v v') : one v = true → v'.oneCell' = true := by
  cases r <;> simp [Sh.one, Value.oneCell']
  rename_i hv
  cases v <;> simp [Sh.one, Value.oneCell']

theorem LRel.nil : LRel J [] [] := ⟨rfl, fun i x y h => by simp at h⟩

theorem LRel.cons {x y : Value} {xs ys : List Value} (h : VRel J x y) (t : LRel J xs ys) : LRel J (x :: xs) (y :: ys) := by
  refine ⟨by simp [t.1], fun i a b ha hb => ?_⟩
  cases i with
  | zero => simp at ha hb; subst ha; subst hb; exact h
  | succ i => simp at ha hb; exact t.2 i a b ha hb

theorem LRel.append {xs ys xs' ys' : List Value} (h : LRel J xs xs') (g : LRel J ys ys') : LRel J (xs ++ ys) (xs' ++ ys') := by
  refine ⟨by simp [h.1, g.1], fun i a b ha hb => ?_⟩
  by_cases hi : i < xs.length
  · rw [List.getElem?_append_left hi] at ha
    rw [List.getElem?_append_left (by rw [← h.1]; exact hi)] at hb
    exact h.2 i a b ha hb
  · rw [List.getElem?_append_right (by omega)] at ha
    rw [List.getElem?_append_right (by rw [← h.1]; omega), ← h.1] at hb
    exact g.2 _ a b ha hb

theorem LRel.of_closed {xs : List Value} (h : closedL xs = true) : LRel J xs xs := by
  rw [closedL_iff] at h
  refine ⟨rfl, fun i a b ha hb => ?_⟩
  rw [ha] at hb
  simp only [Option.some.injEq] at hb
  subst hb
  exact .clo _ (h _ (List.mem_of_getElem? ha))

theorem LRel.get {xs ys : List Value} (h : LRel J xs ys) {i : Nat} {x : Value} (hx : xs[i]? = some x) : ∃ y, ys[i]? = some y ∧ VRel J x y := by
  have hi := (List.getElem?_eq_some_iff.1 hx).1
  have hi' : i < ys.length := h.1 ▸ hi
  exact ⟨ys[i], by simp [hi'], h.2 i x _ hx (by simp [hi'])⟩

theorem LRel.get' {xs ys : List Value} (h : LRel J xs ys) {i : Nat} {y : Value} (hy : ys[i]? = some y) : ∃ x, xs[i]? = some x ∧ VRel J x y := by
  have hi := (List.getElem?_eq_some_iff.1 hy).1
  have hi' : i < xs.length := h.1 ▸ hi
  exact ⟨xs[i], by simp [hi'], h.2 i _ y (by simp [hi']) hy⟩

/-- the cells of related values -/
theorem VRel.cells {v v' : Value} (r : VRel J v v') : LRel J v.cells.toList v'.cells.toList := by
  have single : ∀ a b : Value, VRel J a b → LRel J [a] [b] := fun a b h => .cons h .nil
  cases r with
  | clo _ hv =>
    cases v <;> simp only [Value.cells] <;> first
      | exact single _ _ (.clo _ hv)
      | (simp only [closedV] at hv; rename_i cs; obtain ⟨l⟩ := cs; exact LRel.of_closed (by simpa [closedA] using hv))
  | ptr l o hl => exact single _ _ (.ptr l o hl)
  | slice l o n c a' c' h1 h2 h3 h4 h5 => exact single _ _ (.slice l o n c a' c' h1 h2 h3 h4 h5)
  | agg xs ys hs h => exact ⟨by simpa [Value.cells] using hs, fun i x y hx hy => h i x y (by simpa [Value.cells] using hx) (by simpa [Value.cells] using hy)⟩
  | tuple xs ys hs h => exact single _ _ (.tuple xs ys hs h)
  | func f a b a' b' h1 h2 h3 h4 => exact single _ _ (.func f a b a' b' h1 h2 h3 h4)
  | iface t v v' h => exact single _ _ (.iface t v v' h)
  | map l h => exact single _ _ (.map l h)

theorem VRel.agg_of {xs ys : List Value} (h : LRel J xs ys) : VRel J (.agg xs.toArray) (.agg ys.toArray) :=
  .agg _ _ (by simp [h.1]) fun i x y hx hy => h.2 i x y (by simpa using hx) (by simpa using hy)

/-- a pointer's relation, opened -/
theorem VRel.ptr_inv {a : Addr} {v' : Value} (r : VRel J (.pointer (some a)) v') :
    a.spot = none ∧ a.block < J.n ∧ v' = .pointer (some ⟨J.blk a.block, J.base a.block + a.off, none⟩) := by
  cases r with
  | clo _ h => simp [closedV] at h
  | ptr l o hl => exact ⟨rfl, hl, rfl⟩

theorem VRel.slice_inv {a : Addr} {n c : Nat} {v' : Value} (r : VRel J (.slice (some a) n c) v') :
    a.spot = none ∧ a.block < J.n ∧ ∃ a' c', v' = .slice (some a') n c' ∧ n ≤ c' ∧ c' ≤ 9223372036854775807 ∧ a.off + c' * J.esz a.block = J.ext a.block ∧
      (c' = 0 ∨ a' = ⟨J.blk a.block, J.base a.block + a.off, none⟩) := by
  cases r with
  | clo _ h => simp [closedV] at h
  | slice l o n c a' c' h1 h2 h3 h4 h5 => exact ⟨rfl, h1, a', c', rfl, h2, h3, h4, h5⟩

theorem add_none (a : Addr) (h : a.spot = none) (n : Nat) : a.add n = ⟨a.block, a.off + n, none⟩ := by
  obtain ⟨b, o, s⟩ := a
  simp only at h
  subst h
  exact Addr.add_lit b o n

theorem loadRow_inv {a : Addr} {k : Nat} {cs : List Value} (h : loadRow m a k = some cs) :
    a.spot = none ∧ ∃ b, m.readable a.block = some b ∧ a.off + k ≤ b.cells.length ∧ cs = window b.cells a.off k := by
  unfold loadRow at h
  split at h
  · cases h
  · split at h
    · cases h
    · split at h
      · simp only [Option.some.injEq] at h
        exact ⟨by assumption, _, by assumption, by assumption, h.symm⟩
      · cases h

theorem window_get {cs : List Value} {off k i : Nat} {x : Value} (h : (window cs off k)[i]? = some x) : i < k ∧ cs[off + i]? = some x := by
  unfold window at h
  rw [List.getElem?_take] at h
  split at h
  · rw [List.getElem?_drop] at h; exact ⟨by assumption, h⟩
  · cases h

theorem window_length {cs : List Value} {off k : Nat} (h : off + k ≤ cs.length) : (window cs off k).length = k := by
  unfold window; simp; omega

/-- READING A ROW. -/
theorem MRel.loadRow (h : MRel P J m B W w) {a : Addr} {k : Nat} {cs : List Value} (hl : loadRow m a k = some cs) :
    cs.length = k ∧ ∃ cs', LRel J cs cs' ∧ ∀ (j : Nat) v, cs'[j]? = some v → w.cell? ⟨J.blk a.block, J.base a.block + a.off + j, none⟩ = some v := by
  obtain ⟨hs, b, hb, hk, rfl⟩ := loadRow_inv hl
  have hlen := window_length hk
  refine ⟨hlen, ?_⟩
  obtain ⟨cs', hl', hq⟩ := list_of_forall (Q := fun i v' => ∃ v, (window b.cells a.off k)[i]? = some v ∧ VRel J v v' ∧ w.cell? ⟨J.blk a.block, J.base a.block + a.off + i, none⟩ = some v') k (fun i hi => by
    have hi' : i < (window b.cells a.off k).length := by omega
    obtain ⟨_, hx⟩ := window_get (List.getElem?_eq_getElem hi')
    obtain ⟨v', h1, h2⟩ := h.rd _ _ hb _ _ hx
    exact ⟨v', _, List.getElem?_eq_getElem hi', h2, by rw [Nat.add_assoc]; exact h1⟩)
  refine ⟨cs', ⟨by omega, fun i x y hx hy => ?_⟩, fun j v hv => ?_⟩
  · obtain ⟨v, g1, g2, _⟩ := hq i y hy
    rw [hx] at g1
    simp only [Option.some.injEq] at g1
    exact g1 ▸ g2
  · obtain ⟨_, _, _, g⟩ := hq j v hv
    exact g

theorem run_loadCells_rel {a : Addr} (hs : a.spot = none) {cs : List Value} (h : ∀ (j : Nat) v, cs[j]? = some v → w.cell? ⟨a.block, a.off + j, none⟩ = some v) :
    (loadCells a cs.length).run P w = .ok cs.toArray w :=
  run_loadCells_list w a cs fun j v hv => by rw [add_none a hs]; exact h j v hv

theorem storeRow_inv {a : Addr} {vs : List Value} (h : storeRow m a vs = some m') :
    a.spot = none ∧ ∃ b, m.writable a.block = some b ∧ a.off + vs.length ≤ b.cells.length ∧ vs.all one = true ∧ m' = m.put a.block b (over b.cells a.off vs) := by
  unfold storeRow at h
  split at h
  · cases h
  · split at h
    · cases h
    · split at h
      · rename_i hc
        simp only [Option.some.injEq] at h
        simp only [Bool.and_eq_true, decide_eq_true_eq] at hc
        exact ⟨by assumption, _, by assumption, hc.1, hc.2, h.symm⟩
      · cases h

theorem over_length {cs : List Value} {off : Nat} {new : List Value} (h : off + new.length ≤ cs.length) : (over cs off new).length = cs.length := by
  unfold over; simp; omega

theorem over_get {cs : List Value} {off : Nat} {new : List Value} (h : off + new.length ≤ cs.length) (i : Nat) :
    (over cs off new)[i]? = if i < off then cs[i]? else if i < off + new.length then new[i - off]? else cs[i]? := by
  unfold over
  by_cases h1 : i < off
  · rw [if_pos h1, List.append_assoc, List.getElem?_append_left (by simp; omega), List.getElem?_take, if_pos h1]
  · rw [if_neg h1]
    by_cases h2 : i < off + new.length
    · rw [if_pos h2, List.append_assoc, List.getElem?_append_right (by simp; omega), List.getElem?_append_left (by simp; omega)]
      congr 1; simp; omega
    · rw [if_neg h2, List.getElem?_append_right (by simp; omega), List.getElem?_drop]
      congr 1; simp; omega

theorem heap_size_setCells (b : Nat) : ∀ (vs : List Value) (o : Nat) (w : World), (w.setCells b o vs).heap.size = w.heap.size
  | [], _, _ => rfl
  | v :: r, o, w => by rw [World.setCells, heap_size_setCells b r]; simp [World.setCell]

theorem heap_setCells (b : Nat) : ∀ (vs : List Value) (o : Nat) (w : World) (k : Nat), k ≠ b → (w.setCells b o vs).heap[k]? = w.heap[k]?
  | [], _, _, _, _ => rfl
  | v :: r, o, w, k, hk => by rw [World.setCells, heap_setCells b r (o + 1) _ k hk]; exact Below.heap_setCell w ⟨b, o, none⟩ v k hk

theorem below_setCells {A : World} {b : Nat} (hb : B ≤ b) : ∀ (vs : List Value) (o : Nat) (w : World), Below B A w → Below B A (w.setCells b o vs)
  | [], _, _, h => h
  | v :: r, o, w, h => by rw [World.setCells]; exact below_setCells hb r (o + 1) _ (h.setCell (p := ⟨b, o, none⟩) hb v)

/-- WRITING A ROW. -/
theorem MRel.setCells (h : MRel P J m B W w) {l : Nat} {b : Blk} (hw : m.writable l = some b) {off : Nat} {vs vs' : List Value} (hr : LRel J vs vs') (hlen : off + vs.length ≤ b.cells.length) :
    MRel P J (m.put l b (over b.cells off vs)) B W (w.setCells (J.blk l) off vs') := by
  obtain ⟨w1, w2, w3, w4⟩ := h.wr _ _ hw
  have hrd := Mem.readable_of_writable hw
  have hin : ∀ j, j < vs'.length → (w.cell? ⟨J.blk l, off + j, none⟩).isSome = true := fun j hj => (w4 _ (by rw [← hr.1] at hj; omega)).1
  have hcin := World.cell?_setCells_in (J.blk l) vs' off w hin
  refine h.put hw (over_length hlen) (fun k hk => heap_setCells _ _ _ _ k hk) (heap_size_setCells _ _ _ _) (below_setCells w1 _ _ _ h.below) (fun x => World.frozen?_setCells _ _ _ _ x) (fun x hx => World.cell?_setCells_out _ _ _ _ _ (fun e => absurd e hx)) (fun i hi => ?_) (fun i v hv => ?_)
  · by_cases hij : off ≤ i ∧ i < off + vs'.length
    · have := hcin (i - off) (by omega)
      rw [show off + (i - off) = i by omega] at this
      rw [this]; rfl
    · rw [World.cell?_setCells_out _ _ _ _ _ (fun _ _ => by simp only; omega)]; exact hi
  · rw [over_get hlen] at hv
    by_cases h1 : i < off
    · rw [if_pos h1] at hv
      obtain ⟨v', g1, g2⟩ := h.rd _ _ hrd i v hv
      rw [w2, Nat.zero_add] at g1
      exact ⟨v', by rw [World.cell?_setCells_out _ _ _ _ _ (fun _ _ => by simp only; omega)]; exact g1, g2⟩
    · rw [if_neg h1] at hv
      by_cases h2 : i < off + vs.length
      · rw [if_pos h2] at hv
        have hj : i - off < vs'.length := by rw [← hr.1]; omega
        have := hcin (i - off) hj
        rw [show off + (i - off) = i by omega] at this
        exact ⟨_, this, hr.2 _ _ _ hv (List.getElem?_eq_getElem hj)⟩
      · rw [if_neg h2] at hv
        obtain ⟨v', g1, g2⟩ := h.rd _ _ hrd i v hv
        rw [w2, Nat.zero_add] at g1
        exact ⟨v', by rw [World.cell?_setCells_out _ _ _ _ _ (fun _ _ => by simp only; rw [← hr.1]; omega)]; exact g1, g2⟩

theorem run_storeCells_rel (h : MRel P J m B W w) {l : Nat} {b : Blk} (hw : m.writable l = some b) {off : Nat} {vs vs' : List Value} (hr : LRel J vs vs') (hlen : off + vs.length ≤ b.cells.length) (h1 : vs.all one = true) :
    (storeCells ⟨J.blk l, off, none⟩ vs' 0).run P w = .ok () (w.setCells (J.blk l) off vs') := by
  obtain ⟨w1, w2, w3, w4⟩ := h.wr _ _ hw
  have := run_storeCells_cells (P := P) (J.blk l) off vs' 0 w (fun j hj => (w4 _ (by rw [← hr.1] at hj; omega)).1) (fun j hj => (w4 _ (by rw [← hr.1] at hj; omega)).2) (fun v hv => by
    obtain ⟨i, hi⟩ := List.getElem?_of_mem hv
    obtain ⟨x, hx, hxy⟩ := hr.get' hi
    exact hxy.one (List.all_eq_true.1 h1 x (List.mem_of_getElem? hx)))
  simpa using this

/-- A NEW ROW; a part of what lies behind its cells may be frozen. -/
theorem MRel.allocF (h : MRel P J m B W w) {cells cells' : List Value} (hr : LRel J cells cells') (more : List Value) (e : TypeId) (i : TypeInfo) (he : P.info? e = some i) (fr : Nat × Nat) (hfr : cells.length + more.length ≤ fr.1 ∨ fr.2 = 0) :
    MRel P (J.snoc w.heap.size 0 (cells.length + more.length) i.size) (m.new cells e) B W (w.alloc (.cells (cells' ++ more).toArray e fr)) := by
  have hnew : ∀ j, (w.alloc (.cells (cells' ++ more).toArray e fr)).cell? ⟨w.heap.size, j, none⟩ = (cells' ++ more)[j]? := by
    intro j
    unfold World.cell?
    rw [heap_alloc_new]
    simp
  refine h.new cells e i he _ (by omega) (fun k hk => Below.heap_alloc _ _ _ hk) (by show (w.heap.push _).size = _; simp) (h.below.alloc h.size _) (fun x hx => ?_) (fun j hj => ⟨?_, ?_⟩) (fun j v hv => ?_)
  · constructor
    · exact World.cell?_of_block (Below.heap_alloc _ _ _ hx)
    · exact World.frozen?_of_block (Below.heap_alloc _ _ _ hx)
  · rw [hnew, List.getElem?_eq_getElem (by simp [← hr.1]; omega)]; rfl
  · unfold World.frozen?
    rw [heap_alloc_new]
    obtain ⟨f1, f2⟩ := fr
    simp only at hfr ⊢
    rw [Bool.and_eq_false_iff]
    simp only [decide_eq_false_iff_not]
    omega
  · have hj := (List.getElem?_eq_some_iff.1 hv).1
    obtain ⟨y, hy, hxy⟩ := hr.get hv
    exact ⟨y, by rw [hnew, List.getElem?_append_left (by rw [← hr.1]; exact hj)]; exact hy, hxy⟩

/-- A NEW ROW. -/
theorem MRel.alloc (h : MRel P J m B W w) {cells cells' : List Value} (hr : LRel J cells cells') (more : List Value) (e : TypeId) (i : TypeInfo) (he : P.info? e = some i) :
    MRel P (J.snoc w.heap.size 0 (cells.length + more.length) i.size) (m.new cells e) B W (w.alloc (.cells (cells' ++ more).toArray e)) :=
  h.allocF hr more e i he (0, 0) (Or.inr rfl)

theorem MRel.alloc0 (h : MRel P J m B W w) {cells cells' : List Value} (hr : LRel J cells cells') (e : TypeId) (i : TypeInfo) (he : P.info? e = some i) :
    MRel P (J.snoc w.heap.size 0 cells.length i.size) (m.new cells e) B W (w.alloc (.cells cells'.toArray e)) := by
  have := h.alloc hr [] e i he
  simpa using this

theorem snoc_ptr (h : MRel P J m B W w) (b ba ex z : Nat) (o : Nat) : VRel (J.snoc b ba ex z) (.pointer (some ⟨m.next, o, none⟩)) (.pointer (some ⟨b, ba + o, none⟩)) := by
  have := VRel.ptr (J := J.snoc b ba ex z) m.next o (by simp [Inj.snoc, h.n])
  simpa [Inj.snoc, h.n] using this

theorem snoc_slice (h : MRel P J m B W w) (b ex z o n c c' : Nat) (h1 : n ≤ c') (h2 : c' ≤ 9223372036854775807) (h3 : o + c' * z = ex) :
    VRel (J.snoc b 0 ex z) (.slice (some ⟨m.next, o, none⟩) n c) (.slice (some ⟨b, o, none⟩) n c') := by
  have := VRel.slice (J := J.snoc b 0 ex z) m.next o n c ⟨b, o, none⟩ c' (by simp [Inj.snoc, h.n]) h1 h2 (by simp [Inj.snoc, h.n, h3]) (Or.inr (by simp [Inj.snoc, h.n]))
  exact this

end Go.Sh

/- One operation: what the abstract run yields, the model's yields too: the operations one by one. -/
namespace Go.Sh
open Go.RowKit
set_option linter.unusedVariables false
set_option linter.unusedSimpArgs false

variable {P : Program} {J : Inj} {m m' : Mem} {B : Nat} {W w w' : World}

theorem run_isAgg {t : TypeId} {d : TypeDesc} (hd : P.underlying t = some d) : (isAgg t).run P w = .ok (isAggT P t) w := by
  unfold isAgg isAggT
  rw [hd]
  simp only [Sem.run_bind, run_underlying hd, Result.andThen_ok]
  cases d <;> rfl

theorem run_sizeOf {t : TypeId} {z : Nat} (h : sizeOfT P t = some z) : (sizeOf t).run P w = .ok z w := by
  unfold sizeOfT at h
  cases hi : P.info? t with
  | none => simp [hi] at h
  | some i => simp [hi] at h; subst h; simp [sizeOf, typeInfo, hi]

theorem run_loadVar_agg (h : MRel P J m B W w) {a : Addr} {t : TypeId} {d : TypeDesc} {z : Nat} {cs : List Value} (hd : P.underlying t = some d) (hagg : isAggT P t = true) (hz : sizeOfT P t = some z) (hl : loadRow m a z = some cs) :
    ∃ cs', LRel J cs cs' ∧ (loadVar t ⟨J.blk a.block, J.base a.block + a.off, none⟩).run P w = .ok (.agg cs'.toArray) w := by
  obtain ⟨hlen, cs', hr, hc⟩ := h.loadRow hl
  refine ⟨cs', hr, ?_⟩
  have := run_loadCells_rel (P := P) (w := w) (a := ⟨J.blk a.block, J.base a.block + a.off, none⟩) rfl hc
  rw [← hr.1, hlen] at this
  unfold loadVar
  simp [run_isAgg hd, hagg, run_sizeOf hz, this]

theorem run_loadVar_one (h : MRel P J m B W w) {a : Addr} {t : TypeId} {d : TypeDesc} {v : Value} (hd : P.underlying t = some d) (hagg : isAggT P t = false) (hl : loadRow m a 1 = some [v]) :
    ∃ v', VRel J v v' ∧ (loadVar t ⟨J.blk a.block, J.base a.block + a.off, none⟩).run P w = .ok v' w := by
  obtain ⟨hlen, cs', hr, hc⟩ := h.loadRow hl
  obtain ⟨y, hy, hxy⟩ := hr.get (i := 0) (x := v) rfl
  refine ⟨y, hxy, ?_⟩
  have h0 := hc 0 y hy
  simp only [Nat.add_zero] at h0
  unfold loadVar
  simp [run_isAgg hd, hagg, h0]

/-- WHAT AN OPERATION YIELDS that calls nothing. -/
def Yields (P : Program) (J : Inj) (m' : Mem) (B : Nat) (W : World) (o : Oper) (a : Act) (w : World) (v : Value) : Prop :=
  ∃ J' n v' w', J.le J' ∧ (execOp a.eval o).run P w = .ok n w' ∧ (n = .value v' ∨ (n = .skip ∧ v' = undef)) ∧ VRel J' v v' ∧ MRel P J' m' B W w'

section
variable {o : Oper} {a : Act} {v : Value}

theorem yields_same (h : MRel P J m B W w) {v' : Value} (hr : VRel J v v') (he : (execOp a.eval o).run P w = .ok (.value v') w) : Yields P J m B W o a w v :=
  ⟨J, _, v', w, .rfl J, he, .inl rfl, hr, h⟩

theorem y_load (h : MRel P J m B W w) {t : TypeId} {x : Operand} (ho : o.op = .load t x) {ad : Addr} {d : TypeDesc} (hx : VRel J (.pointer (some ad)) (a.eval x)) (hd : P.underlying t = some d)
    (he : (if isAggT P t then match sizeOfT P t with
          | some z => (loadRow m ad z).map fun cs => (Value.agg cs.toArray, m)
          | none => none
        else match loadRow m ad 1 with
          | some [v] => some (v, m)
          | _ => none) = some (v, m')) : Yields P J m' B W o a w v := by
  obtain ⟨h1, h2, h3⟩ := hx.ptr_inv
  split at he
  · rename_i hagg
    split at he
    · rename_i z hz
      simp only [Option.map_eq_some_iff, Prod.mk.injEq] at he
      obtain ⟨cs, hl, rfl, rfl⟩ := he
      obtain ⟨cs', hr, hrun⟩ := run_loadVar_agg h hd hagg hz hl
      refine yields_same h (.agg_of hr) ?_
      simp [execOp, ho, Instr.loadAt, Instr.sureAddr, h3, hrun]
    · cases he
  · rename_i hagg
    split at he
    · rename_i u hl
      simp only [Option.some.injEq, Prod.mk.injEq] at he
      obtain ⟨rfl, rfl⟩ := he
      obtain ⟨v', hr, hrun⟩ := run_loadVar_one h hd (by simpa using hagg) hl
      refine yields_same h hr ?_
      simp [execOp, ho, Instr.loadAt, Instr.sureAddr, h3, hrun]
    · cases he

theorem y_store (h : MRel P J m B W w) {t : TypeId} {x y : Operand} (ho : o.op = .store t x y) {ad : Addr} {u : Value} (hx : VRel J (.pointer (some ad)) (a.eval x)) (hy : VRel J u (a.eval y))
    (hz : sizeOfT P t = some u.cells.size) (he : storeRow m ad u.cells.toList = some m') : Yields P J m' B W o a w undef := by
  obtain ⟨h1, h2, h3⟩ := hx.ptr_inv
  obtain ⟨_, b, hw, hlen, h1s, rfl⟩ := storeRow_inv he
  have hr := hy.cells
  obtain ⟨w1, w2, w3, w4⟩ := h.wr _ _ hw
  have hrun := run_storeCells_rel h hw hr hlen h1s
  refine ⟨J, .skip, undef, _, .rfl J, ?_, .inr ⟨rfl, rfl⟩, .undef J, h.setCells hw hr hlen⟩
  have hsz : (a.eval y).cells.size = u.cells.size := by have := hr.1; simpa using this.symm
  simp [execOp, ho, Instr.storeAt, Instr.sureAddr, h3, storeVar, run_sizeOf hz, hsz, w2, hrun]

theorem y_alloc (h : MRel P J m B W w) {e : TypeId} (ho : o.op = .alloc e) {i : TypeInfo} {z : Value} (hi : P.info? e = some i) (hz : i.zero = some z) (hc : closedA z.cells = true) :
    Yields P J (m.new z.cells.toList e) B W o a w (.pointer (some ⟨m.next, 0, none⟩)) := by
  have hcl : LRel J z.cells.toList z.cells.toList := by
    obtain ⟨l, hl⟩ : ∃ l, z.cells = ⟨l⟩ := ⟨z.cells.toList, rfl⟩
    rw [hl] at hc ⊢
    exact LRel.of_closed (by simpa [closedA] using hc)
  have hm := h.alloc0 hcl e i hi
  refine ⟨_, .value (.pointer (some ⟨w.heap.size, 0, none⟩)), _, w.alloc (.cells z.cells e), J.le_snoc _ _ _ _, ?_, .inl rfl, ?_, by simpa using hm⟩
  · simp [execOp, ho, Instr.alloc, zeroValue, typeInfo, hi, hz, newVar, newRow]
  · have := snoc_ptr h w.heap.size 0 z.cells.toList.length i.size 0
    simpa using this

theorem y_box (h : MRel P J m B W w) {e : TypeId} {x : Operand} (ho : o.op = .box e x) {i : TypeInfo} {u : Value} (hi : P.info? e = some i) (hx : VRel J u (a.eval x)) :
    Yields P J (m.new u.cells.toList e) B W o a w (.pointer (some ⟨m.next, 0, none⟩)) := by
  have hm := h.alloc0 hx.cells e i hi
  refine ⟨_, .value (.pointer (some ⟨w.heap.size, 0, none⟩)), _, w.alloc (.cells (a.eval x).cells e), J.le_snoc _ _ _ _, ?_, .inl rfl, ?_, by simpa using hm⟩
  · simp [execOp, ho, Instr.box, newVar, newRow]
  · have := snoc_ptr h w.heap.size 0 u.cells.toList.length i.size 0
    simpa using this

theorem run_fieldPlace {P : Program} {w : World} {f : Field} {z : Nat} (hz : sizeOfT P f.type = some (z + 1)) (ad : Addr) : (fieldPlace ad f).run P w = .ok (ad.add f.offset) w := by
  unfold fieldPlace
  simp [run_sizeOf hz]

theorem y_fieldAddr (h : MRel P J m B W w) {s : TypeId} {x : Operand} {f : Nat} (ho : o.op = .fieldAddr s x f) {fl : Field} {z : Nat} {ad : Addr} (hf : fieldOf P s f = some fl) (hx : VRel J (.pointer (some ad)) (a.eval x))
    (hz : sizeOfT P fl.type = some (z + 1)) : Yields P J m B W o a w (.pointer (some { ad with off := ad.off + fl.offset })) := by
  obtain ⟨h1, h2, h3⟩ := hx.ptr_inv
  obtain ⟨bl, of, sp⟩ := ad
  simp only at h1 h2 h3 ⊢
  subst h1
  unfold fieldOf at hf
  split at hf
  · rename_i fs hu
    refine yields_same h (v' := .pointer (some ⟨J.blk bl, J.base bl + (of + fl.offset), none⟩)) (.ptr _ _ h2) ?_
    simp [execOp, ho, Instr.fieldAt, run_underlying hu, hf, Instr.sureAddr, h3, run_fieldPlace hz, Addr.add_lit, Nat.add_assoc]
  · cases hf

theorem part_rel {t : TypeId} {cs cs' : Array Value} {off : Nat} {u : Value} (hs : cs.size = cs'.size) (hr : ∀ (i : Nat) x y, cs[i]? = some x → cs'[i]? = some y → VRel J x y) (hp : partOf P t cs off = some u) :
    ∃ u', VRel J u u' ∧ ∀ w : World, (part t cs' off).run P w = .ok u' w := by
  unfold partOf at hp
  split at hp
  · cases hp
  · rename_i d hd
    split at hp
    · rename_i hagg
      split at hp
      · rename_i z hz
        simp only [Option.some.injEq] at hp
        subst hp
        refine ⟨.agg (cs'.extract off (off + z)), .agg _ _ (by simp [hs]) (fun i x y hx hy => ?_), fun w => ?_⟩
        · rw [Array.getElem?_extract] at hx hy
          split at hx
          · rw [if_pos (by rw [← hs]; assumption)] at hy
            exact hr _ _ _ hx hy
          · cases hx
        · unfold part
          simp [run_isAgg hd, hagg, run_sizeOf hz]
      · cases hp
    · rename_i hagg
      have hlt := (Array.getElem?_eq_some_iff.1 hp).1
      have hlt' : off < cs'.size := hs ▸ hlt
      refine ⟨cs'[off], hr _ _ _ hp (by simp [hlt']), fun w => ?_⟩
      unfold part
      simp [run_isAgg hd, hagg, hlt']

theorem VRel.agg_inv {cs : Array Value} {v' : Value} (r : VRel J (.agg cs) v') : ∃ cs', v' = .agg cs' ∧ cs.size = cs'.size ∧ ∀ (i : Nat) x y, cs[i]? = some x → cs'[i]? = some y → VRel J x y := by
  cases r with
  | clo _ h =>
    refine ⟨cs, rfl, rfl, fun i x y hx hy => ?_⟩
    rw [hx] at hy
    simp only [Option.some.injEq] at hy
    subst hy
    simp only [closedV, closedA_iff] at h
    exact .clo _ (h i x hx)
  | agg xs ys hs h => exact ⟨ys, rfl, hs, h⟩

theorem VRel.tuple_inv {cs : Array Value} {v' : Value} (r : VRel J (.tuple cs) v') : ∃ cs', v' = .tuple cs' ∧ cs.size = cs'.size ∧ ∀ (i : Nat) x y, cs[i]? = some x → cs'[i]? = some y → VRel J x y := by
  cases r with
  | clo _ h =>
    refine ⟨cs, rfl, rfl, fun i x y hx hy => ?_⟩
    rw [hx] at hy
    simp only [Option.some.injEq] at hy
    subst hy
    simp only [closedV, closedA_iff] at h
    exact .clo _ (h i x hx)
  | tuple xs ys hs h => exact ⟨ys, rfl, hs, h⟩

theorem y_field (h : MRel P J m B W w) {s : TypeId} {x : Operand} {f : Nat} (ho : o.op = .field s x f) {fl : Field} {cs : Array Value} (hf : fieldOf P s f = some fl) (hx : VRel J (.agg cs) (a.eval x))
    (hp : partOf P fl.type cs fl.offset = some v) : Yields P J m B W o a w v := by
  obtain ⟨cs', h1, h2, h3⟩ := hx.agg_inv
  obtain ⟨u', hr, hrun⟩ := part_rel h2 h3 hp
  unfold fieldOf at hf
  split at hf
  · rename_i fs hu
    refine yields_same h hr ?_
    simp [execOp, ho, Instr.field, run_underlying hu, hf, h1, asAgg, hrun]
  · cases hf

theorem natOf_inv {v : Value} {n : Nat} (h : natOf v = some n) : ∃ k, v = .int k n ∧ (n : Int) ≤ 9223372036854775807 := by
  unfold natOf at h
  split at h
  · rename_i k i
    split at h
    · rename_i hc
      simp only [Bool.and_eq_true, decide_eq_true_eq] at hc
      simp only [Option.some.injEq] at h
      subst h
      exact ⟨k, by rw [Int.toNat_of_nonneg hc.1], by omega⟩
    · cases h
  · cases h

theorem VRel.nat_inv {x x' : Value} {n : Nat} (r : VRel J x x') (h : natOf x = some n) : ∃ k, x' = .int k n ∧ (n : Int) ≤ 9223372036854775807 := by
  obtain ⟨k, rfl, hk⟩ := natOf_inv h
  refine ⟨k, r.closed_eq rfl, hk⟩

theorem y_indexAddr_slice (h : MRel P J m B W w) {t : TypeId} {x ix : Operand} (ho : o.op = .indexAddr t x ix) {xi : Value} {i : Nat} {e : TypeId} {ad : Addr} {n c z : Nat} (hi : VRel J xi (a.eval ix)) (hn : natOf xi = some i)
    (hu : P.underlying t = some (.slice e)) (hx : VRel J (.slice (some ad) n c) (a.eval x)) (hz : sizeOfT P e = some z) (hlt : i < n) :
    Yields P J m B W o a w (.pointer (some { ad with off := ad.off + i * z })) := by
  obtain ⟨k, hi', hb⟩ := hi.nat_inv hn
  obtain ⟨s1, s2, a', c', s3, s4, s5, s6, s7⟩ := hx.slice_inv
  obtain ⟨bl, of, sp⟩ := ad
  simp only at s1 s2 s6 s7 ⊢
  subst s1
  have hc' : c' ≠ 0 := by omega
  rw [s7.resolve_left hc'] at s3
  refine yields_same h (v' := .pointer (some ⟨J.blk bl, J.base bl + (of + i * z), none⟩)) (.ptr _ _ s2) ?_
  have hlt' : (i : Int) < n := by omega
  simp [execOp, ho, Instr.indexAt, hi', asIntOf, run_underlying hu, s3, hlt', run_sizeOf hz, Addr.add_lit, Nat.add_assoc]
  intro _; omega

theorem y_indexAddr_array (h : MRel P J m B W w) {t : TypeId} {x ix : Operand} (ho : o.op = .indexAddr t x ix) {xi : Value} {i : Nat} {e : TypeId} {ad : Addr} {n z : Nat} (hi : VRel J xi (a.eval ix)) (hn : natOf xi = some i)
    (hu : P.underlying t = some (.array n e)) (hx : VRel J (.pointer (some ad)) (a.eval x)) (hz : sizeOfT P e = some z) (hlt : i < n) :
    Yields P J m B W o a w (.pointer (some { ad with off := ad.off + i * z })) := by
  obtain ⟨k, hi', hb⟩ := hi.nat_inv hn
  obtain ⟨h1, h2, h3⟩ := hx.ptr_inv
  obtain ⟨bl, of, sp⟩ := ad
  simp only at h1 h2 h3 ⊢
  subst h1
  refine yields_same h (v' := .pointer (some ⟨J.blk bl, J.base bl + (of + i * z), none⟩)) (.ptr _ _ h2) ?_
  have hlt' : (i : Int) < n := by omega
  simp [execOp, ho, Instr.indexAt, hi', asIntOf, run_underlying hu, h3, Instr.sureAddr, hlt', run_sizeOf hz, Addr.add_lit, Nat.add_assoc]
  intro _; omega

theorem y_index_array (h : MRel P J m B W w) {t : TypeId} {x ix : Operand} (ho : o.op = .index t x ix) {xi : Value} {i : Nat} {e : TypeId} {n z : Nat} {cs : Array Value} (hi : VRel J xi (a.eval ix)) (hn : natOf xi = some i)
    (hu : P.underlying t = some (.array n e)) (hx : VRel J (.agg cs) (a.eval x)) (hz : sizeOfT P e = some z) (hlt : i < n) (hp : partOf P e cs (i * z) = some v) :
    Yields P J m B W o a w v := by
  obtain ⟨k, hi', hb⟩ := hi.nat_inv hn
  obtain ⟨cs', h1, h2, h3⟩ := hx.agg_inv
  obtain ⟨u', hr, hrun⟩ := part_rel h2 h3 hp
  refine yields_same h hr ?_
  have hlt' : (i : Int) < n := by omega
  simp [execOp, ho, Instr.index, hi', asIntOf, run_underlying hu, h1, hlt', run_sizeOf hz, hrun]
  intro _; omega

theorem y_index_string (h : MRel P J m B W w) {t : TypeId} {x ix : Operand} (ho : o.op = .index t x ix) {xi : Value} {i : Nat} {s : ByteArray} {b : UInt8} (hi : VRel J xi (a.eval ix)) (hn : natOf xi = some i)
    (hu : P.underlying t = some .string) (hx : VRel J (.string s) (a.eval x)) (hb : s.data[i]? = some b) :
    Yields P J m B W o a w (.int .u8 b.toNat) := by
  obtain ⟨k, hi', _⟩ := hi.nat_inv hn
  have hx' := hx.closed_eq rfl
  refine yields_same h (.clo _ rfl) ?_
  have hb' : s[i]? = some b := by
    have hlt := (Array.getElem?_eq_some_iff.1 hb).1
    have : s[i]? = some (s[i]'hlt) := getElem?_pos s i hlt
    rw [this]
    have h2 := (Array.getElem?_eq_some_iff.1 hb).2
    exact congrArg some h2
  simp [execOp, ho, Instr.index, hi', asIntOf, run_underlying hu, hx', hb']

theorem y_extract (h : MRel P J m B W w) {x : Operand} {i : Nat} (ho : o.op = .extract x i) {vs : Array Value} (hx : VRel J (.tuple vs) (a.eval x)) (hi : vs[i]? = some v) : Yields P J m B W o a w v := by
  obtain ⟨cs', h1, h2, h3⟩ := hx.tuple_inv
  have hlt := (Array.getElem?_eq_some_iff.1 hi).1
  have hlt' : i < cs'.size := h2 ▸ hlt
  refine yields_same h (h3 i v cs'[i] hi (by simp [hlt'])) ?_
  simp [execOp, ho, Instr.extract, h1, hlt']
end
end Go.Sh

/- One operation: building, making, slicing, appending. -/
namespace Go.Sh
open Go.RowKit
set_option linter.unusedVariables false
set_option linter.unusedSimpArgs false

variable {P : Program} {J : Inj} {m m' : Mem} {B : Nat} {W w w' : World}

theorem prun_run {α : Type} : ∀ (s : Sem α) (x : α), prun P s = some x → ∀ w, s.run P w = .ok x w := by
  intro s
  induction s with
  | pure a => intro x h w; simp [prun] at h; subst h; rfl
  | program k ih => intro x h w; simp only [prun] at h; simp only [Sem.run]; exact ih _ x h w
  | mark k s ih => intro x h w; simp only [prun] at h; simp only [Sem.run]; exact ih x h w
  | _ => intro x h w; simp [prun] at h

section
variable {o : Oper} {a : Act} {v : Value}

theorem y_closed (h : MRel P J m B W w) {ρ : Operand → Value} (hρ : ∀ x ∈ o.op.operands, VRel J (ρ x) (a.eval x)) (hsel : ∀ cs b, o.op ≠ .select cs b) (he : closedOp P ρ o = some v) : Yields P J m B W o a w v := by
  unfold closedOp at he
  split at he
  · rename_i hall
    split at he
    · rename_i u hp
      split at he
      · rename_i hc
        simp only [Option.some.injEq] at he
        subst he
        refine yields_same h (.clo _ hc) ?_
        have hcong : execOp a.eval o = execOp ρ o := execOp_congr o hsel fun x hx => (hρ x hx).closed_eq (Array.all_eq_true'.1 hall x hx)
        rw [hcong]
        exact prun_run _ _ hp w
      · cases he
    · cases he
  · cases he

/-- 'fill', on related parts -/
theorem fill_rel {place : Nat → Option (Nat × Nat)} : ∀ (ps ps' : List (Nat × Value)) (cs cs' out : Array Value), ps.length = ps'.length →
    (∀ (i : Nat) x y, ps[i]? = some x → ps'[i]? = some y → x.1 = y.1 ∧ VRel J x.2 y.2) → LRel J cs.toList cs'.toList → Instr.fill place cs ps = some out →
    ∃ out', Instr.fill place cs' ps' = some out' ∧ LRel J out.toList out'.toList
  | [], [], cs, cs', out, _, _, hc, h => by
    simp only [Instr.fill, Option.some.injEq] at h
    subst h
    exact ⟨cs', rfl, hc⟩
  | (i, x) :: r, (j, y) :: r', cs, cs', out, hl, hp, hc, h => by
    obtain ⟨e, hxy⟩ := hp 0 _ _ rfl rfl
    simp only at e hxy
    subst e
    simp only [Instr.fill] at h ⊢
    cases hpl : place i with
    | none => simp [hpl] at h
    | some os =>
      obtain ⟨off, size⟩ := os
      simp only [hpl] at h
      have hsz : y.cells.size = x.cells.size := by have := hxy.cells.1; simpa using this.symm
      have hcs : cs'.size = cs.size := by have := hc.1; simpa using this.symm
      simp only [hsz, hcs]
      split at h
      · cases h
      · rename_i hcond
        rw [if_neg hcond]
        refine fill_rel r r' _ _ out (by simpa using hl) (fun k a b ha hb => hp (k + 1) a b (by simpa using ha) (by simpa using hb)) ?_ h
        -- the fold writes related cells at the same places
        have key : ∀ (n : Nat) (l l' : List Value) (A A' : Array Value), LRel J l l' → LRel J A.toList A'.toList →
            LRel J ((l.zipIdx n).foldl (fun cs (p : Value × Nat) => cs.setIfInBounds (off + p.2) p.1) A).toList ((l'.zipIdx n).foldl (fun cs (p : Value × Nat) => cs.setIfInBounds (off + p.2) p.1) A').toList := by
          intro n l
          induction l generalizing n with
          | nil => intro l' A A' hll hA; have : l' = [] := List.length_eq_zero_iff.1 hll.1.symm; subst this; simpa using hA
          | cons u l ih =>
            intro l' A A' hll hA
            cases l' with
            | nil => have := hll.1; simp at this
            | cons u' l' =>
              simp only [List.zipIdx_cons, List.foldl_cons]
              refine ih (n + 1) l' _ _ ⟨by simpa using hll.1, fun k a b ha hb => hll.2 (k + 1) a b (by simpa using ha) (by simpa using hb)⟩ ?_
              refine ⟨by simpa using hA.1, fun k a b ha hb => ?_⟩
              simp only [Array.toList_setIfInBounds, List.getElem?_set] at ha hb
              have hAl := hA.1
              split at ha
              · rename_i ek
                rw [if_pos ek] at hb
                split at ha
                · rename_i hlt
                  rw [if_pos (by rw [← hAl]; exact hlt)] at hb
                  simp only [Option.some.injEq] at ha hb
                  subst ha; subst hb
                  exact hll.2 0 _ _ rfl rfl
                · cases ha
              · rename_i ek
                rw [if_neg ek] at hb
                exact hA.2 k a b ha hb
        have := key 0 x.cells.toList y.cells.toList cs cs' hxy.cells hc
        rw [← Array.foldl_toList, ← Array.foldl_toList, Array.toList_zipIdx, Array.toList_zipIdx]
        exact this

theorem parts_rel {ρ : Operand → Value} {parts : Array (Nat × Operand)} (hρ : ∀ p ∈ parts, VRel J (ρ p.2) (a.eval p.2)) :
    ∀ (i : Nat) x y, (parts.map fun (i, x) => (i, ρ x)).toList[i]? = some x → (parts.map fun (i, x) => (i, a.eval x)).toList[i]? = some y → x.1 = y.1 ∧ VRel J x.2 y.2 := by
  intro i x y hx hy
  simp only [Array.toList_map, List.getElem?_map, Option.map_eq_some_iff] at hx hy
  obtain ⟨p, hp, rfl⟩ := hx
  obtain ⟨q, hq, rfl⟩ := hy
  rw [hp] at hq
  simp only [Option.some.injEq] at hq
  subst hq
  exact ⟨rfl, hρ _ (by simpa using List.mem_of_getElem? hp)⟩

theorem closedA_list {cs : Array Value} (h : closedA cs = true) : LRel J cs.toList cs.toList := by
  obtain ⟨l⟩ := cs
  exact LRel.of_closed (by simpa [closedA] using h)

theorem y_buildSlice (h : MRel P J m B W w) {ρ : Operand → Value} {t : TypeId} {len : Nat} {parts : Array (Nat × Operand)} (ho : o.op = .buildSlice t len parts) (hρ : ∀ p ∈ parts, VRel J (ρ p.2) (a.eval p.2))
    {e : TypeId} {i : TypeInfo} {z : Value} {cells : Array Value} (hu : P.underlying t = some (.slice e)) (hi : P.info? e = some i) (hz : i.zero = some z) (h0 : 0 < i.size) (h24 : len * i.size ≤ 16777216) (hc : closedA z.cells = true) (hzs : z.cells.size = i.size)
    (hf : Instr.fill (fun j => some (j * i.size, i.size)) (if len * i.size = 0 then #[] else (Array.range (len * i.size)).map (z.cells[· % z.cells.size]!)) (parts.map fun (i, x) => (i, ρ x)).toList = some cells) :
    Yields P J (m.new cells.toList e) B W o a w (.slice (some ⟨m.next, 0, none⟩) len len) := by
  have hzero : LRel J ((if len * i.size = 0 then #[] else (Array.range (len * i.size)).map (z.cells[· % z.cells.size]!)) : Array Value).toList ((if len * i.size = 0 then #[] else (Array.range (len * i.size)).map (z.cells[· % z.cells.size]!)) : Array Value).toList := by
    refine closedA_list ?_
    rw [closedA_iff] at hc ⊢
    intro k x hx
    split at hx
    · simp at hx
    · simp only [Array.getElem?_map, Option.map_eq_some_iff] at hx
      obtain ⟨q, _, rfl⟩ := hx
      have : q % z.cells.size < z.cells.size := Nat.mod_lt _ (by omega)
      exact hc (q % z.cells.size) _ (by simp [this])
  obtain ⟨out', hf', hr⟩ := fill_rel _ _ _ _ _ (by simp) (parts_rel hρ) hzero hf
  have hm := h.alloc0 hr e i hi
  have hfl : ∀ (place : Nat → Option (Nat × Nat)) (cs : Array Value) (ps : List (Nat × Value)) (out : Array Value), Instr.fill place cs ps = some out → out.size = cs.size := by
    intro place cs ps
    induction ps generalizing cs with
    | nil => intro out h; simp [Instr.fill] at h; rw [h]
    | cons p r ih =>
      intro out h
      obtain ⟨k, x⟩ := p
      simp only [Instr.fill] at h
      split at h
      · cases h
      · split at h
        · cases h
        · rw [ih _ _ h]
          have : ∀ (l : List (Value × Nat)) (A : Array Value) (off : Nat), (l.foldl (fun cs (p : Value × Nat) => cs.setIfInBounds (off + p.2) p.1) A).size = A.size := by
            intro l
            induction l with
            | nil => intro A off; rfl
            | cons q l ih => intro A off; simp only [List.foldl_cons]; rw [ih]; simp
          rw [← Array.foldl_toList]
          exact this _ _ _
  have hsize : cells.size = len * i.size := by
    rw [hfl _ _ _ _ hf]
    split
    · rename_i e0; simp [e0]
    · simp
  have hB := i.size
  refine ⟨_, .value (.slice (some ⟨w.heap.size, 0, none⟩) len len), _, w.alloc (.cells out' e), J.le_snoc _ _ _ _, ?_, .inl rfl, ?_, by simpa using hm⟩
  · have h24' : ¬ (16777216 < len * i.size) := by omega
    by_cases hz0 : len * i.size = 0
    · simp only [hz0, if_true] at hf'
      simp at hf'
      have hr0 : (Array.range 0 : Array Nat) = #[] := rfl
      simp [execOp, ho, Instr.buildSlice, run_underlying hu, sizeOf, typeInfo, hi, h24', hz0, hr0, hf', newRow]
    · simp only [hz0, if_false] at hf'
      simp at hf'
      simp [execOp, ho, Instr.buildSlice, run_underlying hu, sizeOf, typeInfo, zeroValue, hi, hz, h24', hz0, hf', newRow]
  · have hlen63 : len ≤ 9223372036854775807 := by
      have := Nat.le_mul_of_pos_right len h0; omega
    exact snoc_slice h w.heap.size cells.toList.length i.size 0 len len len (Nat.le_refl _) hlen63 (by simp [hsize])

theorem y_build_fill (h : MRel P J m B W w) {ρ : Operand → Value} {t : TypeId} {parts : Array (Nat × Operand)} (hρ : ∀ p ∈ parts, VRel J (ρ p.2) (a.eval p.2))
    {z : Value} (hc : closedA z.cells = true) {place : Nat → Option (Nat × Nat)} {cells : Array Value} (hf : Instr.fill place z.cells (parts.map fun (i, x) => (i, ρ x)).toList = some cells)
    (hrun : ∀ out', Instr.fill place z.cells (parts.map fun (i, x) => (i, a.eval x)).toList = some out' → (execOp a.eval o).run P w = .ok (.value (.agg out')) w) : Yields P J m B W o a w (.agg cells) := by
  obtain ⟨out', hf', hr⟩ := fill_rel _ _ _ _ _ (by simp) (parts_rel hρ) (closedA_list hc) hf
  exact yields_same h (.agg _ _ (by have := hr.1; simpa using this) fun k x y hx hy => hr.2 k x y (by simpa using hx) (by simpa using hy)) (hrun out' hf')

theorem y_build_array (h : MRel P J m B W w) {ρ : Operand → Value} {t : TypeId} {parts : Array (Nat × Operand)} (ho : o.op = .build t parts) (hρ : ∀ p ∈ parts, VRel J (ρ p.2) (a.eval p.2))
    {i : TypeInfo} {z : Value} {n : Nat} {e : TypeId} {size : Nat} (hi : P.info? t = some i) (hz : i.zero = some z) (hc : closedA z.cells = true) (hu : P.underlying t = some (.array n e)) (hs : sizeOfT P e = some size)
    {cells : Array Value} (hf : Instr.fill (fun i => some (i * size, size)) z.cells (parts.map fun (i, x) => (i, ρ x)).toList = some cells) : Yields P J m B W o a w (.agg cells) := by
  refine y_build_fill h (t := t) hρ hc hf fun out' hf' => ?_
  simp at hf'
  simp [execOp, ho, Instr.build, zeroValue, typeInfo, hi, hz, run_underlying hu, run_sizeOf hs, hf']

theorem y_build_struct (h : MRel P J m B W w) {ρ : Operand → Value} {t : TypeId} {parts : Array (Nat × Operand)} (ho : o.op = .build t parts) (hρ : ∀ p ∈ parts, VRel J (ρ p.2) (a.eval p.2))
    {i : TypeInfo} {z : Value} {fields : Array Field} {places : Array (Nat × Nat)} (hi : P.info? t = some i) (hz : i.zero = some z) (hc : closedA z.cells = true) (hu : P.underlying t = some (.struct fields)) (hs : prun P (placesOf fields) = some places)
    {cells : Array Value} (hf : Instr.fill (places[·]?) z.cells (parts.map fun (i, x) => (i, ρ x)).toList = some cells) : Yields P J m B W o a w (.agg cells) := by
  refine y_build_fill h (t := t) hρ hc hf fun out' hf' => ?_
  have hpl := prun_run _ _ hs w
  simp only [Array.toList_map] at hf'
  have hbind : (Instr.build t (parts.map fun (i, x) => (i, a.eval x))).run P w = .ok (.agg out') w := by
    unfold Instr.build
    simp only [Sem.run_bind, zeroValue, typeInfo, run_program, Result.andThen_ok, hi, hz, run_underlying hu, Sem.run_pure]
    rw [show (fields.mapM fun f => do pure (f.offset, ← sizeOf f.type) : Sem (Array (Nat × Nat))) = placesOf fields from rfl, hpl]
    simp only [Result.andThen_ok, Array.toList_map, hf', Sem.run_pure]
  simp only [execOp, ho, Sem.run_bind, hbind, Result.andThen_ok, Sem.run_pure]
end
end Go.Sh

/- One operation: append, copy, slices. -/
namespace Go.Sh
open Go.RowKit
set_option linter.unusedVariables false
set_option linter.unusedSimpArgs false

variable {P : Program} {J : Inj} {m m' : Mem} {B : Nat} {W w w' : World}

/-- What is appended, as the model sees it: type 'dx', value 'x': k elements, their cells 'news' (in the world and in the one behind a draw). -/
inductive Src (P : Program) (w : World) (i : TypeInfo) (z : Value) : TypeDesc → Value → Nat → List Value → Prop
  | slice (e' : TypeId) (a : Option Addr) (k c : Nat) (news : List Value) : (Builtin.firstCells i.size k (.slice a k c)).run P w = .ok news.toArray w → (Builtin.firstCells i.size k (.slice a k c)).run P w.drew = .ok news.toArray w.drew → Src P w i z (.slice e') (.slice a k c) k news
  | string (s : ByteArray) : Src P w i z .string (.string s) s.size (s.data.map fun b => Value.int .u8 b.toNat).toList
  | int (q q' : IntKind) (k : Nat) : (k : Int) ≤ 9223372036854775807 → (k : Int) * i.bytes ≤ 281474976710656 → Src P w i z (.int q) (.int q' k) k (Builtin.zeroCells z.cells k).toList

theorem zeroCells_zero (z : Array Value) (n : Nat) (h : n * z.size = 0) : Builtin.zeroCells z n = #[] := by
  unfold Builtin.zeroCells; rw [h]; apply Array.ext'; simp

theorem firstCells_string (s : ByteArray) (size : Nat) : (Builtin.firstCells size s.size (.string s)).run P w = .ok (s.data.map fun b => Value.int .u8 b.toNat) w := by
  have hx : (Array.map (fun b : UInt8 => Value.int IntKind.u8 (b.toNat : Int)) s.data).extract 0 s.size = Array.map (fun b : UInt8 => Value.int IntKind.u8 (b.toNat : Int)) s.data := by
    have hs : s.size = (Array.map (fun b : UInt8 => Value.int IntKind.u8 (b.toNat : Int)) s.data).size := by rw [Array.size_map]; rfl
    rw [hs, Array.extract_size]
  simp [Builtin.firstCells, hx]

theorem wrap_nat {k : Nat} (h : (k : Int) ≤ 9223372036854775807) : IntKind.i64.wrap (k : Int) = k := by
  simp [IntKind.wrap, IntKind.signed, IntKind.bits]; omega

/-- THERE IS ROOM. -/
theorem append_room {t tx ty e : TypeId} {i : TypeInfo} {z : Value} {dx : TypeDesc} {x : Value} {k : Nat} {news : List Value} (ht : P.underlying t = some (.slice e)) (hi : P.info? e = some i) (hz : i.zero = some z) (hzs : z.cells.size = i.size)
    (hx : P.underlying tx = some dx) (hs : Src P w i z dx x k news) (a : Addr) (n c : Nat) (hroom : n + k ≤ c) (w2 : World) (hst : (storeCells (a.add (n * i.size)) news).run P w = .ok () w2) :
    (Builtin.append_ #[t, tx] ty #[.slice (some a) n c, x]).run P w = .ok (.slice (some a) (n + k) c) w2 := by
  cases hs with
  | slice e' a' k c' news h1 h2 => simp [Builtin.append_, run_underlying ht, run_underlying hx, sizeOf, typeInfo, hi, Builtin.lenOf, hroom, h1, hst]
  | string s =>
    have := firstCells_string (P := P) (w := w) s i.size
    simp at hst
    simp [Builtin.append_, run_underlying ht, run_underlying hx, sizeOf, typeInfo, hi, Builtin.lenOf, hroom, this, hst]
  | int q q' k h1 h2 =>
    have h2' : ¬ (281474976710656 < (k : Int) * (i.bytes : Int)) := by omega
    have hneg : ¬ ((k : Int) < 0) := by omega
    by_cases hk : k * i.size = 0
    · have hz0 : Builtin.zeroCells z.cells k = #[] := zeroCells_zero _ _ (by rw [hzs]; exact hk)
      rw [hz0] at hst
      simp [Builtin.append_, run_underlying ht, run_underlying hx, sizeOf, typeInfo, hi, asInt, asIntOf, wrap_nat h1, h2', hneg, hroom, hk, hst]
    · simp [Builtin.append_, run_underlying ht, run_underlying hx, sizeOf, typeInfo, zeroValue, hi, hz, asInt, asIntOf, wrap_nat h1, h2', hneg, hroom, hk, hst]

/-- NOTHING ONTO NIL. -/
theorem append_nil0 {t tx ty e : TypeId} {i : TypeInfo} {z : Value} {dx : TypeDesc} {x : Value} {news : List Value} (ht : P.underlying t = some (.slice e)) (hi : P.info? e = some i) (hz : i.zero = some z) (hzs : z.cells.size = i.size)
    (hx : P.underlying tx = some dx) (hs : Src P w i z dx x 0 news) :
    (Builtin.append_ #[t, tx] ty #[.slice none 0 0, x]).run P w = .ok (.slice none 0 0) w := by
  generalize hk : (0 : Nat) = k at hs
  cases hs with
  | slice e' a' k c' news h1 h2 => subst hk; simp [Builtin.append_, run_underlying ht, run_underlying hx, sizeOf, typeInfo, hi, Builtin.lenOf, h1]
  | string s =>
    have := firstCells_string (P := P) (w := w) s i.size
    rw [← hk] at this
    simp [Builtin.append_, run_underlying ht, run_underlying hx, sizeOf, typeInfo, hi, Builtin.lenOf, ← hk, this]
  | int q q' k h1 h2 =>
    subst hk
    have h0 : IntKind.i64.wrap (0 : Int) = 0 := by decide
    simp [Builtin.append_, run_underlying ht, run_underlying hx, sizeOf, typeInfo, hi, asInt, asIntOf, h0]

/-- THERE IS NONE: a new row. -/
theorem append_grow {t tx ty e : TypeId} {i : TypeInfo} {z : Value} {dx : TypeDesc} {x : Value} {k : Nat} {news : List Value} (ht : P.underlying t = some (.slice e)) (hi : P.info? e = some i) (hz : i.zero = some z) (hzs : z.cells.size = i.size) (h0 : 0 < i.bytes ∨ True)
    (hx : P.underlying tx = some dx) (hs : Src P w i z dx x k news) (base : Option Addr) (n c : Nat) (olds : List Value) (hold : (Builtin.firstCells i.size n (.slice base n c)).run P w.drew = .ok olds.toArray w.drew)
    (hg : c < n + k) (h63 : n + k ≤ 9223372036854775807) (hfit : (n + k) * i.bytes ≤ 140737488355328) :
    (Builtin.append_ #[t, tx] ty #[.slice base n c, x]).run P w =
      .ok (.slice (some ⟨w.heap.size, 0, none⟩) (n + k) (grownCap w (n + k) c e))
        (w.drew.alloc (.cells ((olds ++ news) ++ (Builtin.zeroCells z.cells (grownCap w (n + k) c e - (n + k))).toList).toArray e)) := by
  have hroom : ¬ (n + k ≤ c) := by omega
  have h63' : ¬ (9223372036854775807 < ((n : Int) + (k : Int))) := by omega
  have h48 := growslice_fits hg hfit
  have h48' : ¬ (281474976710656 < Builtin.nextslicecap (n + k) c * i.bytes) := by omega
  have fin : ∀ A A' : Array Value, A = A' → w.drew.alloc (Obj.cells A e) = w.drew.alloc (Obj.cells A' e) := fun A A' h => by rw [h]
  cases hs with
  | slice e' a' k c' news h1 h2 =>
    simp only [Builtin.append_] 
    simp [run_underlying ht, run_underlying hx, sizeOf, typeInfo, zeroValue, hi, hz, Builtin.lenOf, hroom, h63', h48', Question.forced, hold, h2, newRow, grownCap]
    exact fin _ _ (by apply Array.ext'; simp)
  | string s =>
    have h2 := firstCells_string (P := P) (w := w.drew) s i.size
    simp only [Builtin.append_] 
    simp [run_underlying ht, run_underlying hx, sizeOf, typeInfo, zeroValue, hi, hz, Builtin.lenOf, hroom, h63', h48', Question.forced, hold, h2, newRow, grownCap]
    exact fin _ _ (by apply Array.ext'; simp)
  | int q q' k h1 h2 =>
    have h2' : ¬ (281474976710656 < (k : Int) * (i.bytes : Int)) := by omega
    have hneg : ¬ ((k : Int) < 0) := by omega
    by_cases hk : k * i.size = 0
    · have hz0 : Builtin.zeroCells z.cells k = #[] := zeroCells_zero _ _ (by rw [hzs]; exact hk)
      simp only [Builtin.append_] 
      simp [run_underlying ht, run_underlying hx, sizeOf, typeInfo, zeroValue, hi, hz, asInt, asIntOf, wrap_nat h1, h2', hneg, hroom, h63', h48', Question.forced, hold, hk, hz0, newRow, grownCap]
      exact fin _ _ (by apply Array.ext'; simp)
    · simp only [Builtin.append_] 
      simp [run_underlying ht, run_underlying hx, sizeOf, typeInfo, zeroValue, hi, hz, asInt, asIntOf, wrap_nat h1, h2', hneg, hroom, h63', h48', Question.forced, hold, hk, newRow, grownCap]
      exact fin _ _ (by apply Array.ext'; simp)
end Go.Sh

/- One operation: append over the abstract memory. -/
namespace Go.Sh
open Go.RowKit
set_option linter.unusedVariables false
set_option linter.unusedSimpArgs false

variable {P : Program} {J : Inj} {m m' : Mem} {B : Nat} {W w w' : World}

theorem zeroCells_flatten (z : Array Value) (k : Nat) : (Builtin.zeroCells z k).toList = (List.replicate k z.toList).flatten := by
  induction k with
  | zero => rw [zeroCells_zero z 0 (by simp)]; simp
  | succ k ih =>
    have hr : List.replicate (k + 1) z.toList = List.replicate k z.toList ++ [z.toList] := by rw [List.replicate_succ']
    rw [hr, List.flatten_append, ← ih]
    unfold Builtin.zeroCells
    simp only [Array.toList_map, Array.toList_range, Nat.add_mul, Nat.one_mul, List.range_add, List.map_append, List.map_map, List.flatten_cons, List.flatten_nil, List.append_nil]
    congr 1
    apply List.ext_getElem?
    intro i
    simp only [List.getElem?_map]
    by_cases hi : i < z.size
    · rw [List.getElem?_range hi]
      have : (k * z.size + i) % z.size = i := by rw [Nat.mul_comm, Nat.mul_add_mod]; exact Nat.mod_eq_of_lt hi
      simp [this, hi]
    · rw [List.getElem?_eq_none (by simp; omega), List.getElem?_eq_none (by simp; omega)]
      rfl

theorem zeroCells_len {z : Value} {i : TypeInfo} (hzs : z.cells.size = i.size) (k : Nat) : (Builtin.zeroCells z.cells k).toList.length = k * i.size := by
  simp [Builtin.zeroCells, hzs]

/-- the elder cells, as the model reads them -/
theorem olds_run (h : MRel P J m B W w) {a : Addr} {a' : Addr} {n c' z : Nat} {b : Blk} (hb : m.readable a.block = some b) (hlen : a.off + n * z ≤ b.cells.length) (hs : a.spot = none)
    (ha : n = 0 ∨ a' = ⟨J.blk a.block, J.base a.block + a.off, none⟩) :
    ∃ olds, LRel J (window b.cells a.off (n * z)) olds ∧ (Builtin.firstCells z n (.slice (some a') n c')).run P w = .ok olds.toArray w ∧ (Builtin.firstCells z n (.slice (some a') n c')).run P w.drew = .ok olds.toArray w.drew := by
  have hl : loadRow m a (n * z) = some (window b.cells a.off (n * z)) := by
    unfold loadRow
    rw [hs]
    simp [hb, hlen]
  obtain ⟨h1, cs', h2, h3⟩ := h.loadRow hl
  refine ⟨cs', h2, ?_⟩
  have hcl : cs'.length = n * z := by rw [← h2.1]; exact h1
  rcases ha with rfl | rfl
  · have : cs' = [] := List.length_eq_zero_iff.1 (by simpa using hcl)
    subst this
    constructor <;> simp [Builtin.firstCells, loadCells, loadCellsFrom]
  · constructor
    · exact run_firstCells_some (P := P) w z n _ n c' cs' hcl fun j v hv => by rw [Addr.add_lit]; exact h3 j v hv
    · exact run_firstCells_some (P := P) w.drew z n _ n c' cs' hcl fun j v hv => by rw [Addr.add_lit]; exact h3 j v hv

theorem LRel.take {xs ys : List Value} (h : LRel J xs ys) (k : Nat) : LRel J (xs.take k) (ys.take k) :=
  ⟨by simp [h.1], fun i x y hx hy => by
    rw [List.getElem?_take] at hx hy
    split at hx
    · rw [if_pos (by assumption)] at hy; exact h.2 i x y hx hy
    · cases hx⟩

theorem append_core (h : MRel P J m B W w) {t tx ty e : TypeId} {i : TypeInfo} {z : Value} {dx : TypeDesc} {s s' x' v : Value} {k : Nat} {news news' : List Value} (ht : P.underlying t = some (.slice e)) (hi : P.info? e = some i)
    (hz : i.zero = some z) (hx : P.underlying tx = some dx) (hs : VRel J s s') (hr : LRel J news news') (hsrc : Src P w i z dx x' k news') (he : sappend P t m s news k = some (v, m')) :
    ∃ J' v' w', J.le J' ∧ (Builtin.append_ #[t, tx] ty #[s', x']).run P w = .ok v' w' ∧ VRel J' v v' ∧ MRel P J' m' B W w' := by
  unfold sappend at he
  rw [ht] at he
  simp only [hi] at he
  split at he
  · cases he
  · rename_i hchk
    simp only [Bool.not_eq_true, Bool.not_eq_false', Bool.and_eq_true, decide_eq_true_eq, hz, Option.any_some, beq_iff_eq] at hchk
    obtain ⟨⟨⟨hpos, hzs⟩, hnl⟩, hone⟩ := hchk
    have hnl' : news'.length = k * i.size := hr.1 ▸ hnl
    split at he
    · -- onto nil
      have hs' := hs.closed_eq rfl
      subst hs'
      split at he
      · rename_i hk
        have hk0 : k = 0 := by simpa using hk
        subst hk0
        simp only [Option.some.injEq, Prod.mk.injEq] at he
        obtain ⟨rfl, rfl⟩ := he
        exact ⟨J, _, w, .rfl J, append_nil0 ht hi hz hzs hx hsrc, .clo _ rfl, h⟩
      · rename_i hk
        have hk0 : k ≠ 0 := by simpa using hk
        split at he
        · rename_i hb
          simp only [Bool.and_eq_true, decide_eq_true_eq] at hb
          simp only [Option.some.injEq, Prod.mk.injEq] at he
          obtain ⟨rfl, rfl⟩ := he
          have hrun := append_grow (ty := ty) ht hi hz hzs (Or.inr trivial) hx hsrc none 0 0 [] (by simp [Builtin.firstCells]) (by omega) (by omega) (by simpa using hb.1)
          have hge := grownCap_ge w (0 + k) 0 e
          have hle := grownCap_le_maxLen w (0 + k) 0 e (by simp only [maxLen]; omega)
          simp only [maxLen] at hle
          have hm := h.drew.alloc hr (Builtin.zeroCells z.cells (grownCap w (0 + k) 0 e - (0 + k))).toList e i hi
          refine ⟨_, _, _, J.le_snoc _ _ _ _, hrun, ?_, hm⟩
          have hsl := snoc_slice h.drew w.heap.size (news.length + (Builtin.zeroCells z.cells (grownCap w (0 + k) 0 e - (0 + k))).toList.length) i.size 0 k k (grownCap w (0 + k) 0 e) (by omega) hle
            (by rw [zeroCells_len hzs, hnl, ← Nat.add_mul, Nat.zero_add]; congr 1; omega)
          simpa using hsl
        · cases he
    · -- onto a slice
      rename_i ad n c
      obtain ⟨s1, s2, a', c', rfl, s4, s5, s6, s7⟩ := hs.slice_inv
      obtain ⟨l, of, sp⟩ := ad
      simp only at s1 s2 s6 s7 he
      subst s1
      split at he
      · rename_i hb
        simp only [Option.isNone_none, Bool.and_eq_true, decide_eq_true_eq, true_and] at hb
        split at he
        · cases he
        · rename_i b hw
          obtain ⟨w1, w2, w3, w4⟩ := h.wr _ _ hw
          have hrd := Mem.readable_of_writable hw
          obtain ⟨i2, q1, q2⟩ := h.esz _ _ (Mem.writable_iff.1 hw).1
          split at he
          · cases he
          · rename_i hel
            have hel' : b.elem = e := by simpa using hel
            rw [hel', hi] at q1
            simp only [Option.some.injEq] at q1
            subst q1
            split at he
            · -- nothing is appended
              rename_i hk
              have hk0 : k = 0 := by simpa using hk
              subst hk0
              simp only [Option.some.injEq, Prod.mk.injEq] at he
              obtain ⟨rfl, rfl⟩ := he
              have hn0 : news' = [] := List.length_eq_zero_iff.1 (by simpa using hnl')
              subst hn0
              refine ⟨J, _, w, .rfl J, append_room ht hi hz hzs hx hsrc a' n c' (by omega) w (by simp [storeCells]), ?_, h⟩
              exact .slice l of n c a' c' s2 s4 s5 s6 s7
            · rename_i hk
              have hk0 : k ≠ 0 := by simpa using hk
              rw [← q2] at s6
              split at he
              · -- in place, over cells that are known
                rename_i hfit
                simp only [Option.some.injEq, Prod.mk.injEq] at he
                obtain ⟨rfl, rfl⟩ := he
                have hroom : n + k ≤ c' := by
                  have h1 : (n + k) * i.size ≤ c' * i.size := by rw [Nat.add_mul]; omega
                  exact Nat.le_of_mul_le_mul_right h1 hpos
                have ha' := s7.resolve_left (by omega)
                rw [w2, Nat.zero_add] at ha'
                subst ha'
                have hst := run_storeCells_rel h hw hr hfit hone
                refine ⟨J, _, _, .rfl J, append_room ht hi hz hzs hx hsrc _ n c' hroom _ (by rw [Addr.add_lit]; exact hst), ?_, h.setCells hw hr hfit⟩
                exact .slice l of (n + k) (n + k) _ c' s2 hroom s5 (by rw [← q2]; exact s6) (Or.inr (by rw [w2, Nat.zero_add]))
              · rename_i hnofit
                split at he
                · rename_i hend
                  simp only [Bool.and_eq_true, decide_eq_true_eq, beq_iff_eq] at hend
                  obtain ⟨hend, rfl⟩ := hend
                  simp only [Nat.zero_add] at hend hnofit s6
                  simp only [Option.some.injEq, Prod.mk.injEq] at he
                  obtain ⟨rfl, rfl⟩ := he
                  rw [w2] at s7
                  by_cases hroom : n + k ≤ c'
                  · -- there is room
                    have ha' := s7.resolve_left (by omega)
                    simp only [Nat.add_zero] at ha'
                    subst ha'
                    have hfit2 : n * i.size + news'.length ≤ J.ext l := by
                      rw [hnl', ← Nat.add_mul, ← s6]; exact Nat.mul_le_mul_right _ hroom
                    have hst := run_storeCells_cells (P := P) (J.blk l) (n * i.size) news' 0 w (fun j hj => (w4 _ (by omega)).1) (fun j hj => (w4 _ (by omega)).2) (fun u hu => by
                      obtain ⟨q, hq⟩ := List.getElem?_of_mem hu
                      obtain ⟨y, hy, hyu⟩ := hr.get' hq
                      exact hyu.one (List.all_eq_true.1 hone y (List.mem_of_getElem? hy)))
                    simp only [Nat.add_zero] at hst
                    have hin := World.cell?_setCells_in (J.blk l) news' (n * i.size) w (fun j hj => (w4 _ (by omega)).1)
                    have hJl : J.blk l < (w.setCells (J.blk l) (n * i.size) news').heap.size := by rw [heap_size_setCells]; exact h.blk _ _ hrd
                    have hsome : ∀ x : Addr, (w.cell? x).isSome = true → ((w.setCells (J.blk l) (n * i.size) news').cell? x).isSome = true := by
                      intro x hx
                      by_cases hin2 : x.block = J.blk l ∧ x.spot = none ∧ n * i.size ≤ x.off ∧ x.off < n * i.size + news'.length
                      · obtain ⟨e1, e2, e3, e4⟩ := hin2
                        have := hin (x.off - n * i.size) (by omega)
                        rw [show n * i.size + (x.off - n * i.size) = x.off by omega] at this
                        have hxx : x = ⟨J.blk l, x.off, none⟩ := by cases x; simp_all
                        rw [hxx, this]; rfl
                      · rw [World.cell?_setCells_out _ _ _ _ _ (fun e1 e2 => by
                          by_cases g : x.off < n * i.size
                          · exact Or.inl g
                          · exact Or.inr (Nat.le_of_not_lt fun g2 => hin2 ⟨e1, e2, by omega, g2⟩))]
                        exact hx
                    have hm := h.extend (w' := w.setCells (J.blk l) (n * i.size) news') hw (n * i.size) hend news (J.blk l) (J.ext l) (by rw [hnl] at *; omega) w1 hJl (by rw [heap_size_setCells]; omega) (below_setCells w1 _ _ _ h.below)
                      (by rw [hr.1]; exact hfit2) (fun x hx hxo => World.cell?_setCells_out _ _ _ _ _ (fun e1 e2 => Or.inl (hxo e1))) (fun x _ hx => hsome x hx) (fun x _ => World.frozen?_setCells _ _ _ _ x) (fun k _ hk => heap_setCells _ _ _ _ k hk) (Or.inl rfl)
                      (fun e1 => by have := h.blk _ _ hrd; omega) (fun j hj => ⟨hsome _ (w4 j hj).1, by rw [World.frozen?_setCells]; exact (w4 j hj).2⟩)
                      (fun j u hu => by
                        by_cases hj : j < n * i.size
                        · rw [List.getElem?_append_left (by simp; omega), List.getElem?_take, if_pos hj] at hu
                          obtain ⟨v', g1, g2⟩ := h.rd _ _ hrd j u hu
                          rw [w2, Nat.zero_add] at g1
                          exact ⟨v', by rw [World.cell?_setCells_out _ _ _ _ _ (fun _ _ => Or.inl hj)]; exact g1, g2⟩
                        · rw [List.getElem?_append_right (by simp; omega)] at hu
                          have hlt : (b.cells.take (n * i.size)).length = n * i.size := by simp; omega
                          rw [hlt] at hu
                          obtain ⟨y, hy, hyu⟩ := hr.get hu
                          have hjl := (List.getElem?_eq_some_iff.1 hy).1
                          have := hin (j - n * i.size) hjl
                          rw [show n * i.size + (j - n * i.size) = j by omega] at this
                          refine ⟨y, ?_, hyu⟩
                          rw [this]
                          have := (List.getElem?_eq_some_iff.1 hy).2
                          rw [this])
                    refine ⟨_, _, _, J.le_snoc _ _ _ _, append_room ht hi hz hzs hx hsrc _ n c' hroom _ (by rw [Addr.add_lit, Nat.zero_add]; exact hst), ?_, hm⟩
                    exact snoc_slice h (J.blk l) (J.ext l) (J.esz l) 0 (n + k) (n + k) c' hroom s5 (by rw [← q2, Nat.zero_add]; exact s6)
                  · -- there is none
                    obtain ⟨olds, ho1, ho2, ho3⟩ := olds_run (a' := a') (c' := c') (z := i.size) (n := n) h (a := ⟨l, 0, none⟩) hrd (by simpa using hend) rfl (by
                      rcases s7 with g | g
                      · exact Or.inl (by omega)
                      · exact Or.inr (by rw [g, w2]))
                    have hrun := append_grow (ty := ty) ht hi hz hzs (Or.inr trivial) hx hsrc (some a') n c' olds ho3 (by omega) (by omega) hb.1
                    have hge := grownCap_ge w (n + k) c' e
                    have hle := grownCap_le_maxLen w (n + k) c' e (by simp only [maxLen]; omega)
                    simp only [maxLen] at hle
                    have hol : olds.length = n * i.size := by rw [← ho1.1]; exact window_length (by simpa using hend)
                    generalize hZ : (Builtin.zeroCells z.cells (grownCap w (n + k) c' e - (n + k))).toList = Z at hrun
                    have hZl : Z.length = (grownCap w (n + k) c' e - (n + k)) * i.size := by rw [← hZ]; exact zeroCells_len hzs _
                    have hcell : ∀ j, (w.drew.alloc (.cells ((olds ++ news') ++ Z).toArray e)).cell? ⟨w.heap.size, j, none⟩ = ((olds ++ news') ++ Z)[j]? := by
                      intro j
                      have hal : (w.drew.alloc (.cells ((olds ++ news') ++ Z).toArray e)).heap[w.heap.size]? = some (.cells ((olds ++ news') ++ Z).toArray e) := heap_alloc_new w.drew _
                      unfold World.cell?
                      simp only [hal]
                      simp
                    have hfro : ∀ j, (w.drew.alloc (.cells ((olds ++ news') ++ Z).toArray e)).frozen? ⟨w.heap.size, j, none⟩ = false := by
                      intro j
                      have hal : (w.drew.alloc (.cells ((olds ++ news') ++ Z).toArray e)).heap[w.heap.size]? = some (.cells ((olds ++ news') ++ Z).toArray e) := heap_alloc_new w.drew _
                      unfold World.frozen?
                      simp only [hal]
                      simp
                    have hsz : (w.drew.alloc (.cells ((olds ++ news') ++ Z).toArray e)).heap.size = w.heap.size + 1 := by show (w.heap.push _).size = _; simp
                    have hold : ∀ x : Addr, x.block < w.heap.size → (w.drew.alloc (.cells ((olds ++ news') ++ Z).toArray e)).cell? x = w.cell? x := fun x hx => World.cell?_of_block (w := w) (Below.heap_alloc w.drew _ _ hx)
                    have hfold : ∀ x : Addr, x.block < w.heap.size → (w.drew.alloc (.cells ((olds ++ news') ++ Z).toArray e)).frozen? x = w.frozen? x := fun x hx => World.frozen?_of_block (w := w) (Below.heap_alloc w.drew _ _ hx)
                    have hext : n * i.size + news'.length + Z.length = grownCap w (n + k) c' e * i.size := by
                      rw [hnl', hZl, ← Nat.add_mul, ← Nat.add_mul]; congr 1; omega
                    have hm := h.extend (w' := w.drew.alloc (.cells ((olds ++ news') ++ Z).toArray e)) hw (n * i.size) hend news w.heap.size (grownCap w (n + k) c' e * i.size) (by rw [hnl] at *; omega) h.size (by rw [hsz]; omega) (by rw [hsz]; omega)
                      (h.drew.below.alloc h.size _) (by rw [hr.1]; omega) (fun x hx _ => hold x hx) (fun x hx g => by rw [hold x hx]; exact g) (fun x hx => hfold x hx) (fun k hk _ => Below.heap_alloc w.drew _ k hk) (Or.inr rfl) (fun _ x hx => hold x hx)
                      (fun j hj => ⟨by rw [hcell, List.getElem?_eq_getElem (by simp [hol]; omega)]; rfl, hfro j⟩)
                      (fun j u hu => by
                        have hww : window b.cells 0 (n * i.size) = b.cells.take (n * i.size) := by simp [window]
                        rw [hww] at ho1
                        have hboth := ho1.append hr
                        obtain ⟨y, hy, hyu⟩ := hboth.get hu
                        refine ⟨y, ?_, hyu⟩
                        rw [hcell, List.getElem?_append_left (List.getElem?_eq_some_iff.1 hy).1]
                        exact hy)
                    refine ⟨_, _, _, J.le_snoc _ _ _ _, hrun, ?_, hm⟩
                    exact snoc_slice h w.heap.size (grownCap w (n + k) c' e * i.size) (J.esz l) 0 (n + k) (n + k) _ hge hle (by rw [← q2, Nat.zero_add])
                · cases he
      · cases he
    · cases he
end Go.Sh

/- One operation: the rest, and all together. -/
namespace Go.Sh
open Go.RowKit
set_option linter.unusedVariables false
set_option linter.unusedSimpArgs false

variable {P : Program} {J : Inj} {m m' : Mem} {B : Nat} {W w w' : World}
section
variable {o : Oper} {a : Act} {v : Value} {ρ : Operand → Value}

theorem zerosOf_inv {e : TypeId} {k : Nat} {zl : List Value} (h : zerosOf P e k = some zl) : ∃ i z, P.info? e = some i ∧ i.zero = some z ∧ closedA z.cells = true ∧ z.cells.size = i.size ∧ k * i.bytes ≤ 281474976710656 ∧ zl = (Builtin.zeroCells z.cells k).toList := by
  unfold zerosOf at h
  split at h
  · rename_i i hi
    split at h
    · rename_i z hz
      split at h
      · rename_i hc
        simp only [Bool.and_eq_true, beq_iff_eq, decide_eq_true_eq] at hc
        simp only [Option.some.injEq] at h
        exact ⟨i, z, hi, hz, hc.1.1, hc.1.2, hc.2, by rw [zeroCells_flatten]; exact h.symm⟩
      · cases h
    · cases h
  · cases h

theorem closed_zeros {z : Value} (hc : closedA z.cells = true) (k : Nat) : LRel J (Builtin.zeroCells z.cells k).toList (Builtin.zeroCells z.cells k).toList := by
  rw [zeroCells_flatten]
  refine LRel.of_closed ?_
  rw [closedL_iff]
  intro v hv
  obtain ⟨l, hl, hv⟩ := List.mem_flatten.1 hv
  have := (List.mem_replicate.1 hl).2
  subst this
  obtain ⟨i, hi⟩ := List.getElem?_of_mem hv
  exact (closedA_iff _).1 hc i v (by simpa using hi)

theorem call_append_run {s x : Operand} {ts tx : TypeId} (ho : o.op = .call { callee := .builtin .append, args := #[s, x], argTypes := #[ts, tx] }) {v' : Value}
    (hr : (Builtin.append_ #[ts, tx] o.type #[a.eval s, a.eval x]).run P w = .ok v' w') : (execOp a.eval o).run P w = .ok (.value v') w' := by
  simp [execOp, ho, resolve, invoke, builtin, hr]

theorem y_append_zeros (h : MRel P J m B W w) {s x : Operand} {ts tx e : TypeId} {dx : IntKind} (ho : o.op = .call { callee := .builtin .append, args := #[s, x], argTypes := #[ts, tx] }) (hs : VRel J (ρ s) (a.eval s)) (hx : VRel J (ρ x) (a.eval x))
    (ht : P.underlying ts = some (.slice e)) (htx : P.underlying tx = some (.int dx)) {k : Nat} (hk : natOf (ρ x) = some k) {zl : List Value} (hz : zerosOf P e k = some zl) (he : sappend P ts m (ρ s) zl k = some (v, m')) : Yields P J m' B W o a w v := by
  obtain ⟨i, z, q1, q2, q3, q4, q5, rfl⟩ := zerosOf_inv hz
  obtain ⟨kd, hx', hkb⟩ := hx.nat_inv hk
  obtain ⟨J', v', w', r1, r2, r3, r4⟩ := append_core (ty := o.type) h ht q1 q2 htx hs (closed_zeros q3 k) (x' := a.eval x) (by rw [hx']; exact .int dx kd k hkb (by rw [← Int.natCast_mul]; omega)) he
  exact ⟨J', _, v', w', r1, call_append_run ho r2, .inl rfl, r3, r4⟩

theorem sappend_len {t e : TypeId} {i : TypeInfo} {s : Value} {news : List Value} {k : Nat} (ht : P.underlying t = some (.slice e)) (hi : P.info? e = some i) (he : sappend P t m s news k = some (v, m')) : news.length = k * i.size ∧ 0 < i.size ∧ ∃ z, i.zero = some z := by
  unfold sappend at he
  rw [ht] at he
  simp only [hi] at he
  split at he
  · cases he
  · rename_i hchk
    simp only [Bool.not_eq_true, Bool.not_eq_false', Bool.and_eq_true, decide_eq_true_eq, beq_iff_eq] at hchk
    refine ⟨hchk.1.2, hchk.1.1.1, ?_⟩
    have := hchk.1.1.2
    cases hz : i.zero with
    | none => simp [hz] at this
    | some z => exact ⟨z, rfl⟩

theorem y_append_news (h : MRel P J m B W w) {s x : Operand} {ts tx : TypeId} (ho : o.op = .call { callee := .builtin .append, args := #[s, x], argTypes := #[ts, tx] }) (hs : VRel J (ρ s) (a.eval s)) (hx : VRel J (ρ x) (a.eval x))
    {news : List Value} {k : Nat} (hn : newsOf P m tx (ρ x) = some (news, k)) (he : sappend P ts m (ρ s) news k = some (v, m')) : Yields P J m' B W o a w v := by
  have ht : ∃ e i, P.underlying ts = some (.slice e) ∧ P.info? e = some i := by
    unfold sappend at he
    split at he
    · rename_i e ht
      cases hi : P.info? e with
      | none => simp [hi] at he
      | some i => exact ⟨e, i, ht, hi⟩
    · cases he
  obtain ⟨e, i, ht, hi⟩ := ht
  obtain ⟨hlen, hpos, z, hz⟩ := sappend_len ht hi he
  unfold newsOf at hn
  split at hn
  · rename_i e' htx
    split at hn
    · -- nil
      rename_i hx0
      simp only [Option.some.injEq, Prod.mk.injEq] at hn
      obtain ⟨rfl, rfl⟩ := hn
      have hx' := hx.closed_eq (by rw [hx0]; rfl)
      rw [hx0] at hx'
      obtain ⟨J', v', w', r1, r2, r3, r4⟩ := append_core (ty := o.type) h ht hi hz htx hs LRel.nil (x' := a.eval x) (by rw [hx']; exact .slice e' none 0 0 [] (by simp [Builtin.firstCells]) (by simp [Builtin.firstCells])) he
      exact ⟨J', _, v', w', r1, call_append_run ho r2, .inl rfl, r3, r4⟩
    · rename_i z' ad n c hz' hx0
      split at hn
      · cases hn
      · rename_i hn0
        have hn0' : n ≠ 0 := by simpa using hn0
        simp only [Option.map_eq_some_iff, Prod.mk.injEq] at hn
        obtain ⟨cs, hl, rfl, rfl⟩ := hn
        rw [hx0] at hx
        obtain ⟨s1, s2, a', c', s3, s4, s5, s6, s7⟩ := hx.slice_inv
        have ha' := s7.resolve_left (by omega)
        obtain ⟨q1, cs', q2, q3⟩ := h.loadRow hl
        have hcl : cs'.length = n * i.size := by rw [← q2.1]; exact hlen
        have hsrc : Src P w i z (.slice e') (a.eval x) n cs' := by
          rw [s3, ha']
          exact .slice e' _ n c' cs' (run_firstCells_some (P := P) w i.size n _ n c' cs' hcl fun j v hv => by rw [Addr.add_lit]; exact q3 j v hv)
            (run_firstCells_some (P := P) w.drew i.size n _ n c' cs' hcl fun j v hv => by rw [Addr.add_lit]; exact q3 j v hv)
        obtain ⟨J', v', w', r1, r2, r3, r4⟩ := append_core (ty := o.type) h ht hi hz htx hs q2 (x' := a.eval x) hsrc he
        exact ⟨J', _, v', w', r1, call_append_run ho r2, .inl rfl, r3, r4⟩
    · cases hn
  · rename_i htx
    split at hn
    · rename_i s0 hx0
      simp only [Option.some.injEq, Prod.mk.injEq] at hn
      obtain ⟨rfl, rfl⟩ := hn
      have hx' := hx.closed_eq (by rw [hx0]; rfl)
      rw [hx0] at hx'
      have hcl : LRel J (s0.data.map fun b => Value.int .u8 b.toNat).toList (s0.data.map fun b => Value.int .u8 b.toNat).toList := by
        refine LRel.of_closed ?_
        rw [closedL_iff]
        intro u hu
        simp at hu
        obtain ⟨b, _, rfl⟩ := hu
        rfl
      obtain ⟨J', v', w', r1, r2, r3, r4⟩ := append_core (ty := o.type) h ht hi hz htx hs hcl (x' := a.eval x) (by rw [hx']; exact .string s0) he
      exact ⟨J', _, v', w', r1, call_append_run ho r2, .inl rfl, r3, r4⟩
    · cases hn
  · cases hn

theorem y_len_slice (h : MRel P J m B W w) {x : Operand} {t e : TypeId} (ho : o.op = .call { callee := .builtin .len, args := #[x], argTypes := #[t] }) {ao : Option Addr} {n c : Nat} (hx : VRel J (.slice ao n c) (a.eval x)) (ht : P.underlying t = some (.slice e)) :
    Yields P J m B W o a w (.int .i64 n) := by
  have hx' : ∃ ao' c', a.eval x = .slice ao' n c' := by
    cases ao with
    | none => generalize a.eval x = y at hx; cases hx with | clo _ hc => exact ⟨_, _, rfl⟩
    | some ad => obtain ⟨_, _, a', c', h3, _⟩ := hx.slice_inv; exact ⟨_, _, h3⟩
  obtain ⟨ao', c', hx'⟩ := hx'
  refine yields_same h (.clo _ rfl) (v' := .int .i64 n) ?_
  simp [execOp, ho, resolve, invoke, builtin, Builtin.len_, run_underlying ht, hx', goInt]

theorem y_len_string (h : MRel P J m B W w) {x : Operand} {t : TypeId} (ho : o.op = .call { callee := .builtin .len, args := #[x], argTypes := #[t] }) {s : ByteArray} (hx : VRel J (.string s) (a.eval x)) (ht : P.underlying t = some .string) :
    Yields P J m B W o a w (.int .i64 s.size) := by
  have hx' := hx.closed_eq rfl
  refine yields_same h (.clo _ rfl) (v' := .int .i64 s.size) ?_
  simp [execOp, ho, resolve, invoke, builtin, Builtin.len_, run_underlying ht, hx', goInt]

theorem y_copy0 (h : MRel P J m B W w) {d x : Operand} {ts tx e : TypeId} (ho : o.op = .call { callee := .builtin .copy, args := #[d, x], argTypes := #[ts, tx] }) {da sa : Addr} {dn dc sn sc z : Nat} (hd : VRel J (.slice (some da) dn dc) (a.eval d)) (hx : VRel J (.slice (some sa) sn sc) (a.eval x))
    (ht : P.underlying ts = some (.slice e)) (hz : sizeOfT P e = some z) (h0 : Nat.min sn dn = 0) : Yields P J m B W o a w (.int .i64 0) := by
  obtain ⟨_, _, da', dc', d3, _⟩ := hd.slice_inv
  obtain ⟨_, _, sa', sc', s3, _⟩ := hx.slice_inv
  refine yields_same h (.clo _ rfl) (v' := .int .i64 0) ?_
  have hf : (Builtin.firstCells z 0 (.slice (some sa') sn sc')).run P w = .ok #[] w := by simp [Builtin.firstCells, loadCells, loadCellsFrom]
  simp [execOp, ho, resolve, invoke, builtin, Builtin.copy_, run_underlying ht, d3, s3, Builtin.lenOf, h0, run_sizeOf hz, hf, storeCells, goInt]

theorem y_copy (h : MRel P J m B W w) {d x : Operand} {ts tx e : TypeId} (ho : o.op = .call { callee := .builtin .copy, args := #[d, x], argTypes := #[ts, tx] }) {da sa : Addr} {dn dc sn sc z : Nat} (hd : VRel J (.slice (some da) dn dc) (a.eval d)) (hx : VRel J (.slice (some sa) sn sc) (a.eval x))
    (ht : P.underlying ts = some (.slice e)) (hz : sizeOfT P e = some z) (h0 : Nat.min sn dn ≠ 0) {cs : List Value} (hl : loadRow m sa (Nat.min sn dn * z) = some cs) (hst : storeRow m da cs = some m') : Yields P J m' B W o a w (.int .i64 (Nat.min sn dn)) := by
  obtain ⟨_, _, da', dc', d3, d4, _, _, d7⟩ := hd.slice_inv
  obtain ⟨_, _, sa', sc', s3, s4, _, _, s7⟩ := hx.slice_inv
  have hmin : Nat.min sn dn ≤ sn ∧ Nat.min sn dn ≤ dn := ⟨Nat.min_le_left _ _, Nat.min_le_right _ _⟩
  have hda := d7.resolve_left (by omega)
  have hsa := s7.resolve_left (by omega)
  obtain ⟨q1, cs', q2, q3⟩ := h.loadRow hl
  obtain ⟨_, b, hw, hlen, h1s, rfl⟩ := storeRow_inv hst
  obtain ⟨w1, w2, w3, w4⟩ := h.wr _ _ hw
  have hcl : cs'.length = Nat.min sn dn * z := by rw [← q2.1]; exact q1
  have hf := run_firstCells_some (P := P) w z (Nat.min sn dn) sa' sn sc' cs' hcl fun j v hv => by rw [hsa, Addr.add_lit]; exact q3 j v hv
  have hrun := run_storeCells_rel h hw q2 hlen h1s
  refine ⟨J, .value (.int .i64 (Nat.min sn dn)), _, _, .rfl J, ?_, .inl rfl, .clo _ rfl, h.setCells hw q2 hlen⟩
  rw [w2, Nat.zero_add] at hda
  simp [execOp, ho, resolve, invoke, builtin, Builtin.copy_, run_underlying ht, d3, s3, Builtin.lenOf, run_sizeOf hz, hf, hda, hrun, goInt]

theorem y_makeSlice (h : MRel P J m B W w) {t e : TypeId} {l c : Operand} (ho : o.op = .makeSlice t l c) {xl xc : Value} {ln cp : Nat} {i : TypeInfo} {zl : List Value} (hl : VRel J xl (a.eval l)) (hc : VRel J xc (a.eval c)) (hln : natOf xl = some ln) (hcp : natOf xc = some cp)
    (ht : P.underlying t = some (.slice e)) (hi : P.info? e = some i) (hz : zerosOf P e ln = some zl) (hpos : 0 < i.size) (hle : ln ≤ cp) (h48 : cp * i.bytes ≤ 281474976710656) :
    Yields P J (m.new zl e) B W o a w (.slice (some ⟨m.next, 0, none⟩) ln ln) := by
  obtain ⟨i', z, q1, q2, q3, q4, q5, rfl⟩ := zerosOf_inv hz
  rw [hi] at q1
  simp only [Option.some.injEq] at q1
  subst q1
  obtain ⟨kl, hl', hlb⟩ := hl.nat_inv hln
  obtain ⟨kc, hc', hcb⟩ := hc.nat_inv hcp
  have hsplit : (Builtin.zeroCells z.cells ln).toList ++ (Builtin.zeroCells z.cells (cp - ln)).toList = (Builtin.zeroCells z.cells cp).toList := by
    rw [zeroCells_flatten, zeroCells_flatten, zeroCells_flatten, ← List.flatten_append, List.replicate_append_replicate, show ln + (cp - ln) = cp by omega]
  have hm := h.alloc (closed_zeros q3 ln) (Builtin.zeroCells z.cells (cp - ln)).toList e i hi
  rw [hsplit] at hm
  have h48' : ¬ (281474976710656 < (i.bytes : Int) * (cp : Int)) := by
    have : (i.bytes : Int) * (cp : Int) = ((cp * i.bytes : Nat) : Int) := by rw [Int.natCast_mul, Int.mul_comm]
    omega
  have hlc : ¬ ((cp : Int) < ln) := by omega
  have hn1 : ¬ ((cp : Int) < 0) := by omega
  have hn2 : ¬ ((ln : Int) < 0) := by omega
  refine ⟨_, .value (.slice (some ⟨w.heap.size, 0, none⟩) ln cp), _, _, J.le_snoc _ _ _ _, ?_, .inl rfl, ?_, hm⟩
  · have har : (execOp a.eval o).run P w = .ok (.value (.slice (some ⟨w.heap.size, 0, none⟩) ln cp)) (w.alloc (.cells (Builtin.zeroCells z.cells cp) e)) := by
      by_cases hz0 : cp * i.size = 0
      · have hzc : Builtin.zeroCells z.cells cp = #[] := zeroCells_zero _ _ (by rw [q4]; exact hz0)
        have hr0 : (Array.range 0 : Array Nat) = #[] := rfl
        rw [hzc]
        by_cases hroom : roomBytes < cp * i.bytes <;>
          simp [execOp, ho, Instr.makeSlice, run_underlying ht, hl', hc', asInt, asIntOf, typeInfo, sizeOf, hi, wrap_nat hlb, wrap_nat hcb, h48', hlc, hn1, hn2, askRoom, hroom, mark, Sem.run, hz0, hr0, newRow]
      · by_cases hroom : roomBytes < cp * i.bytes <;>
          simp [execOp, ho, Instr.makeSlice, run_underlying ht, hl', hc', asInt, asIntOf, typeInfo, sizeOf, zeroValue, hi, q2, wrap_nat hlb, wrap_nat hcb, h48', hlc, hn1, hn2, askRoom, hroom, mark, Sem.run, hz0, newRow, Builtin.zeroCells, q4]
    simpa using har
  · have := snoc_slice h w.heap.size ((Builtin.zeroCells z.cells ln).toList.length + (Builtin.zeroCells z.cells (cp - ln)).toList.length) i.size 0 ln ln cp hle (by omega) (by rw [zeroCells_len q4, zeroCells_len q4, ← Nat.add_mul, Nat.zero_add]; congr 1; omega)
    exact this

theorem run_sliceBound (k : IntKind) {i y : Nat} (code : BoundsCode) (h : i ≤ y) : (Instr.sliceBound (.int k i) y code).run P w = .ok i w := by
  have hc : (0 : Int) ≤ i ∧ (i : Int) ≤ y := by omega
  simp only [Instr.sliceBound, asIntOf, Sem.run_bind, Sem.run_pure, Result.andThen_ok, if_pos hc, Int.toNat_natCast]

theorem y_slice (h : MRel P J m B W w) {t e : TypeId} {x : Operand} {lo hi : Option Operand} (ho : o.op = .slice t x lo hi none) {ad : Addr} {n c z l k : Nat} {b : Blk} (hx : VRel J (.slice (some ad) n c) (a.eval x)) (ht : P.underlying t = some (.slice e)) (hz : sizeOfT P e = some z)
    (hlo : (∃ y xl, lo = some y ∧ VRel J xl (a.eval y) ∧ natOf xl = some l) ∨ (lo = none ∧ l = 0)) (hhi : (∃ y xh, hi = some y ∧ VRel J xh (a.eval y) ∧ natOf xh = some k) ∨ (hi = none ∧ k = n)) (hb : m.blks.get ad.block = some b) (hbe : b.elem = e) (h1 : l ≤ k) (h2 : k ≤ n) :
    Yields P J m B W o a w (.slice (some { ad with off := ad.off + l * z }) (k - l) (k - l)) := by
  obtain ⟨s1, s2, a', c', s3, s4, s5, s6, s7⟩ := hx.slice_inv
  obtain ⟨bl, of, sp⟩ := ad
  simp only at s1 s2 s6 s7 hb ⊢
  subst s1
  obtain ⟨i, q1, q2⟩ := h.esz _ _ hb
  have hzi : z = J.esz bl := by
    rw [hbe] at q1
    unfold sizeOfT at hz
    rw [q1] at hz
    simp at hz
    rw [← hz, q2]
  subst hzi
  have hrun : (execOp a.eval o).run P w = .ok (.value (.slice (some (if c' = l then a' else a'.add (l * J.esz bl))) (k - l) (c' - l))) w := by
    rcases hlo with ⟨y, xl, rfl, g1, g2⟩ | ⟨rfl, rfl⟩ <;> rcases hhi with ⟨y2, xh, rfl, g3, g4⟩ | ⟨rfl, rfl⟩
    · obtain ⟨k1, e1, _⟩ := g1.nat_inv g2
      obtain ⟨k2, e2, _⟩ := g3.nat_inv g4
      have B1 := fun cd => run_sliceBound (P := P) (w := w) k2 (i := k) (y := c') cd (by omega)
      have B2 := fun cd => run_sliceBound (P := P) (w := w) k1 (i := l) (y := k) cd h1
      by_cases hc : c' = l <;> simp [execOp, ho, Instr.sliceAt, Instr.slice, Instr.sliceBounds, run_underlying ht, s3, e1, e2, B1, B2, hc, run_sizeOf hz]
      subst hc
      simp [B1, B2, run_sizeOf hz]
    · obtain ⟨k1, e1, _⟩ := g1.nat_inv g2
      have B2 := fun cd => run_sliceBound (P := P) (w := w) k1 (i := l) (y := k) cd h1
      by_cases hc : c' = l <;> simp [execOp, ho, Instr.sliceAt, Instr.slice, Instr.sliceBounds, run_underlying ht, s3, e1, B2, hc, run_sizeOf hz]
    · obtain ⟨k2, e2, _⟩ := g3.nat_inv g4
      have B1 := fun cd => run_sliceBound (P := P) (w := w) k2 (i := k) (y := c') cd (by omega)
      by_cases hc : c' = 0 <;> simp [execOp, ho, Instr.sliceAt, Instr.slice, Instr.sliceBounds, run_underlying ht, s3, e2, B1, hc, run_sizeOf hz]
      subst hc
      simp [B1, run_sizeOf hz]
    · by_cases hc : c' = 0 <;> simp [execOp, ho, Instr.sliceAt, Instr.slice, Instr.sliceBounds, run_underlying ht, s3, hc, run_sizeOf hz]
  refine yields_same h ?_ hrun
  refine .slice bl (of + l * J.esz bl) (k - l) (k - l) _ (c' - l) s2 (by omega) (by omega) ?_ ?_
  · rw [Nat.add_assoc, ← Nat.add_mul, show l + (c' - l) = c' by omega]; exact s6
  · by_cases hc : c' = l
    · exact Or.inl (by omega)
    · refine Or.inr ?_
      rw [if_neg hc, s7.resolve_left (by omega), Addr.add_lit, Nat.add_assoc]

theorem run_eql_of {t : TypeId} {x y : Value} {b : Bool} (hm : binOp .eql t x y = (do pure (.bool (← Op.equal t x y)))) (hn : binOp .neq t x y = (do pure (.bool (!(← Op.equal t x y))))) (hq : (Op.equal t x y).run P w = .ok b w) :
    ∀ op', op' = BinOp.eql ∨ op' = BinOp.neq → (binOp op' t x y).run P w = .ok (.bool (if op' = .eql then b else !b)) w := by
  intro op' hop
  rcases hop with rfl | rfl
  · rw [hm]; simp [hq]
  · rw [hn]; simp [hq]

theorem equal_step (t : TypeId) (x y : Value) : Op.equal t x y = Op.equalIn (9999 + 1) t x y := rfl

theorem y_boolEq (h : MRel P J m B W w) {op : BinOp} {t yt : TypeId} {x y : Operand} (ho : o.op = .binOp op t x y yt) {b : Bool} (hb : boolEq op b = some v) (hg : (eqGuard op t x y (a.eval x) (a.eval y)).run P w = .ok () w)
    (he : ∀ op', op' = .eql ∨ op' = .neq → (binOp op' t (a.eval x) (a.eval y)).run P w = .ok (.bool (if op' = .eql then b else !b)) w) : Yields P J m B W o a w v := by
  unfold boolEq at hb
  cases op <;> simp at hb
  · subst hb
    refine yields_same h (.clo _ rfl) (v' := .bool b) ?_
    simp [execOp, ho, hg, he .eql (Or.inl rfl)]
  · subst hb
    refine yields_same h (.clo _ rfl) (v' := .bool (!b)) ?_
    simp [execOp, ho, hg, he .neq (Or.inr rfl)]

theorem y_eq_ptr (h : MRel P J m B W w) {op : BinOp} {t yt e : TypeId} {x y : Operand} (ho : o.op = .binOp op t x y yt) (ht : P.underlying t = some (.pointer e)) (hb : boolEq op false = some v)
    (hxy : (∃ ad, VRel J (.pointer (some ad)) (a.eval x) ∧ VRel J (.pointer none) (a.eval y)) ∨ (∃ ad, VRel J (.pointer none) (a.eval x) ∧ VRel J (.pointer (some ad)) (a.eval y))) : Yields P J m B W o a w v := by
  rcases hxy with ⟨ad, g1, g2⟩ | ⟨ad, g1, g2⟩
  · obtain ⟨_, _, e1⟩ := g1.ptr_inv
    have e2 := g2.closed_eq rfl
    refine y_boolEq h ho hb ?_ ?_
    · rw [e1, e2]; unfold eqGuard; split <;> simp
    · intro op' hop
      rw [e1, e2]
      exact run_eql_of rfl rfl (by rw [equal_step, Op.equalIn]; simp [run_underlying ht]) op' hop
  · obtain ⟨_, _, e2⟩ := g2.ptr_inv
    have e1 := g1.closed_eq rfl
    refine y_boolEq h ho hb ?_ ?_
    · rw [e1, e2]; unfold eqGuard; split <;> simp
    · intro op' hop
      rw [e1, e2]
      exact run_eql_of rfl rfl (by rw [equal_step, Op.equalIn]; simp [run_underlying ht]) op' hop

theorem y_eq_slice (h : MRel P J m B W w) {op : BinOp} {t yt e : TypeId} {x y : Operand} (ho : o.op = .binOp op t x y yt) (ht : P.underlying t = some (.slice e)) (hb : boolEq op false = some v)
    (hxy : (∃ ad n c, VRel J (.slice (some ad) n c) (a.eval x) ∧ VRel J (.slice none 0 0) (a.eval y)) ∨ (∃ ad n c, VRel J (.slice none 0 0) (a.eval x) ∧ VRel J (.slice (some ad) n c) (a.eval y))) : Yields P J m B W o a w v := by
  rcases hxy with ⟨ad, n, c, g1, g2⟩ | ⟨ad, n, c, g1, g2⟩
  · obtain ⟨_, _, a', c', e1, _⟩ := g1.slice_inv
    have e2 := g2.closed_eq rfl
    refine y_boolEq h ho hb ?_ ?_
    · rw [e1, e2]; unfold eqGuard; split <;> simp
    · intro op' hop
      rw [e1, e2]
      exact run_eql_of rfl rfl (by rw [equal_step, Op.equalIn]; simp [run_underlying ht]) op' hop
  · obtain ⟨_, _, a', c', e2, _⟩ := g2.slice_inv
    have e1 := g1.closed_eq rfl
    refine y_boolEq h ho hb ?_ ?_
    · rw [e1, e2]; unfold eqGuard; split <;> simp
    · intro op' hop
      rw [e1, e2]
      exact run_eql_of rfl rfl (by rw [equal_step, Op.equalIn]; simp [run_underlying ht]) op' hop

theorem VRel.iface_inv {t : TypeId} {u : Value} {v' : Value} (r : VRel J (.iface t u) v') : ∃ u', v' = .iface t u' ∧ VRel J u u' := by
  cases r with
  | clo _ h => exact ⟨u, rfl, .clo _ (by simpa [closedV] using h)⟩
  | iface t v v' h => exact ⟨v', rfl, h⟩

theorem y_eq_iface (h : MRel P J m B W w) {op : BinOp} {t yt : TypeId} {ms : Array (String × TypeId)} {x y : Operand} (ho : o.op = .binOp op t x y yt) (ht : P.underlying t = some (.interface ms)) (hb : boolEq op false = some v)
    (hxy : (∃ q u, VRel J (.iface q u) (a.eval x) ∧ VRel J .nilIface (a.eval y)) ∨ (∃ q u, VRel J .nilIface (a.eval x) ∧ VRel J (.iface q u) (a.eval y))) : Yields P J m B W o a w v := by
  rcases hxy with ⟨q, u, g1, g2⟩ | ⟨q, u, g1, g2⟩
  · obtain ⟨u', e1, _⟩ := g1.iface_inv
    have e2 := g2.closed_eq rfl
    refine y_boolEq h ho hb ?_ ?_
    · rw [e1, e2]; unfold eqGuard; split <;> simp
    · intro op' hop
      rw [e1, e2]
      exact run_eql_of rfl rfl (by rw [equal_step, Op.equalIn]; simp [run_underlying ht]) op' hop
  · obtain ⟨u', e2, _⟩ := g2.iface_inv
    have e1 := g1.closed_eq rfl
    refine y_boolEq h ho hb ?_ ?_
    · rw [e1, e2]; unfold eqGuard; split <;> simp
    · intro op' hop
      rw [e1, e2]
      exact run_eql_of rfl rfl (by rw [equal_step, Op.equalIn]; simp [run_underlying ht]) op' hop

theorem bytesOf_inv : ∀ {cs : List Value} {l : List UInt8}, bytesOf cs = some l → cs = l.map fun b => Value.int .u8 (b.toNat : Int)
  | [], l, h => by simp [bytesOf] at h; subst h; rfl
  | c :: r, l, h => by
    unfold bytesOf at h
    split at h
    · rename_i heq; cases heq
    · rename_i n r' heq
      simp only [List.cons.injEq] at heq
      obtain ⟨rfl, rfl⟩ := heq
      split at h
      · rename_i hc
        simp only [Bool.and_eq_true, decide_eq_true_eq] at hc
        simp only [Option.map_eq_some_iff] at h
        obtain ⟨l', hl', rfl⟩ := h
        rw [bytesOf_inv hl']
        simp only [List.map_cons]
        congr 2
        have : n.toNat < 256 := by omega
        simp [UInt8.toNat_ofNat', Nat.mod_eq_of_lt this]
        omega
      · cases h
    · cases h

theorem y_bytesToString (h : MRel P J m B W w) {src dst e : TypeId} {x : Operand} (ho : o.op = .convert src dst x) {ad : Addr} {n c : Nat} (hx : VRel J (.slice (some ad) n c) (a.eval x)) (hs : P.underlying src = some (.slice e)) (he : P.underlying e = some (.int .u8)) (hd : P.underlying dst = some .string)
    {l : List UInt8} (hl : (n = 0 ∧ l = []) ∨ (n ≠ 0 ∧ ∃ cs, loadRow m ad n = some cs ∧ bytesOf cs = some l)) : Yields P J m B W o a w (.string ⟨l.toArray⟩) := by
  obtain ⟨s1, s2, a', c', s3, s4, s5, s6, s7⟩ := hx.slice_inv
  refine yields_same h (.clo _ rfl) (v' := .string ⟨l.toArray⟩) ?_
  rcases hl with ⟨rfl, rfl⟩ | ⟨hn, cs, hl, hb⟩
  · have := run_convert_bytes_back (P := P) w src dst e a' c' [] hs he hd (fun j hj => by simp at hj)
    simp only [List.length_nil] at this
    simp [execOp, ho, s3, this]
  · have ha := s7.resolve_left (by omega)
    obtain ⟨q1, cs', q2, q3⟩ := h.loadRow hl
    have hcs := bytesOf_inv hb
    have hlen : l.length = n := by rw [hcs] at q1; simpa using q1
    have := run_convert_bytes_back (P := P) w src dst e a' c' l hs he hd (fun j hj => by
      rw [ha, Addr.add_lit]
      refine q3 j _ ?_
      have hx : cs[j]? = some (Value.int .u8 ((l[j]'hj).toNat : Int)) := by rw [hcs]; simp [hj]
      obtain ⟨y, hy, hxy⟩ := q2.get hx
      rw [hy, hxy.closed_eq rfl])
    rw [hlen] at this
    simp [execOp, ho, s3, this]

theorem y_stringToBytes (h : MRel P J m B W w) {src dst e : TypeId} {x : Operand} (ho : o.op = .convert src dst x) {s : ByteArray} (hx : VRel J (.string s) (a.eval x)) (hs : P.underlying src = some .string) (he : P.underlying e = some (.int .u8)) (hd : P.underlying dst = some (.slice e))
    {i : TypeInfo} (hi : P.info? e = some i) (h1 : i.size = 1) (h63 : s.size ≤ 9223372036854775807) : Yields P J (m.new (s.data.map fun b : UInt8 => Value.int .u8 b.toNat).toList e) B W o a w (.slice (some ⟨m.next, 0, none⟩) s.size s.size) := by
  have hx' := hx.closed_eq rfl
  have hrun := run_bytes_of_string (P := P) w src dst e s hs hd he
  have hge := grownCap_ge w s.size 0 e
  have hle := grownCap_le_maxLen w s.size 0 e (by simp only [maxLen]; omega)
  simp only [maxLen] at hle
  have hcl : LRel J (s.data.map fun b : UInt8 => Value.int .u8 b.toNat).toList (s.data.map fun b : UInt8 => Value.int .u8 b.toNat).toList := by
    refine LRel.of_closed ?_
    rw [closedL_iff]
    intro u hu
    simp at hu
    obtain ⟨b, _, rfl⟩ := hu
    rfl
  have hsz : s.data.size = s.size := rfl
  have hm := h.drew.allocF hcl (List.replicate (grownCap w s.size 0 e - s.size) (.int .u8 0)) e i hi ((bytesRow s (grownCap w s.size 0 e)).size, (bytesRow s (grownCap w s.size 0 e)).size + 1) (Or.inl (by simp [bytesRow]))
  have hrow : ((s.data.map fun b : UInt8 => Value.int .u8 b.toNat).toList ++ List.replicate (grownCap w s.size 0 e - s.size) (Value.int .u8 0)).toArray = bytesRow s (grownCap w s.size 0 e) := by
    apply Array.ext'; simp [bytesRow]
  rw [hrow] at hm
  refine ⟨_, .value (.slice (some ⟨w.heap.size, 0, none⟩) s.size (grownCap w s.size 0 e)), _, _, J.le_snoc _ _ _ _, ?_, .inl rfl, ?_, hm⟩
  · simp [execOp, ho, hx', hrun]
  · have := snoc_slice h.drew w.heap.size ((s.data.map fun b : UInt8 => Value.int .u8 b.toNat).toList.length + (List.replicate (grownCap w s.size 0 e - s.size) (Value.int .u8 0)).length) i.size 0 s.size s.size (grownCap w s.size 0 e) hge hle (by rw [h1]; simp [hsz]; omega)
    exact this
end
end Go.Sh

/- One operation: maps and interface values. -/
namespace Go.Sh
open Go.RowKit
set_option linter.unusedVariables false
set_option linter.unusedSimpArgs false

variable {P : Program} {J : Inj} {m m' : Mem} {B : Nat} {W w w' : World}

theorem prun_bind {α β : Type} : ∀ (s : Sem α) (f : α → Sem β) (b : β), prun P (s >>= f) = some b → ∃ a, prun P s = some a ∧ prun P (f a) = some b := by
  intro s
  induction s with
  | pure a => intro f b h; exact ⟨a, rfl, h⟩
  | program k ih => intro f b h; exact ih P f b h
  | mark k s ih => intro f b h; exact ih f b h
  | _ => intro f b h; simp [bind, Sem.bind, prun] at h

theorem prun_underlying {t : TypeId} {d : TypeDesc} (h : prun P (underlying t) = some d) : P.underlying t = some d := by
  unfold underlying at h
  obtain ⟨p, h1, h2⟩ := prun_bind _ _ _ h
  simp [program, prun] at h1
  subst h1
  cases hu : P.underlying t with
  | none => simp [hu, stuck, prun] at h2
  | some d' => simp [hu] at h2; simpa [pure, prun] using h2

def FRel (J : Inj) : Option (Nat × Value) → Option (Nat × Value) → Prop
  | none, none => True
  | some (i, v), some (j, u) => i = j ∧ VRel J v u
  | _, _ => False

theorem EsRel.tail {e e' : MapEntry} {es es' : List MapEntry} (h : EsRel J (e :: es) (e' :: es')) : EsRel J es es' :=
  ⟨by have := h.1; simpa using this, fun i x y hx hy => h.2 (i + 1) x y (by simpa using hx) (by simpa using hy)⟩

theorem findNow_rel (d : TypeDesc) (k : Value) : ∀ (es es' : List MapEntry) (i : Nat), EsRel J es es' → (∀ e ∈ es, closedV e.key = true) →
    (Instr.findNow d k es i = none ∧ Instr.findNow d k es' i = none) ∨ (∃ r r', Instr.findNow d k es i = some r ∧ Instr.findNow d k es' i = some r' ∧ FRel J r r')
  | [], es', i, h, _ => by
    have : es' = [] := List.length_eq_zero_iff.1 h.1.symm
    subst this
    exact Or.inr ⟨none, none, rfl, rfl, trivial⟩
  | e :: es, [], i, h, _ => by have := h.1; simp at this
  | e :: es, e' :: es', i, h, hc => by
    obtain ⟨h1, h2, h3⟩ := h.2 0 e e' rfl rfl
    have hk := h1.closed_eq (hc e (by simp))
    simp only [Instr.findNow, hk]
    cases Instr.sameNow d k e.key with
    | none => exact Or.inl ⟨rfl, rfl⟩
    | some b =>
      cases b with
      | true => exact Or.inr ⟨_, _, rfl, rfl, rfl, h3⟩
      | false => exact findNow_rel d k es es' (i + 1) h.tail fun x hx => hc x (by simp [hx])

theorem findAsking_rel (kt : TypeId) (k : Value) : ∀ (es es' : List MapEntry) (i : Nat) (r : Option (Nat × Value)), EsRel J es es' → (∀ e ∈ es, closedV e.key = true) → prun P (Instr.findAsking kt k es i) = some r →
    ∃ r', FRel J r r' ∧ ∀ w, (Instr.findAsking kt k es' i).run P w = .ok r' w
  | [], es', i, r, h, _, hp => by
    have : es' = [] := List.length_eq_zero_iff.1 h.1.symm
    subst this
    simp [Instr.findAsking, pure, prun] at hp
    subst hp
    exact ⟨none, trivial, fun w => rfl⟩
  | e :: es, [], i, r, h, _, hp => by have := h.1; simp at this
  | e :: es, e' :: es', i, r, h, hc, hp => by
    obtain ⟨h1, h2, h3⟩ := h.2 0 e e' rfl rfl
    have hk := h1.closed_eq (hc e (by simp))
    simp only [Instr.findAsking] at hp
    obtain ⟨b, hb, hp⟩ := prun_bind _ _ _ hp
    have hrun := prun_run _ _ hb
    cases b with
    | true =>
      simp [pure, prun] at hp
      subst hp
      refine ⟨some (i, e'.val), ⟨rfl, h3⟩, fun w => ?_⟩
      simp only [Instr.findAsking, hk, Sem.run_bind, hrun, Result.andThen_ok, if_true, Sem.run_pure]
    | false =>
      simp only [Bool.false_eq_true, if_false] at hp
      obtain ⟨r', q1, q2⟩ := findAsking_rel kt k es es' (i + 1) r h.tail (fun x hx => hc x (by simp [hx])) hp
      refine ⟨r', q1, fun w => ?_⟩
      simp only [Instr.findAsking, hk, Sem.run_bind, hrun, Result.andThen_ok, Bool.false_eq_true, if_false, q2]

theorem findKey_rel {kt : TypeId} {k : Value} {es es' : List MapEntry} {r : Option (Nat × Value)} (h : EsRel J es es') (hc : ∀ e ∈ es, closedV e.key = true) (hp : prun P (Instr.findKey kt k es) = some r) :
    ∃ r', FRel J r r' ∧ ∀ w, (Instr.findKey kt k es').run P w = .ok r' w := by
  unfold Instr.findKey at hp
  obtain ⟨d, hd, hp⟩ := prun_bind _ _ _ hp
  have hu := prun_underlying hd
  have hcases := findNow_rel d k es es' 0 h hc
  rcases hcases with ⟨h1, h2⟩ | ⟨q, q', h1, h2, h3⟩
  · rw [h1] at hp
    simp only at hp
    obtain ⟨r', g1, g2⟩ := findAsking_rel kt k es es' 0 r h hc hp
    exact ⟨r', g1, fun w => by simp only [Instr.findKey, Sem.run_bind, run_underlying hu, Result.andThen_ok, h2, g2]⟩
  · rw [h1] at hp
    simp [pure, prun] at hp
    subst hp
    exact ⟨q', h3, fun w => by simp only [Instr.findKey, Sem.run_bind, run_underlying hu, Result.andThen_ok, h2, Sem.run_pure]⟩

/-- a look-up, opened -/
theorem sfind_inv {empty : Bool} {kt : TypeId} {k : Value} {es es' : List MapEntry} {r : Option (Nat × Value)} (he : sfind P empty kt k es = some r) (h : EsRel J es es') :
    closedV k = true ∧ (∀ e ∈ es, closedV e.key = true) ∧ (∀ w, (Instr.checkKey empty 10000 kt k).run P w = .ok () w) ∧ ∃ r', FRel J r r' ∧ ∀ w, (Instr.findKey kt k es').run P w = .ok r' w := by
  unfold sfind at he
  split at he
  · rename_i hc
    simp only [Bool.and_eq_true, List.all_eq_true] at hc
    split at he
    · rename_i u hu
      exact ⟨hc.1, hc.2, prun_run _ _ hu, findKey_rel h hc.2 he⟩
    · cases he
  · cases he

/-- the index that a look-up finds lies in the list, with that value -/
theorem findNow_at (d : TypeDesc) (k : Value) : ∀ (es : List MapEntry) (i j : Nat) (v : Value), Instr.findNow d k es i = some (some (j, v)) → i ≤ j ∧ ∃ e, es[j - i]? = some e ∧ e.val = v
  | [], i, j, v, h => by simp [Instr.findNow] at h
  | e :: es, i, j, v, h => by
    simp only [Instr.findNow] at h
    cases hs : Instr.sameNow d k e.key with
    | none => rw [hs] at h; simp at h
    | some b =>
      rw [hs] at h
      cases b with
      | true => simp at h; obtain ⟨rfl, rfl⟩ := h; exact ⟨Nat.le_refl _, e, by simp, rfl⟩
      | false =>
        simp only at h
        obtain ⟨g1, e', g2, g3⟩ := findNow_at d k es (i + 1) j v h
        exact ⟨by omega, e', by rw [show j - i = j - (i + 1) + 1 by omega]; simpa using g2, g3⟩

theorem EsRel.get {es es' : List MapEntry} (h : EsRel J es es') {i : Nat} {e : MapEntry} (he : es[i]? = some e) : ∃ e', es'[i]? = some e' ∧ VRel J e.key e'.key ∧ e'.born = e.born ∧ VRel J e.val e'.val := by
  have hi := (List.getElem?_eq_some_iff.1 he).1
  have hi' : i < es'.length := h.1 ▸ hi
  exact ⟨es'[i], by simp [hi'], h.2 i e _ he (by simp [hi'])⟩

theorem EsRel.set {es es' : List MapEntry} (h : EsRel J es es') {i : Nat} {f f' : MapEntry → MapEntry} {e e' : MapEntry} (he : es[i]? = some e) (he' : es'[i]? = some e')
    (hf : VRel J (f e).key (f' e').key ∧ (f' e').born = (f e).born ∧ VRel J (f e).val (f' e').val) : EsRel J (setEntry es i f) (es'.modify i f') := by
  unfold setEntry
  rw [he]
  simp only
  refine ⟨by simp [h.1], fun j x y hx hy => ?_⟩
  rw [List.getElem?_set] at hx
  rw [List.getElem?_modify] at hy
  by_cases e1 : i = j
  · subst e1
    have hi := (List.getElem?_eq_some_iff.1 he).1
    simp [hi] at hx
    simp [he'] at hy
    subst hx; subst hy
    exact hf
  · simp [e1] at hx hy
    exact h.2 j x y hx hy

theorem EsRel.push {es es' : List MapEntry} (h : EsRel J es es') {e e' : MapEntry} (hf : VRel J e.key e'.key ∧ e'.born = e.born ∧ VRel J e.val e'.val) : EsRel J (es ++ [e]) (es' ++ [e']) := by
  refine ⟨by simp [h.1], fun j x y hx hy => ?_⟩
  by_cases hj : j < es.length
  · rw [List.getElem?_append_left hj] at hx
    rw [List.getElem?_append_left (by rw [← h.1]; exact hj)] at hy
    exact h.2 j x y hx hy
  · rw [List.getElem?_append_right (by omega)] at hx
    rw [List.getElem?_append_right (by rw [← h.1]; omega), ← h.1] at hy
    have h0 : j - es.length = 0 := by have := (List.getElem?_eq_some_iff.1 hx).1; simp at this; omega
    rw [h0] at hx hy
    simp at hx hy
    subst hx; subst hy
    exact hf

theorem EsRel.erase {es es' : List MapEntry} (h : EsRel J es es') (i : Nat) : EsRel J (es.eraseIdx i) (es'.eraseIdx i) := by
  refine ⟨by simp [List.length_eraseIdx, h.1], fun j x y hx hy => ?_⟩
  rw [List.getElem?_eraseIdx] at hx hy
  split at hx <;> rename_i hc
  · rw [if_pos hc] at hy; exact h.2 _ x y hx hy
  · rw [if_neg hc] at hy; exact h.2 _ x y hx hy

theorem VRel.map_inv {l : Nat} {v' : Value} (r : VRel J (.map (some l)) v') : v' = .map (some (J.blk l)) := by
  cases r with
  | clo _ h => simp [closedV] at h
  | map l h => rfl

theorem run_getMap {r : Nat} {es : Array MapEntry} {c : Nat} (h : w.heap[r]? = some (.map es c)) : (getObj r).run P w = .ok (.map es c) w := by
  simp [getObj, Sem.run, h]

theorem run_setMap {r : Nat} {es es2 : Array MapEntry} {c c2 : Nat} (h : w.heap[r]? = some (.map es c)) : (setObj r (.map es2 c2)).run P w = .ok () { w with heap := w.heap.setIfInBounds r (.map es2 c2) } := by
  simp [setObj, Sem.run, h]

section
variable {o : Oper} {a : Act} {v : Value} {ρ : Operand → Value}

theorem y_len_map (h : MRel P J m B W w) {x : Operand} {t k e : TypeId} (ho : o.op = .call { callee := .builtin .len, args := #[x], argTypes := #[t] }) {l : Nat} {s : SMap} (hx : VRel J (.map (some l)) (a.eval x)) (ht : P.underlying t = some (.map k e)) (hs : m.maps.get l = some s) :
    Yields P J m B W o a w (.int .i64 s.entries.length) := by
  obtain ⟨_, _, es', q3, q4⟩ := h.mp l s hs
  have hx' := hx.map_inv
  refine yields_same h (.clo _ rfl) (v' := .int .i64 s.entries.length) ?_
  have hl : es'.size = s.entries.length := by have := q4.1; simpa using this.symm
  simp [execOp, ho, resolve, invoke, builtin, Builtin.len_, run_underlying ht, hx', run_getMap q3, goInt, hl]

theorem y_len_nilmap (h : MRel P J m B W w) {x : Operand} {t k e : TypeId} (ho : o.op = .call { callee := .builtin .len, args := #[x], argTypes := #[t] }) (hx : VRel J (.map none) (a.eval x)) (ht : P.underlying t = some (.map k e)) :
    Yields P J m B W o a w (.int .i64 0) := by
  have hx' := hx.closed_eq rfl
  refine yields_same h (.clo _ rfl) (v' := .int .i64 0) ?_
  simp [execOp, ho, resolve, invoke, builtin, Builtin.len_, run_underlying ht, hx', goInt]

theorem y_makeMap (h : MRel P J m B W w) {t k e : TypeId} {r : Option Operand} (ho : o.op = .makeMap t r) (ht : P.underlying t = some (.map k e)) (hr : r = none ∨ ∃ x q n, r = some x ∧ VRel J (.int q n) (a.eval x)) :
    Yields P J m.newMap B W o a w (.map (some m.next)) := by
  refine ⟨_, .value (.map (some w.heap.size)), _, _, J.le_snoc _ _ _ _, ?_, .inl rfl, ?_, h.newMap⟩
  · rcases hr with rfl | ⟨x, q, n, rfl, hx⟩
    · simp [execOp, ho, Instr.makeMap]
    · have hx' := hx.closed_eq rfl
      simp [execOp, ho, Instr.makeMap, run_underlying ht, hx', asInt, asIntOf]
  · have := VRel.map (J := J.snoc w.heap.size 0 0 0) m.next (by simp [Inj.snoc, h.n])
    simpa [Inj.snoc, h.n] using this

/-- the entries that a map value has -/
theorem entries_rel (h : MRel P J m B W w) {x x' : Value} {es : List MapEntry} (hx : VRel J x x') (he : entriesOf m x = some es) :
    (x' = .map none ∧ es = []) ∨ ∃ r es' c, x' = .map (some r) ∧ w.heap[r]? = some (.map es' c) ∧ EsRel J es es'.toList := by
  unfold entriesOf at he
  split at he
  · simp only [Option.some.injEq] at he
    subst he
    exact Or.inl ⟨hx.closed_eq rfl, rfl⟩
  · rename_i l
    simp only [Option.map_eq_some_iff] at he
    obtain ⟨s, hs, rfl⟩ := he
    obtain ⟨_, _, es', q3, q4⟩ := h.mp l s hs
    exact Or.inr ⟨_, es', s.clock, hx.map_inv, q3, q4⟩
  · cases he

theorem isEmpty_rel {es : List MapEntry} {es' : Array MapEntry} (h : EsRel J es es'.toList) : es'.isEmpty = es.isEmpty := by
  have := h.1
  cases es with
  | nil =>
    have h0 : es' = #[] := Array.eq_empty_of_size_eq_zero (by simpa using this.symm)
    rw [h0]; rfl
  | cons e r =>
    have hne : es'.size ≠ 0 := by simp at this; omega
    simp only [List.isEmpty_cons]
    rw [Array.isEmpty_eq_false_iff_exists_mem]
    exact ⟨es'[0]'(by omega), by simp⟩

theorem y_lookup (h : MRel P J m B W w) {t kt e : TypeId} {x y : Operand} {ok : Bool} (ho : o.op = .lookup t x y ok) (ht : P.underlying t = some (.map kt e)) {xv k : Value} {es : List MapEntry} (hx : VRel J xv (a.eval x)) (hk : VRel J k (a.eval y)) (hes : entriesOf m xv = some es)
    {r : Option (Nat × Value)} (hf : sfind P es.isEmpty kt k es = some r)
    (hv : (∃ i u, r = some (i, u) ∧ v = if ok then .tuple #[u, .bool true] else u) ∨ (r = none ∧ ∃ i z, P.info? e = some i ∧ i.zero = some z ∧ closedV z = true ∧ v = if ok then .tuple #[z, .bool false] else z)) : Yields P J m B W o a w v := by
  have hfin : ∃ v', VRel J v v' ∧ (Instr.lookup t (a.eval x) (a.eval y) ok).run P w = .ok v' w := by
    have hE : ∃ es' : Array MapEntry, EsRel J es es'.toList ∧ ((a.eval x = .map none ∧ es' = #[]) ∨ ∃ rr c, a.eval x = .map (some rr) ∧ w.heap[rr]? = some (.map es' c)) := by
      rcases entries_rel h hx hes with ⟨e1, rfl⟩ | ⟨rr, es', c, e1, e2, e3⟩
      · exact ⟨#[], ⟨rfl, fun i x y h => by simp at h⟩, Or.inl ⟨e1, rfl⟩⟩
      · exact ⟨es', e3, Or.inr ⟨rr, c, e1, e2⟩⟩
    obtain ⟨es', hr, hE⟩ := hE
    obtain ⟨f1, f2, f3, r', f4, f5⟩ := sfind_inv hf hr
    have hk' := hk.closed_eq f1
    have hem := isEmpty_rel hr
    rcases hv with ⟨i, u, rfl, rfl⟩ | ⟨rfl, i, z, g1, g2, g3, rfl⟩
    · cases r' with
      | none => exact f4.elim
      | some p =>
        obtain ⟨j, u'⟩ := p
        obtain ⟨rfl, hu⟩ := f4
        refine ⟨if ok then .tuple #[u', .bool true] else u', ?_, ?_⟩
        · cases ok
          · exact hu
          · refine .tuple _ _ rfl fun q p1 p2 e1 e2 => ?_
            match q, e1, e2 with
            | 0, e1, e2 => simp at e1 e2; subst e1; subst e2; exact hu
            | 1, e1, e2 => simp at e1 e2; subst e1; subst e2; exact .clo _ rfl
            | q + 2, e1, e2 => simp at e1
        · unfold Instr.lookup
          rcases hE with ⟨e1, rfl⟩ | ⟨rr, c, e1, e2⟩
          · have hem' : es.isEmpty = true := by rw [← hem]; rfl
            rw [hem'] at f3
            simp at f5
            simp [run_underlying ht, e1, hk', f3, f5]
          · simp [run_underlying ht, e1, run_getMap e2, hk', hem, f3, f5]
    · cases r' with
      | some p => exact f4.elim
      | none =>
        refine ⟨if ok then .tuple #[z, .bool false] else z, ?_, ?_⟩
        · cases ok
          · exact .clo _ g3
          · exact .clo _ (by simp [closedV, closedA, closedL, g3])
        · unfold Instr.lookup
          rcases hE with ⟨e1, rfl⟩ | ⟨rr, c, e1, e2⟩
          · have hem' : es.isEmpty = true := by rw [← hem]; rfl
            rw [hem'] at f3
            simp at f5
            simp [run_underlying ht, e1, hk', f3, f5, zeroValue, typeInfo, g1, g2]
          · simp [run_underlying ht, e1, run_getMap e2, hk', hem, f3, f5, zeroValue, typeInfo, g1, g2]
  obtain ⟨v', q1, q2⟩ := hfin
  refine yields_same h q1 ?_
  simp [execOp, ho, q2]
end
end Go.Sh

/- One operation: maps that turn; interface values. -/
namespace Go.Sh
open Go.RowKit
set_option linter.unusedVariables false
set_option linter.unusedSimpArgs false

variable {P : Program} {J : Inj} {m m' : Mem} {B : Nat} {W w w' : World}
section
variable {o : Oper} {a : Act} {v : Value} {ρ : Operand → Value}

theorem run_keyStays {old new : Value} (h : Instr.sameBits 10000 old new = true) : (Instr.keyThatStays old new).run P w = .ok new w := by
  unfold Instr.keyThatStays
  simp [h]

theorem mapUpdate_run (h : MRel P J m B W w) {t kt e : TypeId} {l : Nat} {s s' : SMap} {k k' x x' : Value} (ht : P.underlying t = some (.map kt e)) (hs : m.maps.get l = some s) (hk : VRel J k k') (hx : VRel J x x') (hp : sput P kt k x s = some s') :
    ∃ w', (Instr.mapUpdate t (.map (some (J.blk l))) k' x').run P w = .ok () w' ∧ MRel P J (m.setMap l s') B W w' := by
  obtain ⟨_, _, es', q3, q4⟩ := h.mp l s hs
  unfold sput at hp
  split at hp
  · rename_i i u hf
    obtain ⟨f1, f2, f3, r', f4, f5⟩ := sfind_inv hf q4
    have hk' := hk.closed_eq f1
    split at hp
    · rename_i en hen
      split at hp
      · rename_i hsb
        simp only [Option.some.injEq] at hp
        subst hp
        cases r' with
        | none => exact f4.elim
        | some p =>
          obtain ⟨j, u'⟩ := p
          obtain ⟨rfl, hu⟩ := f4
          obtain ⟨en', g1, g2, g3, g4⟩ := q4.get hen
          have hkey : en'.key = en.key := g2.closed_eq (f2 en (List.mem_of_getElem? hen))
          have hm := h.setMap (s := ⟨setEntry s.entries i fun e => { e with key := k, val := x }, s.clock⟩) hs (es' := es'.modify i fun e => { e with key := k, val := x' }) (by
            rw [Array.toList_modify]
            exact q4.set hen g1 ⟨.clo _ f1, g3, hx⟩)
          refine ⟨_, ?_, hm⟩
          have g1' : es'[i]? = some en' := by simpa using g1
          unfold Instr.mapUpdate
          simp [run_underlying ht, run_getMap q3, hk', f3, f5, g1', hkey, run_keyStays hsb, run_setMap q3]
      · cases hp
    · cases hp
  · rename_i hf
    obtain ⟨f1, f2, f3, r', f4, f5⟩ := sfind_inv hf q4
    have hk' := hk.closed_eq f1
    simp only [Option.some.injEq] at hp
    subst hp
    cases r' with
    | some p => exact f4.elim
    | none =>
      have hm := h.setMap (s := ⟨s.entries ++ [{ key := k, val := x, born := s.clock }], s.clock + 1⟩) hs (es' := es'.push { key := k, val := x', born := s.clock }) (by
        rw [Array.toList_push]
        exact q4.push ⟨.clo _ f1, rfl, hx⟩)
      refine ⟨_, ?_, hm⟩
      unfold Instr.mapUpdate
      simp [run_underlying ht, run_getMap q3, hk', f3, f5, run_setMap q3]
  · cases hp

theorem y_mapUpdate (h : MRel P J m B W w) {t kt e : TypeId} {x k y : Operand} (ho : o.op = .mapUpdate t x k y ∨ o.op = .insert t x k y) (ht : P.underlying t = some (.map kt e)) {l : Nat} {s s' : SMap} {kv xv : Value} (hx : VRel J (.map (some l)) (a.eval x)) (hk : VRel J kv (a.eval k)) (hy : VRel J xv (a.eval y))
    (hs : m.maps.get l = some s) (hp : sput P kt kv xv s = some s') : Yields P J (m.setMap l s') B W o a w undef := by
  obtain ⟨w', g1, g2⟩ := mapUpdate_run h ht hs hk hy hp
  refine ⟨J, .skip, undef, w', .rfl J, ?_, .inr ⟨rfl, rfl⟩, .undef J, g2⟩
  have hx' := hx.map_inv
  rcases ho with ho | ho <;> simp [execOp, ho, hx', g1]

theorem y_mapEntry (h : MRel P J m B W w) {t kt e : TypeId} {x k : Operand} (ho : o.op = .mapEntry t x k) (ht : P.underlying t = some (.map kt e)) {l b : Nat} {s s' : SMap} {kv z u : Value} {i : TypeInfo} (hx : VRel J (.map (some l)) (a.eval x)) (hk : VRel J kv (a.eval k))
    (hs : m.maps.get l = some s) (hi : P.info? e = some i) (hz : i.zero = some z) (hcz : closedV z = true) (hp : sentry P kt kv s z = some (s', u, b)) : Yields P J (m.setMap l s') B W o a w (.tuple #[u, .int .i64 b]) := by
  obtain ⟨_, _, es', q3, q4⟩ := h.mp l s hs
  have hx' := hx.map_inv
  have two : ∀ u u' : Value, VRel J u u' → VRel J (.tuple #[u, .int .i64 b]) (.tuple #[u', .int .i64 b]) := by
    intro u u' hu
    refine .tuple _ _ rfl fun q p1 p2 e1 e2 => ?_
    match q, e1, e2 with
    | 0, e1, e2 => simp at e1 e2; subst e1; subst e2; exact hu
    | 1, e1, e2 => simp at e1 e2; subst e1; subst e2; exact .clo _ rfl
    | q + 2, e1, e2 => simp at e1
  unfold sentry at hp
  split at hp
  · rename_i j u0 hf
    obtain ⟨f1, f2, f3, r', f4, f5⟩ := sfind_inv hf q4
    have hk' := hk.closed_eq f1
    split at hp
    · rename_i en hen
      split at hp
      · rename_i hsb
        simp only [Option.some.injEq, Prod.mk.injEq] at hp
        obtain ⟨rfl, rfl, rfl⟩ := hp
        cases r' with
        | none => exact f4.elim
        | some p =>
          obtain ⟨j2, u'⟩ := p
          obtain ⟨rfl, hu⟩ := f4
          obtain ⟨en', g1, g2, g3, g4⟩ := q4.get hen
          have hkey : en'.key = en.key := g2.closed_eq (f2 en (List.mem_of_getElem? hen))
          have hm := h.setMap (s := ⟨setEntry s.entries j fun e => { e with key := kv }, s.clock⟩) hs (es' := es'.modify j fun e => { e with key := kv }) (by
            rw [Array.toList_modify]
            exact q4.set hen g1 ⟨.clo _ f1, g3, g4⟩)
          have g1' : es'[j]? = some en' := by simpa using g1
          refine ⟨J, .value (.tuple #[u', .int .i64 en'.born]), _, _, .rfl J, ?_, .inl rfl, by rw [g3]; exact two _ _ hu, hm⟩
          unfold execOp Instr.mapEntry
          simp [ho, run_underlying ht, hx', run_getMap q3, hk', f3, f5, g1', hkey, run_keyStays hsb, run_setMap q3, goInt]
      · cases hp
    · cases hp
  · rename_i hf
    obtain ⟨f1, f2, f3, r', f4, f5⟩ := sfind_inv hf q4
    have hk' := hk.closed_eq f1
    simp only [Option.some.injEq, Prod.mk.injEq] at hp
    obtain ⟨rfl, rfl, rfl⟩ := hp
    cases r' with
    | some p => exact f4.elim
    | none =>
      have hm := h.setMap (s := ⟨s.entries ++ [{ key := kv, val := z, born := s.clock }], s.clock + 1⟩) hs (es' := es'.push { key := kv, val := z, born := s.clock }) (by
        rw [Array.toList_push]
        exact q4.push ⟨.clo _ f1, rfl, .clo _ hcz⟩)
      refine ⟨J, .value (.tuple #[z, .int .i64 s.clock]), _, _, .rfl J, ?_, .inl rfl, two _ _ (.clo _ hcz), hm⟩
      unfold execOp Instr.mapEntry
      simp [ho, run_underlying ht, hx', run_getMap q3, hk', f3, f5, zeroValue, typeInfo, hi, hz, run_setMap q3, goInt]
  · cases hp

theorem findIdx_rel {es : List MapEntry} {es' : Array MapEntry} (h : EsRel J es es'.toList) (st : Nat) {i : Nat} (hi : es.findIdx? (fun e => e.born == st) = some i) : es'.findIdx? (fun e => (e.born : Int) == (st : Int)) = some i := by
  have hb : es'.toList.map (·.born) = es.map (·.born) := by
    apply List.ext_getElem?
    intro j
    simp only [List.getElem?_map]
    by_cases hj : j < es.length
    · obtain ⟨e', g1, _, g3, _⟩ := h.get (List.getElem?_eq_getElem hj)
      rw [g1, List.getElem?_eq_getElem hj]
      simp [g3]
    · rw [List.getElem?_eq_none (by rw [← h.1]; omega), List.getElem?_eq_none (by omega)]
  have key : ∀ (l : List MapEntry), l.findIdx? (fun e => (e.born : Int) == (st : Int)) = (l.map (·.born)).findIdx? (fun b => b == st) := by
    intro l
    rw [List.findIdx?_map]
    congr 1
    funext e
    simp only [Function.comp]
    rw [Bool.eq_iff_iff]
    simp only [beq_iff_eq]
    omega
  have key2 : ∀ (l : List MapEntry), l.findIdx? (fun e => e.born == st) = (l.map (·.born)).findIdx? (fun b => b == st) := by
    intro l
    rw [List.findIdx?_map]
    rfl
  rw [key2, ← hb, ← key] at hi
  obtain ⟨l⟩ := es'
  simpa using hi

theorem y_entryStore (h : MRel P J m B W w) {t : TypeId} {x b y : Operand} (ho : o.op = .entryStore t x b y) {l st i : Nat} {s : SMap} {bv xv : Value} (hx : VRel J (.map (some l)) (a.eval x)) (hb : VRel J bv (a.eval b)) (hst : natOf bv = some st) (hy : VRel J xv (a.eval y))
    (hs : m.maps.get l = some s) (hi : s.entries.findIdx? (fun e => e.born == st) = some i) : Yields P J (m.setMap l ⟨setEntry s.entries i fun e => { e with val := xv }, s.clock⟩) B W o a w undef := by
  obtain ⟨_, _, es', q3, q4⟩ := h.mp l s hs
  have hx' := hx.map_inv
  obtain ⟨kk, hb', _⟩ := hb.nat_inv hst
  have hfi := findIdx_rel q4 st hi
  have hil : i < s.entries.length := by
    rw [List.findIdx?_eq_some_iff_getElem] at hi
    exact hi.1
  obtain ⟨en', g1, g2, g3, g4⟩ := q4.get (List.getElem?_eq_getElem hil)
  have hm := h.setMap (s := ⟨setEntry s.entries i fun e => { e with val := xv }, s.clock⟩) hs (es' := es'.modify i fun e => { e with val := a.eval y }) (by
    rw [Array.toList_modify]
    exact q4.set (List.getElem?_eq_getElem hil) g1 ⟨g2, g3, hy⟩)
  refine ⟨J, .skip, undef, _, .rfl J, ?_, .inr ⟨rfl, rfl⟩, .undef J, hm⟩
  simp [execOp, ho, Instr.entryStore, hx', run_getMap q3, hb', asInt, asIntOf, hfi, run_setMap q3]

theorem y_delete (h : MRel P J m B W w) {t kt e : TypeId} {x k : Operand} {rest : List TypeId} {tys : Array TypeId} (htys : tys.toList = t :: rest) (ho : o.op = .call { callee := .builtin .delete, args := #[x, k], argTypes := tys }) (ht : P.underlying t = some (.map kt e)) {l : Nat} {s : SMap} {kv : Value} (hx : VRel J (.map (some l)) (a.eval x)) (hk : VRel J kv (a.eval k))
    (hs : m.maps.get l = some s) {r : Option (Nat × Value)} (hf : sfind P s.entries.isEmpty kt kv s.entries = some r) (hm' : (∃ i u, r = some (i, u) ∧ m' = m.setMap l ⟨s.entries.eraseIdx i, s.clock⟩) ∨ (r = none ∧ m' = m.setMap l s)) : Yields P J m' B W o a w (.tuple #[]) := by
  obtain ⟨_, _, es', q3, q4⟩ := h.mp l s hs
  have hx' := hx.map_inv
  obtain ⟨f1, f2, f3, r', f4, f5⟩ := sfind_inv hf q4
  have hk' := hk.closed_eq f1
  have hem := isEmpty_rel q4
  have h0 : tys[0]? = some t := by
    have : tys.toList[0]? = some t := by rw [htys]; rfl
    simpa using this
  rcases hm' with ⟨i, u, rfl, rfl⟩ | ⟨rfl, rfl⟩
  · cases r' with
    | none => exact f4.elim
    | some p =>
      obtain ⟨j, u'⟩ := p
      obtain ⟨rfl, hu⟩ := f4
      have hm := h.setMap (s := ⟨s.entries.eraseIdx i, s.clock⟩) hs (es' := es'.eraseIdxIfInBounds i) (by
        rw [Array.toList_eraseIdxIfInBounds]
        exact q4.erase i)
      refine ⟨J, .value (.tuple #[]), _, _, .rfl J, ?_, .inl rfl, .clo _ rfl, hm⟩
      simp [execOp, ho, resolve, invoke, builtin, Builtin.delete_, h0, run_underlying ht, hx', run_getMap q3, hk', hem, f3, f5, run_setMap q3]
  · cases r' with
    | some p => exact f4.elim
    | none =>
      have hm := h.setMap (s := s) hs (es' := es') q4
      refine ⟨J, .value (.tuple #[]), _, _, .rfl J, ?_, .inl rfl, .clo _ rfl, hm⟩
      simp [execOp, ho, resolve, invoke, builtin, Builtin.delete_, h0, run_underlying ht, hx', run_getMap q3, hk', hem, f3, f5, run_setMap q3]

theorem y_makeInterface (h : MRel P J m B W w) {t : TypeId} {x : Operand} (ho : o.op = .makeInterface t x) {d : TypeDesc} (ht : P.underlying t = some d) (hni : ∀ ms, d ≠ .interface ms) {u : Value} (hx : VRel J u (a.eval x)) : Yields P J m B W o a w (.iface t u) := by
  refine yields_same h (.iface t _ _ hx) ?_
  unfold execOp Instr.makeInterface
  simp only [ho, Sem.run_bind, run_underlying ht, Result.andThen_ok]
  cases d <;> first
    | exact absurd rfl (hni _)
    | simp

theorem y_typeAssert (h : MRel P J m B W w) {x : Operand} {xt t : TypeId} {ok : Bool} (ho : o.op = .typeAssert x xt t ok) {d : TypeDesc} (ht : P.underlying t = some d) (hni : ∀ ms, d ≠ .interface ms) {u : Value} (hx : VRel J (.iface t u) (a.eval x)) :
    Yields P J m B W o a w (if ok then .tuple #[u, .bool true] else u) := by
  obtain ⟨u', e1, hu⟩ := hx.iface_inv
  refine yields_same h (v' := if ok then .tuple #[u', .bool true] else u') ?_ ?_
  · cases ok
    · exact hu
    · refine .tuple _ _ rfl fun q p1 p2 e1 e2 => ?_
      match q, e1, e2 with
      | 0, e1, e2 => simp at e1 e2; subst e1; subst e2; exact hu
      | 1, e1, e2 => simp at e1 e2; subst e1; subst e2; exact .clo _ rfl
      | q + 2, e1, e2 => simp at e1
  · unfold execOp Instr.typeAssert
    simp only [ho, e1, Sem.run_bind, run_underlying ht, Result.andThen_ok]
    cases d <;> first
      | exact absurd rfl (hni _)
      | simp

theorem smethod_run {t : TypeId} {u u' recv : Value} {name : String} {f : FuncId} (hm : smethod P t u name = some (f, recv)) (hu : VRel J u u') (n : Nat) :
    ∃ recv', VRel J recv recv' ∧ (method (n + 1) t u' name).run P w = .ok (f, recv') w := by
  unfold smethod at hm
  split at hm
  · rename_i i hi
    split at hm
    · rename_i mt hmt
      split at hm
      · rename_i hp
        have hpl : mt.path.toList = [] := by simpa using hp
        split at hm
        · rename_i f0 e hfn hun
          simp only [Option.some.injEq, Prod.mk.injEq] at hm
          obtain ⟨rfl, rfl⟩ := hm
          refine ⟨u', hu, ?_⟩
          simp [method, typeInfo, hi, hmt, hpl, follow, hfn, receiverAt, run_underlying hun, Place.get]
        · cases hm
        · cases hm
        · rename_i f0 d hnp hfn hun
          simp only [Option.some.injEq, Prod.mk.injEq] at hm
          obtain ⟨rfl, rfl⟩ := hm
          refine ⟨u', hu, ?_⟩
          have hd : ∀ e, d ≠ .pointer e := fun e he => hnp e he
          unfold method
          simp only [typeInfo, Sem.run_bind, run_program, Result.andThen_ok, hi, Sem.run_pure, hmt, hpl, follow, hfn, receiverAt, run_underlying hun]
          cases d <;> first
            | exact absurd rfl (hd _)
            | simp [Place.get]
        · cases hm
      · cases hm
    · cases hm
  · cases hm
end
end Go.Sh

/- One operation: the theorem. -/
namespace Go.Sh
open Go.RowKit
set_option linter.unusedVariables false
set_option linter.unusedSimpArgs false

variable {P : Program} {J : Inj} {m m' : Mem} {B : Nat} {W w w' : World}

/-- What is asked of the calls: a call of Go code, or of a function that the model itself stands in for. -/
def HSound (P : Program) (B : Nat) (W : World) (H : CallH) : Prop :=
  ∀ f args m v m', H f args m = some (v, m') →
    ((∃ fn, P.funcs[f]? = some fn ∧ fn.body.isSome = true ∧ (fn.name == "runtime.NumGoroutine") = false) ∧
      ∀ (J : Inj) (args' : List Value) (w : World), LRel J args args' → MRel P J m B W w →
        Calls P f args'.toArray w fun e w' => ∃ J' v', J.le J' ∧ e = .returned v' ∧ VRel J' v v' ∧ MRel P J' m' B W w') ∨
    (m' = m ∧ closedV v = true ∧ (∀ x ∈ args, closedV x = true) ∧ ∀ w, (callFunc f args.toArray).run P w = .ok (.value v) w)

theorem LRel.closed_eq {J : Inj} {xs ys : List Value} (h : LRel J xs ys) (hc : ∀ x ∈ xs, closedV x = true) : ys = xs := by
  apply List.ext_getElem? 
  intro i
  by_cases hi : i < xs.length
  · obtain ⟨y, hy, hxy⟩ := h.get (List.getElem?_eq_getElem hi)
    rw [hy, List.getElem?_eq_getElem hi, hxy.closed_eq (hc _ (List.getElem_mem hi))]
  · rw [List.getElem?_eq_none (by rw [← h.1]; omega), List.getElem?_eq_none (by omega)]

section
variable {o : Oper} {a : Act} {v : Value} {ρ : Operand → Value} {H : CallH}

theorem Yields.wp {next : Act → World → Prop} {Q : Exit → Act → World → Prop} (hy : Yields P J m' B W o a w v)
    (hn : ∀ J' v' w', J.le J' → VRel J' v v' → MRel P J' m' B W w' → next (a.put o.dst v') w') : o.wp P a w next Q := by
  obtain ⟨J', n, v', w', h1, h2, h3, h4, h5⟩ := hy
  unfold Oper.wp
  rw [h2]
  rcases h3 with rfl | ⟨rfl, rfl⟩
  · exact hn J' v' w' h1 h4 h5
  · exact hn J' _ w' h1 h4 h5

theorem lrel_map (l : List Operand) (hρ : ∀ x ∈ l, VRel J (ρ x) (a.eval x)) : LRel J (l.map ρ) (l.map a.eval) := by
  induction l with
  | nil => exact LRel.nil
  | cons x r ih => exact .cons (hρ x (by simp)) (ih fun y hy => hρ y (by simp [hy]))

theorem VRel.func_inv {f : FuncId} {x y : Array Value} {v' : Value} (r : VRel J (.func (.func f) x y) v') : ∃ x' y', v' = .func (.func f) x' y' ∧ LRel J x.toList x'.toList ∧ LRel J y.toList y'.toList := by
  cases r with
  | clo _ h =>
    simp only [closedV, Bool.and_eq_true] at h
    exact ⟨x, y, rfl, closedA_list h.1.2, closedA_list h.2⟩
  | func f a b a' b' h1 h2 h3 h4 =>
    exact ⟨a', b', rfl, ⟨by simpa using h1, fun i x y hx hy => h2 i x y (by simpa using hx) (by simpa using hy)⟩, ⟨by simpa using h3, fun i x y hx hy => h4 i x y (by simpa using hx) (by simpa using hy)⟩⟩

/-- a call, its function and arguments reckoned -/
theorem enter_wp {next : Act → World → Prop} {Q : Exit → Act → World → Prop} (hH : HSound P B W H) (h : MRel P J m B W w) {fid : FuncId} {args args' : List Value} (hl : LRel J args args') (he : H fid args m = some (v, m'))
    (hrun : (execOp a.eval o).run P w = (callFunc fid args'.toArray).run P w)
    (hn : ∀ J' v' w', J.le J' → VRel J' v v' → MRel P J' m' B W w' → next (a.put o.dst v') w') : o.wp P a w next Q := by
  rcases hH _ _ _ _ _ he with ⟨⟨fn, q1, q2, q3⟩, hc⟩ | ⟨rfl, hv, hargs, hx⟩
  · have hcall := hc J _ w hl h
    have hb : fn.body ≠ none := by intro hb; simp [hb] at q2
    have q3' : ¬ (fn.name = "runtime.NumGoroutine") := by simpa using q3
    have hrun2 : (execOp a.eval o).run P w = .ok (.enter fid args'.toArray) w := by
      rw [hrun]
      simp [callFunc, q1, q3', hb]
    unfold Oper.wp
    rw [hrun2, Oper.upon_enter]
    refine hcall.mono ?_
    rintro e w' ⟨J', v', g1, rfl, g2, g3⟩
    exact hn J' v' w' g1 g2 g3
  · have hargs' := hl.closed_eq hargs
    subst hargs'
    unfold Oper.wp
    rw [hrun, hx w, Oper.upon_value]
    exact hn J v w (.rfl J) (.clo _ hv) h

theorem call_wp {next : Act → World → Prop} {Q : Exit → Act → World → Prop} (hH : HSound P B W H) (h : MRel P J m B W w) {f : Operand} {args : Array Operand} {tys : Array TypeId} (ho : o.op = .call { callee := .value f, args := args, argTypes := tys }) {fid : FuncId} {first captured : Array Value}
    (hf : VRel J (.func (.func fid) first captured) (a.eval f)) (hargs : ∀ x ∈ args, VRel J (ρ x) (a.eval x)) (he : H fid (first.toList ++ args.toList.map ρ ++ captured.toList) m = some (v, m'))
    (hn : ∀ J' v' w', J.le J' → VRel J' v v' → MRel P J' m' B W w' → next (a.put o.dst v') w') : o.wp P a w next Q := by
  obtain ⟨x', y', e1, l1, l2⟩ := hf.func_inv
  have hl : LRel J (first.toList ++ args.toList.map ρ ++ captured.toList) (x'.toList ++ args.toList.map a.eval ++ y'.toList) :=
    (l1.append (lrel_map _ fun z hz => hargs z (by simpa using hz))).append l2
  have harr : (x'.toList ++ args.toList.map a.eval ++ y'.toList).toArray = x' ++ args.map a.eval ++ y' := by
    apply Array.ext'; simp
  refine enter_wp hH h hl he ?_ hn
  rw [harr]
  simp [execOp, ho, resolve, Deferred.ofValue, e1, invoke]

theorem invoke_wp {next : Act → World → Prop} {Q : Exit → Act → World → Prop} (hH : HSound P B W H) (h : MRel P J m B W w) {r : Operand} {name : String} {args : Array Operand} {tys : Array TypeId} (ho : o.op = .call { callee := .invoke r name, args := args, argTypes := tys }) {t : TypeId} {u recv : Value} {f : FuncId}
    (hr : VRel J (.iface t u) (a.eval r)) (hargs : ∀ x ∈ args, VRel J (ρ x) (a.eval x)) (hm : smethod P t u name = some (f, recv)) (he : H f (recv :: args.toList.map ρ) m = some (v, m'))
    (hn : ∀ J' v' w', J.le J' → VRel J' v v' → MRel P J' m' B W w' → next (a.put o.dst v') w') : o.wp P a w next Q := by
  obtain ⟨u', e1, hu⟩ := hr.iface_inv
  obtain ⟨recv', g1, g2⟩ := smethod_run (P := P) (w := w) hm hu (P.types.size + Made.depth - 1)
  have hpos : P.types.size + Made.depth - 1 + 1 = P.types.size + Made.depth := by
    have : 0 < Made.depth := by decide
    omega
  rw [hpos] at g2
  have hl : LRel J (recv :: args.toList.map ρ) (recv' :: args.toList.map a.eval) := .cons g1 (lrel_map _ fun z hz => hargs z (by simpa using hz))
  refine enter_wp hH h hl he ?_ hn
  have harr : (recv' :: args.toList.map a.eval).toArray = #[recv'] ++ args.map a.eval := by
    apply Array.ext'; simp
  rw [harr]
  have hex : (#[Value.iface t u'] ++ args.map a.eval).extract 1 (#[Value.iface t u'] ++ args.map a.eval).size = args.map a.eval := by
    apply Array.ext'; simp
    exact List.take_of_length_le (by simp)
  have h0 : (#[Value.iface t u'] ++ args.map a.eval)[0]? = some (Value.iface t u') := by
    rw [Array.getElem?_append_left (by simp)]; rfl
  simp only [execOp, ho, resolve, Sem.run_bind, Sem.run_pure, Result.andThen_ok, invoke, e1, h0]
  rw [hex]
  simp [callMethod, g2]

theorem toArray_two {α : Type} {xs : Array α} {x y : α} (h : xs.toList = [x, y]) : xs = #[x, y] := by
  apply Array.ext'; simpa using h
theorem toArray_one {α : Type} {xs : Array α} {x : α} (h : xs.toList = [x]) : xs = #[x] := by
  apply Array.ext'; simpa using h

theorem isIntT_inv {t : TypeId} (h : isIntT P t = true) : ∃ k, P.underlying t = some (.int k) := by
  unfold isIntT at h
  split at h
  · exact ⟨_, by assumption⟩
  · cases h

theorem sopCall_wp {next : Act → World → Prop} {Q : Exit → Act → World → Prop} (hH : HSound P B W H) (h : MRel P J m B W w) {c : Call} (ho : o.op = .call c) (hρ : ∀ x ∈ o.op.operands, VRel J (ρ x) (a.eval x)) (he : sopCall P H ρ o c m = some (v, m'))
    (hn : ∀ J' v' w', J.le J' → VRel J' v v' → MRel P J' m' B W w' → next (a.put o.dst v') w') : o.wp P a w next Q := by
  have hclo : (closedOp P ρ o).map (·, m) = some (v, m') → o.wp P a w next Q := by
    intro hc
    simp only [Option.map_eq_some_iff, Prod.mk.injEq] at hc
    obtain ⟨u, hu, rfl, rfl⟩ := hc
    exact (y_closed h hρ (by rw [ho]; intro cs b; simp) hu).wp hn
  obtain ⟨callee, args, argTypes⟩ := c
  unfold sopCall at he
  simp only at he
  split at he
  · -- a function value
    rename_i f
    split at he
    · rename_i fid first captured hf
      refine call_wp hH h ho (hf ▸ hρ f (by simp [ho, Op.operands, Call.operands])) (fun x hx => hρ x (by simp [ho, Op.operands, Call.operands, hx])) he hn
    · cases he
  · -- through an interface value
    rename_i r name
    split at he
    · rename_i t u hv
      split at he
      · rename_i f recv hsm
        exact invoke_wp hH h ho (hv ▸ hρ r (by simp [ho, Op.operands, Call.operands])) (fun x hx => hρ x (by simp [ho, Op.operands, Call.operands, hx])) hsm he hn
      · cases he
    · cases he
  · -- delete
    split at he
    · rename_i x y tm rest ha ht
      rw [toArray_two ha] at ho
      have hx := hρ x (by simp [ho, Op.operands, Call.operands])
      have hy := hρ y (by simp [ho, Op.operands, Call.operands])
      split at he
      · rename_i kt e l hu hv
        rw [hv] at hx
        split at he
        · rename_i s hs
          split at he
          · rename_i i u hf
            simp only [Option.some.injEq, Prod.mk.injEq] at he
            obtain ⟨rfl, rfl⟩ := he
            exact (y_delete h ht ho hu hx hy hs hf (Or.inl ⟨i, u, rfl, rfl⟩)).wp hn
          · rename_i hf
            simp only [Option.some.injEq, Prod.mk.injEq] at he
            obtain ⟨rfl, rfl⟩ := he
            exact (y_delete h ht ho hu hx hy hs hf (Or.inr ⟨rfl, rfl⟩)).wp hn
          · cases he
        · cases he
      · cases he
    · cases he
  · -- append
    split at he
    · rename_i s x ts tx ha ht
      rw [toArray_two ha, toArray_two ht] at ho
      have hs := hρ s (by simp [ho, Op.operands, Call.operands])
      have hx := hρ x (by simp [ho, Op.operands, Call.operands])
      split at he
      · rename_i hi
        obtain ⟨k0, hi⟩ := isIntT_inv hi
        split at he
        · rename_i e k hu hk
          split at he
          · rename_i z hz
            exact (y_append_zeros h ho hs hx hu hi hk hz he).wp hn
          · cases he
        · cases he
      · split at he
        · rename_i news k hnw
          exact (y_append_news h ho hs hx hnw he).wp hn
        · cases he
    · cases he
  · -- len
    split at he
    · rename_i x t ha ht
      rw [toArray_one ha, toArray_one ht] at ho
      have hx := hρ x (by simp [ho, Op.operands, Call.operands])
      split at he
      · rename_i e ao n c hu hv
        rw [hv] at hx
        simp only [Option.some.injEq, Prod.mk.injEq] at he
        obtain ⟨rfl, rfl⟩ := he
        exact (y_len_slice h ho hx hu).wp hn
      · rename_i s hu hv
        rw [hv] at hx
        simp only [Option.some.injEq, Prod.mk.injEq] at he
        obtain ⟨rfl, rfl⟩ := he
        exact (y_len_string h ho hx hu).wp hn
      · rename_i k e l hu hv
        rw [hv] at hx
        split at he
        · rename_i s hs
          simp only [Option.some.injEq, Prod.mk.injEq] at he
          obtain ⟨rfl, rfl⟩ := he
          exact (y_len_map h ho hx hu hs).wp hn
        · cases he
      · rename_i k e hu hv
        rw [hv] at hx
        simp only [Option.some.injEq, Prod.mk.injEq] at he
        obtain ⟨rfl, rfl⟩ := he
        exact (y_len_nilmap h ho hx hu).wp hn
      · cases he
    · cases he
  · -- copy
    split at he
    · rename_i d x ts tx ha ht
      rw [toArray_two ha, toArray_two ht] at ho
      have hd := hρ d (by simp [ho, Op.operands, Call.operands])
      have hx := hρ x (by simp [ho, Op.operands, Call.operands])
      split at he
      · rename_i e e2 da dn dc sa sn sc hu hu2 hvd hvx
        rw [hvd] at hd
        rw [hvx] at hx
        split at he
        · rename_i z hz
          split at he
          · rename_i h0
            simp only [Option.some.injEq, Prod.mk.injEq] at he
            obtain ⟨rfl, rfl⟩ := he
            exact (y_copy0 h ho hd hx hu hz (by simpa using h0)).wp hn
          · rename_i h0
            split at he
            · rename_i cs hl
              split at he
              · rename_i m2 hst
                simp only [Option.some.injEq, Prod.mk.injEq] at he
                obtain ⟨rfl, rfl⟩ := he
                exact (y_copy h ho hd hx hu hz (by simpa using h0) hl hst).wp hn
              · cases he
            · cases he
        · cases he
      · cases he
    · cases he
  · exact hclo he

theorem sop_wp {next : Act → World → Prop} {Q : Exit → Act → World → Prop} (hH : HSound P B W H) (h : MRel P J m B W w) (hρ : ∀ x ∈ o.op.operands, VRel J (ρ x) (a.eval x)) (he : sop P H ρ o m = some (v, m'))
    (hn : ∀ J' v' w', J.le J' → VRel J' v v' → MRel P J' m' B W w' → next (a.put o.dst v') w') : o.wp P a w next Q := by
  have hclo : (∀ cs b, o.op ≠ .select cs b) → (closedOp P ρ o).map (·, m) = some (v, m') → o.wp P a w next Q := by
    intro hs hc
    simp only [Option.map_eq_some_iff, Prod.mk.injEq] at hc
    obtain ⟨u, hu, rfl, rfl⟩ := hc
    exact (y_closed h hρ hs hu).wp hn
  unfold sop at he
  split at he
  · -- move
    rename_i x ho
    simp only [Option.some.injEq, Prod.mk.injEq] at he
    obtain ⟨rfl, rfl⟩ := he
    exact (yields_same h (hρ x (by simp [ho, Op.operands])) (by simp [execOp, ho])).wp hn
  · -- assign
    rename_i x ho
    simp only [Option.some.injEq, Prod.mk.injEq] at he
    obtain ⟨rfl, rfl⟩ := he
    exact (yields_same h (hρ x (by simp [ho, Op.operands])) (by simp [execOp, ho])).wp hn
  · -- pick
    rename_i c x y ho
    split at he
    · rename_i t hc
      simp only [Option.some.injEq, Prod.mk.injEq] at he
      obtain ⟨rfl, rfl⟩ := he
      have h1 := (hc ▸ hρ c (by simp [ho, Op.operands])).closed_eq rfl
      have h2 := hρ x (by simp [ho, Op.operands])
      have h3 := hρ y (by simp [ho, Op.operands])
      refine (yields_same h (v' := if t then a.eval x else a.eval y) ?_ ?_).wp hn
      · cases t
        · exact h3
        · exact h2
      · cases t <;> simp [execOp, ho, h1, asBool]
    · cases he
  · -- nilCheck
    rename_i x ho
    have hx := hρ x (by simp [ho, Op.operands])
    split at he
    · rename_i ad hv
      simp only [Option.some.injEq, Prod.mk.injEq] at he
      obtain ⟨rfl, rfl⟩ := he
      rw [hv] at hx
      obtain ⟨_, _, e1⟩ := hx.ptr_inv
      exact (yields_same h hx (by simp [execOp, ho, e1])).wp hn
    · rename_i f p q hv
      simp only [Option.some.injEq, Prod.mk.injEq] at he
      obtain ⟨rfl, rfl⟩ := he
      rw [hv] at hx
      obtain ⟨x', y', e1, _⟩ := hx.func_inv
      exact (yields_same h hx (by simp [execOp, ho, e1])).wp hn
    · rename_i t u hv
      simp only [Option.some.injEq, Prod.mk.injEq] at he
      obtain ⟨rfl, rfl⟩ := he
      rw [hv] at hx
      obtain ⟨u', e1, _⟩ := hx.iface_inv
      exact (yields_same h hx (by simp [execOp, ho, e1])).wp hn
    · cases he
  · -- alloc
    rename_i e ho
    split at he
    · rename_i i hi
      split at he
      · rename_i z hz
        split at he
        · rename_i hc
          simp only [Option.some.injEq, Prod.mk.injEq] at he
          obtain ⟨rfl, rfl⟩ := he
          exact (y_alloc h ho hi hz hc).wp hn
        · cases he
      · cases he
    · cases he
  · -- box
    rename_i e x ho
    split at he
    · rename_i i hi
      simp only [Option.some.injEq, Prod.mk.injEq] at he
      obtain ⟨rfl, rfl⟩ := he
      exact (y_box h ho hi (hρ x (by simp [ho, Op.operands]))).wp hn
    · cases he
  · -- build
    rename_i t parts ho
    have hp : ∀ p ∈ parts, VRel J (ρ p.2) (a.eval p.2) := fun p hp => hρ p.2 (by simp only [ho, Op.operands]; simp; exact ⟨p.1, by simpa using hp⟩)
    split at he
    · rename_i i hi
      split at he
      · rename_i z hz
        split at he
        · rename_i hc
          split at he
          · rename_i fields hu
            split at he
            · rename_i places hpl
              simp only [Option.map_eq_some_iff, Prod.mk.injEq] at he
              obtain ⟨cs, hf, rfl, rfl⟩ := he
              exact (y_build_struct h ho hp hi hz hc hu hpl hf).wp hn
            · cases he
          · rename_i n e hu
            split at he
            · rename_i size hs
              simp only [Option.map_eq_some_iff, Prod.mk.injEq] at he
              obtain ⟨cs, hf, rfl, rfl⟩ := he
              exact (y_build_array h ho hp hi hz hc hu hs hf).wp hn
            · cases he
          · cases he
        · cases he
      · cases he
    · cases he
  · -- buildSlice
    rename_i t len parts ho
    have hp : ∀ p ∈ parts, VRel J (ρ p.2) (a.eval p.2) := fun p hp => hρ p.2 (by simp only [ho, Op.operands]; simp; exact ⟨p.1, by simpa using hp⟩)
    split at he
    · rename_i e hu
      split at he
      · rename_i i hi
        split at he
        · rename_i z hz
          split at he
          · rename_i hc
            simp only [Bool.and_eq_true, decide_eq_true_eq, beq_iff_eq] at hc
            split at he
            · rename_i cells hf
              simp only [Option.some.injEq, Prod.mk.injEq] at he
              obtain ⟨rfl, rfl⟩ := he
              exact (y_buildSlice h ho hp hu hi hz hc.1.1.1 hc.1.1.2 hc.1.2 hc.2 hf).wp hn
            · cases he
          · cases he
        · cases he
      · cases he
    · cases he
  · -- load
    rename_i t x ho
    split at he
    · rename_i ad hv
      split at he
      · cases he
      · rename_i d hd
        exact (y_load h ho (hv ▸ hρ x (by simp [ho, Op.operands])) hd he).wp hn
    · cases he
  · -- store
    rename_i t x y ho
    split at he
    · rename_i ad hv
      split at he
      · rename_i hz
        simp only [Option.map_eq_some_iff, Prod.mk.injEq] at he
        obtain ⟨m2, hst, rfl, rfl⟩ := he
        exact (y_store h ho (hv ▸ hρ x (by simp [ho, Op.operands])) (hρ y (by simp [ho, Op.operands])) (by simpa using hz) hst).wp hn
      · cases he
    · cases he
  · -- fieldAddr
    rename_i s x f ho
    split at he
    · rename_i fl ad hf hv
      split at he
      · rename_i z hz
        split at he
        · simp only [Option.some.injEq, Prod.mk.injEq] at he
          obtain ⟨rfl, rfl⟩ := he
          exact (y_fieldAddr h ho hf (hv ▸ hρ x (by simp [ho, Op.operands])) hz).wp hn
        · cases he
      · cases he
    · cases he
  · -- field
    rename_i s x f ho
    split at he
    · rename_i fl cs hf hv
      simp only [Option.map_eq_some_iff, Prod.mk.injEq] at he
      obtain ⟨u, hp, rfl, rfl⟩ := he
      exact (y_field h ho hf (hv ▸ hρ x (by simp [ho, Op.operands])) hp).wp hn
    · cases he
  · -- indexAddr
    rename_i t x ix ho
    have hx := hρ x (by simp [ho, Op.operands])
    have hi := hρ ix (by simp [ho, Op.operands])
    split at he
    · cases he
    · rename_i i hni
      split at he
      · rename_i e ad n c hu hv
        rw [hv] at hx
        split at he
        · rename_i z hz
          split at he
          · rename_i hc
            simp only [Bool.and_eq_true, decide_eq_true_eq] at hc
            simp only [Option.some.injEq, Prod.mk.injEq] at he
            obtain ⟨rfl, rfl⟩ := he
            exact (y_indexAddr_slice h ho hi hni hu hx hz hc.1).wp hn
          · cases he
        · cases he
      · rename_i n e ad hu hv
        rw [hv] at hx
        split at he
        · rename_i z hz
          split at he
          · rename_i hc
            simp only [Bool.and_eq_true, decide_eq_true_eq] at hc
            simp only [Option.some.injEq, Prod.mk.injEq] at he
            obtain ⟨rfl, rfl⟩ := he
            exact (y_indexAddr_array h ho hi hni hu hx hz hc.1).wp hn
          · cases he
        · cases he
      · cases he
  · -- index
    rename_i t x ix ho
    have hx := hρ x (by simp [ho, Op.operands])
    have hi := hρ ix (by simp [ho, Op.operands])
    split at he
    · cases he
    · rename_i i hni
      split at he
      · rename_i n e cs hu hv
        rw [hv] at hx
        split at he
        · rename_i z hz
          split at he
          · rename_i hc
            simp only [Option.map_eq_some_iff, Prod.mk.injEq] at he
            obtain ⟨u, hp, rfl, rfl⟩ := he
            exact (y_index_array h ho hi hni hu hx hz hc hp).wp hn
          · cases he
        · cases he
      · rename_i s hu hv
        rw [hv] at hx
        split at he
        · rename_i b hb
          simp only [Option.some.injEq, Prod.mk.injEq] at he
          obtain ⟨rfl, rfl⟩ := he
          exact (y_index_string h ho hi hni hu hx hb).wp hn
        · cases he
      · cases he
  · -- extract
    rename_i x i ho
    split at he
    · rename_i vs hv
      simp only [Option.map_eq_some_iff, Prod.mk.injEq] at he
      obtain ⟨u, hu, rfl, rfl⟩ := he
      exact (y_extract h ho (hv ▸ hρ x (by simp [ho, Op.operands])) hu).wp hn
    · cases he
  · -- makeSlice
    rename_i t l c ho
    split at he
    · rename_i e hu
      split at he
      · rename_i i ln cp hi hl hc
        split at he
        · rename_i z hz
          split at he
          · rename_i hcnd
            simp only [Bool.and_eq_true, decide_eq_true_eq] at hcnd
            simp only [Option.some.injEq, Prod.mk.injEq] at he
            obtain ⟨rfl, rfl⟩ := he
            exact (y_makeSlice h ho (hρ l (by simp [ho, Op.operands])) (hρ c (by simp [ho, Op.operands])) hl hc hu hi hz hcnd.1.1 hcnd.1.2 hcnd.2).wp hn
          · cases he
        · cases he
      · cases he
    · cases he
  · -- slice
    rename_i t x lo hi ho
    have hx := hρ x (by simp [ho, Op.operands])
    split at he
    · rename_i e ad n c hu hv
      rw [hv] at hx
      split at he
      · rename_i z l k b hz hlo hhi hb
        split at he
        · rename_i hc
          simp only [Bool.and_eq_true, decide_eq_true_eq, beq_iff_eq] at hc
          simp only [Option.some.injEq, Prod.mk.injEq] at he
          obtain ⟨rfl, rfl⟩ := he
          refine (y_slice h ho hx hu hz ?_ ?_ hb hc.1.2 hc.1.1.1 hc.1.1.2).wp hn
          · cases lo with
            | none => simp only [Option.some.injEq] at hlo; exact Or.inr ⟨rfl, hlo.symm⟩
            | some y => exact Or.inl ⟨y, _, rfl, hρ y (by simp [ho, Op.operands]), hlo⟩
          · cases hi with
            | none => simp only [Option.some.injEq] at hhi; exact Or.inr ⟨rfl, hhi.symm⟩
            | some y => exact Or.inl ⟨y, _, rfl, hρ y (by simp [ho, Op.operands]), hhi⟩
        · cases he
      · cases he
    · exact hclo (by rw [ho]; intro cs b; simp) he
    · cases he
  · -- binOp
    rename_i op t x y yt ho
    have hx := hρ x (by simp [ho, Op.operands])
    have hy := hρ y (by simp [ho, Op.operands])
    split at he
    · rename_i e ad hu hvx hvy
      rw [hvx] at hx; rw [hvy] at hy
      simp only [Option.map_eq_some_iff, Prod.mk.injEq] at he
      obtain ⟨u, hb, rfl, rfl⟩ := he
      exact (y_eq_ptr h ho hu hb (Or.inl ⟨_, hx, hy⟩)).wp hn
    · rename_i e ad hu hvx hvy
      rw [hvx] at hx; rw [hvy] at hy
      simp only [Option.map_eq_some_iff, Prod.mk.injEq] at he
      obtain ⟨u, hb, rfl, rfl⟩ := he
      exact (y_eq_ptr h ho hu hb (Or.inr ⟨_, hx, hy⟩)).wp hn
    · rename_i e ad n c hu hvx hvy
      rw [hvx] at hx; rw [hvy] at hy
      simp only [Option.map_eq_some_iff, Prod.mk.injEq] at he
      obtain ⟨u, hb, rfl, rfl⟩ := he
      exact (y_eq_slice h ho hu hb (Or.inl ⟨_, _, _, hx, hy⟩)).wp hn
    · rename_i e ad n c hu hvx hvy
      rw [hvx] at hx; rw [hvy] at hy
      simp only [Option.map_eq_some_iff, Prod.mk.injEq] at he
      obtain ⟨u, hb, rfl, rfl⟩ := he
      exact (y_eq_slice h ho hu hb (Or.inr ⟨_, _, _, hx, hy⟩)).wp hn
    · rename_i ms q u0 hu hvx hvy
      rw [hvx] at hx; rw [hvy] at hy
      simp only [Option.map_eq_some_iff, Prod.mk.injEq] at he
      obtain ⟨u, hb, rfl, rfl⟩ := he
      exact (y_eq_iface h ho hu hb (Or.inl ⟨_, _, hx, hy⟩)).wp hn
    · rename_i ms q u0 hu hvx hvy
      rw [hvx] at hx; rw [hvy] at hy
      simp only [Option.map_eq_some_iff, Prod.mk.injEq] at he
      obtain ⟨u, hb, rfl, rfl⟩ := he
      exact (y_eq_iface h ho hu hb (Or.inr ⟨_, _, hx, hy⟩)).wp hn
    · exact hclo (by rw [ho]; intro cs b; simp) he
  · -- makeFunc
    rename_i f first captured ho
    simp only [Option.some.injEq, Prod.mk.injEq] at he
    obtain ⟨rfl, rfl⟩ := he
    refine (yields_same h (v' := .func (.func f) (first.map a.eval) (captured.map a.eval)) (.func f _ _ _ _ (by simp) ?_ (by simp) ?_) (by simp [execOp, ho, Instr.makeFunc])).wp hn
    · intro i x y hx hy
      simp only [Array.getElem?_map, Option.map_eq_some_iff] at hx hy
      obtain ⟨p, hp, rfl⟩ := hx
      obtain ⟨q, hq, rfl⟩ := hy
      rw [hp] at hq
      simp only [Option.some.injEq] at hq
      subst hq
      exact hρ p (by simp [ho, Op.operands, Array.mem_of_getElem? hp])
    · intro i x y hx hy
      simp only [Array.getElem?_map, Option.map_eq_some_iff] at hx hy
      obtain ⟨p, hp, rfl⟩ := hx
      obtain ⟨q, hq, rfl⟩ := hy
      rw [hp] at hq
      simp only [Option.some.injEq] at hq
      subst hq
      exact hρ p (by simp [ho, Op.operands, Array.mem_of_getElem? hp])
  · -- convert
    rename_i src dst x ho
    have hx := hρ x (by simp [ho, Op.operands])
    split at he
    · rename_i e ad n c hs hd hv
      rw [hv] at hx
      split at he
      · rename_i hue
        split at he
        · rename_i h0
          simp only [Option.some.injEq, Prod.mk.injEq] at he
          obtain ⟨rfl, rfl⟩ := he
          exact (y_bytesToString (l := []) h ho hx hs hue hd (Or.inl ⟨by simpa using h0, rfl⟩)).wp hn
        · rename_i h0
          split at he
          · rename_i cs hl
            simp only [Option.map_eq_some_iff, Prod.mk.injEq] at he
            obtain ⟨l, hb, rfl, rfl⟩ := he
            exact (y_bytesToString h ho hx hs hue hd (Or.inr ⟨by simpa using h0, cs, hl, hb⟩)).wp hn
          · cases he
      · cases he
    · rename_i e s hs hd hv
      rw [hv] at hx
      split at he
      · rename_i i hue hi
        split at he
        · rename_i hc
          simp only [Bool.and_eq_true, decide_eq_true_eq, beq_iff_eq] at hc
          simp only [Option.some.injEq, Prod.mk.injEq] at he
          obtain ⟨rfl, rfl⟩ := he
          exact (y_stringToBytes h ho hx hs hue hd hi hc.2 hc.1).wp hn
        · cases he
      · cases he
    · exact hclo (by rw [ho]; intro cs b; simp) he
  · -- makeInterface
    rename_i t x ho
    split at he
    · cases he
    · rename_i d hni hu
      simp only [Option.some.injEq, Prod.mk.injEq] at he
      obtain ⟨rfl, rfl⟩ := he
      exact (y_makeInterface h ho hu (fun ms e => by first | exact hni ms e | exact hni ms (by rw [hu, e])) (hρ x (by simp [ho, Op.operands]))).wp hn
    · cases he
  · -- typeAssert
    rename_i x xt t ok ho
    have hx := hρ x (by simp [ho, Op.operands])
    split at he
    · cases he
    · rename_i d t2 u hni hu hv
      rw [hv] at hx
      split at he
      · rename_i ht2
        have ht2' : t2 = t := by simpa using ht2
        subst ht2'
        simp only [Option.some.injEq, Prod.mk.injEq] at he
        obtain ⟨rfl, rfl⟩ := he
        exact (y_typeAssert h ho hu (fun ms e => by first | exact hni ms e | exact hni ms (by rw [hu, e])) hx).wp hn
      · cases he
    · cases he
  · -- makeMap
    rename_i t r ho
    split at he
    · rename_i k e hu
      split at he
      · simp only [Option.some.injEq, Prod.mk.injEq] at he
        obtain ⟨rfl, rfl⟩ := he
        exact (y_makeMap h ho hu (Or.inl rfl)).wp hn
      · rename_i x
        split at he
        · rename_i q n hv
          simp only [Option.some.injEq, Prod.mk.injEq] at he
          obtain ⟨rfl, rfl⟩ := he
          exact (y_makeMap h ho hu (Or.inr ⟨x, q, n, rfl, hv ▸ hρ x (by simp [ho, Op.operands])⟩)).wp hn
        · cases he
    · cases he
  · -- lookup
    rename_i t x y ok ho
    have hx := hρ x (by simp [ho, Op.operands])
    have hy := hρ y (by simp [ho, Op.operands])
    split at he
    · rename_i kt e es hu hes
      split at he
      · rename_i i u hf
        simp only [Option.some.injEq, Prod.mk.injEq] at he
        obtain ⟨rfl, rfl⟩ := he
        exact (y_lookup h ho hu hx hy hes hf (Or.inl ⟨_, _, rfl, rfl⟩)).wp hn
      · rename_i hf
        split at he
        · rename_i i hi
          split at he
          · rename_i z hz
            split at he
            · rename_i hcz
              simp only [Option.some.injEq, Prod.mk.injEq] at he
              obtain ⟨rfl, rfl⟩ := he
              exact (y_lookup h ho hu hx hy hes hf (Or.inr ⟨rfl, _, _, hi, hz, hcz, rfl⟩)).wp hn
            · cases he
          · cases he
        · cases he
      · cases he
    · cases he
  · -- mapUpdate
    rename_i t x k y ho
    have hx := hρ x (by simp [ho, Op.operands])
    split at he
    · rename_i kt e l hu hv
      rw [hv] at hx
      split at he
      · rename_i s hs
        split at he
        · rename_i s' hp
          simp only [Option.some.injEq, Prod.mk.injEq] at he
          obtain ⟨rfl, rfl⟩ := he
          exact (y_mapUpdate h (Or.inl ho) hu hx (hρ k (by simp [ho, Op.operands])) (hρ y (by simp [ho, Op.operands])) hs hp).wp hn
        · cases he
      · cases he
    · cases he
  · -- insert
    rename_i t x k y ho
    have hx := hρ x (by simp [ho, Op.operands])
    split at he
    · rename_i kt e l hu hv
      rw [hv] at hx
      split at he
      · rename_i s hs
        split at he
        · rename_i s' hp
          simp only [Option.some.injEq, Prod.mk.injEq] at he
          obtain ⟨rfl, rfl⟩ := he
          exact (y_mapUpdate h (Or.inr ho) hu hx (hρ k (by simp [ho, Op.operands])) (hρ y (by simp [ho, Op.operands])) hs hp).wp hn
        · cases he
      · cases he
    · cases he
  · -- mapEntry
    rename_i t x k ho
    have hx := hρ x (by simp [ho, Op.operands])
    split at he
    · rename_i kt e l hu hv
      rw [hv] at hx
      split at he
      · rename_i s i hs hi
        split at he
        · rename_i z hz
          split at he
          · rename_i hcz
            split at he
            · rename_i s' u b hp
              simp only [Option.some.injEq, Prod.mk.injEq] at he
              obtain ⟨rfl, rfl⟩ := he
              exact (y_mapEntry h ho hu hx (hρ k (by simp [ho, Op.operands])) hs hi hz hcz hp).wp hn
            · cases he
          · cases he
        · cases he
      · cases he
    · cases he
  · -- entryStore
    rename_i t x b y ho
    have hx := hρ x (by simp [ho, Op.operands])
    split at he
    · rename_i l st hv hst
      rw [hv] at hx
      split at he
      · rename_i s hs
        split at he
        · rename_i i hi
          simp only [Option.some.injEq, Prod.mk.injEq] at he
          obtain ⟨rfl, rfl⟩ := he
          exact (y_entryStore h ho hx (hρ b (by simp [ho, Op.operands])) hst (hρ y (by simp [ho, Op.operands])) hs hi).wp hn
        · cases he
      · cases he
    · cases he
  · -- call
    rename_i c ho
    exact sopCall_wp hH h ho hρ he hn
  · cases he
  · rename_i hsel
    exact hclo (fun cs b e => hsel cs b e) he
end
end Go.Sh

/- Code: what the abstract run does, the model does too. -/
namespace Go.Sh
open Go.RowKit
set_option linter.unusedVariables false
set_option linter.unusedSimpArgs false

def conv : SExit → Exit
  | .normal => .normal
  | .exit id => .exit id
  | .ret => .ret

def SRel (J : Inj) (t : Tree Value) (a : Act) : Prop := ∀ i, i < a.tmps.size → VRel J ((t.get i).getD undef) (a.tmps.getD i undef)

variable {P : Program} {J : Inj} {m m' : Mem} {B : Nat} {W w w' : World} {t t' : Tree Value} {a : Act}

theorem SRel.mono {J K : Inj} (h : J.le K) (r : SRel J t a) : SRel K t a := fun i hi => (r i hi).mono h

theorem SRel.put {J : Inj} (r : SRel J t a) {v v' : Value} (hv : VRel J v v') (dst : Option Tmp) (hd : ∀ d, dst = some d → d < a.tmps.size) : SRel J (Sh.put t dst v) (a.put dst v') := by
  cases dst with
  | none => exact r
  | some d =>
    have hlt := hd d rfl
    intro i hi
    simp only [Act.put, Array.size_setIfInBounds] at hi
    simp only [Sh.put, Act.put, Tree.get_set]
    by_cases e : i = d
    · subst e
      simp [hi]
      exact hv
    · simp [e]
      have hne : d ≠ i := fun h => e h.symm
      have := r i hi
      simp at this
      rw [Array.getElem?_setIfInBounds_ne hne]
      exact this

theorem put_size (a : Act) (dst : Option Tmp) (v : Value) : (a.put dst v).tmps.size = a.tmps.size := by
  cases dst <;> simp [Act.put]

theorem put_defers (a : Act) (dst : Option Tmp) (v : Value) : (a.put dst v).defers = a.defers := by
  cases dst <;> simp [Act.put]

/-- the variables' numbers -/
def GOk (P : Program) (J : Inj) : Prop := ∀ g, g < P.globals.size → g < J.n ∧ J.blk g = g ∧ J.base g = 0

theorem glob_rel (hg : GOk P J) {g : Nat} (h : g < P.globals.size) : VRel J (.pointer (some ⟨g, 0, none⟩)) (.pointer (some ⟨g, 0, none⟩)) := by
  obtain ⟨h1, h2, h3⟩ := hg g h
  have := VRel.ptr (J := J) g 0 h1
  rwa [h2, h3] at this

theorem opd_rel (hg : GOk P J) (r : SRel J t a) {x : Operand} (h : opdOk P.globals.size a.tmps.size x = true) : VRel J (ev t x) (a.eval x) := by
  cases x with
  | tmp i => simp only [opdOk, decide_eq_true_eq] at h; exact r i h
  | const v => exact .clo _ h
  | global g => simp only [opdOk, decide_eq_true_eq] at h; exact glob_rel hg h
  | func f => exact .clo _ rfl

theorem oper_rel (hg : GOk P J) (r : SRel J t a) {o : Oper} (h : operOk P.globals.size a.tmps.size o = true) : ∀ x ∈ o.op.operands, VRel J (ev t x) (a.eval x) := by
  intro x hx
  simp only [operOk, Bool.and_eq_true] at h
  exact opd_rel hg r (Array.all_eq_true'.1 h.1 x hx)

theorem oper_dst {G n : Nat} {o : Oper} (h : operOk G n o = true) : ∀ d, o.dst = some d → d < n := by
  intro d hd
  simp only [operOk, Bool.and_eq_true, hd, decide_eq_true_eq] at h
  exact h.2

/-- is the operation wanted: the two runs agree -/
theorem wanted_rel (r : SRel J t a) {ops : Array Oper} {o : Oper} {G : Nat} (hops : ∀ x ∈ ops.toList, operOk G a.tmps.size x = true) : Region.wanted o (yielded ops a.tmps) = swanted ops.toList t o := by
  unfold Region.wanted swanted
  cases o.guard with
  | none => rfl
  | some g =>
    obtain ⟨j, want⟩ := g
    simp only
    congr 1
    unfold yielded syield
    simp only [Array.getElem?_toList]
    cases hj : ops[j]? with
    | none => rfl
    | some oj =>
      simp only [Option.bind_some]
      cases hd : oj.dst with
      | none => rfl
      | some d =>
        simp only [Option.bind_some]
        have hlt := oper_dst (hops oj (by simpa using Array.mem_of_getElem? hj)) d hd
        have hr := r d hlt
        have ha : a.tmps[d]? = some (a.tmps.getD d undef) := by simp [hlt]
        rw [ha]
        generalize a.tmps.getD d undef = y at hr
        cases ht : t.get d with
        | none =>
          rw [ht] at hr
          have := hr.closed_eq rfl
          simp only [Option.getD_none] at this
          rw [this]
          rfl
        | some x =>
          rw [ht] at hr
          simp only [Option.getD_some] at hr
          cases hr with
          | clo _ _ => rfl
          | _ => rfl

section
variable {H : CallH}

/-- one operation of a region, wanted or not -/
theorem sop1_wp (hH : HSound P B W H) (h : MRel P J m B W w) (r : SRel J t a) {ops : Array Oper} (hops : ∀ x ∈ ops.toList, operOk P.globals.size a.tmps.size x = true) {i : Nat} {o : Oper} (hi : ops[i]? = some o) {v : Value}
    (he : sop1 P H ops.toList o t m = some (v, m')) {K : Act → World → Prop} {Q : Exit → Act → World → Prop}
    (hn : ∀ J' a' w', J.le J' → a'.tmps.size = a.tmps.size → a'.defers = a.defers → SRel J' (put t o.dst v) a' → (∃ v', a' = a.put o.dst v' ∧ VRel J' v v') → MRel P J' m' B W w' → K a' w') : wpOp P ops Q i K a w := by
  have ho := hops o (by simpa using Array.mem_of_getElem? hi)
  unfold sop1 at he
  unfold wpOp
  simp only [hi]
  rw [wanted_rel r hops]
  split at he
  · rename_i hw
    rw [if_pos hw]
    refine Or.inl (sop_wp hH h (oper_rel h.glob r ho) he fun J' v' w' h1 h2 h3 => ?_)
    exact hn J' _ w' h1 (put_size _ _ _) (put_defers _ _ _) ((r.mono h1).put h2 _ (oper_dst ho)) ⟨v', rfl, h2⟩ h3
  · rename_i hw
    rw [if_neg hw]
    simp only [Option.some.injEq, Prod.mk.injEq] at he
    obtain ⟨rfl, rfl⟩ := he
    exact hn J _ w (.rfl J) (put_size _ _ _) (put_defers _ _ _) (r.put (.undef J) _ (oper_dst ho)) ⟨undef, rfl, .undef J⟩ h

theorem sops_wp (hH : HSound P B W H) {ops : Array Oper} {Q : Exit → Act → World → Prop} : ∀ (rest : List Oper) (k : Nat), ops.toList.drop k = rest → ∀ (t : Tree Value) (m : Mem) (t' : Tree Value) (m' : Mem),
    sops P H ops.toList rest t m = some (t', m') → ∀ (J : Inj) (a : Act) (w : World), (∀ x ∈ ops.toList, operOk P.globals.size a.tmps.size x = true) → MRel P J m B W w → SRel J t a →
    (∀ J' a' w', J.le J' → a'.tmps.size = a.tmps.size → a'.defers = a.defers → SRel J' t' a' → MRel P J' m' B W w' → Q .normal a' w') → wpOps P ops Q ((List.range' k rest.length)) a w
  | [], k, _, t, m, t', m', he, J, a, w, _, h, r, hn => by
    simp only [sops, Option.some.injEq, Prod.mk.injEq] at he
    obtain ⟨rfl, rfl⟩ := he
    exact hn J a w (.rfl J) rfl rfl r h
  | o :: rest, k, hk, t, m, t', m', he, J, a, w, hops, h, r, hn => by
    have hlt : k < ops.toList.length := by
      rcases Nat.lt_or_ge k ops.toList.length with g | g
      · exact g
      · rw [List.drop_eq_nil_of_le g] at hk; cases hk
    have hko := List.drop_eq_getElem_cons hlt
    rw [hk] at hko
    simp only [List.cons.injEq] at hko
    have hi : ops[k]? = some o := by rw [hko.1]; simp at hlt ⊢
    simp only [sops] at he
    split at he
    · rename_i v m1 h1
      rw [List.length_cons, List.range'_succ, wpOps_cons]
      refine sop1_wp hH h r hops hi h1 fun J' a' w' g1 g2 g3 g4 _ g5 => ?_
      exact sops_wp hH rest (k + 1) hko.2.symm _ _ _ _ he J' a' w' (by rw [g2]; exact hops) g5 g4
        fun J'' a'' w'' q1 q2 q3 q4 q5 => hn J'' a'' w'' (g1.trans q1) (q2.trans g2) (q3.trans g3) q4 q5
    · cases he
end
end Go.Sh

/- Regions that draw their order. -/
namespace Go.Sh
open Go.RowKit
set_option linter.unusedVariables false
set_option linter.unusedSimpArgs false

variable {P : Program} {H : CallH}

theorem map_same {α : Type} (x : Option α) (m m2 : Mem) : x.map (fun u => (u, m2)) = (x.map fun u => (u, m)).map fun p => (p.1, m2) := by
  cases x <;> rfl

/-- A silent operation that doesn't look at the memory. -/
theorem silent_eq {o : Oper} (hl : loudB P o = false) (hr : readsB o = false) (ρ : Operand → Value) (m m2 : Mem) : sop P H ρ o m2 = (sop P H ρ o m).map fun p => (p.1, m2) := by
  obtain ⟨dst, op, type, pos, after, guard⟩ := o
  cases op with
  | move x => rfl
  | assign x => rfl
  | pick c a b => simp only [sop]; split <;> rfl
  | nilCheck x => simp only [sop]; split <;> rfl
  | fieldAddr s x f =>
    simp only [sop]
    split
    · split
      · split <;> rfl
      · rfl
    · rfl
  | field s x f =>
    simp only [sop]
    split
    · exact map_same _ _ _
    · rfl
  | indexAddr t x i =>
    simp only [sop]
    split
    · rfl
    · split
      · split
        · split <;> rfl
        · rfl
      · split
        · split <;> rfl
        · rfl
      · rfl
  | index t x i =>
    simp only [sop]
    split
    · rfl
    · split
      · split
        · split
          · exact map_same _ _ _
          · rfl
        · rfl
      · split <;> rfl
      · rfl
  | extract x i =>
    simp only [sop]
    split
    · exact map_same _ _ _
    · rfl
  | binOp op t x y yt =>
    simp only [sop]
    split <;> exact map_same _ _ _
  | unOp op t x => exact map_same _ _ _
  | makeInterface t x =>
    simp only [sop]
    split <;> rfl
  | typeAssert x xt t ok =>
    simp only [sop]
    split
    · rfl
    · split <;> rfl
    · rfl
  | makeFunc f first captured =>
    cases f with
    | func f => rfl
    | _ => exact map_same _ _ _
  | build t parts =>
    simp only [sop]
    split
    · split
      · split
        · split
          · split
            · cases Instr.fill _ _ _ <;> rfl
            · rfl
          · split
            · cases Instr.fill _ _ _ <;> rfl
            · rfl
          · rfl
        · rfl
      · rfl
    · rfl
  | call c =>
    obtain ⟨callee, args, argTypes⟩ := c
    cases callee with
    | value f => simp [loudB] at hl
    | invoke r n => simp [loudB] at hl
    | builtin b =>
      cases b <;> first
        | (simp [loudB] at hl; done)
        | exact map_same _ _ _
        | (simp [readsB] at hr; done)
  | _ => first
    | (simp [loudB] at hl; done)
    | (simp [readsB] at hr; done)

theorem silent_mem {o : Oper} (hl : loudB P o = false) {ρ : Operand → Value} {m m' : Mem} {v : Value} (he : sop P H ρ o m = some (v, m')) : m' = m := by
  by_cases hr : readsB o = false
  · have := silent_eq (H := H) hl hr ρ m m
    rw [he] at this
    simp only [Option.map_some, Option.some.injEq, Prod.mk.injEq, true_and] at this
    exact this
  · obtain ⟨dst, op, type, pos, after, guard⟩ := o
    cases op with
    | load t x =>
      simp only [sop] at he
      split at he
      · split at he
        · cases he
        · split at he
          · split at he
            · simp only [Option.map_eq_some_iff, Prod.mk.injEq] at he
              obtain ⟨_, _, _, h⟩ := he
              exact h.symm
            · cases he
          · split at he
            · simp only [Option.some.injEq, Prod.mk.injEq] at he; exact he.2.symm
            · cases he
      · cases he
    | slice t x lo hi mx =>
      cases mx with
      | some z =>
        simp only [sop, Option.map_eq_some_iff, Prod.mk.injEq] at he
        obtain ⟨_, _, _, h⟩ := he
        exact h.symm
      | none =>
        simp only [sop] at he
        split at he
        · split at he
          · split at he
            · simp only [Option.some.injEq, Prod.mk.injEq] at he; exact he.2.symm
            · cases he
          · cases he
        · simp only [Option.map_eq_some_iff, Prod.mk.injEq] at he
          obtain ⟨_, _, _, h⟩ := he
          exact h.symm
        · cases he
    | convert src dst x =>
      simp only [loudB] at hl
      simp only [sop] at he
      split at he
      · split at he
        · split at he
          · simp only [Option.some.injEq, Prod.mk.injEq] at he; exact he.2.symm
          · split at he
            · simp only [Option.map_eq_some_iff, Prod.mk.injEq] at he
              obtain ⟨_, _, _, h⟩ := he
              exact h.symm
            · cases he
        · cases he
      · rename_i hd _
        rw [hd] at hl
        simp at hl
      · simp only [Option.map_eq_some_iff, Prod.mk.injEq] at he
        obtain ⟨_, _, _, h⟩ := he
        exact h.symm
    | lookup t x y ok =>
      simp only [sop] at he
      split at he
      · split at he
        · simp only [Option.some.injEq, Prod.mk.injEq] at he; exact he.2.symm
        · split at he
          · split at he
            · split at he
              · simp only [Option.some.injEq, Prod.mk.injEq] at he; exact he.2.symm
              · cases he
            · cases he
          · cases he
        · cases he
      · cases he
    | call c =>
      obtain ⟨callee, args, argTypes⟩ := c
      cases callee with
      | value f => simp [loudB] at hl
      | invoke r n => simp [loudB] at hl
      | builtin b =>
        cases b <;> first
          | (simp [loudB] at hl; done)
          | (simp [readsB] at hr; done)
          | (simp only [sop, sopCall] at he
             split at he
             · split at he
               · simp only [Option.some.injEq, Prod.mk.injEq] at he; exact he.2.symm
               · simp only [Option.some.injEq, Prod.mk.injEq] at he; exact he.2.symm
               · split at he
                 · simp only [Option.some.injEq, Prod.mk.injEq] at he; exact he.2.symm
                 · cases he
               · simp only [Option.some.injEq, Prod.mk.injEq] at he; exact he.2.symm
               · cases he
             · cases he)
    | _ => simp [readsB] at hr

theorem silent1_eq {o : Oper} (hl : loudB P o = false) (hr : readsB o = false) (all : List Oper) (t : Tree Value) (m m2 : Mem) : sop1 P H all o t m2 = (sop1 P H all o t m).map fun p => (p.1, m2) := by
  unfold sop1
  split
  · exact silent_eq hl hr _ _ _
  · rfl

theorem silent1_mem {o : Oper} (hl : loudB P o = false) {all : List Oper} {t : Tree Value} {m m' : Mem} {v : Value} (he : sop1 P H all o t m = some (v, m')) : m' = m := by
  unfold sop1 at he
  split at he
  · exact silent_mem hl he
  · simp only [Option.some.injEq, Prod.mk.injEq] at he; exact he.2.symm

/- what stands ahead of what -/
def mask (o : Oper) (acc : List Nat) : Nat := o.after.toList.foldl (fun s e => if Region.binds .any e then s ||| 2 ^ e.on ||| acc.getD e.on 0 else s) 0

theorem mask_bit {acc : List Nat} : ∀ (es : List Edge) (s i : Nat), (es.foldl (fun s e => if Region.binds .any e then s ||| 2 ^ e.on ||| acc.getD e.on 0 else s) s).testBit i = true →
    s.testBit i = true ∨ ∃ e ∈ es, Region.binds .any e = true ∧ (i = e.on ∨ (acc.getD e.on 0).testBit i = true)
  | [], s, i, h => Or.inl h
  | e :: r, s, i, h => by
    simp only [List.foldl_cons] at h
    rcases mask_bit r _ i h with g | ⟨x, hx, g⟩
    · split at g
      · rename_i hb
        rw [Nat.testBit_or, Nat.testBit_or, Bool.or_eq_true, Bool.or_eq_true] at g
        rcases g with (g | g) | g
        · exact Or.inl g
        · rw [Nat.testBit_two_pow, decide_eq_true_eq] at g
          exact Or.inr ⟨e, by simp, hb, Or.inl g.symm⟩
        · exact Or.inr ⟨e, by simp, hb, Or.inr g⟩
      · exact Or.inl g
    · exact Or.inr ⟨x, by simp [hx], g⟩

theorem ancs_spec : ∀ (ops : List Oper) (acc : List Nat), (ancs ops acc).take acc.length = acc ∧ ∀ j o, ops[j]? = some o → (ancs ops acc).getD (acc.length + j) 0 = mask o ((ancs ops acc).take (acc.length + j))
  | [], acc => ⟨by simp [ancs], fun j o h => by simp at h⟩
  | x :: r, acc => by
    have hun : ancs (x :: r) acc = ancs r (acc ++ [mask x acc]) := rfl
    obtain ⟨h1, h2⟩ := ancs_spec r (acc ++ [mask x acc])
    rw [hun]
    simp only [List.length_append, List.length_singleton] at h1 h2
    have htk : (ancs r (acc ++ [mask x acc])).take acc.length = acc := by
      have := congrArg (List.take acc.length) h1
      rw [List.take_take, Nat.min_eq_left (by omega)] at this
      rw [this]
      simp
    refine ⟨htk, fun j o hj => ?_⟩
    cases j with
    | zero =>
      simp at hj
      subst hj
      rw [Nat.add_zero, htk]
      have hg : (ancs r (acc ++ [mask x acc]))[acc.length]? = (acc ++ [mask x acc])[acc.length]? := by
        conv => rhs; rw [← h1]
        rw [List.getElem?_take, if_pos (by omega)]
      rw [List.getD_eq_getElem?_getD, hg]
      simp
    | succ j =>
      simp at hj
      have := h2 j o hj
      rw [show acc.length + 1 + j = acc.length + (j + 1) by omega] at this
      exact this

theorem getD_take {l : List Nat} {k i : Nat} (h : i < k) : (l.take k).getD i 0 = l.getD i 0 := by
  simp only [List.getD_eq_getElem?_getD, List.getElem?_take, if_pos h]

/-- the bits of operation j: an edge's end, or a bit of it -/
theorem anc_bit {ops : List Oper} {j i : Nat} {o : Oper} (ho : ops[j]? = some o) (hback : ∀ e ∈ o.after.toList, Region.binds .any e = true → e.on < j) (h : ((ancs ops []).getD j 0).testBit i = true) :
    ∃ e ∈ o.after.toList, Region.binds .any e = true ∧ e.on < j ∧ (i = e.on ∨ ((ancs ops []).getD e.on 0).testBit i = true) := by
  have := (ancs_spec ops []).2 j o ho
  simp only [List.length_nil, Nat.zero_add] at this
  rw [this] at h
  rcases mask_bit _ _ _ h with g | ⟨e, he, hb, g⟩
  · simp at g
  · have hlt := hback e he hb
    refine ⟨e, he, hb, hlt, ?_⟩
    rw [getD_take hlt] at g
    exact g

/-- what is closed under the edges is closed under the bits -/
theorem anc_closed {ops : List Oper} (hback : ∀ j o, ops[j]? = some o → ∀ e ∈ o.after.toList, Region.binds .any e = true → e.on < j) {L : Nat → Prop}
    (hcl : ∀ j o, ops[j]? = some o → L j → ∀ e ∈ o.after.toList, Region.binds .any e = true → L e.on) :
    ∀ (j : Nat) (o : Oper), ops[j]? = some o → (∀ e ∈ o.after.toList, Region.binds .any e = true → L e.on) → ∀ i, ((ancs ops []).getD j 0).testBit i = true → L i := by
  intro j
  induction j using Nat.strongRecOn with
  | _ j ih =>
    intro o ho hd i hi
    obtain ⟨e, he, hb, hlt, g⟩ := anc_bit ho (hback j o ho) hi
    rcases g with rfl | g
    · exact hd e he hb
    · have hjl : j < ops.length := (List.getElem?_eq_some_iff.1 ho).1
      have hel : e.on < ops.length := by omega
      exact ih e.on hlt ops[e.on] (by simp [hel]) (hcl e.on _ (by simp [hel]) (hd e he hb)) i g
end Go.Sh

/- Regions that draw their order: the theorem. -/
namespace Go.Sh
open Go.RowKit
set_option linter.unusedVariables false
set_option linter.unusedSimpArgs false

mutual
theorem eqV_eq : ∀ (v w : Value), eqV v w = true → v = w
  | .bool a, w, h => by cases w <;> simp_all [eqV]
  | .int k a, w, h => by cases w <;> simp_all [eqV]
  | .float k a, w, h => by cases w <;> simp_all [eqV]
  | .complex k a b, w, h => by cases w <;> simp_all [eqV]
  | .string a, w, h => by
    cases w <;> first
      | (simp [eqV] at h; done)
      | (rename_i b
         simp only [eqV, beq_iff_eq] at h
         obtain ⟨a⟩ := a
         obtain ⟨b⟩ := b
         simp only at h
         rw [h])
  | .pointer a, w, h => by cases w <;> simp_all [eqV]
  | .slice a n c, w, h => by cases w <;> simp_all [eqV]
  | .map a, w, h => by cases w <;> simp_all [eqV]
  | .chan a, w, h => by cases w <;> simp_all [eqV]
  | .nilFunc, w, h => by cases w <;> simp_all [eqV]
  | .nilIface, w, h => by cases w <;> simp_all [eqV]
  | .func f a b, w, h => by
    cases w <;> cases f <;> first
      | (simp [eqV] at h; done)
      | (rename_i g c d; cases g <;> first
          | (simp [eqV] at h; done)
          | (simp only [eqV, Bool.and_eq_true, beq_iff_eq] at h
             rw [eqA_eq a _ h.1.2, eqA_eq b _ h.2, h.1.1]))
      | (rename_i g c d _; cases g <;> first
          | (simp [eqV] at h; done)
          | (simp only [eqV, Bool.and_eq_true, beq_iff_eq] at h
             rw [eqA_eq a _ h.1.2, eqA_eq b _ h.2, h.1.1]))
  | .iface t v, w, h => by
    cases w <;> first
      | (simp [eqV] at h; done)
      | (simp only [eqV, Bool.and_eq_true, beq_iff_eq] at h
         rw [eqV_eq v _ h.2, h.1])
  | .agg a, w, h => by
    cases w <;> first
      | (simp [eqV] at h; done)
      | (simp only [eqV] at h; rw [eqA_eq a _ h])
  | .tuple a, w, h => by
    cases w <;> first
      | (simp [eqV] at h; done)
      | (simp only [eqV] at h; rw [eqA_eq a _ h])
theorem eqA_eq : ∀ (a b : Array Value), eqA a b = true → a = b
  | ⟨l⟩, ⟨r⟩, h => by
    simp only [eqA] at h
    rw [eqL_eq l r h]
theorem eqL_eq : ∀ (a b : List Value), eqL a b = true → a = b
  | [], b, h => by cases b <;> simp_all [eqL]
  | x :: r, b, h => by
    cases b with
    | nil => simp [eqL] at h
    | cons y s =>
      simp only [eqL, Bool.and_eq_true] at h
      rw [eqV_eq x y h.1, eqL_eq r s h.2]
end

variable {P : Program} {H : CallH} {B : Nat} {W : World}

/-- the states: how one leads to the next -/
theorem states_spec {all : List Oper} : ∀ (rest : List Oper) (t : Tree Value) (m : Mem) (S : List (Tree Value × Mem)), states P H all rest t m = some S →
    S.length = rest.length + 1 ∧ S[0]? = some (t, m) ∧ ∀ i o, rest[i]? = some o → ∃ ti mi v m1, S[i]? = some (ti, mi) ∧ sop1 P H all o ti mi = some (v, m1) ∧ S[i + 1]? = some (put ti o.dst v, m1)
  | [], t, m, S, h => by
    simp only [states, Option.some.injEq] at h
    subst h
    exact ⟨rfl, rfl, fun i o h => by simp at h⟩
  | x :: r, t, m, S, h => by
    simp only [states] at h
    split at h
    · rename_i v m' h1
      split at h
      · rename_i l hl
        simp only [Option.some.injEq] at h
        subst h
        obtain ⟨g1, g2, g3⟩ := states_spec r _ _ l hl
        refine ⟨by simp [g1], rfl, fun i o hi => ?_⟩
        cases i with
        | zero =>
          simp at hi
          subst hi
          exact ⟨t, m, v, m', rfl, h1, by simpa using g2⟩
        | succ i =>
          simp at hi
          obtain ⟨ti, mi, v', m1, q1, q2, q3⟩ := g3 i o hi
          exact ⟨ti, mi, v', m1, by simpa using q1, q2, by simpa using q3⟩
      · cases h
    · cases h

/-- a slot that no operation from i to k writes -/
theorem slot_kept {ops : List Oper} {S : List (Tree Value × Mem)} (hS : ∀ i o, ops[i]? = some o → ∃ ti mi v m1, S[i]? = some (ti, mi) ∧ sop1 P H ops o ti mi = some (v, m1) ∧ S[i + 1]? = some (put ti o.dst v, m1))
    {d : Nat} : ∀ (n i : Nat), i + n ≤ ops.length → (∀ x, i ≤ x → x < i + n → ∀ o, ops[x]? = some o → o.dst ≠ some d) → ∀ ti mi tk mk, S[i]? = some (ti, mi) → S[i + n]? = some (tk, mk) → tk.get d = ti.get d
  | 0, i, _, _, ti, mi, tk, mk, h1, h2 => by
    rw [Nat.add_zero, h1] at h2
    simp only [Option.some.injEq, Prod.mk.injEq] at h2
    rw [h2.1]
  | n + 1, i, hle, hno, ti, mi, tk, mk, h1, h2 => by
    have hlt : i + n < ops.length := by omega
    obtain ⟨tj, mj, v, m1, q1, _, q3⟩ := hS (i + n) ops[i + n] (by simp [hlt])
    rw [show i + (n + 1) = i + n + 1 by omega, q3] at h2
    simp only [Option.some.injEq, Prod.mk.injEq] at h2
    have hd := hno (i + n) (by omega) (by omega) ops[i + n] (by simp [hlt])
    have ih := slot_kept hS n i (by omega) (fun x hx1 hx2 => hno x hx1 (by omega)) ti mi tj mj h1 q1
    rw [← h2.1, ← ih]
    cases hdst : ops[i + n].dst with
    | none => rfl
    | some d' =>
      rw [hdst] at hd
      exact Tree.get_set_ne _ _ (fun e => hd (by rw [e]))

/-- a stretch without a loud operation leaves the memory -/
theorem mem_kept {ops : List Oper} {S : List (Tree Value × Mem)} (hS : ∀ i o, ops[i]? = some o → ∃ ti mi v m1, S[i]? = some (ti, mi) ∧ sop1 P H ops o ti mi = some (v, m1) ∧ S[i + 1]? = some (put ti o.dst v, m1)) :
    ∀ (n i : Nat), i + n ≤ ops.length → (∀ x, i ≤ x → x < i + n → ∀ o, ops[x]? = some o → loudB P o = false) → ∀ ti mi tk mk, S[i]? = some (ti, mi) → S[i + n]? = some (tk, mk) → mk = mi
  | 0, i, _, _, ti, mi, tk, mk, h1, h2 => by
    rw [Nat.add_zero, h1] at h2
    simp only [Option.some.injEq, Prod.mk.injEq] at h2
    exact h2.2.symm
  | n + 1, i, hle, hno, ti, mi, tk, mk, h1, h2 => by
    have hlt : i + n < ops.length := by omega
    obtain ⟨tj, mj, v, m1, q1, q2, q3⟩ := hS (i + n) ops[i + n] (by simp [hlt])
    rw [show i + (n + 1) = i + n + 1 by omega, q3] at h2
    simp only [Option.some.injEq, Prod.mk.injEq] at h2
    have ih := mem_kept hS n i (by omega) (fun x hx1 hx2 => hno x hx1 (by omega)) ti mi tj mj h1 q1
    rw [← h2.2, ← ih]
    exact silent1_mem (hno (i + n) (by omega) (by omega) ops[i + n] (by simp [hlt])) q2

def loudAt (P : Program) (ops : List Oper) (i : Nat) : Bool := (ops[i]?).any (loudB P)

/-- the first loud operation that has not been carried out -/
def Front (P : Program) (ops : List Oper) (L : Nat → Prop) (p : Nat) : Prop :=
  p ≤ ops.length ∧ (∀ k, k < p → loudAt P ops k = true → L k) ∧ (p < ops.length → loudAt P ops p = true ∧ ¬ L p)

theorem front_exists (ops : List Oper) (L : Nat → Prop) : ∃ p, Front P ops L p := by
  by_cases h : ∃ p, p < ops.length ∧ loudAt P ops p = true ∧ ¬ L p
  · obtain ⟨p, hp⟩ := h
    induction p using Nat.strongRecOn with
    | _ p ih =>
      by_cases g : ∃ q, q < p ∧ loudAt P ops q = true ∧ ¬ L q
      · obtain ⟨q, q1, q2, q3⟩ := g
        exact ih q q1 ⟨by omega, q2, q3⟩
      · refine ⟨p, by omega, fun k hk hl => ?_, fun _ => hp.2⟩
        exact Classical.byContradiction fun hn => g ⟨k, hk, hl, hn⟩
  · refine ⟨ops.length, Nat.le_refl _, fun k hk hl => ?_, fun hlt => absurd hlt (by omega)⟩
    exact Classical.byContradiction fun hn => h ⟨k, hk, hl, hn⟩

/-- the static facts, in words -/
structure Static (P : Program) (ops : List Oper) : Prop where
  back : ∀ j o, ops[j]? = some o → ∀ e ∈ o.after.toList, Region.binds .any e = true → e.on < j
  wr : ∀ i j x y d, i < j → ops[i]? = some x → ops[j]? = some y → x.dst = some d → (d ∈ namesOf ops y ∨ y.dst = some d) → ((ancs ops []).getD j 0).testBit i = true
  rd : ∀ i j x y d, i < j → ops[i]? = some x → ops[j]? = some y → y.dst = some d → d ∈ namesOf ops x → ((ancs ops []).getD j 0).testBit i = true
  loud : ∀ i j x y, i < j → ops[i]? = some x → ops[j]? = some y → loudB P x = true → loudB P y = true → ((ancs ops []).getD j 0).testBit i = true

theorem static_of {ops : List Oper} (h : drawOk P ops = true) : Static P ops := by
  unfold drawOk at h
  simp only [Bool.and_eq_true] at h
  obtain ⟨⟨h1, h2⟩, _⟩ := h
  have hback : ∀ j o, ops[j]? = some o → ∀ e ∈ o.after.toList, Region.binds .any e = true → e.on < j := by
    intro j o ho e he hb
    have hm : (o, j) ∈ ops.zipIdx := by
      rw [List.mem_zipIdx_iff_getElem?]; exact ho
    have := List.all_eq_true.1 h2 _ hm
    simp only at this
    have := Array.all_eq_true'.1 this e (by simpa using he)
    simpa [hb] using this
  have hpair : ∀ i j, i < j → j < ops.length → pairOk P ops (ancs ops []) i j = true := by
    intro i j hij hj
    unfold ordOk at h1
    have := List.all_eq_true.1 h1 j (by simpa using hj)
    exact List.all_eq_true.1 this i (by simpa using hij)
  have hlen : ∀ j o, ops[j]? = some o → j < ops.length := fun j o ho => (List.getElem?_eq_some_iff.1 ho).1
  refine ⟨hback, ?_, ?_, ?_⟩
  · intro i j x y d hij hx hy hd hn
    have := hpair i j hij (hlen j y hy)
    unfold pairOk at this
    simp only [hx, hy, hd, Bool.and_eq_true] at this
    have := this.1.1
    rw [Bool.or_eq_true] at this
    rcases this with g | g
    · simp only [Bool.and_eq_true, Bool.not_eq_true', bne_iff_ne, ne_eq] at g
      rcases hn with hn | hn
      · have : (namesOf ops y).contains d = true := by simpa using hn
        rw [this] at g; simp at g
      · exact absurd hn g.2
    · exact g
  · intro i j x y d hij hx hy hd hn
    have := hpair i j hij (hlen j y hy)
    unfold pairOk at this
    simp only [hx, hy, hd, Bool.and_eq_true] at this
    have := this.1.2
    rw [Bool.or_eq_true] at this
    rcases this with g | g
    · have : (namesOf ops x).contains d = true := by simpa using hn
      rw [this] at g; simp at g
    · exact g
  · intro i j x y hij hx hy h3 h4
    have := hpair i j hij (hlen j y hy)
    unfold pairOk at this
    simp only [hx, hy, Bool.and_eq_true] at this
    have := this.2
    rw [Bool.or_eq_true] at this
    rcases this with g | g
    · simp [h3, h4] at g
    · exact g
end Go.Sh

/- Regions that draw their order: the theorem. -/
namespace Go.Sh
open Go.RowKit
set_option linter.unusedVariables false
set_option linter.unusedSimpArgs false

variable {P : Program} {H : CallH} {B : Nat} {W : World}

theorem countP_lt {α : Type} {p q : α → Bool} : ∀ (l : List α), (∀ x ∈ l, q x = true → p x = true) → (∃ x ∈ l, p x = true ∧ q x = false) → l.countP q < l.countP p
  | [], _, ⟨x, hx, _⟩ => by simp at hx
  | y :: r, h, ⟨x, hx, h1, h2⟩ => by
    have hle : r.countP q ≤ r.countP p := List.countP_mono_left fun z hz => h z (by simp [hz])
    rw [List.countP_cons, List.countP_cons]
    rcases List.mem_cons.1 hx with rfl | hx
    · simp [h1, h2]; omega
    · have := countP_lt r (fun z hz => h z (by simp [hz])) ⟨x, hx, h1, h2⟩
      by_cases g : q y = true
      · simp [g, h y (by simp) g]; omega
      · simp [g]; split <;> omega

theorem mem_names_tmp {ops : List Oper} {o : Oper} {d : Nat} (h : Operand.tmp d ∈ o.op.operands) : d ∈ namesOf ops o := by
  unfold namesOf
  rw [List.mem_append]
  exact Or.inl (List.mem_filterMap.2 ⟨.tmp d, by simpa using h, rfl⟩)

theorem mem_names_guard {ops : List Oper} {o : Oper} {g : Nat} {want : Bool} {d : Nat} (hg : o.guard = some (g, want)) (h : (ops[g]?).bind (·.dst) = some d) : d ∈ namesOf ops o := by
  unfold namesOf
  rw [List.mem_append, hg]
  simp only [h]
  exact Or.inr (by simp)

variable {J : Inj} {m m' : Mem} {w w' : World} {t t' : Tree Value} {a : Act}

/-- the operation's slots are related -/
def SOn (J : Inj) (ops : List Oper) (o : Oper) (t : Tree Value) (a : Act) : Prop := ∀ d, d < a.tmps.size → d ∈ namesOf ops o → VRel J ((t.get d).getD undef) (a.tmps.getD d undef)

theorem oper_rel_on (hg : GOk P J) {ops : List Oper} {o : Oper} (r : SOn J ops o t a) (h : operOk P.globals.size a.tmps.size o = true) : ∀ x ∈ o.op.operands, VRel J (ev t x) (a.eval x) := by
  intro x hx
  simp only [operOk, Bool.and_eq_true] at h
  have := Array.all_eq_true'.1 h.1 x hx
  cases x with
  | tmp i => simp only [opdOk, decide_eq_true_eq] at this; exact r i this (mem_names_tmp hx)
  | const v => exact .clo _ this
  | global g => simp only [opdOk, decide_eq_true_eq] at this; exact glob_rel hg this
  | func f => exact .clo _ rfl

theorem wanted_rel_on {ops : Array Oper} {o : Oper} (r : SOn J ops.toList o t a) (hops : ∀ x ∈ ops.toList, operOk P.globals.size a.tmps.size x = true) : Region.wanted o (yielded ops a.tmps) = swanted ops.toList t o := by
  unfold Region.wanted swanted
  cases hg : o.guard with
  | none => rfl
  | some g =>
    obtain ⟨j, want⟩ := g
    simp only
    congr 1
    unfold yielded syield
    simp only [Array.getElem?_toList]
    cases hj : ops[j]? with
    | none => rfl
    | some oj =>
      simp only [Option.bind_some]
      cases hd : oj.dst with
      | none => rfl
      | some d =>
        simp only [Option.bind_some]
        have hlt := oper_dst (hops oj (by simpa using Array.mem_of_getElem? hj)) d hd
        have hr := r d hlt (mem_names_guard hg (by simp [hj, hd]))
        have ha : a.tmps[d]? = some (a.tmps.getD d undef) := by simp [hlt]
        rw [ha]
        generalize a.tmps.getD d undef = y at hr
        cases ht : t.get d with
        | none =>
          rw [ht] at hr
          have := hr.closed_eq rfl
          simp only [Option.getD_none] at this
          rw [this]
          rfl
        | some x =>
          rw [ht] at hr
          simp only [Option.getD_some] at hr
          cases hr with
          | clo _ _ => rfl
          | _ => rfl

theorem sop1_wp_on (hH : HSound P B W H) (h : MRel P J m B W w) {ops : Array Oper} {i : Nat} {o : Oper} (r : SOn J ops.toList o t a) (hops : ∀ x ∈ ops.toList, operOk P.globals.size a.tmps.size x = true) (hi : ops[i]? = some o) {v : Value}
    (he : sop1 P H ops.toList o t m = some (v, m')) {K : Act → World → Prop} {Q : Exit → Act → World → Prop}
    (hn : ∀ J' v' w', J.le J' → VRel J' v v' → MRel P J' m' B W w' → K (a.put o.dst v') w') : wpOp P ops Q i K a w := by
  have ho := hops o (by simpa using Array.mem_of_getElem? hi)
  unfold sop1 at he
  unfold wpOp
  simp only [hi]
  rw [wanted_rel_on r hops]
  split at he
  · rename_i hw
    rw [if_pos hw]
    exact Or.inl (sop_wp hH h (oper_rel_on h.glob r ho) he hn)
  · rename_i hw
    rw [if_neg hw]
    simp only [Option.some.injEq, Prod.mk.injEq] at he
    obtain ⟨rfl, rfl⟩ := he
    exact hn J undef w (.rfl J) (.undef J) h

def lst (listed : Array Bool) (i : Nat) : Prop := listed.getD i false = true

theorem lst_set {listed : Array Bool} {i j : Nat} (hj : j < listed.size) : lst (listed.setIfInBounds j true) i ↔ (i = j ∨ lst listed i) := by
  unfold lst
  by_cases e : i = j
  · subst e; simp [hj]
  · have hne : j ≠ i := fun h => e h.symm
    simp [Array.getElem?_setIfInBounds_ne hne, e]

structure DInv (P : Program) (B : Nat) (W : World) (ops : Array Oper) (S : List (Tree Value × Mem)) (nt : Nat) (ds : List Deferred) (J0 : Inj) (listed : Array Bool) (a : Act) (w : World) : Prop where
  sz : listed.size = ops.size
  ntm : a.tmps.size = nt
  dfs : a.defers = ds
  cl : ∀ j o, ops.toList[j]? = some o → lst listed j → ∀ e ∈ o.after.toList, Region.binds .any e = true → lst listed e.on
  rel : ∃ J p tp mp, J0.le J ∧ Front P ops.toList (lst listed) p ∧ S[p]? = some (tp, mp) ∧ MRel P J mp B W w ∧
    ∀ d, d < nt → ∀ i ti mi, S[i]? = some (ti, mi) → (∀ x o, ops.toList[x]? = some o → o.dst = some d → (lst listed x ↔ x < i)) → VRel J ((ti.get d).getD undef) (a.tmps.getD d undef)

theorem drawn_wp (hH : HSound P B W H) {ops : Array Oper} {S : List (Tree Value × Mem)} {nt : Nat} {ds : List Deferred} {J0 : Inj} (hst : Static P ops.toList) (hops : ∀ x ∈ ops.toList, operOk P.globals.size nt x = true)
    (hlen : S.length = ops.toList.length + 1)
    (hS : ∀ i o, ops.toList[i]? = some o → ∃ ti mi v m1, S[i]? = some (ti, mi) ∧ sop1 P H ops.toList o ti mi = some (v, m1) ∧ S[i + 1]? = some (put ti o.dst v, m1))
    (hck : checkReads P H ops.toList S = true) {Q : Exit → Act → World → Prop}
    (hQ : ∀ J' a' w' tn mn, J0.le J' → a'.tmps.size = nt → a'.defers = ds → S[ops.toList.length]? = some (tn, mn) → SRel J' tn a' → MRel P J' mn B W w' → Q .normal a' w') :
    ∀ (fuel : Nat) (listed : Array Bool) (a : Act) (w : World), (List.range ops.size).countP (fun i => !listed.getD i false) ≤ fuel → DInv P B W ops S nt ds J0 listed a w → wpAny P .any ops Q fuel listed a w := by
  have hN : ops.toList.length = ops.size := by simp
  -- all listed: it is done
  have hdone : ∀ (listed : Array Bool) (a : Act) (w : World), DInv P B W ops S nt ds J0 listed a w → Region.ready .any ops listed = [] → Q .normal a w := by
    intro listed a w D hr
    have hall : ∀ j, j < ops.size → lst listed j := by
      intro j
      induction j using Nat.strongRecOn with
      | _ j ih =>
        intro hj
        refine Classical.byContradiction fun hn => ?_
        have : j ∈ Region.ready .any ops listed := by
          rw [mem_ready]
          have hjs : j < listed.size := by rw [D.sz]; exact hj
          refine ⟨?_, ops[j], by simp [hj], ?_⟩
          · unfold lst at hn
            simp [hjs] at hn ⊢
            exact hn
          · intro e he hb
            have hlt := hst.back j ops[j] (by simp [hj]) e (by simpa using he) hb
            exact ih e.on hlt (by omega)
        rw [hr] at this
        simp at this
    obtain ⟨J, p, tp, mp, h1, h2, h3, h4, h5⟩ := D.rel
    have hp : p = ops.toList.length := by
      rcases Nat.lt_or_ge p ops.toList.length with g | g
      · exact absurd (hall p (by omega)) (h2.2.2 g).2
      · have := h2.1; omega
    subst hp
    refine hQ J a w tp mp h1 D.ntm D.dfs h3 ?_ h4
    intro d hd
    refine h5 d (by rw [← D.ntm]; exact hd) _ tp mp h3 fun x o hx _ => ?_
    have hxl := (List.getElem?_eq_some_iff.1 hx).1
    exact ⟨fun _ => hxl, fun _ => hall x (by omega)⟩
  intro fuel
  induction fuel with
  | zero =>
    intro listed a w hc D
    have hr : Region.ready .any ops listed = [] := by
      rw [List.eq_nil_iff_forall_not_mem]
      intro j hj
      rw [mem_ready] at hj
      obtain ⟨hnl, o, ho, _⟩ := hj
      have hjl : j < ops.size := (Array.getElem?_eq_some_iff.1 ho).1
      have hz : (List.range ops.size).countP (fun i => !listed.getD i false) = 0 := by omega
      rw [List.countP_eq_zero] at hz
      have := hz j (by simpa using hjl)
      have hjs : j < listed.size := by rw [D.sz]; exact hjl
      simp [hjs] at this hnl
      rw [this] at hnl
      simp at hnl
    exact ⟨hr, hdone listed a w D hr⟩
  | succ fuel ih =>
    intro listed a w hc D
    refine ⟨fun hr => hdone listed a w D hr, fun j hj => ?_⟩
    rw [mem_ready] at hj
    obtain ⟨hnl, o, ho, hpre⟩ := hj
    have hjl : j < ops.size := (Array.getElem?_eq_some_iff.1 ho).1
    have hjs : j < listed.size := by rw [D.sz]; exact hjl
    have hol : ops.toList[j]? = some o := by simpa using ho
    have hnl' : ¬ lst listed j := by
      unfold lst
      simp [hjs] at hnl ⊢
      exact hnl
    have hdir : ∀ e ∈ o.after.toList, Region.binds .any e = true → lst listed e.on := by
      intro e he hb
      exact hpre e (by simpa using he) hb
    have hanc : ∀ i, ((ancs ops.toList []).getD j 0).testBit i = true → lst listed i := anc_closed hst.back D.cl j o hol hdir
    have hdesc : ∀ k, k < ops.toList.length → ((ancs ops.toList []).getD k 0).testBit j = true → ¬ lst listed k := by
      intro k hk hb hl
      exact hnl' (anc_closed hst.back D.cl k ops.toList[k] (by simp at hk; simp [hk]) (D.cl k ops.toList[k] (by simp at hk; simp [hk]) hl) j hb)
    obtain ⟨J, p, tp, mp, h1, h2, h3, h4, h5⟩ := D.rel
    obtain ⟨tj, mj, v, m1, q1, q2, q3⟩ := hS j o hol
    -- the operation's slots
    have hon : SOn J ops.toList o tj a := by
      intro d hd hmem
      refine h5 d (by rw [← D.ntm]; exact hd) j tj mj q1 fun x ox hx hdx => ?_
      rcases Nat.lt_trichotomy x j with g | g | g
      · exact ⟨fun _ => g, fun _ => hanc x (hst.wr x j ox o d g hx hol hdx (Or.inl hmem))⟩
      · subst g
        exact ⟨fun hl => absurd hl hnl', fun hlt => absurd hlt (Nat.lt_irrefl _)⟩
      · have hb := hst.rd j x o ox d g hol hx hdx hmem
        exact ⟨fun hl => absurd hl (hdesc x (List.getElem?_eq_some_iff.1 hx).1 hb), fun hlt => by omega⟩
    -- listed louds lie ahead of p
    have hloudlt : ∀ k, loudAt P ops.toList k = true → lst listed k → k < p := by
      intro k hk hl
      rcases Nat.lt_trichotomy k p with g | g | g
      · exact g
      · subst g
        have hkl : k < ops.toList.length := by
          unfold loudAt at hk
          rcases Nat.lt_or_ge k ops.toList.length with g | g
          · exact g
          · rw [List.getElem?_eq_none g] at hk; simp at hk
        exact absurd hl (h2.2.2 hkl).2
      · have hkl : k < ops.toList.length := by
          unfold loudAt at hk
          rcases Nat.lt_or_ge k ops.toList.length with g | g
          · exact g
          · rw [List.getElem?_eq_none g] at hk; simp at hk
        obtain ⟨hp1, hp2⟩ := h2.2.2 (by omega)
        have hpl : p < ops.toList.length := by omega
        unfold loudAt at hk hp1
        rw [List.getElem?_eq_getElem hkl] at hk
        rw [List.getElem?_eq_getElem hpl] at hp1
        have hb := hst.loud p k _ _ g (List.getElem?_eq_getElem hpl) (List.getElem?_eq_getElem hkl) (by simpa using hp1) (by simpa using hk)
        exact absurd (anc_closed hst.back D.cl k ops.toList[k] (List.getElem?_eq_getElem hkl) (D.cl k ops.toList[k] (List.getElem?_eq_getElem hkl) hl) p hb) hp2
    -- the step, given the memory behind it
    have hstep : ∀ (mA mB : Mem), MRel P J mA B W w → sop1 P H ops.toList o tj mA = some (v, mB) →
        (∀ p' tp' mp', Front P ops.toList (lst (listed.setIfInBounds j true)) p' → S[p']? = some (tp', mp') → mp' = mB) →
        wpOp P ops Q j (wpAny P .any ops Q fuel (listed.setIfInBounds j true)) a w := by
      intro mA mB hM hs hmem
      refine sop1_wp_on hH hM hon (by rw [D.ntm]; exact hops) ho hs fun J' v' w' g1 g2 g3 => ?_
      have hlset : ∀ i, lst (listed.setIfInBounds j true) i ↔ (i = j ∨ lst listed i) := fun i => lst_set hjs
      refine ih _ _ _ ?_ ⟨by simpa using D.sz, by rw [put_size]; exact D.ntm, by rw [put_defers]; exact D.dfs, ?_, ?_⟩
      · have := countP_lt (p := fun i => !listed.getD i false) (q := fun i => !(listed.setIfInBounds j true).getD i false) (List.range ops.size) (fun x _ hx => by
          have hx' : ¬ lst (listed.setIfInBounds j true) x := by unfold lst; simpa using hx
          have : ¬ lst listed x := fun hl => hx' ((hlset x).2 (Or.inr hl))
          unfold lst at this
          simpa using this) ⟨j, by simpa using hjl, by unfold lst at hnl'; simpa using hnl', by
          have : lst (listed.setIfInBounds j true) j := (hlset j).2 (Or.inl rfl)
          unfold lst at this
          simpa using this⟩
        omega
      · intro k ok hok hl e he hb
        rw [hlset] at hl ⊢
        rcases hl with rfl | hl
        · rw [hol] at hok
          simp only [Option.some.injEq] at hok
          subst hok
          exact Or.inr (hdir e he hb)
        · exact Or.inr (D.cl k ok hok hl e he hb)
      · obtain ⟨p', hp'⟩ := front_exists (P := P) ops.toList (lst (listed.setIfInBounds j true))
        have hp'l : p' < S.length := by have := hp'.1; omega
        refine ⟨J', p', (S[p']).1, (S[p']).2, h1.trans g1, hp', by simp [hp'l], ?_, ?_⟩
        · have := hmem p' (S[p']).1 (S[p']).2 hp' (by simp [hp'l])
          rw [this]; exact g3
        · intro d hd i ti mi hi hcut
          have hil : i ≤ ops.toList.length := by have := (List.getElem?_eq_some_iff.1 hi).1; omega
          by_cases hdj : o.dst = some d
          · -- the slot that j writes
            have hji : j < i := ((hcut j o hol hdj).1 ((hlset j).2 (Or.inl rfl)))
            have hkeep : ti.get d = (put tj o.dst v).get d := by
              refine slot_kept hS (i - (j + 1)) (j + 1) (by omega) (fun x hx1 hx2 ox hox hdx => ?_) _ _ _ _ q3 (by rw [show j + 1 + (i - (j + 1)) = i by omega]; exact hi)
              have hxl : lst (listed.setIfInBounds j true) x := (hcut x ox hox hdx).2 (by omega)
              rw [hlset] at hxl
              rcases hxl with e | hxl
              · omega
              · exact hdesc x (List.getElem?_eq_some_iff.1 hox).1 (hst.wr j x o ox d (by omega) hol hox hdj (Or.inr hdx)) hxl
            rw [hkeep, hdj]
            have hlt : d < a.tmps.size := by rw [D.ntm]; exact hd
            simp only [put, Tree.get_set_self, Act.put]
            simp [hlt]
            exact g2
          · -- another one
            have hold := h5 d hd i ti mi hi fun x ox hx hdx => by
              have := hcut x ox hx hdx
              rw [hlset] at this
              constructor
              · intro hl; exact this.1 (Or.inr hl)
              · intro hlt
                rcases this.2 hlt with rfl | hl
                · rw [hol] at hx
                  simp only [Option.some.injEq] at hx
                  subst hx
                  exact absurd hdx hdj
                · exact hl
            have hsame : (a.put o.dst v').tmps.getD d undef = a.tmps.getD d undef := by
              cases hod : o.dst with
              | none => rfl
              | some d' =>
                have hne : d' ≠ d := fun e => hdj (by rw [hod, e])
                simp [Act.put, Array.getElem?_setIfInBounds_ne hne]
            rw [hsame]
            exact hold.mono g1
    have hfront : ∀ p', Front P ops.toList (lst (listed.setIfInBounds j true)) p' → loudB P o = false → p' = p := by
      intro p' hp' hq
      have hno : loudAt P ops.toList j = false := by unfold loudAt; rw [hol]; simpa using hq
      rcases Nat.lt_trichotomy p' p with g | g | g
      · obtain ⟨g1, g2⟩ := hp'.2.2 (by have := h2.1; omega)
        exact absurd ((lst_set hjs).2 (Or.inr (h2.2.1 p' g g1))) g2
      · exact g
      · obtain ⟨g1, g2⟩ := h2.2.2 (by have := hp'.1; omega)
        have := hp'.2.1 p g g1
        rw [lst_set hjs] at this
        rcases this with e | hl
        · rw [e, hno] at g1; cases g1
        · exact absurd hl g2
    by_cases hq : loudB P o = true
    · -- loud: it is the front
      have hlj : loudAt P ops.toList j = true := by unfold loudAt; rw [hol]; simpa using hq
      have hjp : j = p := by
        rcases Nat.lt_trichotomy j p with g | g | g
        · exact absurd (h2.2.1 j g hlj) hnl'
        · exact g
        · obtain ⟨hp1, hp2⟩ := h2.2.2 (by omega)
          have hpl : p < ops.toList.length := by omega
          unfold loudAt at hp1
          rw [List.getElem?_eq_getElem hpl] at hp1
          exact absurd (hanc p (hst.loud p j _ _ g (List.getElem?_eq_getElem hpl) hol (by simpa using hp1) hq)) hp2
      subst hjp
      rw [q1] at h3
      simp only [Option.some.injEq, Prod.mk.injEq] at h3
      obtain ⟨rfl, rfl⟩ := h3
      refine hstep mj m1 h4 q2 fun p' tp' mp' hp' hSp => ?_
      have hjp' : j < p' := by
        rcases Nat.lt_trichotomy j p' with g | g | g
        · exact g
        · subst g
          exact absurd ((lst_set hjs).2 (Or.inl rfl)) (hp'.2.2 (by omega)).2
        · obtain ⟨g1, g2⟩ := hp'.2.2 (by omega)
          exact absurd ((lst_set hjs).2 (Or.inr (h2.2.1 p' g g1))) g2
      refine mem_kept (P := P) hS (p' - (j + 1)) (j + 1) (by have := hp'.1; omega) (fun x hx1 hx2 ox hox => ?_) _ _ _ _ q3 (by rw [show j + 1 + (p' - (j + 1)) = p' by omega]; exact hSp)
      have hxp : x < p' := by omega
      cases hlx : loudB P ox with
      | false => rfl
      | true =>
        have hla : loudAt P ops.toList x = true := by unfold loudAt; rw [hox]; simpa using hlx
        have := hp'.2.1 x hxp hla
        rw [lst_set hjs] at this
        rcases this with e | hl
        · omega
        · have := hloudlt x hla hl; omega
    · -- silent
      have hq' : loudB P o = false := by simpa using hq
      have hm1 : m1 = mj := silent1_mem hq' q2
      subst hm1
      have hval : sop1 P H ops.toList o tj mp = some (v, mp) := by
        by_cases hr : readsB o = true
        · -- it reads: the check says that it reads the same
          unfold checkReads at hck
          rw [List.all_eq_true] at hck
          have hin : (j, (louds P ops.toList ++ [ops.toList.length]).filter fun i => compat (ancs ops.toList []) (louds P ops.toList) j i) ∈ readPlaces P ops.toList := by
            unfold readPlaces
            rw [List.mem_filterMap]
            refine ⟨j, by simpa using hjl, ?_⟩
            simp only [hol, hr, hq', Bool.not_false, Bool.and_self, if_true]
          have := hck _ hin
          simp only [hol, q1, q2] at this
          rw [List.all_eq_true] at this
          have hpin : p ∈ (louds P ops.toList ++ [ops.toList.length]).filter fun i => compat (ancs ops.toList []) (louds P ops.toList) j i := by
            rw [List.mem_filter]
            constructor
            · rw [List.mem_append]
              rcases Nat.lt_or_ge p ops.toList.length with g | g
              · refine Or.inl ?_
                unfold louds
                rw [List.mem_filter]
                exact ⟨by simpa using g, (h2.2.2 g).1⟩
              · exact Or.inr (by have := h2.1; simp; simp at g this; omega)
            · unfold compat
              rw [List.all_eq_true]
              intro k hk
              unfold louds at hk
              rw [List.mem_filter] at hk
              have hkl : k < ops.toList.length := by simpa using hk.1
              simp only [Bool.and_eq_true, Bool.or_eq_true, Bool.not_eq_true', decide_eq_true_eq]
              constructor
              · cases hb : ((ancs ops.toList []).getD j 0).testBit k with
                | false => exact Or.inl rfl
                | true => exact Or.inr (hloudlt k hk.2 (hanc k hb))
              · cases hb : ((ancs ops.toList []).getD k 0).testBit j with
                | false => exact Or.inl rfl
                | true =>
                  refine Or.inr (Nat.le_of_not_lt fun hlt => ?_)
                  exact hdesc k hkl hb (h2.2.1 k hlt hk.2)
          have := this p hpin
          simp only [h3] at this
          unfold readsSame at this
          cases hs : sop1 P H ops.toList o tj mp with
          | none => simp [hs] at this
          | some r =>
            obtain ⟨v2, m2⟩ := r
            simp only [hs] at this
            have e1 := eqV_eq _ _ this
            have e2 := silent1_mem hq' hs
            rw [e1, e2]
        · have := silent1_eq (H := H) hq' (by simpa using hr) ops.toList tj m1 mp
          rw [q2] at this
          simpa using this
      refine hstep mp mp h4 hval fun p' tp' mp' hp' hSp => ?_
      have := hfront p' hp' hq'
      subst this
      rw [h3] at hSp
      simp only [Option.some.injEq, Prod.mk.injEq] at hSp
      exact hSp.2.symm
end Go.Sh

/- THE THEOREM: what the abstract run does, the model does. -/
namespace Go.Sh
open Go.RowKit
set_option linter.unusedVariables false
set_option linter.unusedSimpArgs false

variable {P : Program} {H : CallH} {B : Nat} {W : World} {J : Inj} {m m' : Mem} {w w' : World} {t t' : Tree Value} {a : Act}

/-- A REGION. -/
theorem region_wp (hm : P.follows .mixedOrders = true) (hH : HSound P B W H) {id : Nat} {ops : Array Oper} {draw : Bool} (hok : codeOk P a.tmps.size (.region id ops draw) = true) (h : MRel P J m B W w) (r : SRel J t a)
    (he : sregion P H ops.toList draw t m = some (t', m')) {Q : Exit → Act → World → Prop}
    (hQ : ∀ J' a' w', J.le J' → a'.tmps.size = a.tmps.size → a'.defers = a.defers → SRel J' t' a' → MRel P J' m' B W w' → Q .normal a' w') : (Code.region id ops draw).wp P Q a w := by
  simp only [codeOk, Bool.and_eq_true, List.all_eq_true] at hok
  obtain ⟨hops, hdr⟩ := hok
  unfold sregion at he
  cases draw with
  | false =>
    simp only [Bool.false_eq_true, if_false] at he
    refine wp_region ?_
    have := sops_wp (Q := Q) hH ops.toList 0 rfl t m t' m' he J a w hops h r hQ
    rw [List.range_eq_range']
    simpa using this
  | true =>
    simp only [if_true] at he
    split at he
    · rename_i S hS
      split at he
      · rename_i hck
        have hdo : drawOk P ops.toList = true := by simpa using hdr
        obtain ⟨g1, g2, g3⟩ := states_spec ops.toList t m S hS
        have hlast : S[ops.toList.length]? = some (t', m') := by
          rw [List.getLast?_eq_getElem?, g1] at he
          simpa using he
        refine wp_region_any hm ?_
        refine drawn_wp (nt := a.tmps.size) (ds := a.defers) (J0 := J) hH (static_of hdo) hops g1 g3 hck (fun J' a' w' tn mn q1 q2 q3 q4 q5 q6 => ?_) ops.size _ a _ ?_ ⟨by simp, rfl, rfl, ?_, ?_⟩
        · rw [hlast] at q4
          simp only [Option.some.injEq, Prod.mk.injEq] at q4
          obtain ⟨rfl, rfl⟩ := q4
          exact hQ J' a' w' q1 q2 q3 q5 q6
        · have := List.countP_le_length (p := fun i => !(Array.replicate ops.size false).getD i false) (l := List.range ops.size)
          simpa using this
        · intro j o ho hl
          exfalso
          unfold lst at hl
          simp [Array.getElem?_replicate] at hl
          split at hl <;> simp at hl
        · have hno : ∀ i, ¬ lst (Array.replicate ops.size false) i := by
            intro i hl
            unfold lst at hl
            simp [Array.getElem?_replicate] at hl
            split at hl <;> simp at hl
          obtain ⟨p, hp⟩ := front_exists (P := P) ops.toList (lst (Array.replicate ops.size false))
          have hpl : p < S.length := by have := hp.1; omega
          refine ⟨J, p, (S[p]).1, (S[p]).2, .rfl J, hp, by simp [hpl], ?_, ?_⟩
          · have hmm : (S[p]).2 = m := by
              refine mem_kept (P := P) g3 p 0 (by have := hp.1; omega) (fun x _ hx o ho => ?_) t m (S[p]).1 _ g2 (by simp [hpl])
              cases hlx : loudB P o with
              | false => rfl
              | true =>
                have hla : loudAt P ops.toList x = true := by unfold loudAt; rw [ho]; simpa using hlx
                exact absurd (hp.2.1 x (by omega) hla) (hno x)
            rw [hmm]
            exact h.drew
          · intro d hd i ti mi hi hcut
            have hkeep : ti.get d = t.get d := by
              have hil : i ≤ ops.toList.length := by have := (List.getElem?_eq_some_iff.1 hi).1; omega
              refine slot_kept g3 i 0 (by omega) (fun x _ hx o ho hdx => ?_) t m ti mi g2 (by simpa using hi)
              exact hno x ((hcut x o ho hdx).2 (by omega))
            rw [hkeep]
            exact r d hd
      · cases he
    · cases he

/-- the table of the functions that may be called -/
def TabOk (P : Program) (T : FuncId → Option Func) : Prop := ∀ f fn, T f = some fn → P.funcs[f]? = some fn ∧ funcOk P fn = true

def resSem (tmps : Array Value) : ResultVar → Sem Value
  | .tmp t => pure (tmps.getD t undef)
  | .cell a t => do loadVar t (← asAddr (tmps.getD a undef))

theorem results_eq (fn : Func) (tmps : Array Value) : results fn tmps = (do let vs ← fn.results.mapM (resSem tmps); pure (if h : vs.size = 1 then vs[0] else .tuple vs)) := rfl

theorem sresult_run (h : MRel P J m B W w) (r : SRel J t a) {rv : ResultVar} (hok : resOk a.tmps.size rv = true) {v : Value} (he : sresult P t m rv = some v) :
    ∃ v', VRel J v v' ∧ (resSem a.tmps rv).run P w = .ok v' w := by
  unfold resSem
  cases rv with
  | tmp i =>
    simp only [sresult, Option.some.injEq] at he
    subst he
    simp only [resOk, decide_eq_true_eq] at hok
    exact ⟨_, r i hok, by simp⟩
  | cell i ty =>
    simp only [resOk, decide_eq_true_eq] at hok
    have hr := r i hok
    simp only [sresult] at he
    split at he
    · rename_i ad hv
      rw [hv] at hr
      obtain ⟨_, _, e1⟩ := hr.ptr_inv
      split at he
      · cases he
      · rename_i d hd
        split at he
        · rename_i hagg
          split at he
          · rename_i z hz
            simp only [Option.map_eq_some_iff] at he
            obtain ⟨cs, hl, rfl⟩ := he
            obtain ⟨cs', g1, g2⟩ := run_loadVar_agg h hd hagg hz hl
            refine ⟨_, .agg_of g1, ?_⟩
            simp only [e1]
            simp [asAddr, g2]
          · cases he
        · rename_i hagg
          split at he
          · rename_i u hl
            simp only [Option.some.injEq] at he
            subst he
            obtain ⟨v', g1, g2⟩ := run_loadVar_one h hd (by simpa using hagg) hl
            refine ⟨v', g1, ?_⟩
            simp only [e1]
            simp [asAddr, g2]
          · cases he
    · cases he

theorem sresultsL_run (h : MRel P J m B W w) (r : SRel J t a) : ∀ (rs : List ResultVar), (∀ x ∈ rs, resOk a.tmps.size x = true) → ∀ vs, sresultsL P t m rs = some vs →
    ∃ vs', LRel J vs vs' ∧ (rs.mapM (resSem a.tmps)).run P w = .ok vs' w
  | [], _, vs, he => by
    simp only [sresultsL, Option.some.injEq] at he
    subst he
    exact ⟨[], LRel.nil, by simp⟩
  | x :: rest, hok, vs, he => by
    simp only [sresultsL] at he
    split at he
    · rename_i v hv
      simp only [Option.map_eq_some_iff] at he
      obtain ⟨vr, hvr, rfl⟩ := he
      obtain ⟨v', g1, g2⟩ := sresult_run h r (hok x (by simp)) hv
      obtain ⟨vs', q1, q2⟩ := sresultsL_run h r rest (fun y hy => hok y (by simp [hy])) vr hvr
      refine ⟨v' :: vs', .cons g1 q1, ?_⟩
      rw [List.mapM_cons]
      simp only [Sem.run_bind, g2, q2, Result.andThen_ok, Sem.run_pure]
    · cases he

theorem results_run (h : MRel P J m B W w) (r : SRel J t a) {fn : Func} (hok : ∀ x ∈ fn.results.toList, resOk a.tmps.size x = true) {v : Value} (he : sresults P fn.results.toList t m = some v) :
    ∃ v', VRel J v v' ∧ (results fn a.tmps).run P w = .ok v' w := by
  unfold sresults at he
  have key : ∀ vs, sresultsL P t m fn.results.toList = some vs → ∃ vs', LRel J vs vs' ∧ (results fn a.tmps).run P w = .ok (if h : vs'.toArray.size = 1 then vs'.toArray[0] else .tuple vs'.toArray) w := by
    intro vs hvs
    obtain ⟨vs', q1, q2⟩ := sresultsL_run h r _ hok vs hvs
    refine ⟨vs', q1, ?_⟩
    rw [results_eq, Array.mapM_eq_mapM_toList]
    simp only [Sem.run_bind, Sem.run_map, q2, Result.andThen_ok, Sem.run_pure]
  split at he
  · rename_i u hu
    simp only [Option.some.injEq] at he
    subst he
    obtain ⟨vs', q1, q2⟩ := key _ hu
    obtain ⟨y, hy, hxy⟩ := q1.get (i := 0) (x := u) rfl
    have hl : vs'.length = 1 := by rw [← q1.1]; rfl
    obtain ⟨z, rfl⟩ := List.length_eq_one_iff.1 hl
    simp at hy
    subst hy
    exact ⟨z, hxy, by simpa using q2⟩
  · rename_i vs hne hvs
    simp only [Option.some.injEq] at he
    subst he
    obtain ⟨vs', q1, q2⟩ := key _ hvs
    have hl : vs'.length ≠ 1 := by
      rw [← q1.1]
      intro h1
      obtain ⟨z, rfl⟩ := List.length_eq_one_iff.1 h1
      exact hne z rfl
    refine ⟨.tuple vs'.toArray, .tuple _ _ (by simpa using q1.1) (fun i x y hx hy => q1.2 i x y (by simpa using hx) (by simpa using hy)), ?_⟩
    rw [q2, dif_neg (by simpa using hl)]
  · cases he

/-- WHAT IS TO BE SHOWN of a run of code. -/
def Sound (P : Program) (B : Nat) (W : World) (c : Code) (t : Tree Value) (m : Mem) (ex : SExit) (t' : Tree Value) (m' : Mem) : Prop :=
  ∀ (J : Inj) (a : Act) (w : World), codeOk P a.tmps.size c = true → MRel P J m B W w → SRel J t a → ∀ Q : Exit → Act → World → Prop,
    (∀ J' a' w', J.le J' → a'.tmps.size = a.tmps.size → a'.defers = a.defers → SRel J' t' a' → MRel P J' m' B W w' → Q (conv ex) a' w') → c.wp P Q a w

/-- the same of the rounds of a loop -/
def SoundL (P : Program) (B : Nat) (W : World) (k : Nat) (c : Code) (t : Tree Value) (m : Mem) (ex : SExit) (t' : Tree Value) (m' : Mem) : Prop :=
  ∀ (J : Inj) (a : Act) (w : World), codeOk P a.tmps.size c = true → MRel P J m B W w → SRel J t a → ∀ Q : Exit → Act → World → Prop,
    (∀ J' a' w', J.le J' → a'.tmps.size = a.tmps.size → a'.defers = a.defers → SRel J' t' a' → MRel P J' m' B W w' → Q (conv ex) a' w') → Code.rounds P c Q k a w

theorem fill_get : ∀ (vs : List Value) (t : Tree Value) (i k : Nat), (fill t vs i).get k = if i ≤ k ∧ k < i + vs.length then vs[k - i]? else t.get k
  | [], t, i, k => by simp only [fill]; rw [if_neg (fun h => by have := h.2; simp at this; omega)]
  | v :: r, t, i, k => by
    simp only [fill]
    rw [fill_get r, Tree.get_set]
    by_cases h1 : i + 1 ≤ k ∧ k < i + 1 + r.length
    · rw [if_pos h1, if_pos (by simp; omega), show k - i = k - (i + 1) + 1 by omega, List.getElem?_cons_succ]
    · rw [if_neg h1]
      by_cases h2 : k = i
      · subst h2; rw [if_pos rfl, if_pos (by simp)]; simp
      · rw [if_neg h2, if_neg (by simp; omega)]

theorem callF_sound {T : FuncId → Option Func} (hT : TabOk P T) {ex : Ex} (hex : ∀ c t m e t' m', ex c t m = some (e, t', m') → Sound P B W c t m e t' m') : HSound P B W (callF P T ex) := by
  intro f args m v m' he
  unfold callF at he
  split at he
  · cases he
  · rename_i fn hf
    obtain ⟨hP, hok⟩ := hT f fn hf
    unfold funcOk at hok
    simp only [Bool.and_eq_true, Bool.not_eq_true'] at hok
    obtain ⟨⟨hnm, hcode⟩, hres⟩ := hok
    split at he
    · rename_i hb
      refine Or.inr ?_
      split at he
      · rename_i hcl
        simp only [Bool.and_eq_true, List.all_eq_true, Option.isNone_iff_eq_none] at hcl
        split at he
        · rename_i e hfe
          split at he
          · rename_i u hu
            split at he
            · rename_i hcu
              simp only [Option.some.injEq, Prod.mk.injEq] at he
              obtain ⟨rfl, rfl⟩ := he
              refine ⟨rfl, hcu, hcl.1, fun w => ?_⟩
              have hrun := prun_run _ _ hu w
              have hnm' : ¬ (fn.name = "runtime.NumGoroutine") := by simpa using hnm
              simp [callFunc, hP, hnm', hb, hcl.2, hfe, mark, Sem.run, hrun]
            · cases he
          · cases he
        · cases he
      · cases he
    · rename_i c hc
      refine Or.inl ?_
      rw [hc] at hcode
      split at he
      · rename_i hlen
        refine ⟨⟨fn, hP, by rw [hc]; rfl, hnm⟩, fun J args' w hl hM => ?_⟩
        have hl' : args'.length ≤ fn.ntmps := by rw [← hl.1]; exact hlen
        refine calls_of_wp hP hc ?_
        generalize ha : ({ tmps := args'.toArray ++ Array.replicate (fn.ntmps - args'.toArray.size) undef, defers := [] } : Act) = a
        have hsz : a.tmps.size = fn.ntmps := by rw [← ha]; simp; omega
        have hdf : a.defers = [] := by rw [← ha]
        have hS : SRel J (fill .leaf args 0) a := by
          intro i hi
          rw [fill_get]
          by_cases h1 : i < args.length
          · rw [if_pos (by omega)]
            have hg : a.tmps.getD i undef = args'[i]'(by rw [← hl.1]; exact h1) := by
              rw [← ha]
              have : i < args'.length := by rw [← hl.1]; exact h1
              simp [Array.getElem?_append, this]
            rw [hg, Nat.sub_zero, List.getElem?_eq_getElem h1]
            exact hl.2 i _ _ (List.getElem?_eq_getElem h1) (List.getElem?_eq_getElem _)
          · rw [if_neg (by omega)]
            have hg : a.tmps.getD i undef = undef := by
              have h2 : ¬ i < args'.length := by rw [← hl.1]; exact h1
              rw [hsz] at hi
              rw [← ha]
              simp [Array.getElem?_append, h2, Array.getElem?_replicate]
              split <;> rfl
            rw [hg, Tree.get_leaf]
            exact .undef J
        have fin : ∀ (e : SExit) (t' : Tree Value) (m2 : Mem), ex c (fill .leaf args 0) m = some (e, t', m2) → (conv e = .normal ∨ conv e = .ret) → sresults P fn.results.toList t' m2 = some v → m2 = m' →
            c.wp P (bodyPost P fn fun e w' => ∃ J' v', J.le J' ∧ e = .returned v' ∧ VRel J' v v' ∧ MRel P J' m' B W w') a w := by
          intro e t' m2 hx hcv hr hmm
          subst hmm
          refine hex _ _ _ _ _ _ hx J a w (by rw [hsz]; exact hcode) hM hS _ fun J' a' w' q1 q2 q3 q4 q5 => ?_
          obtain ⟨v', r1, r2⟩ := results_run q5 q4 (fn := fn) (by rw [q2, hsz]; exact fun x hx => List.all_eq_true.1 hres x hx) hr
          rcases hcv with hcv | hcv <;> rw [hcv] <;> exact ⟨q3.trans hdf, v', r2, J', v', q1, rfl, r1, q5⟩
        split at he
        · rename_i t' m2 hx
          split at he
          · rename_i u hr
            simp only [Option.some.injEq, Prod.mk.injEq] at he
            obtain ⟨rfl, hmm⟩ := he
            exact fin _ _ _ hx (Or.inl rfl) hr hmm
          · cases he
        · rename_i t' m2 hx
          split at he
          · rename_i u hr
            simp only [Option.some.injEq, Prod.mk.injEq] at he
            obtain ⟨rfl, hmm⟩ := he
            exact fin _ _ _ hx (Or.inr rfl) hr hmm
          · cases he
        · cases he
      · cases he

theorem exec_sound (hm : P.follows .mixedOrders = true) {T : FuncId → Option Func} (hT : TabOk P T) : ∀ n,
    (∀ c t m e t' m', exec P T n c t m = some (e, t', m') → Sound P B W c t m e t' m') ∧
    (∀ b t m e t' m', exec P T n (.loop b) t m = some (e, t', m') → ∃ k, SoundL P B W k b t m e t' m')
  | 0 => ⟨fun c t m e t' m' h => by simp [exec] at h, fun b t m e t' m' h => by simp [exec] at h⟩
  | n + 1 => by
    obtain ⟨ih, ihL⟩ := exec_sound hm hT n
    have hH : HSound P B W (callF P T (exec P T n)) := callF_sound hT ih
    have loopL : ∀ b t m e t' m', exec P T (n + 1) (.loop b) t m = some (e, t', m') → ∃ k, SoundL P B W k b t m e t' m' := by
      intro b t m e t' m' h
      simp only [exec, step] at h
      split at h
      · rename_i t1 m1 h1
        obtain ⟨k, hk⟩ := ihL b t1 m1 e t' m' h
        refine ⟨k + 1, fun J a w hc hM hS Q hQ => ?_⟩
        rw [rounds_succ]
        refine ih _ _ _ _ _ _ h1 J a w hc hM hS _ fun J1 a1 w1 q1 q2 q3 q4 q5 => ?_
        exact hk J1 a1 w1 (by rw [q2]; exact hc) q5 q4 Q fun J2 a2 w2 r1 r2 r3 r4 r5 => hQ J2 a2 w2 (q1.trans r1) (r2.trans q2) (r3.trans q3) r4 r5
      · rename_i hne
        refine ⟨1, fun J a w hc hM hS Q hQ => ?_⟩
        rw [rounds_succ]
        refine ih _ _ _ _ _ _ h J a w hc hM hS _ fun J1 a1 w1 q1 q2 q3 q4 q5 => ?_
        have := hQ J1 a1 w1 q1 q2 q3 q4 q5
        cases e with
        | normal => exact absurd h (hne t' m')
        | exit id => exact this
        | ret => exact this
    refine ⟨fun c t m e t' m' h => ?_, loopL⟩
    cases c with
    | loop b =>
      obtain ⟨k, hk⟩ := loopL b t m e t' m' h
      intro J a w hc hM hS Q hQ
      simp only [codeOk] at hc
      exact wp_loop_rounds k (hk J a w hc hM hS Q hQ)
    | skip =>
      simp only [exec, step, Option.some.injEq, Prod.mk.injEq] at h
      obtain ⟨rfl, rfl, rfl⟩ := h
      intro J a w hc hM hS Q hQ
      exact wp_skip (hQ J a w (.rfl J) rfl rfl hS hM)
    | label l =>
      simp only [exec, step, Option.some.injEq, Prod.mk.injEq] at h
      obtain ⟨rfl, rfl, rfl⟩ := h
      intro J a w hc hM hS Q hQ
      exact wp_label (hQ J a w (.rfl J) rfl rfl hS hM)
    | ret =>
      simp only [exec, step, Option.some.injEq, Prod.mk.injEq] at h
      obtain ⟨rfl, rfl, rfl⟩ := h
      intro J a w hc hM hS Q hQ
      exact wp_ret (hQ J a w (.rfl J) rfl rfl hS hM)
    | exit id =>
      simp only [exec, step, Option.some.injEq, Prod.mk.injEq] at h
      obtain ⟨rfl, rfl, rfl⟩ := h
      intro J a w hc hM hS Q hQ
      exact wp_exit (hQ J a w (.rfl J) rfl rfl hS hM)
    | region id ops draw =>
      simp only [exec, step] at h
      split at h
      · rename_i t1 m1 hr
        simp only [Option.some.injEq, Prod.mk.injEq] at h
        obtain ⟨rfl, rfl, rfl⟩ := h
        intro J a w hc hM hS Q hQ
        exact region_wp hm hH hc hM hS hr hQ
      · cases h
    | seq x y =>
      simp only [exec, step] at h
      intro J a w hc hM hS Q hQ
      simp only [codeOk, Bool.and_eq_true] at hc
      refine wp_seq ?_
      split at h
      · rename_i t1 m1 h1
        refine ih _ _ _ _ _ _ h1 J a w hc.1 hM hS _ fun J1 a1 w1 q1 q2 q3 q4 q5 => ?_
        exact ih _ _ _ _ _ _ h J1 a1 w1 (by rw [q2]; exact hc.2) q5 q4 Q fun J2 a2 w2 r1 r2 r3 r4 r5 => hQ J2 a2 w2 (q1.trans r1) (r2.trans q2) (r3.trans q3) r4 r5
      · rename_i hne
        refine ih _ _ _ _ _ _ h J a w hc.1 hM hS _ fun J1 a1 w1 q1 q2 q3 q4 q5 => ?_
        have := hQ J1 a1 w1 q1 q2 q3 q4 q5
        cases e with
        | normal => exact absurd h (hne t' m')
        | exit id => exact this
        | ret => exact this
    | cond x p q =>
      simp only [exec, step] at h
      intro J a w hc hM hS Q hQ
      simp only [codeOk, Bool.and_eq_true] at hc
      have hx := opd_rel hM.glob hS hc.1.1
      split at h
      · rename_i hv
        rw [hv] at hx
        exact wp_cond_true (hx.closed_eq rfl) (ih _ _ _ _ _ _ h J a w hc.1.2 hM hS Q hQ)
      · rename_i hv
        rw [hv] at hx
        exact wp_cond_false (hx.closed_eq rfl) (ih _ _ _ _ _ _ h J a w hc.2 hM hS Q hQ)
      · cases h
    | block id b =>
      simp only [exec, step] at h
      intro J a w hc hM hS Q hQ
      simp only [codeOk] at hc
      refine wp_block ?_
      split at h
      · rename_i i t1 m1 h1
        simp only [Option.some.injEq, Prod.mk.injEq] at h
        obtain ⟨rfl, rfl, rfl⟩ := h
        refine ih _ _ _ _ _ _ h1 J a w hc hM hS _ fun J1 a1 w1 q1 q2 q3 q4 q5 => ?_
        have := hQ J1 a1 w1 q1 q2 q3 q4 q5
        show Exit.inBlock id Q (.exit i) a1 w1
        unfold Exit.inBlock
        simp only
        by_cases e : i = id
        · rw [if_pos e]; rw [if_pos e] at this; exact this
        · rw [if_neg e]; rw [if_neg e] at this; exact this
      · rename_i hne
        refine ih _ _ _ _ _ _ h J a w hc hM hS _ fun J1 a1 w1 q1 q2 q3 q4 q5 => ?_
        have := hQ J1 a1 w1 q1 q2 q3 q4 q5
        cases e with
        | normal => exact this
        | exit i => exact absurd h (hne i t' m')
        | ret => exact this
    | _ => simp [exec, step] at h

/-- THE CALL. -/
theorem call_sound (hm : P.follows .mixedOrders = true) {T : FuncId → Option Func} (hT : TabOk P T) (n : Nat) : HSound P B W (call P T n) :=
  callF_sound hT (exec_sound hm hT n).1

/-- where a run begins: the variables' numbers, no block -/
def inj0 (P : Program) : Inj := ⟨P.globals.size, fun l => l, fun _ => 0, fun _ => 0, fun _ => 0⟩

theorem mem0_rel (P : Program) (w : World) : MRel P (inj0 P) (mem0 P) w.heap.size w w := by
  refine ⟨rfl, ?_, ?_, ?_, ?_, ?_, fun l b l' b' hl _ => by simp [mem0, Mem.writable, Tree.get_leaf] at hl, Below.refl _ _, Nat.le_refl _, fun g hg => ⟨hg, rfl, rfl⟩, ?_, fun l l' s s' hl _ => by simp [mem0, Tree.get_leaf] at hl, fun l s l' b hl _ => by simp [mem0, Tree.get_leaf] at hl⟩
  all_goals intro l b hl; first
    | (simp [mem0, Tree.get_leaf] at hl; done)
    | (simp [mem0, Mem.readable, Tree.get_leaf] at hl; done)
    | (simp [mem0, Mem.writable, Tree.get_leaf] at hl; done)

/-- A CALL WITHOUT ARGUMENTS that answers true, in whatever world; of the variables nothing is known. -/
theorem closed_true (hm : P.follows .mixedOrders = true) {T : FuncId → Option Func} (hT : TabOk P T) (n : Nat) (f : FuncId) {fn : Func} (hf : P.funcs[f]? = some fn) (hb : fn.body.isSome = true) (h : isTrue (call P T n f [] (mem0 P)) = true) (w : World) :
    Calls P f #[] w fun e w' => e = .returned (.bool true) ∧ Below w.heap.size w w' := by
  unfold isTrue at h
  split at h
  · rename_i b m' hc
    subst h
    rcases call_sound hm hT n f [] (mem0 P) _ _ hc with ⟨_, hcall⟩ | ⟨_, _, _, hx⟩
    · refine (hcall (inj0 P) [] w LRel.nil (mem0_rel P w)).mono ?_
      rintro e w' ⟨J', v', _, rfl, hv, hM'⟩
      rw [hv.closed_eq rfl]
      exact ⟨rfl, hM'.below⟩
    · have h1 := hx w
      exfalso
      simp only [callFunc, Sem.run_bind, run_program, Result.andThen_ok, hf] at h1
      cases hbd : fn.body with
      | none => simp [hbd] at hb
      | some c =>
        by_cases hn : fn.name = "runtime.NumGoroutine" <;> simp [hn, hbd] at h1
  · cases h

/-- the functions of a list -/
def tabOf (P : Program) (l : List FuncId) : FuncId → Option Func := fun f => if l.contains f then P.funcs[f]? else none

def tabCheck (P : Program) (l : List FuncId) : Bool := l.all fun f => match P.funcs[f]? with
  | some fn => funcOk P fn
  | none => true

theorem tab_ok {P : Program} {l : List FuncId} (h : tabCheck P l = true) : TabOk P (tabOf P l) := by
  intro f fn hf
  unfold tabOf at hf
  split at hf
  · rename_i hc
    refine ⟨hf, ?_⟩
    have := List.all_eq_true.1 h f (by simpa using hc)
    rw [hf] at this
    exact this
  · cases hf
end Go.Sh

/- The end of a law's row: what the call leaves is older memory unturned, and 'true'. -/
namespace Go.Sh
open Go.RowKit Go.WideShapes Go.ChangeShapes
mutual
/-- the cells of a datum of numbers, texts, structs and arrays -/
def dcells {K : Type} : DataW K → List Value
  | .lit l => [l.value]
  | .agg ps => dcellsL ps
  | _ => []
def dcellsL {K : Type} : List (DataW K) → List Value
  | [] => []
  | d :: r => dcells d ++ dcellsL r
end

/-- a variable's block that holds a datum -/
def laidBlock {K : Type} (d : DataW K) : Obj → Obj
  | .cells _ t f => .cells (dcells d).toArray t f
  | o => o

section
variable {K : Type} {enc : TypeId × Value → K} {P : Program}
/-- A LAW's LAST STEP: it answers 'v', and every block that was there is as it was. -/
theorem law_post {f : Func} {s : ChangeSpec} {ap fre ho ag : Bool} {W V : World} {xs : Array Value} {v : Value} {ds gs : List (DataW K)} {bef pa pv : List MemPlace}
    (hW : DataW.Whole enc P f.params.toList s.vars ap W xs.toList ds gs bef) (hb : Below W.heap.size W V) (hps : bef = pa ++ pv)
    (hargs : ∀ sp : Nat → Bool, (∀ p ∈ bef, sp p.block = true) → DataW.TrodAll enc P V 0 sp true f.params.toList xs.toList (s.fn K (ds ++ gs)).args pa)
    (hvars : ∀ sp : Nat → Bool, (∀ p ∈ bef, sp p.block = true) → DataW.TrodVars enc P V sp s.vars (s.fn K (ds ++ gs)).vars pv)
    (hres : ∀ (b : Nat) (sp : Nat → Bool) (hd : Bool), DataW.TrodAll enc P V b sp hd f.resultTypes.toList (v.resultList f.resultTypes.size) (s.fn K (ds ++ gs)).results [])
    (hok : ∀ (j : Nat) (t : TypeId) (r : Value), f.resultTypes[j]? = some t → (v.resultList f.resultTypes.size)[j]? = some r → Value.okWide P V .any 0 t r) :
    s.post enc P f ap fre ho ag W xs v V := by
  subst hps
  have hlt : ∀ p ∈ pa ++ pv, p.block < W.heap.size := fun p hp => hW.lt p hp
  have hold : ∀ p ∈ pa ++ pv, (fun b => decide (b < W.heap.size)) p.block = true := fun p hp => decide_eq_true (hlt p hp)
  obtain ⟨_, _, _, _, _, hz, hn⟩ := id hW
  refine ⟨ds, gs, pa ++ pv, [], pa, pv, hW, hres _ _ _, hargs _ hold, hvars _ hold, ?_, fun _ => ⟨hok, _, _, ([] ++ pa) ++ pv, ⟨[] ++ pa, pv, trodAll_append (hargs _ (fun _ _ => rfl)) (hres _ _ _), hvars _ (fun _ _ => rfl), rfl, ?_, ?_⟩, ?_⟩⟩
  · exact World.keptBut_mono (fun p hp => ⟨hp, by simpa using hp⟩) (hb.frame (· ∈ pa ++ pv))
  · intro b off hp
    have hin : MemPlace.cell b off ∈ pa ++ pv := by simpa using hp
    rw [hb.frozen (hlt _ hin)]
    exact hz b off hin
  · intro ha
    simpa using hn ha
  · intro p hp _
    simpa using hp
end
end Go.Sh
