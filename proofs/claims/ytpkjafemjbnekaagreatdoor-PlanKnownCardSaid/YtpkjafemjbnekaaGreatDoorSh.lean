/-
  This text proves that an abstract, deterministic run of the model's code (logical blocks in the place of addresses, no capacities) is sound: where it answers, every run of the model answers alike and leaves all older memory as it was ('closed_true', 'call_sound').
  No condition but what the theorems themselves say: the program's orders are mixed, and the functions that are run pass the static check 'funcOk'.
-/
import Derived.Calls
import Derived.Below
import Derived.Laws.IdiomCopy
import Derived.ArgAppend
import Derived.Orders

/- The abstract run of the model's code: definitions. -/
namespace Go.Sh
set_option linter.unusedVariables false

inductive Tree (α : Type) where
  | leaf
  | node (v : Option α) (l r : Tree α)

namespace Tree
def get {α : Type} : Tree α → Nat → Option α
  | .leaf, _ => none
  | .node v l r, n => match n with
    | 0 => v
    | k + 1 => match k % 2 with
      | 0 => l.get (k / 2)
      | _ + 1 => r.get (k / 2)

def setF {α : Type} (x : α) : Nat → Tree α → Nat → Tree α
  | 0, t, _ => t
  | f + 1, t, n =>
    match t, n with
    | .leaf, 0 => .node (some x) .leaf .leaf
    | .node _ l r, 0 => .node (some x) l r
    | .leaf, k + 1 => match k % 2 with
      | 0 => .node none (setF x f .leaf (k / 2)) .leaf
      | _ + 1 => .node none .leaf (setF x f .leaf (k / 2))
    | .node v l r, k + 1 => match k % 2 with
      | 0 => .node v (setF x f l (k / 2)) r
      | _ + 1 => .node v l (setF x f r (k / 2))

def set {α : Type} (t : Tree α) (n : Nat) (x : α) : Tree α := setF x (n + 1) t n

theorem get_leaf {α : Type} (n : Nat) : (Tree.leaf : Tree α).get n = none := by simp [get]

theorem get_setF {α : Type} (x : α) : ∀ (f : Nat) (t : Tree α) (n k : Nat), n < f → (setF x f t n).get k = if k = n then some x else t.get k := by
  intro f
  induction f with
  | zero => intro t n k h; omega
  | succ f ih =>
    intro t n k h
    cases t with
    | leaf =>
      cases n with
      | zero => cases k <;> simp [setF, get]; split <;> rfl
      | succ n =>
        simp only [setF]
        cases hn : n % 2 with
        | zero =>
          cases k with
          | zero => simp [get]
          | succ k =>
            simp only [get]
            cases hk : k % 2 with
            | zero => simp only [ih _ _ _ (show n / 2 < f by omega), get_leaf]; by_cases e : k = n <;> simp [e] <;> omega
            | succ j => simp only []; rw [if_neg (by omega)]
        | succ i =>
          cases k with
          | zero => simp [get]
          | succ k =>
            simp only [get]
            cases hk : k % 2 with
            | zero => simp only []; rw [if_neg (by omega)]
            | succ j => simp only [ih _ _ _ (show n / 2 < f by omega), get_leaf]; by_cases e : k = n <;> simp [e] <;> omega
    | node v l r =>
      cases n with
      | zero => cases k <;> simp [setF, get]
      | succ n =>
        simp only [setF]
        cases hn : n % 2 with
        | zero =>
          cases k with
          | zero => simp [get]
          | succ k =>
            simp only [get]
            cases hk : k % 2 with
            | zero => simp only [ih _ _ _ (show n / 2 < f by omega)]; by_cases e : k = n <;> simp [e] <;> omega
            | succ j => simp only []; rw [if_neg (by omega)]
        | succ i =>
          cases k with
          | zero => simp [get]
          | succ k =>
            simp only [get]
            cases hk : k % 2 with
            | zero => simp only []; rw [if_neg (by omega)]
            | succ j => simp only [ih _ _ _ (show n / 2 < f by omega)]; by_cases e : k = n <;> simp [e] <;> omega

theorem get_set {α : Type} (t : Tree α) (n k : Nat) (x : α) : (t.set n x).get k = if k = n then some x else t.get k :=
  get_setF x (n + 1) t n k (by omega)
theorem get_set_self {α : Type} (t : Tree α) (n : Nat) (x : α) : (t.set n x).get n = some x := by simp [get_set]
theorem get_set_ne {α : Type} (t : Tree α) {n k : Nat} (x : α) (h : k ≠ n) : (t.set n x).get k = t.get k := by simp [get_set, h]
end Tree

def one : Value → Bool
  | .agg _ | .tuple _ => false
  | _ => true

mutual
/-- no address in it -/
def closedV : Value → Bool
  | .bool _ | .int _ _ | .float _ _ | .complex _ _ _ | .string _ | .nilFunc | .nilIface => true
  | .pointer a => a.isNone
  | .slice a n c => a.isNone && n == 0 && c == 0
  | .map r | .chan r => r.isNone
  | .func fn first cap => (match fn with | .func _ => true | _ => false) && closedA first && closedA cap
  | .iface _ v => closedV v
  | .agg cs => closedA cs
  | .tuple cs => closedA cs
def closedA : Array Value → Bool
  | ⟨l⟩ => closedL l
def closedL : List Value → Bool
  | [] => true
  | v :: r => closedV v && closedL r
end

structure Blk where
  cells : List Value
  elem : TypeId
  fam : Nat

structure Fam where
  live : Option Nat
  kill : Nat

structure SMap where
  entries : List MapEntry
  clock : Nat

structure Mem where
  next : Nat
  blks : Tree Blk
  fams : Tree Fam
  maps : Tree SMap

def Mem.readable (m : Mem) (l : Nat) : Option Blk :=
  match m.blks.get l with
  | none => none
  | some b => match m.fams.get b.fam with
    | none => none
    | some f => if f.kill ≤ l then some b else none

def Mem.writable (m : Mem) (l : Nat) : Option Blk :=
  match m.blks.get l with
  | none => none
  | some b => match m.fams.get b.fam with
    | none => none
    | some f => if f.live == some l && f.kill ≤ l then some b else none

def Mem.put (m : Mem) (l : Nat) (b : Blk) (cells : List Value) : Mem :=
  { next := m.next, blks := m.blks.set l { b with cells := cells }, fams := m.fams.set b.fam ⟨some l, l⟩, maps := m.maps }

def Mem.new (m : Mem) (cells : List Value) (elem : TypeId) : Mem :=
  { next := m.next + 1, blks := m.blks.set m.next ⟨cells, elem, m.next⟩, fams := m.fams.set m.next ⟨some m.next, m.next⟩, maps := m.maps }

/-- a map's block is set -/
def Mem.setMap (m : Mem) (l : Nat) (s : SMap) : Mem := { next := m.next, blks := m.blks, fams := m.fams, maps := m.maps.set l s }

/-- a new map -/
def Mem.newMap (m : Mem) : Mem := { next := m.next + 1, blks := m.blks, fams := m.fams, maps := m.maps.set m.next ⟨[], 0⟩ }

/-- a block grows: a new number in its family; keep: the elder numbers can still be read -/
def Mem.grow (m : Mem) (b : Blk) (cells : List Value) (keep : Bool) : Mem :=
  { next := m.next + 1, blks := m.blks.set m.next ⟨cells, b.elem, b.fam⟩,
    fams := m.fams.set b.fam ⟨some m.next, if keep then (match m.fams.get b.fam with | some f => f.kill | none => m.next) else m.next⟩, maps := m.maps }

/-- a block's family can be written no more -/
def Mem.frz (m : Mem) (b : Blk) : Mem :=
  { next := m.next, blks := m.blks, fams := m.fams.set b.fam ⟨none, match m.fams.get b.fam with | some f => f.kill | none => m.next⟩, maps := m.maps }

/-- the cells [off, off + k) of a list -/
def window (cs : List Value) (off k : Nat) : List Value := (cs.drop off).take k

/-- overwriting -/
def over (cs : List Value) (off : Nat) (new : List Value) : List Value := cs.take off ++ new ++ cs.drop (off + new.length)

def loadRow (m : Mem) (a : Addr) (k : Nat) : Option (List Value) :=
  match a.spot with
  | some _ => none
  | none => match m.readable a.block with
    | none => none
    | some b => if a.off + k ≤ b.cells.length then some (window b.cells a.off k) else none

def storeRow (m : Mem) (a : Addr) (vs : List Value) : Option Mem :=
  match a.spot with
  | some _ => none
  | none => match m.writable a.block with
    | none => none
    | some b => if a.off + vs.length ≤ b.cells.length && vs.all one then some (m.put a.block b (over b.cells a.off vs)) else none

def ev (t : Tree Value) : Operand → Value
  | .tmp i => (t.get i).getD undef
  | .const v => v
  | .global g => .pointer (some ⟨g, 0, none⟩)
  | .func f => .func (.func f) #[] #[]

inductive SExit where
  | normal | exit (id : Nat) | ret

/-- a run of a model's term that touches no memory and draws nothing -/
def prun (P : Program) {α : Type} : Sem α → Option α
  | .pure a => some a
  | .program k => prun P (k P)
  | .mark _ k => prun P k
  | _ => none

def prunV (P : Program) (s : Sem Value) : Option Value := prun P s

def sizeOfT (P : Program) (t : TypeId) : Option Nat := (P.info? t).map (·.size)

def isAggT (P : Program) (t : TypeId) : Bool := match P.underlying t with
  | some (.struct _) | some (.array _ _) => true
  | _ => false

def known (P : Program) (t : TypeId) : Bool := (P.underlying t).isSome

/-- a type of whole numbers of 64 bits (blocks of such may begin within a row) -/
def isI64 (P : Program) (t : TypeId) : Bool := match P.underlying t with | some (.int .i64) => true | _ => false

/-- append of k elements, their cells 'news' -/
def sappend (P : Program) (t : TypeId) (m : Mem) (s : Value) (news : List Value) (k : Nat) : Option (Value × Mem) :=
  match P.underlying t with
  | some (.slice e) => match P.info? e with
    | none => none
    | some i =>
      if !(0 < i.size && i.zero.any (fun z => z.cells.size == i.size) && news.length == k * i.size && news.all one) then none else
      match s with
      | .slice none 0 0 =>
        if k == 0 then some (.slice none 0 0, m) else
        if k * i.bytes ≤ 140737488355328 && k ≤ 9223372036854775807 then some (.slice (some ⟨m.next, 0, none⟩) k k, m.new news e) else none
      | .slice (some a) n c =>
        if c == n && a.spot.isNone && (n + k) * i.bytes ≤ 140737488355328 && n + k ≤ 9223372036854775807 then
          match m.writable a.block with
          | none => none
          | some b =>
            if b.elem != e then none else
            if k == 0 then some (s, m) else
            if a.off + n * i.size + news.length ≤ b.cells.length then
              some (.slice (some a) (n + k) (n + k), m.put a.block b (over b.cells (a.off + n * i.size) news))
            else if a.off + n * i.size ≤ b.cells.length && a.off == 0 then
              some (.slice (some ⟨m.next, 0, none⟩) (n + k) (n + k), m.grow b (b.cells.take (n * i.size) ++ news) (n * i.size == b.cells.length))
            else if a.off + n * i.size ≤ b.cells.length && isI64 P e then
              some (.slice (some ⟨m.next, 0, none⟩) (n + k) (n + k), m.grow b (window b.cells a.off (n * i.size) ++ news) (a.off + n * i.size == b.cells.length))
            else none
        else none
      | _ => none
  | _ => none

/-- what is appended: the cells, and how many elements -/
def newsOf (P : Program) (m : Mem) (t : TypeId) (x : Value) : Option (List Value × Nat) :=
  match P.underlying t with
  | some (.slice e) => match sizeOfT P e, x with
    | some _, .slice none 0 0 => some ([], 0)
    | some z, .slice (some a) n _ => if n == 0 then some ([], 0) else (loadRow m a (n * z)).map (·, n)
    | _, _ => none
  | some .string => match x with
    | .string s => some ((s.data.map fun b => Value.int .u8 b.toNat).toList, s.size)
    | _ => none
  | _ => none

def isIntT (P : Program) (t : TypeId) : Bool := match P.underlying t with | some (.int _) => true | _ => false

def natOf : Value → Option Nat
  | .int _ n => if 0 ≤ n && n ≤ 9223372036854775807 then some n.toNat else none
  | _ => none

def zerosOf (P : Program) (e : TypeId) (k : Nat) : Option (List Value) :=
  match P.info? e with
  | some i => match i.zero with
    | some z => if closedA z.cells && z.cells.size == i.size && k * i.bytes ≤ 281474976710656 then some (List.replicate k z.cells.toList).flatten else none
    | none => none
  | none => none

abbrev CallH := FuncId → List Value → Mem → Option (Value × Mem)

/-- an operation whose operands hold no address -/
def closedOp (P : Program) (ρ : Operand → Value) (o : Oper) : Option Value :=
  if o.op.operands.all (fun x => closedV (ρ x)) then
    match prun P (execOp ρ o) with
    | some (.value v) => if closedV v then some v else none
    | _ => none
  else none

def fieldOf (P : Program) (s : TypeId) (f : Nat) : Option Field :=
  match P.underlying s with
  | some (.struct fs) => fs[f]?
  | _ => none

def placesOf (fields : Array Field) : Sem (Array (Nat × Nat)) := fields.mapM fun f => do pure (f.offset, ← sizeOf f.type)

/-- a part of an aggregate's cells -/
def partOf (P : Program) (t : TypeId) (cs : Array Value) (off : Nat) : Option Value :=
  match P.underlying t with
  | none => none
  | some _ =>
    if isAggT P t then match sizeOfT P t with
      | some z => some (.agg (cs.extract off (off + z)))
      | none => none
    else cs[off]?

/-- cells that are bytes -/
def bytesOf : List Value → Option (List UInt8)
  | [] => some []
  | .int .u8 n :: r => if 0 ≤ n && n < 256 then (bytesOf r).map (UInt8.ofNat n.toNat :: ·) else none
  | _ => none

/-- a map's entries, for a look-up -/
def entriesOf (m : Mem) : Value → Option (List MapEntry)
  | .map none => some []
  | .map (some l) => (m.maps.get l).map (·.entries)
  | _ => none

/-- where a key stands in a map: its number and value; the keys hold no address -/
def sfind (P : Program) (empty : Bool) (kt : TypeId) (k : Value) (es : List MapEntry) : Option (Option (Nat × Value)) :=
  if closedV k && es.all (fun e => closedV e.key) then
    match prun P (Instr.checkKey empty 10000 kt k) with
    | some _ => prun P (Instr.findKey kt k es)
    | none => none
  else none

def setEntry (es : List MapEntry) (i : Nat) (f : MapEntry → MapEntry) : List MapEntry :=
  match es[i]? with
  | some e => es.set i (f e)
  | none => es

/-- a key's entry, there or made: the entries behind, the clock behind, the value, the entry's stamp -/
def sentry (P : Program) (kt : TypeId) (k : Value) (s : SMap) (zero : Value) : Option (SMap × Value × Nat) :=
  match sfind P false kt k s.entries with
  | some (some (i, v)) => match s.entries[i]? with
    | some e => if Instr.sameBits 10000 e.key k then some (⟨setEntry s.entries i fun e => { e with key := k }, s.clock⟩, v, e.born) else none
    | none => none
  | some none => some (⟨s.entries ++ [{ key := k, val := zero, born := s.clock }], s.clock + 1⟩, zero, s.clock)
  | none => none

def sput (P : Program) (kt : TypeId) (k x : Value) (s : SMap) : Option SMap :=
  match sfind P false kt k s.entries with
  | some (some (i, _)) => match s.entries[i]? with
    | some e => if Instr.sameBits 10000 e.key k then some ⟨setEntry s.entries i fun e => { e with key := k, val := x }, s.clock⟩ else none
    | none => none
  | some none => some ⟨s.entries ++ [{ key := k, val := x, born := s.clock }], s.clock + 1⟩
  | none => none

/-- what a variable holds -/
def sload (P : Program) (m : Mem) (t : TypeId) (a : Addr) : Option Value :=
  match P.underlying t with
  | none => none
  | some _ => if isAggT P t then match sizeOfT P t with
      | some z => (loadRow m a z).map fun cs => .agg cs.toArray
      | none => none
    else match loadRow m a 1 with
      | some [v] => some v
      | _ => none

def sderef (P : Program) (m : Mem) (e : TypeId) (f : FuncId) (v : Value) : Option (FuncId × Value) :=
  match v with
  | .pointer (some ad) => (sload P m e ad).map fun r => (f, r)
  | _ => none

/-- the method of an interface value: its function and receiver -/
def smethod (P : Program) (m : Mem) (t : TypeId) (v : Value) (name : String) : Option (FuncId × Value) :=
  match P.info? t with
  | some i => match i.methods.find? (·.name == name) with
    | some mt => if mt.path.isEmpty then match mt.func, P.underlying t with
        | some (f, true), some (.pointer _) => some (f, v)
        | some (f, false), some (.pointer e) => sderef P m e f v
        | some (_, true), _ => none
        | some (f, false), some _ => some (f, v)
        | _, _ => none
      else none
    | none => none
  | none => none

def boolEq (op : BinOp) (b : Bool) : Option Value :=
  match op with
  | .eql => some (.bool b)
  | .neq => some (.bool (!b))
  | _ => none

def c_value (H : CallH) (ρ : Operand → Value) (f : Operand) (args : Array Operand) (m : Mem) : Option (Value × Mem) :=
  match ρ f with
    | .func (.func fid) first captured => H fid (first.toList ++ args.toList.map ρ ++ captured.toList) m
    | _ => none

def c_invoke (P : Program) (H : CallH) (ρ : Operand → Value) (r : Operand) (name : String) (args : Array Operand) (m : Mem) : Option (Value × Mem) :=
  match ρ r with
    | .iface t v => match smethod P m t v name with
      | some (f, recv) => H f (recv :: args.toList.map ρ) m
      | none => none
    | _ => none

def c_delete (P : Program) (ρ : Operand → Value) (args : Array Operand) (argTypes : Array TypeId) (m : Mem) : Option (Value × Mem) :=
  
    match args.toList, argTypes.toList with
    | [x, y], tm :: _ => match P.underlying tm, ρ x with
      | some (.map kt _), .map (some l) => match m.maps.get l with
        | some s => match sfind P s.entries.isEmpty kt (ρ y) s.entries with
          | some (some (i, _)) => some (.tuple #[], m.setMap l ⟨s.entries.eraseIdx i, s.clock⟩)
          | some none => some (.tuple #[], m.setMap l s)
          | none => none
        | none => none
      | _, _ => none
    | _, _ => none

def c_append (P : Program) (ρ : Operand → Value) (args : Array Operand) (argTypes : Array TypeId) (m : Mem) : Option (Value × Mem) :=
  
    match args.toList, argTypes.toList with
    | [s, x], [ts, tx] =>
      if isIntT P tx then
        match P.underlying ts, natOf (ρ x) with
        | some (.slice e), some k => match zerosOf P e k with
          | some z => sappend P ts m (ρ s) z k
          | none => none
        | _, _ => none
      else match newsOf P m tx (ρ x) with
        | some (news, k) => sappend P ts m (ρ s) news k
        | none => none
    | _, _ => none

def c_len (P : Program) (ρ : Operand → Value) (args : Array Operand) (argTypes : Array TypeId) (m : Mem) : Option (Value × Mem) :=
  
    match args.toList, argTypes.toList with
    | [x], [t] => match P.underlying t, ρ x with
      | some (.slice _), .slice _ n _ => some (.int .i64 n, m)
      | some .string, .string s => some (.int .i64 s.size, m)
      | some (.map _ _), .map (some l) => match m.maps.get l with
        | some s => some (.int .i64 s.entries.length, m)
        | none => none
      | some (.map _ _), .map none => some (.int .i64 0, m)
      | _, _ => none
    | _, _ => none

def c_copy (P : Program) (ρ : Operand → Value) (args : Array Operand) (argTypes : Array TypeId) (m : Mem) : Option (Value × Mem) :=
  
    match args.toList, argTypes.toList with
    | [d, x], [ts, tx] => match P.underlying ts, P.underlying tx, ρ d, ρ x with
      | some (.slice e), some (.slice _), .slice (some da) dn _, .slice (some sa) sn _ => match sizeOfT P e with
        | some z =>
          if Nat.min sn dn == 0 then some (.int .i64 0, m) else
          match loadRow m sa (Nat.min sn dn * z) with
          | some cs => match storeRow m da cs with
            | some m' => some (.int .i64 (Nat.min sn dn), m')
            | none => none
          | none => none
        | none => none
      | _, _, _, _ => none
    | _, _ => none

/-- the address of a slice's first element -/
def c_sliceData (ρ : Operand → Value) (args : Array Operand) (m : Mem) : Option (Value × Mem) :=
  match args.toList with
  | [x] => match ρ x with
    | .slice none 0 0 => some (.pointer none, m)
    | .slice (some a) n _ => if n == 0 then none else some (.pointer (some a), m)
    | _ => none
  | _ => none

/-- a text over the head of a row of bytes, which are frozen -/
def c_unsafeString (P : Program) (ρ : Operand → Value) (args : Array Operand) (argTypes : Array TypeId) (m : Mem) : Option (Value × Mem) :=
  match args.toList, argTypes.toList with
  | [p, n], [tp, _] => match ρ p, ρ n with
    | .pointer none, .int .i64 0 => some (.string ⟨#[]⟩, m)
    | .pointer (some a), .int .i64 k => match P.underlying tp, m.writable a.block with
      | some (.pointer e), some b => if !isI64 P e && 0 < k && k ≤ 9223372036854775807 && a.off == 0 && b.elem == e && P.cellsOf e == 1 && k.toNat ≤ b.cells.length then
          match bytesOf (window b.cells 0 k.toNat) with
          | some s => some (.string ⟨s.toArray⟩, m.frz b)
          | none => none
        else none
      | _, _ => none
    | _, _ => none
  | _, _ => none

def sopCall (P : Program) (H : CallH) (ρ : Operand → Value) (o : Oper) (c : Call) (m : Mem) : Option (Value × Mem) :=
  match c.callee with
  | .value f => c_value H ρ f c.args m
  | .invoke r name => c_invoke P H ρ r name c.args m
  | .builtin .delete => c_delete P ρ c.args c.argTypes m
  | .builtin .append => c_append P ρ c.args c.argTypes m
  | .builtin .len => c_len P ρ c.args c.argTypes m
  | .builtin .copy => c_copy P ρ c.args c.argTypes m
  | .builtin .unsafeSliceData => c_sliceData ρ c.args m
  | .builtin .unsafeString => c_unsafeString P ρ c.args c.argTypes m
  | _ => (closedOp P ρ o).map (·, m)

def s_pick (P : Program) (ρ : Operand → Value) (o : Oper) (c a b : Operand) (m : Mem) : Option (Value × Mem) :=
  match ρ c with
    | .bool t => some (if t then ρ a else ρ b, m)
    | _ => none

def s_nilCheck (P : Program) (ρ : Operand → Value) (o : Oper) (x : Operand) (m : Mem) : Option (Value × Mem) :=
  match ρ x with
    | .pointer (some a) => some (.pointer (some a), m)
    | .func (.func f) a b => some (.func (.func f) a b, m)
    | .iface t v => some (.iface t v, m)
    | _ => none

def s_alloc (P : Program) (ρ : Operand → Value) (o : Oper) (e : TypeId) (m : Mem) : Option (Value × Mem) :=
  match P.info? e with
    | some i => match i.zero with
      | some z => if closedA z.cells then some (.pointer (some ⟨m.next, 0, none⟩), m.new z.cells.toList e) else none
      | none => none
    | none => none

def s_box (P : Program) (ρ : Operand → Value) (o : Oper) (e : TypeId) (x : Operand) (m : Mem) : Option (Value × Mem) :=
  match P.info? e with
    | some _ => some (.pointer (some ⟨m.next, 0, none⟩), m.new (ρ x).cells.toList e)
    | none => none

def s_build (P : Program) (ρ : Operand → Value) (o : Oper) (t : TypeId) (parts : Array (Nat × Operand)) (m : Mem) : Option (Value × Mem) :=
  match P.info? t with
    | some i => match i.zero with
      | some z => if closedA z.cells then match P.underlying t with
          | some (.struct fields) => match prun P (placesOf fields) with
            | some places => (Instr.fill (places[·]?) z.cells (parts.map fun (i, x) => (i, ρ x)).toList).map fun cs => (.agg cs, m)
            | none => none
          | some (.array _ e) => match sizeOfT P e with
            | some size => (Instr.fill (fun i => some (i * size, size)) z.cells (parts.map fun (i, x) => (i, ρ x)).toList).map fun cs => (.agg cs, m)
            | none => none
          | _ => none
        else none
      | none => none
    | none => none

def s_buildSlice (P : Program) (ρ : Operand → Value) (o : Oper) (t : TypeId) (len : Nat) (parts : Array (Nat × Operand)) (m : Mem) : Option (Value × Mem) :=
  match P.underlying t with
    | some (.slice e) => match P.info? e with
      | some i => match i.zero with
        | some z =>
          if 0 < i.size && len * i.size ≤ 16777216 && closedA z.cells && z.cells.size == i.size then
            match Instr.fill (fun j => some (j * i.size, i.size)) (if len * i.size = 0 then #[] else (Array.range (len * i.size)).map (z.cells[· % z.cells.size]!)) (parts.map fun (i, x) => (i, ρ x)).toList with
            | some cells => some (.slice (some ⟨m.next, 0, none⟩) len len, m.new cells.toList e)
            | none => none
          else none
        | none => none
      | none => none
    | _ => none

def s_load (P : Program) (ρ : Operand → Value) (o : Oper) (t : TypeId) (x : Operand) (m : Mem) : Option (Value × Mem) :=
  match ρ x with
    | .pointer (some a) => match P.underlying t with
      | none => none
      | some _ => if isAggT P t then match sizeOfT P t with
          | some z => (loadRow m a z).map fun cs => (.agg cs.toArray, m)
          | none => none
        else match loadRow m a 1 with
          | some [v] => some (v, m)
          | _ => none
    | _ => none

def s_store (P : Program) (ρ : Operand → Value) (o : Oper) (t : TypeId) (x y : Operand) (m : Mem) : Option (Value × Mem) :=
  match ρ x with
    | .pointer (some a) => if sizeOfT P t == some (ρ y).cells.size then (storeRow m a (ρ y).cells.toList).map (undef, ·) else none
    | _ => none

def s_fieldAddr (P : Program) (ρ : Operand → Value) (o : Oper) (s : TypeId) (x : Operand) (f : Nat) (m : Mem) : Option (Value × Mem) :=
  match fieldOf P s f, ρ x with
    | some fl, .pointer (some a) => match sizeOfT P fl.type with
      | some (_ + 1) => if a.spot.isNone then some (.pointer (some { a with off := a.off + fl.offset }), m) else none
      | _ => none
    | _, _ => none

def s_field (P : Program) (ρ : Operand → Value) (o : Oper) (s : TypeId) (x : Operand) (f : Nat) (m : Mem) : Option (Value × Mem) :=
  match fieldOf P s f, ρ x with
    | some fl, .agg cs => (partOf P fl.type cs fl.offset).map (·, m)
    | _, _ => none

def s_indexAddr (P : Program) (ρ : Operand → Value) (o : Oper) (t : TypeId) (x ix : Operand) (m : Mem) : Option (Value × Mem) :=
  match natOf (ρ ix) with
    | none => none
    | some i => match P.underlying t, ρ x with
      | some (.slice e), .slice (some a) n _ => match sizeOfT P e with
        | some z => if i < n && a.spot.isNone then some (.pointer (some { a with off := a.off + i * z }), m) else none
        | none => none
      | some (.array n e), .pointer (some a) => match sizeOfT P e with
        | some z => if i < n && a.spot.isNone then some (.pointer (some { a with off := a.off + i * z }), m) else none
        | none => none
      | _, _ => none

def s_index (P : Program) (ρ : Operand → Value) (o : Oper) (t : TypeId) (x ix : Operand) (m : Mem) : Option (Value × Mem) :=
  match natOf (ρ ix) with
    | none => none
    | some i => match P.underlying t, ρ x with
      | some (.array n e), .agg cs => match sizeOfT P e with
        | some z => if i < n then (partOf P e cs (i * z)).map (·, m) else none
        | none => none
      | some .string, .string s => match s.data[i]? with
        | some b => some (.int .u8 b.toNat, m)
        | none => none
      | _, _ => none

def s_extract (P : Program) (ρ : Operand → Value) (o : Oper) (x : Operand) (i : Nat) (m : Mem) : Option (Value × Mem) :=
  match ρ x with
    | .tuple vs => vs[i]?.map (·, m)
    | _ => none

def s_makeSlice (P : Program) (ρ : Operand → Value) (o : Oper) (t : TypeId) (l c : Operand) (m : Mem) : Option (Value × Mem) :=
  match P.underlying t with
    | some (.slice e) => match P.info? e, natOf (ρ l), natOf (ρ c) with
      | some i, some ln, some cp => match zerosOf P e ln with
        | some z => if 0 < i.size && ln ≤ cp && cp * i.bytes ≤ 281474976710656 then some (.slice (some ⟨m.next, 0, none⟩) ln ln, m.new z e) else none
        | none => none
      | _, _, _ => none
    | _ => none

/-- does that block hold elements of that type? -/
def elemIs (m : Mem) (l : Nat) (e : TypeId) : Bool := match m.blks.get l with
  | some b => b.elem == e
  | none => false
def s_slice (P : Program) (ρ : Operand → Value) (o : Oper) (t : TypeId) (x : Operand) (lo hi : Option Operand) (m : Mem) : Option (Value × Mem) :=
  match P.underlying t, ρ x with
    | some (.slice e), .slice (some a) n c =>
      match sizeOfT P e, (match lo with | none => some 0 | some l => natOf (ρ l)), (match hi with | none => some n | some h => natOf (ρ h)) with
      | some z, some l, some h => if l ≤ h && h ≤ n && a.spot.isNone then
          if c == n then (if l == 0 || elemIs m a.block e then some (.slice (some { a with off := a.off + l * z }) (h - l) (h - l), m) else none)
          else if c == n + 1 then some (.slice (some { a with off := a.off + l * z }) (h - l) (h - l + 1), m)
          else none
        else none
      | _, _, _ => none
    | some (.slice e), .slice none 0 0 =>
      match sizeOfT P e, (match lo with | none => some 0 | some l => natOf (ρ l)), (match hi with | none => some 0 | some h => natOf (ρ h)) with
      | some _, some 0, some 0 => some (.slice none 0 0, m)
      | _, _, _ => none
    | some (.array k e), .pointer (some a) =>
      match sizeOfT P e, (match lo with | none => some 0 | some l => natOf (ρ l)), (match hi with | none => some k | some h => natOf (ρ h)) with
      | some z, some l, some h => if l ≤ h && h ≤ k && k ≤ 9223372036854775807 && a.spot.isNone then some (.slice (some { a with off := a.off + l * z }) (h - l) (h - l + 1), m) else none
      | _, _, _ => none
    | some .string, .string s =>
      match (match lo with | none => some 0 | some l => natOf (ρ l)), (match hi with | none => some s.data.toList.length | some h => natOf (ρ h)) with
      | some l, some h => if l ≤ h && h ≤ s.data.toList.length then some (.string ⟨⟨(s.data.toList.drop l).take (h - l)⟩⟩, m) else none
      | _, _ => none
    | some _, _ => (closedOp P ρ o).map (·, m)
    | _, _ => none

/-- the commonest operations on integers and texts -/
def fastBin (op : BinOp) (x y : Value) : Option Value :=
  match x, y with
  | .int k a, .int j b => match op with
      | .add => if k = j then some (.int k (k.wrap (a + b))) else none
      | .sub => if k = j then some (.int k (k.wrap (a - b))) else none
      | .mul => if k = j then some (.int k (k.wrap (a * b))) else none
      | .eql => if k = j then some (.bool (a == b)) else none
      | .neq => if k = j then some (.bool (a != b)) else none
      | .lss => if k = j then some (.bool (a < b)) else none
      | .leq => if k = j then some (.bool (a ≤ b)) else none
      | .gtr => if k = j then some (.bool (a > b)) else none
      | .geq => if k = j then some (.bool (a ≥ b)) else none
      | .rem => if k = j then (if b = 0 then none else some (.int k (a.tmod b))) else none
      | .quo => if k = j then (if b = 0 then none else some (.int k (k.wrap (a.tdiv b)))) else none
      | .and => if k = j then some (.int k (k.wrap (BitVec.ofInt k.bits a &&& BitVec.ofInt k.bits b).toNat)) else none
      | .or => if k = j then some (.int k (k.wrap (BitVec.ofInt k.bits a ||| BitVec.ofInt k.bits b).toNat)) else none
      | .shl => if b < 0 then none else some (.int k (k.wrap (a * 2 ^ (min b.toNat k.bits))))
      | .shr => if b < 0 then none else some (.int k (a.fdiv (2 ^ (min b.toNat k.bits))))
      | _ => none
  | .string a, .string b => match op with
      | .eql => some (.bool (a.toList == b.toList))
      | .neq => some (.bool (!(a.toList == b.toList)))
      | _ => none
  | _, _ => none

def fastUn (op : UnOp) (x : Value) : Option Value :=
  match op, x with
  | .not, .bool b => some (.bool (!b))
  | _, _ => none

def s_unOp (P : Program) (ρ : Operand → Value) (o : Oper) (op : UnOp) (x : Operand) (m : Mem) : Option (Value × Mem) :=
  match fastUn op (ρ x) with
  | some v => some (v, m)
  | none => (closedOp P ρ o).map (·, m)

def s_binOp0 (P : Program) (ρ : Operand → Value) (o : Oper) (op : BinOp) (t : TypeId) (x y : Operand) (m : Mem) : Option (Value × Mem) :=
  match P.underlying t, ρ x, ρ y with
    | some (.pointer _), .pointer (some _), .pointer none | some (.pointer _), .pointer none, .pointer (some _) => (boolEq op false).map (·, m)
    | some (.slice _), .slice (some _) _ _, .slice none 0 0 | some (.slice _), .slice none 0 0, .slice (some _) _ _ => (boolEq op false).map (·, m)
    | some (.interface _), .iface _ _, .nilIface | some (.interface _), .nilIface, .iface _ _ => (boolEq op false).map (·, m)
    | some (.map _ _), .map (some _), .map none | some (.map _ _), .map none, .map (some _) => (boolEq op false).map (·, m)
    | some (.pointer e), .pointer (some a), .pointer (some c) => if a.block == c.block && (match sizeOfT P e with | some (_ + 1) => true | _ => false) then (boolEq op (a.off == c.off)).map (·, m) else none
    | _, _, _ => (closedOp P ρ o).map (·, m)

def s_binOp (P : Program) (ρ : Operand → Value) (o : Oper) (op : BinOp) (t : TypeId) (x y : Operand) (m : Mem) : Option (Value × Mem) :=
  match fastBin op (ρ x) (ρ y) with
  | some v => some (v, m)
  | none => s_binOp0 P ρ o op t x y m

def s_convert (P : Program) (ρ : Operand → Value) (o : Oper) (src dst : TypeId) (x : Operand) (m : Mem) : Option (Value × Mem) :=
  match P.underlying src, P.underlying dst, ρ x with
    | some (.int _), some (.int k), .int _ n => some (.int k (k.wrap n), m)
    | some (.slice e), some .string, .slice (some a) n _ => (match P.underlying e with
        | some (.int .u8) => if n == 0 then some (.string ⟨#[]⟩, m) else
          match loadRow m a n with
          | some cs => (bytesOf cs).map fun s => (.string ⟨s.toArray⟩, m)
          | none => none
        | _ => none)
    | some .string, some (.slice e), .string s => (match P.underlying e, P.info? e with
        | some (.int .u8), some i => if s.size ≤ 9223372036854775807 && i.size == 1 then some (.slice (some ⟨m.next, 0, none⟩) s.size s.size, m.new (s.data.map fun b => Value.int .u8 b.toNat).toList e) else none
        | _, _ => none)
    | some (.pointer t), some .unsafePointer, .pointer (some a) => (match sizeOfT P t, m.writable a.block with
        | some (_ + 1), some b => if a.off < b.cells.length then some (.pointer (some a), m) else none
        | _, _ => none)
    | some .unsafePointer, some (.pointer u), .pointer (some a) => (match sizeOfT P u, m.writable a.block with
        | some (_ + 1), some b => if !isI64 P u && a.off == 0 && b.elem == u && 0 < P.cellsOf u && P.cellsOf u ≤ b.cells.length then some (.pointer (some a), m) else none
        | _, _ => none)
    | _, _, _ => (closedOp P ρ o).map (·, m)

def s_makeInterface (P : Program) (ρ : Operand → Value) (o : Oper) (t : TypeId) (x : Operand) (m : Mem) : Option (Value × Mem) :=
  match P.underlying t with
    | some (.interface _) => none
    | some _ => some (.iface t (ρ x), m)
    | none => none

def s_typeAssert (P : Program) (ρ : Operand → Value) (o : Oper) (x : Operand) (asserted : TypeId) (ok : Bool) (m : Mem) : Option (Value × Mem) :=
  match P.underlying asserted, ρ x with
    | some (.interface _), _ => none
    | some _, .iface t v => if t == asserted then some (if ok then .tuple #[v, .bool true] else v, m) else none
    | _, _ => none

def s_makeMap (P : Program) (ρ : Operand → Value) (o : Oper) (t : TypeId) (r : Option Operand) (m : Mem) : Option (Value × Mem) :=
  match P.underlying t with
    | some (.map _ _) => match r with
      | none => some (.map (some m.next), m.newMap)
      | some x => match ρ x with
        | .int _ _ => some (.map (some m.next), m.newMap)
        | _ => none
    | _ => none

def s_lookup (P : Program) (ρ : Operand → Value) (o : Oper) (t : TypeId) (x y : Operand) (ok : Bool) (m : Mem) : Option (Value × Mem) :=
  match P.underlying t, entriesOf m (ρ x) with
    | some (.map kt e), some es => match sfind P es.isEmpty kt (ρ y) es with
      | some (some (_, v)) => some (if ok then .tuple #[v, .bool true] else v, m)
      | some none => match P.info? e with
        | some i => match i.zero with
          | some z => if closedV z then some (if ok then .tuple #[z, .bool false] else z, m) else none
          | none => none
        | none => none
      | none => none
    | _, _ => none

def s_mapUpdate (P : Program) (ρ : Operand → Value) (o : Oper) (t : TypeId) (x k y : Operand) (m : Mem) : Option (Value × Mem) :=
  match P.underlying t, ρ x with
    | some (.map kt _), .map (some l) => match m.maps.get l with
      | some s => match sput P kt (ρ k) (ρ y) s with
        | some s' => some (undef, m.setMap l s')
        | none => none
      | none => none
    | _, _ => none

def s_mapEntry (P : Program) (ρ : Operand → Value) (o : Oper) (t : TypeId) (x k : Operand) (m : Mem) : Option (Value × Mem) :=
  match P.underlying t, ρ x with
    | some (.map kt e), .map (some l) => match m.maps.get l, P.info? e with
      | some s, some i => match i.zero with
        | some z => if closedV z then match sentry P kt (ρ k) s z with
            | some (s', v, b) => some (.tuple #[v, .int .i64 b], m.setMap l s')
            | none => none
          else none
        | none => none
      | _, _ => none
    | _, _ => none

def s_entryStore (P : Program) (ρ : Operand → Value) (o : Oper) (x b y : Operand) (m : Mem) : Option (Value × Mem) :=
  match ρ x, natOf (ρ b) with
    | .map (some l), some st => match m.maps.get l with
      | some s => match s.entries.findIdx? (fun e => e.born == st) with
        | some i => some (undef, m.setMap l ⟨setEntry s.entries i fun e => { e with val := ρ y }, s.clock⟩)
        | none => none
      | none => none
    | _, _ => none

def sop (P : Program) (H : CallH) (ρ : Operand → Value) (o : Oper) (m : Mem) : Option (Value × Mem) :=
  match o.op with
  | .move x | .assign x => some (ρ x, m)
  | .pick c a b => s_pick P ρ o c a b m
  | .nilCheck x => s_nilCheck P ρ o x m
  | .alloc e => s_alloc P ρ o e m
  | .box e x => s_box P ρ o e x m
  | .build t parts => s_build P ρ o t parts m
  | .buildSlice t len parts => s_buildSlice P ρ o t len parts m
  | .load t x => s_load P ρ o t x m
  | .store t x y => s_store P ρ o t x y m
  | .fieldAddr s x f => s_fieldAddr P ρ o s x f m
  | .field s x f => s_field P ρ o s x f m
  | .indexAddr t x ix => s_indexAddr P ρ o t x ix m
  | .index t x ix => s_index P ρ o t x ix m
  | .extract x i => s_extract P ρ o x i m
  | .makeSlice t l c => s_makeSlice P ρ o t l c m
  | .slice t x lo hi none => s_slice P ρ o t x lo hi m
  | .binOp op t x y _ => s_binOp P ρ o op t x y m
  | .unOp op _ x => s_unOp P ρ o op x m
  | .makeFunc (.func f) first captured => some (.func (.func f) (first.map ρ) (captured.map ρ), m)
  | .convert src dst x => s_convert P ρ o src dst x m
  | .makeInterface t x => s_makeInterface P ρ o t x m
  | .typeAssert x _ asserted ok => s_typeAssert P ρ o x asserted ok m
  | .makeMap t r => s_makeMap P ρ o t r m
  | .lookup t x y ok => s_lookup P ρ o t x y ok m
  | .mapUpdate t x k y | .insert t x k y => s_mapUpdate P ρ o t x k y m
  | .mapEntry t x k => s_mapEntry P ρ o t x k m
  | .entryStore _ x b y => s_entryStore P ρ o x b y m
  | .call c => sopCall P H ρ o c m
  | .select _ _ => none
  | _ => (closedOp P ρ o).map (·, m)
end Go.Sh

/- The abstract run of the model's code: regions, code, calls. -/
namespace Go.Sh

def syield (ops : List Oper) (t : Tree Value) (j : Nat) : Option Bool :=
  match (ops[j]?).bind (·.dst) with
  | some d => match t.get d with
    | some (.bool b) => some b
    | _ => none
  | none => none

def swanted (ops : List Oper) (t : Tree Value) (o : Oper) : Bool :=
  match o.guard with
  | none => true
  | some (j, want) => syield ops t j == some want

def put (t : Tree Value) (dst : Option Tmp) (v : Value) : Tree Value :=
  match dst with
  | some d => t.set d v
  | none => t

/-- one operation, wanted or not -/
def sop1 (P : Program) (H : CallH) (all : List Oper) (o : Oper) (t : Tree Value) (m : Mem) : Option (Value × Mem) :=
  if swanted all t o then sop P H (ev t) o m else some (undef, m)

def sops (P : Program) (H : CallH) (all : List Oper) : List Oper → Tree Value → Mem → Option (Tree Value × Mem)
  | [], t, m => some (t, m)
  | o :: rest, t, m => match sop1 P H all o t m with
    | some (v, m') => sops P H all rest (put t o.dst v) m'
    | none => none

/- regions that draw their order -/
def loudB (P : Program) (o : Oper) : Bool :=
  match o.op with
  | .move _ | .assign _ | .pick .. | .nilCheck _ | .load .. | .fieldAddr .. | .field .. | .indexAddr .. | .index .. | .extract .. | .slice .. | .binOp .. | .unOp .. | .makeFunc .. | .build .. | .makeInterface .. | .typeAssert .. | .lookup .. => false
  | .convert _ dst _ => match P.underlying dst with
    | some (.slice _) => true
    | _ => false
  | .call { callee := .builtin b, .. } => match b with
    | .len | .min | .max => false
    | _ => true
  | _ => true

/-- a silent operation that looks at the memory -/
def readsB (o : Oper) : Bool :=
  match o.op with
  | .load .. | .slice .. | .convert .. | .lookup .. => true
  | .call { callee := .builtin .len, .. } => true
  | _ => false

/-- for each operation the operations ahead of it, as bits -/
def ancs : List Oper → List Nat → List Nat
  | [], acc => acc
  | o :: rest, acc => ancs rest (acc ++ [o.after.toList.foldl (fun s e => if Region.binds .any e then s ||| 2 ^ e.on ||| acc.getD e.on 0 else s) 0])

/-- the states ahead of each operation, and behind the last -/
def states (P : Program) (H : CallH) (all : List Oper) : List Oper → Tree Value → Mem → Option (List (Tree Value × Mem))
  | [], t, m => some [(t, m)]
  | o :: rest, t, m => match sop1 P H all o t m with
    | some (v, m') => match states P H all rest (put t o.dst v) m' with
      | some l => some ((t, m) :: l)
      | none => none
    | none => none

/-- the places (numbers of operations, or one past the last) at which the memory may have turned -/
def louds (P : Program) (ops : List Oper) : List Nat := (List.range ops.length).filter fun i => (ops[i]?).any (loudB P)

/-- an operation that lays a row of its own and looks at no memory: it may be carried out ahead of its place -/
def floatB (o : Oper) : Bool :=
  o.guard.isNone && match o.op with
  | .alloc _ | .box .. | .buildSlice .. | .makeSlice .. => true
  | _ => false

/-- a text made of bytes that the operation right ahead lays: it reads them wherever they lie -/
def cvB (P : Program) (ops : List Oper) (j : Nat) : Bool := match j with
  | 0 => false
  | i + 1 => match ops[i]?, ops[i + 1]? with
    | some x, some y => (match x.dst, y.op with
      | some d, .convert a b (.tmp e) => (e == d) && y.guard.isNone && floatB x && !(y.dst == some d) &&
        (match x.op with | .buildSlice .. => true | _ => false) &&
        (match P.underlying b with | some .string => true | _ => false) &&
        (match P.underlying a with | some (.slice el) => (match P.underlying el with | some (.int .u8) => true | _ => false) | _ => false)
      | _, _ => false)
    | _, _ => false

/-- can operation j be carried out when just the loud operations ahead of place i have been, and some that float? -/
def compat (ops : List Oper) (A : List Nat) (L : List Nat) (j i : Nat) : Bool :=
  L.all fun k => (!(A.getD j 0).testBit k || k < i || (i < k && (ops[k]?).any floatB)) && (!(A.getD k 0).testBit j || i ≤ k)

/-- for each silent operation that reads: the places at which it must read the same -/
def readPlaces (P : Program) (ops : List Oper) : List (Nat × List Nat) :=
  let A := ancs ops []
  let L := louds P ops
  (List.range ops.length).filterMap fun j => match ops[j]? with
    | some o => if readsB o && !loudB P o then some (j, (L ++ [ops.length]).filter fun i => compat ops A L j i && (!cvB P ops j || decide (j ≤ i))) else none
    | none => none

mutual
def eqV : Value → Value → Bool
  | .bool a, .bool b => a == b
  | .int k a, .int j b => k == j && a == b
  | .string a, .string b => a.data == b.data
  | .pointer a, .pointer b => a == b
  | .slice a n c, .slice b m d => a == b && n == m && c == d
  | .map a, .map b => a == b
  | .nilFunc, .nilFunc | .nilIface, .nilIface => true
  | .func (.func f) a b, .func (.func g) c d => f == g && eqA a c && eqA b d
  | .iface t v, .iface u w => t == u && eqV v w
  | .agg a, .agg b => eqA a b
  | .tuple a, .tuple b => eqA a b
  | _, _ => false
def eqA : Array Value → Array Value → Bool
  | ⟨a⟩, ⟨b⟩ => eqL a b
def eqL : List Value → List Value → Bool
  | [], [] => true
  | a :: r, b :: s => eqV a b && eqL r s
  | _, _ => false
end

/-- what a silent operation that reads yields in another memory -/
def readsSame (P : Program) (H : CallH) (all : List Oper) (o : Oper) (t : Tree Value) (v : Value) (m : Mem) : Bool :=
  match sop1 P H all o t m with
  | some (v', _) => eqV v v'
  | none => false

def checkReads (P : Program) (H : CallH) (all : List Oper) (S : List (Tree Value × Mem)) : Bool :=
  (readPlaces P all).all fun (j, is) => match all[j]?, S[j]? with
    | some o, some (t, m) => match sop1 P H all o t m with
      | some (v, _) => is.all fun i => match S[i]? with
        | some (_, m') => readsSame P H all o t v m'
        | none => false
      | none => false
    | _, _ => false

/-- the order: what floats as late as may be -/
def canonGo (A : List Nat) : List Nat → List Nat → List Nat
  | [], fl => fl
  | x :: r, fl => (fl.filter fun f => (A.getD x 0).testBit f) ++ x :: canonGo A r (fl.filter fun f => !(A.getD x 0).testBit f)

/-- a store, whatever was asked -/
def isStore (o : Oper) : Bool := o.guard.isNone && o.dst.isNone && (match o.op with | .store .. => true | _ => false)
/-- stores that no edge orders with the last one, a store too -/
def lateOf (ops : List Oper) (A : List Nat) : List Nat :=
  match ops.reverse with
  | y :: r => if isStore y then (List.range r.length).filter fun i => (ops[i]?).any isStore && !(A.getD r.length 0).testBit i else []
  | [] => []
/-- the last two: stores that no edge orders -/
def two (cs : List Oper) : Option (List Oper × Oper × Oper) :=
  match cs.reverse with
  | y :: x :: r => if isStore y && isStore x && !(y.after.any fun e => Region.binds .any e && e.on == r.length) && r.all (·.guard.isNone) then some (r.reverse, x, y) else none
  | _ => none
def edgeTo (n : Nat) (o : Oper) : Oper := { o with after := o.after.push ⟨n, .data⟩ }

def canon (ops : List Oper) : List Nat :=
  let A := ancs ops []
  let b := (List.range ops.length).filter fun i => !(ops[i]?).any floatB
  canonGo A (match lateOf ops A with
    | [i] => (b.filter fun k => k != i && k != ops.length - 1) ++ [i, ops.length - 1]
    | _ => b) ((List.range ops.length).filter fun i => (ops[i]?).any floatB)

def renum (ord : List Nat) (o : Oper) : Oper :=
  { o with after := o.after.map (fun e => { e with on := ord.idxOf e.on }), guard := o.guard.map fun g => (ord.idxOf g.1, g.2) }

/-- the region's operations in that order -/
def canonOps (ops : List Oper) : List Oper :=
  if ops.any floatB then
    let ord := canon ops
    ord.filterMap fun i => (ops[i]?).map (renum ord)
  else ops

/-- none of them turns the memory -/
def quiet (P : Program) (ops : List Oper) : Bool := ops.all fun o => !loudB P o

/-- where a store goes -/
def stAt (t : Tree Value) (o : Oper) : Option Nat := match o.op with
  | .store _ x _ => match ev t x with
    | .pointer (some a) => some a.block
    | _ => none
  | _ => none
/-- they go to two blocks -/
def apart (r : List Oper) (x y : Oper) (S : List (Tree Value × Mem)) : Bool := match S[r.length]? with
  | some (t, _) => match stAt t x, stAt t y with
    | some p, some q => p != q
    | _, _ => false
  | none => false
/-- a region whose last two go in either order -/
def spair (P : Program) (H : CallH) (r : List Oper) (x y : Oper) (t : Tree Value) (m : Mem) : Option (Tree Value × Mem) :=
  match states P H (r ++ [x, edgeTo r.length y]) (r ++ [x, edgeTo r.length y]) t m with
  | some S => match states P H (r ++ [y, edgeTo r.length x]) (r ++ [y, edgeTo r.length x]) t m with
    | some S2 => if apart r x y S && checkReads P H (r ++ [x, edgeTo r.length y]) S && checkReads P H (r ++ [y, edgeTo r.length x]) S2 then S.getLast? else none
    | none => none
  | none => none

def sdrawn (P : Program) (H : CallH) (cs : List Oper) (t : Tree Value) (m : Mem) : Option (Tree Value × Mem) :=
  match states P H cs cs t m with
  | some S => if checkReads P H cs S then S.getLast? else none
  | none => none

def sregion (P : Program) (H : CallH) (ops : List Oper) (draw : Bool) (t : Tree Value) (m : Mem) : Option (Tree Value × Mem) :=
  if draw then
    if quiet P (canonOps ops) then sops P H (canonOps ops) (canonOps ops) t m
    else match two (canonOps ops) with
    | some (r, x, y) => spair P H r x y t m
    | none => sdrawn P H (canonOps ops) t m
  else sops P H ops ops t m

def fill (t : Tree Value) : List Value → Nat → Tree Value
  | [], _ => t
  | v :: r, i => fill (t.set i v) r (i + 1)

def sresult (P : Program) (t : Tree Value) (m : Mem) : ResultVar → Option Value
  | .tmp i => some ((t.get i).getD undef)
  | .cell a ty => match (t.get a).getD undef with
    | .pointer (some ad) => match P.underlying ty with
      | none => none
      | some _ => if isAggT P ty then match sizeOfT P ty with
          | some z => (loadRow m ad z).map fun cs => .agg cs.toArray
          | none => none
        else match loadRow m ad 1 with
          | some [v] => some v
          | _ => none
    | _ => none

def sresultsL (P : Program) (t : Tree Value) (m : Mem) : List ResultVar → Option (List Value)
  | [] => some []
  | r :: rest => match sresult P t m r with
    | some v => (sresultsL P t m rest).map (v :: ·)
    | none => none

def sresults (P : Program) (rs : List ResultVar) (t : Tree Value) (m : Mem) : Option Value :=
  match sresultsL P t m rs with
  | some [v] => some v
  | some vs => some (.tuple vs.toArray)
  | none => none

abbrev Ex := Code → Tree Value → Mem → Option (SExit × Tree Value × Mem)

def callF (P : Program) (T : FuncId → Option Func) (ex : Ex) : CallH := fun f args m =>
  match T f with
  | none => none
  | some fn => match fn.body with
    | none => if args.all closedV && (Extern.findNext fn).isNone then
        match Extern.find fn with
        | some e => match prun P (e args.toArray) with
          | some v => if closedV v then some (v, m) else none
          | none => none
        | none => none
      else if (Extern.findNext fn).isNone && fn.name == "internal/abi.NoEscape" then match args with
        | [.pointer (some a)] => some (.pointer (some a), m)
        | _ => none
      else none
    | some c => if args.length ≤ fn.ntmps then match ex c (fill .leaf args 0) m with
      | some (.normal, t, m') | some (.ret, t, m') => match sresults P fn.results.toList t m' with
        | some v => some (v, m')
        | none => none
      | _ => none
      else none

/-- what is known of some calls: arguments and answer, without an address; the memory that was there stays -/
abbrev Sums := FuncId → List (List Value × Value)

def noSums : Sums := fun _ => []

def withSums (S : Sums) (H : CallH) : CallH := fun f args m =>
  match (S f).find? (fun p => eqL p.1 args) with
  | some p => some (p.2, m)
  | none => H f args m

def step (P : Program) (H : CallH) (ex : Ex) : Ex := fun c t m =>
  match c with
  | .skip | .label _ => some (.normal, t, m)
  | .ret => some (.ret, t, m)
  | .exit id => some (.exit id, t, m)
  | .seq a b => match ex a t m with
    | some (.normal, t', m') => ex b t' m'
    | r => r
  | .cond x a b => match ev t x with
    | .bool true => ex a t m
    | .bool false => ex b t m
    | _ => none
  | .block id b => match ex b t m with
    | some (.exit i, t', m') => some (if i = id then .normal else .exit i, t', m')
    | r => r
  | .loop b => match ex b t m with
    | some (.normal, t', m') => ex (.loop b) t' m'
    | r => r
  | .region _ ops draw => match sregion P H ops.toList draw t m with
    | some (t', m') => some (.normal, t', m')
    | none => none
  | _ => none

/-- n: how deep the run may go -/
def exec (P : Program) (T : FuncId → Option Func) (S : Sums) : Nat → Ex
  | 0 => fun _ _ _ => none
  | n + 1 => step P (withSums S (callF P T (exec P T S n))) (exec P T S n)

def call (P : Program) (T : FuncId → Option Func) (S : Sums) (n : Nat) : CallH := withSums S (callF P T (exec P T S n))

/-- nothing but the variables' numbers -/
def mem0 (P : Program) : Mem := ⟨P.globals.size, .leaf, .leaf, .leaf⟩

/-- a variable's type -/
def gtype (P : Program) (g : Nat) : TypeId := ((P.globals[g]?).map (·.type)).getD 0

/-- and some variables' cells, to be read alone -/
def memG (P : Program) : List (Nat × List Value) → Mem
  | [] => mem0 P
  | (g, cs) :: r => { next := (memG P r).next, blks := (memG P r).blks.set g ⟨cs, gtype P g, g⟩, fams := (memG P r).fams.set g ⟨none, 0⟩, maps := (memG P r).maps }

def isTrue (r : Option (Value × Mem)) : Bool := match r with | some (.bool b, _) => b | _ => false
/-- an operand that the abstract run may look at -/
def opdOk (G n : Nat) : Operand → Bool
  | .tmp i => i < n
  | .const v => closedV v
  | .global g => decide (g < G)
  | .func _ => true

def operOk (G n : Nat) (o : Oper) : Bool := o.op.operands.all (opdOk G n) && (match o.dst with | some d => decide (d < n) | none => true)

/- the static part of what is asked of a region that draws its order -/
def namesOf (ops : List Oper) (o : Oper) : List Nat :=
  o.op.operands.toList.filterMap (fun | .tmp t => some t | _ => none) ++ (match o.guard with | some (g, _) => ((ops[g]?).bind (·.dst)).toList | none => [])

def pairOk (P : Program) (ops : List Oper) (A : List Nat) (i j : Nat) : Bool :=
  match ops[i]?, ops[j]? with
  | some x, some y =>
    let before := (A.getD j 0).testBit i
    (match x.dst with
     | some d =>
       let touch := (namesOf ops y).contains d || y.dst == some d
       (!touch || before) && (!touch || !floatB x || (loudB P y && !floatB y) || (j == i + 1 && cvB P ops j) || (List.range i).all fun k => !(ops[k]?).any (loudB P) || (A.getD j 0).testBit k)
     | none => true) &&
    (match y.dst with | some d => !((namesOf ops x).contains d) || before | none => true) &&
    (!(loudB P x && loudB P y && !floatB y) || before)
  | _, _ => false

def ordOk (P : Program) (ops : List Oper) : Bool :=
  let A := ancs ops []
  (List.range ops.length).all fun j => (List.range j).all fun i => pairOk P ops A i j

def drawOk0 (P : Program) (ops : List Oper) : Bool :=
  ordOk P ops && (ops.zipIdx.all fun (o, j) => o.after.all (fun e => !Region.binds .any e || e.on < j)) &&
  ops.all (fun o => match o.guard with | some (g, _) => decide (g < ops.length) | none => true)

/-- the order is one of all, each once -/
def permOk (ops : List Oper) : Bool :=
  !(ops.any floatB) || ((canon ops).length == ops.length && ((canon ops).zipIdx.all fun (x, i) => decide (x < ops.length) && (canon ops).idxOf x == i) && ((List.range ops.length).all fun i => (canon ops).contains i) &&
    ops.all fun o => o.after.all (fun e => e.on < ops.length) && (match o.guard with | some (g, _) => decide (g < ops.length) | none => true))

def drawOk (P : Program) (ops : List Oper) : Bool := permOk ops && match two (canonOps ops) with
  | some (r, x, y) => drawOk0 P (r ++ [x, edgeTo r.length y]) && drawOk0 P (r ++ [y, edgeTo r.length x])
  | none => drawOk0 P (canonOps ops)

def codeOk (P : Program) (n : Nat) : Code → Bool
  | .region _ ops draw => ops.toList.all (operOk P.globals.size n) && (!draw || drawOk P ops.toList)
  | .seq a b => codeOk P n a && codeOk P n b
  | .cond c a b => opdOk P.globals.size n c && codeOk P n a && codeOk P n b
  | .block _ b | .loop b => codeOk P n b
  | _ => true

def resOk (n : Nat) : ResultVar → Bool
  | .tmp i => decide (i < n)
  | .cell i _ => decide (i < n)

def funcOk (P : Program) (fn : Func) : Bool :=
  !(fn.name == "runtime.NumGoroutine") && (match fn.body with | some c => codeOk P fn.ntmps c | none => true) && fn.results.toList.all (resOk fn.ntmps)

end Go.Sh

/- What the abstract memory has to do with the model's world. -/
namespace Go.Sh
open Go.RowKit
set_option linter.unusedVariables false
set_option linter.unusedSimpArgs false

structure Inj where
  n : Nat
  blk : Nat → Nat
  base : Nat → Nat
  ext : Nat → Nat
  esz : Nat → Nat

structure Inj.le (J K : Inj) : Prop where
  n : J.n ≤ K.n
  blk : ∀ l, l < J.n → K.blk l = J.blk l
  base : ∀ l, l < J.n → K.base l = J.base l
  ext : ∀ l, l < J.n → K.ext l = J.ext l
  esz : ∀ l, l < J.n → K.esz l = J.esz l

theorem Inj.le.rfl (J : Inj) : J.le J := ⟨Nat.le_refl _, fun _ _ => Eq.refl _, fun _ _ => Eq.refl _, fun _ _ => Eq.refl _, fun _ _ => Eq.refl _⟩
theorem Inj.le.trans {J K L : Inj} (h : J.le K) (g : K.le L) : J.le L :=
  ⟨Nat.le_trans h.n g.n, fun l hl => (g.blk l (Nat.lt_of_lt_of_le hl h.n)).trans (h.blk l hl), fun l hl => (g.base l (Nat.lt_of_lt_of_le hl h.n)).trans (h.base l hl),
   fun l hl => (g.ext l (Nat.lt_of_lt_of_le hl h.n)).trans (h.ext l hl), fun l hl => (g.esz l (Nat.lt_of_lt_of_le hl h.n)).trans (h.esz l hl)⟩

def Inj.snoc (J : Inj) (b ba ex z : Nat) : Inj :=
  { n := J.n + 1, blk := fun l => if l = J.n then b else J.blk l, base := fun l => if l = J.n then ba else J.base l,
    ext := fun l => if l = J.n then ex else J.ext l, esz := fun l => if l = J.n then z else J.esz l }

theorem Inj.le_snoc (J : Inj) (b ba ex z : Nat) : J.le (J.snoc b ba ex z) := by
  refine ⟨by simp [snoc], ?_, ?_, ?_, ?_⟩ <;> intro l hl <;> simp only [snoc] <;> rw [if_neg (by omega)]

inductive VRel (J : Inj) : Value → Value → Prop
  | clo (v : Value) : closedV v = true → VRel J v v
  | ptr (l o : Nat) : l < J.n → VRel J (.pointer (some ⟨l, o, none⟩)) (.pointer (some ⟨J.blk l, J.base l + o, none⟩))
  | slice (l o n : Nat) (a' : Addr) (c' : Nat) : l < J.n → n ≤ c' → c' ≤ 9223372036854775807 → o + c' * J.esz l = J.ext l →
      (c' = 0 ∨ a' = ⟨J.blk l, J.base l + o, none⟩) → VRel J (.slice (some ⟨l, o, none⟩) n n) (.slice (some a') n c')
  | wslice (l o n : Nat) (a' : Addr) (c' : Nat) : l < J.n → n ≤ c' → c' ≤ 9223372036854775807 →
      (n = 0 ∨ a' = ⟨J.blk l, J.base l + o, none⟩) → VRel J (.slice (some ⟨l, o, none⟩) n (n + 1)) (.slice (some a') n c')
  | agg (xs ys : Array Value) : xs.size = ys.size → (∀ (i : Nat) x y, xs[i]? = some x → ys[i]? = some y → VRel J x y) → VRel J (.agg xs) (.agg ys)
  | tuple (xs ys : Array Value) : xs.size = ys.size → (∀ (i : Nat) x y, xs[i]? = some x → ys[i]? = some y → VRel J x y) → VRel J (.tuple xs) (.tuple ys)
  | func (f : FuncId) (a b a' b' : Array Value) : a.size = a'.size → (∀ (i : Nat) x y, a[i]? = some x → a'[i]? = some y → VRel J x y) →
      b.size = b'.size → (∀ (i : Nat) x y, b[i]? = some x → b'[i]? = some y → VRel J x y) → VRel J (.func (.func f) a b) (.func (.func f) a' b')
  | iface (t : TypeId) (v v' : Value) : VRel J v v' → VRel J (.iface t v) (.iface t v')
  | map (l : Nat) : l < J.n → VRel J (.map (some l)) (.map (some (J.blk l)))

def LRel (J : Inj) (xs ys : List Value) : Prop := xs.length = ys.length ∧ ∀ (i : Nat) x y, xs[i]? = some x → ys[i]? = some y → VRel J x y

theorem VRel.mono {J K : Inj} (h : J.le K) {v v' : Value} (r : VRel J v v') : VRel K v v' := by
  induction r with
  | clo v hv => exact .clo v hv
  | ptr l o hl => rw [← h.blk l hl, ← h.base l hl]; exact .ptr l o (Nat.lt_of_lt_of_le hl h.n)
  | wslice l o n a' c' hl h1 h2 h3 =>
    refine .wslice l o n a' c' (Nat.lt_of_lt_of_le hl h.n) h1 h2 ?_
    rw [h.blk l hl, h.base l hl]; exact h3
  | slice l o n a' c' hl h1 h2 h3 h4 =>
    refine .slice l o n a' c' (Nat.lt_of_lt_of_le hl h.n) h1 h2 ?_ ?_
    · rw [h.esz l hl, h.ext l hl]; exact h3
    · rw [h.blk l hl, h.base l hl]; exact h4
  | agg xs ys hs _ ih => exact .agg xs ys hs ih
  | tuple xs ys hs _ ih => exact .tuple xs ys hs ih
  | func f a b a' b' h1 _ h2 _ ih1 ih2 => exact .func f a b a' b' h1 ih1 h2 ih2
  | iface t v v' _ ih => exact .iface t v v' ih
  | map l hl => rw [← h.blk l hl]; exact .map l (Nat.lt_of_lt_of_le hl h.n)

theorem LRel.mono {J K : Inj} (h : J.le K) {xs ys : List Value} (r : LRel J xs ys) : LRel K xs ys := ⟨r.1, fun i x y hx hy => (r.2 i x y hx hy).mono h⟩

theorem closedL_iff (l : List Value) : closedL l = true ↔ ∀ v ∈ l, closedV v = true := by
  induction l with
  | nil => simp [closedL]
  | cons v r ih => simp [closedL, ih]

theorem closedA_iff (a : Array Value) : closedA a = true ↔ ∀ (i : Nat) x, a[i]? = some x → closedV x = true := by
  obtain ⟨l⟩ := a
  simp only [closedA, closedL_iff, List.getElem?_toArray]
  constructor
  · intro h i x hx; exact h x (List.mem_of_getElem? hx)
  · intro h v hv
    obtain ⟨i, hi⟩ := List.getElem?_of_mem hv
    exact h i v hi

theorem arr_eq {xs ys : Array Value} (hs : xs.size = ys.size) (h : ∀ (i : Nat) x y, xs[i]? = some x → ys[i]? = some y → y = x) : ys = xs := by
  apply Array.ext hs.symm
  intro i h1 h2
  exact h i _ _ (by simp [h2]) (by simp [h1])

theorem VRel.closed_eq {J : Inj} {v v' : Value} (r : VRel J v v') : closedV v = true → v' = v := by
  induction r with
  | clo v hv => intro _; rfl
  | ptr l o hl => intro h; simp [closedV] at h
  | slice l o n a' c' hl h1 h2 h3 h4 => intro h; simp [closedV] at h
  | wslice l o n a' c' hl h1 h2 h3 => intro h; simp [closedV] at h
  | agg xs ys hs _ ih =>
    intro h; simp only [closedV, closedA_iff] at h
    rw [arr_eq hs fun i x y hx hy => ih i x y hx hy (h i x hx)]
  | tuple xs ys hs _ ih =>
    intro h; simp only [closedV, closedA_iff] at h
    rw [arr_eq hs fun i x y hx hy => ih i x y hx hy (h i x hx)]
  | func f a b a' b' h1 _ h2 _ ih1 ih2 =>
    intro h; simp only [closedV, Bool.and_eq_true, closedA_iff, Bool.true_and] at h
    rw [arr_eq h1 fun i x y hx hy => ih1 i x y hx hy (h.1 i x hx), arr_eq h2 fun i x y hx hy => ih2 i x y hx hy (h.2 i x hx)]
  | iface t v v' _ ih =>
    intro h; simp only [closedV] at h
    rw [ih h]
  | map l hl => intro h; simp [closedV] at h

/-- A relation at 'undef'. -/
theorem VRel.undef (J : Inj) : VRel J undef undef := .clo _ (by decide)

/-- the entries of a map -/
def EsRel (J : Inj) (es es' : List MapEntry) : Prop :=
  es.length = es'.length ∧ ∀ (i : Nat) e e', es[i]? = some e → es'[i]? = some e' → VRel J e.key e'.key ∧ e'.born = e.born ∧ VRel J e.val e'.val

theorem EsRel.mono {J K : Inj} (h : J.le K) {es es' : List MapEntry} (r : EsRel J es es') : EsRel K es es' :=
  ⟨r.1, fun i e e' h1 h2 => ⟨(r.2 i e e' h1 h2).1.mono h, (r.2 i e e' h1 h2).2.1, (r.2 i e e' h1 h2).2.2.mono h⟩⟩

/-- THE FRAME: the blocks of B are as they were; the streams too; no block has gone. -/
structure BelowP (B : Nat → Prop) (w w' : World) : Prop where
  os : w'.os = w.os
  tape : w'.tape = w.tape
  output : w'.output = w.output
  size : w.heap.size ≤ w'.heap.size
  block : ∀ k, B k → w'.heap[k]? = w.heap[k]?

theorem BelowP.refl (B : Nat → Prop) (w : World) : BelowP B w w := ⟨rfl, rfl, rfl, Nat.le_refl _, fun _ _ => rfl⟩
theorem BelowP.trans {B : Nat → Prop} {a b c : World} (h : BelowP B a b) (k : BelowP B b c) : BelowP B a c :=
  ⟨k.os.trans h.os, k.tape.trans h.tape, k.output.trans h.output, Nat.le_trans h.size k.size, fun i hi => (k.block i hi).trans (h.block i hi)⟩
theorem BelowP.drew {B : Nat → Prop} {a w : World} (h : BelowP B a w) : BelowP B a w.drew := ⟨h.os, h.tape, h.output, h.size, h.block⟩
theorem BelowP.of {B : Nat → Prop} {w w' : World} (h : Below w.heap.size w w') (hB : ∀ k, B k → k < w.heap.size) : BelowP B w w' :=
  ⟨h.os, h.tape, h.output, h.size, fun k hk => h.block k (hB k hk)⟩
theorem BelowP.below {w w' : World} {n : Nat} (h : BelowP (· < n) w w') : Below n w w' := ⟨h.os, h.tape, h.output, h.size, h.block⟩
theorem BelowP.alloc {B : Nat → Prop} {a w : World} (h : BelowP B a w) (hB : ∀ k, B k → k < w.heap.size) (o : Obj) : BelowP B a (w.alloc o) :=
  h.trans ⟨rfl, rfl, rfl, by simp, fun k hk => Below.heap_alloc _ _ _ (hB k hk)⟩
theorem BelowP.setCell {B : Nat → Prop} {a w : World} (h : BelowP B a w) {p : Addr} (hp : ¬ B p.block) (u : Value) : BelowP B a (w.setCell p u) :=
  h.trans ⟨rfl, rfl, rfl, by simp [World.setCell], fun k hk => Below.heap_setCell _ _ _ _ (fun e => hp (e ▸ hk))⟩

/-- F: the blocks that stay as they are; N: those of them that the abstract memory does not know. -/
structure Frame where
  F : Nat → Prop
  N : Nat → Prop
  sub : ∀ k, N k → F k

structure MRel (P : Program) (J : Inj) (m : Mem) (B : Frame) (W w : World) : Prop where
  n : J.n = m.next
  dom : ∀ l b, m.blks.get l = some b → l < m.next
  esz : ∀ l b, m.blks.get l = some b → ∃ i, P.info? b.elem = some i ∧ i.size = J.esz l
  blk : ∀ l b, m.readable l = some b → J.blk l < w.heap.size
  rd : ∀ l b, m.readable l = some b → ∀ i v, b.cells[i]? = some v → ∃ v', w.cell? ⟨J.blk l, J.base l + i, none⟩ = some v' ∧ VRel J v v'
  wr : ∀ l b, m.writable l = some b → ¬ B.F (J.blk l) ∧ (J.base l = 0 ∨ isI64 P b.elem = true) ∧ b.cells.length ≤ J.ext l ∧
    ∀ i, i < J.ext l → (w.cell? ⟨J.blk l, J.base l + i, none⟩).isSome = true ∧ w.frozen? ⟨J.blk l, J.base l + i, none⟩ = false
  sep : ∀ l b l' b', m.writable l = some b → m.readable l' = some b' → J.blk l' = J.blk l → b'.fam = b.fam ∧ l' ≤ l ∧ J.base l' + b'.cells.length ≤ J.base l + b.cells.length
  below : BelowP B.F W w
  size : ∀ k, B.F k → k < w.heap.size
  glob : ∀ g, g < P.globals.size → g < J.n ∧ J.blk g = g ∧ J.base g = 0
  mp : ∀ l s, m.maps.get l = some s → l < m.next ∧ ¬ B.F (J.blk l) ∧ ∃ es', w.heap[J.blk l]? = some (.map es' s.clock) ∧ EsRel J s.entries es'.toList
  mi : ∀ l l' s s', m.maps.get l = some s → m.maps.get l' = some s' → J.blk l = J.blk l' → l = l'
  ms : ∀ l s l' b, m.maps.get l = some s → m.readable l' = some b → J.blk l' ≠ J.blk l
  nr : ∀ l b, m.readable l = some b → ¬ B.N (J.blk l)
  sh : ∀ l b, m.writable l = some b → ∃ n, w.shape? (J.blk l) = some (b.elem, n)

theorem shape_of_block {w w' : World} {r : Nat} (h : w'.heap[r]? = w.heap[r]?) : w'.shape? r = w.shape? r := by unfold World.shape?; rw [h]


variable {P : Program} {J : Inj} {m : Mem} {B : Frame} {W w w' : World}

theorem Mem.readable_iff {m : Mem} {l : Nat} {b : Blk} : m.readable l = some b ↔ m.blks.get l = some b ∧ ∃ f, m.fams.get b.fam = some f ∧ f.kill ≤ l := by
  unfold Mem.readable
  constructor
  · intro h
    split at h
    · cases h
    · split at h
      · cases h
      · split at h
        · simp only [Option.some.injEq] at h; subst h; exact ⟨by assumption, _, by assumption, by assumption⟩
        · cases h
  · rintro ⟨h1, f, h2, h3⟩
    simp [h1, h2, h3]

theorem Mem.writable_iff {m : Mem} {l : Nat} {b : Blk} : m.writable l = some b ↔ m.blks.get l = some b ∧ ∃ f, m.fams.get b.fam = some f ∧ f.live = some l ∧ f.kill ≤ l := by
  unfold Mem.writable
  constructor
  · intro h
    split at h
    · cases h
    · split at h
      · cases h
      · split at h
        · rename_i hc
          simp only [Bool.and_eq_true, beq_iff_eq, decide_eq_true_eq] at hc
          simp only [Option.some.injEq] at h; subst h; exact ⟨by assumption, _, by assumption, hc.1, hc.2⟩
        · cases h
  · rintro ⟨h1, f, h2, h3, h4⟩
    simp [h1, h2, h3, h4]

theorem Mem.readable_of_writable {m : Mem} {l : Nat} {b : Blk} (h : m.writable l = some b) : m.readable l = some b := by
  obtain ⟨h1, f, h2, _, h4⟩ := Mem.writable_iff.1 h
  exact Mem.readable_iff.2 ⟨h1, f, h2, h4⟩

/-- two writable blocks of one family are one -/
theorem Mem.writable_fam {m : Mem} {l l' : Nat} {b b' : Blk} (h : m.writable l = some b) (h' : m.writable l' = some b') (e : b.fam = b'.fam) : l = l' := by
  obtain ⟨_, f, h2, h3, _⟩ := Mem.writable_iff.1 h
  obtain ⟨_, f', h2', h3', _⟩ := Mem.writable_iff.1 h'
  rw [e, h2'] at h2
  simp only [Option.some.injEq] at h2
  subst h2
  rw [h3] at h3'
  simpa using h3'

/-- THE WORLD MAY BE ANOTHER with the same heap. -/
theorem MRel.same (h : MRel P J m B W w) (hh : w'.heap = w.heap) (hb : BelowP B.F W w') : MRel P J m B W w' where
  n := h.n
  dom := h.dom
  esz := h.esz
  blk := fun l b hl => hh ▸ h.blk l b hl
  rd := fun l b hl i v hv => by
    have : ∀ x, w'.cell? x = w.cell? x := fun x => by unfold World.cell?; rw [hh]
    rw [this]; exact h.rd l b hl i v hv
  wr := fun l b hl => by
    have c : ∀ x, w'.cell? x = w.cell? x := fun x => by unfold World.cell?; rw [hh]
    have f : ∀ x, w'.frozen? x = w.frozen? x := fun x => by unfold World.frozen?; rw [hh]
    obtain ⟨h1, h2, h3, h4⟩ := h.wr l b hl
    exact ⟨h1, h2, h3, fun i hi => by rw [c, f]; exact h4 i hi⟩
  sep := h.sep
  below := hb
  size := hh ▸ h.size
  glob := h.glob
  mp := fun l s hl => by rw [hh]; exact h.mp l s hl
  mi := h.mi
  ms := h.ms
  nr := h.nr
  sh := fun l b hl => by rw [shape_of_block (w := w) (by rw [hh])]; exact h.sh l b hl

theorem MRel.drew (h : MRel P J m B W w) : MRel P J m B W w.drew := h.same rfl h.below.drew

/-- A block's cells turn. -/
theorem MRel.put (h : MRel P J m B W w) {l : Nat} {b : Blk} (hw : m.writable l = some b) {cells : List Value} (hlen : cells.length = b.cells.length)
    (hh : ∀ k, k ≠ J.blk l → w'.heap[k]? = w.heap[k]?) (hs : w'.heap.size = w.heap.size) (hb : BelowP B.F W w') (hf : ∀ x, w'.frozen? x = w.frozen? x) (ho : ∀ x : Addr, x.block ≠ J.blk l → w'.cell? x = w.cell? x)
    (hi : ∀ i, (w.cell? ⟨J.blk l, i, none⟩).isSome = true → (w'.cell? ⟨J.blk l, i, none⟩).isSome = true) (hsp : ∀ r, w'.shape? r = w.shape? r)
    (hn : ∀ i v, cells[i]? = some v → ∃ v', w'.cell? ⟨J.blk l, J.base l + i, none⟩ = some v' ∧ VRel J v v') : MRel P J (m.put l b cells) B W w' := by
  obtain ⟨hg, f, hfam, hlive, hkill⟩ := Mem.writable_iff.1 hw
  have hrd := Mem.readable_of_writable hw
  obtain ⟨w1, w2, w3, w4⟩ := h.wr l b hw
  -- what is readable behind
  have rd' : ∀ l' b', (m.put l b cells).readable l' = some b' → (l' = l ∧ b' = { b with cells := cells }) ∨ (l' ≠ l ∧ m.readable l' = some b' ∧ J.blk l' ≠ J.blk l) := by
    intro l' b' hr
    obtain ⟨g1, f', g2, g3⟩ := Mem.readable_iff.1 hr
    simp only [Mem.put] at g1 g2
    by_cases e : l' = l
    · subst e
      rw [Tree.get_set_self] at g1
      simp only [Option.some.injEq] at g1
      exact Or.inl ⟨rfl, g1.symm⟩
    · refine Or.inr ⟨e, ?_⟩
      rw [Tree.get_set_ne _ _ e] at g1
      have hold : m.readable l' = some b' := by
        refine Mem.readable_iff.2 ⟨g1, ?_⟩
        by_cases ef : b'.fam = b.fam
        · rw [ef, Tree.get_set_self] at g2
          simp only [Option.some.injEq] at g2
          subst g2
          exact ⟨f, by rw [ef]; exact hfam, Nat.le_trans hkill g3⟩
        · rw [Tree.get_set_ne _ _ ef] at g2
          exact ⟨f', g2, g3⟩
      refine ⟨hold, fun eb => ?_⟩
      obtain ⟨s1, s2, _⟩ := h.sep l b l' b' hw hold eb
      rw [s1, Tree.get_set_self] at g2
      simp only [Option.some.injEq] at g2
      subst g2
      simp only at g3
      omega
  have wr' : ∀ l' b', (m.put l b cells).writable l' = some b' → (l' = l ∧ b' = { b with cells := cells }) ∨ (l' ≠ l ∧ m.writable l' = some b' ∧ b'.fam ≠ b.fam) := by
    intro l' b' hr
    obtain ⟨g1, f', g2, g3, g4⟩ := Mem.writable_iff.1 hr
    simp only [Mem.put] at g1 g2
    by_cases e : l' = l
    · subst e
      rw [Tree.get_set_self] at g1
      simp only [Option.some.injEq] at g1
      exact Or.inl ⟨rfl, g1.symm⟩
    · refine Or.inr ⟨e, ?_⟩
      rw [Tree.get_set_ne _ _ e] at g1
      by_cases ef : b'.fam = b.fam
      · rw [ef, Tree.get_set_self] at g2
        simp only [Option.some.injEq] at g2
        subst g2
        simp only [Option.some.injEq] at g3
        exact absurd g3.symm e
      · rw [Tree.get_set_ne _ _ ef] at g2
        exact ⟨Mem.writable_iff.2 ⟨g1, f', g2, g3, g4⟩, ef⟩
  constructor
  · exact h.n
  · intro l' b' hl
    simp only [Mem.put, Tree.get_set] at hl ⊢
    split at hl
    · rename_i e; subst e; exact h.dom _ _ hg
    · exact h.dom _ _ hl
  · intro l' b' hl
    simp only [Mem.put, Tree.get_set] at hl
    split at hl
    · rename_i e; subst e
      simp only [Option.some.injEq] at hl; subst hl
      exact h.esz _ b hg
    · exact h.esz _ _ hl
  · intro l' b' hl
    rw [hs]
    rcases rd' l' b' hl with ⟨rfl, _⟩ | ⟨_, g, _⟩
    · exact h.blk _ _ hrd
    · exact h.blk _ _ g
  · intro l' b' hl i v hv
    rcases rd' l' b' hl with ⟨rfl, rfl⟩ | ⟨_, g, gb⟩
    · exact hn i v hv
    · rw [ho _ gb]; exact h.rd _ _ g i v hv
  · intro l' b' hl
    rcases wr' l' b' hl with ⟨rfl, rfl⟩ | ⟨ne, g, gb⟩
    · exact ⟨w1, w2, by simpa [hlen] using w3, fun i hi' => ⟨hi _ (w4 i hi').1, by rw [hf]; exact (w4 i hi').2⟩⟩
    · obtain ⟨v1, v2, v3, v4⟩ := h.wr _ _ g
      refine ⟨v1, v2, v3, fun i hi' => ?_⟩
      rw [ho _ (fun e => ?_), hf]
      · exact v4 i hi'
      · exact gb (h.sep _ _ _ _ hw (Mem.readable_of_writable g) e).1
  · intro l1 b1 l2 b2 h1 h2 e
    rcases wr' l1 b1 h1 with ⟨rfl, rfl⟩ | ⟨n1, g1, gb1⟩ <;> rcases rd' l2 b2 h2 with ⟨rfl, rfl⟩ | ⟨n2, g2, gb2⟩
    · exact ⟨rfl, Nat.le_refl _, Nat.le_refl _⟩
    · exact absurd e gb2
    · have := h.sep _ _ _ _ g1 hrd e
      exact ⟨this.1, this.2.1, by simpa [hlen] using this.2.2⟩
    · exact h.sep _ _ _ _ g1 g2 e
  · exact hb
  · exact hs ▸ h.size
  · exact h.glob
  · intro l1 s1 h1
    obtain ⟨q1, q2, es', q3, q4⟩ := h.mp l1 s1 h1
    exact ⟨q1, q2, es', by rw [hh _ (fun e => h.ms l1 s1 l b h1 hrd e.symm)]; exact q3, q4⟩
  · exact h.mi
  · intro l1 s1 l2 b2 h1 h2
    rcases rd' l2 b2 h2 with ⟨rfl, _⟩ | ⟨_, g, _⟩
    · exact h.ms l1 s1 _ b h1 hrd
    · exact h.ms l1 s1 l2 b2 h1 g
  · intro l2 b2 h2
    rcases rd' l2 b2 h2 with ⟨rfl, _⟩ | ⟨_, g, _⟩
    · exact h.nr _ b hrd
    · exact h.nr l2 b2 g
  · intro l2 b2 h2
    rw [hsp]
    rcases wr' l2 b2 h2 with ⟨rfl, rfl⟩ | ⟨_, g, _⟩
    · exact h.sh _ b hw
    · exact h.sh l2 b2 g

theorem VRel.snoc {v v' : Value} (r : VRel J v v') (b ba ex z : Nat) : VRel (J.snoc b ba ex z) v v' := r.mono (J.le_snoc b ba ex z)

theorem Inj.snoc_blk_lt (J : Inj) {l : Nat} (hl : l < J.n) (b ba ex z : Nat) : (J.snoc b ba ex z).blk l = J.blk l := (J.le_snoc b ba ex z).blk l hl
theorem Inj.snoc_base_lt (J : Inj) {l : Nat} (hl : l < J.n) (b ba ex z : Nat) : (J.snoc b ba ex z).base l = J.base l := (J.le_snoc b ba ex z).base l hl
theorem Inj.snoc_ext_lt (J : Inj) {l : Nat} (hl : l < J.n) (b ba ex z : Nat) : (J.snoc b ba ex z).ext l = J.ext l := (J.le_snoc b ba ex z).ext l hl
theorem Inj.snoc_esz_lt (J : Inj) {l : Nat} (hl : l < J.n) (b ba ex z : Nat) : (J.snoc b ba ex z).esz l = J.esz l := (J.le_snoc b ba ex z).esz l hl

/-- A NEW BLOCK. -/
theorem MRel.new (h : MRel P J m B W w) (cells : List Value) (e : TypeId) (i : TypeInfo) (he : P.info? e = some i) (ex : Nat) (hex : cells.length ≤ ex)
    (hh : ∀ k, k < w.heap.size → w'.heap[k]? = w.heap[k]?) (hs : w'.heap.size = w.heap.size + 1) (hb : BelowP B.F W w') (ho : ∀ x : Addr, x.block < w.heap.size → w'.cell? x = w.cell? x ∧ w'.frozen? x = w.frozen? x)
    (hx : ∀ i, i < ex → (w'.cell? ⟨w.heap.size, i, none⟩).isSome = true ∧ w'.frozen? ⟨w.heap.size, i, none⟩ = false)
    (hn : ∀ i v, cells[i]? = some v → ∃ v', w'.cell? ⟨w.heap.size, i, none⟩ = some v' ∧ VRel J v v') (hse : ∃ n, w'.shape? w.heap.size = some (e, n)) :
    MRel P (J.snoc w.heap.size 0 ex i.size) (m.new cells e) B W w' := by
  have hJ := h.n
  have rd' : ∀ l' b', (m.new cells e).readable l' = some b' → (l' = m.next ∧ b' = ⟨cells, e, m.next⟩) ∨ (l' < m.next ∧ m.blks.get l' = some b' ∧ (b'.fam ≠ m.next → m.readable l' = some b')) := by
    intro l' b' hr
    obtain ⟨g1, f', g2, g3⟩ := Mem.readable_iff.1 hr
    simp only [Mem.new] at g1 g2
    by_cases e' : l' = m.next
    · subst e'
      rw [Tree.get_set_self] at g1
      simp only [Option.some.injEq] at g1
      exact Or.inl ⟨rfl, g1.symm⟩
    · refine Or.inr ?_
      rw [Tree.get_set_ne _ _ e'] at g1
      refine ⟨h.dom _ _ g1, g1, fun ne => ?_⟩
      rw [Tree.get_set_ne _ _ ne] at g2
      exact Mem.readable_iff.2 ⟨g1, f', g2, g3⟩
  have rd2 : ∀ l' b', (m.new cells e).readable l' = some b' → (l' = m.next ∧ b' = ⟨cells, e, m.next⟩) ∨ (l' < m.next ∧ m.readable l' = some b') := by
    intro l' b' hr
    rcases rd' l' b' hr with g | ⟨g1, g2, g3⟩
    · exact Or.inl g
    · refine Or.inr ⟨g1, ?_⟩
      by_cases ef : b'.fam = m.next
      · -- the family's kill is the new number: such a block can't be read
        obtain ⟨_, f', k2, k3⟩ := Mem.readable_iff.1 hr
        simp only [Mem.new] at k2
        rw [ef, Tree.get_set_self] at k2
        simp only [Option.some.injEq] at k2
        subst k2
        simp only at k3
        omega
      · exact g3 ef
  have wr2 : ∀ l' b', (m.new cells e).writable l' = some b' → (l' = m.next ∧ b' = ⟨cells, e, m.next⟩) ∨ (l' < m.next ∧ m.writable l' = some b') := by
    intro l' b' hr
    obtain ⟨g1, f', g2, g3, g4⟩ := Mem.writable_iff.1 hr
    rcases rd2 l' b' (Mem.readable_of_writable hr) with g | ⟨k1, k2⟩
    · exact Or.inl g
    · refine Or.inr ⟨k1, ?_⟩
      obtain ⟨q1, q, q2, q3⟩ := Mem.readable_iff.1 k2
      simp only [Mem.new] at g2
      by_cases ef : b'.fam = m.next
      · rw [ef, Tree.get_set_self] at g2
        simp only [Option.some.injEq] at g2
        subst g2
        simp only [Option.some.injEq] at g3
        omega
      · rw [Tree.get_set_ne _ _ ef] at g2
        exact Mem.writable_iff.2 ⟨q1, f', g2, g3, g4⟩
  have hblk : ∀ l', l' < m.next → (J.snoc w.heap.size 0 ex i.size).blk l' = J.blk l' := fun l' hl => J.snoc_blk_lt (hJ ▸ hl) _ _ _ _
  have hself : (J.snoc w.heap.size 0 ex i.size).blk m.next = w.heap.size := by simp [Inj.snoc, hJ]
  have hbase : (J.snoc w.heap.size 0 ex i.size).base m.next = 0 := by simp [Inj.snoc, hJ]
  have hext : (J.snoc w.heap.size 0 ex i.size).ext m.next = ex := by simp [Inj.snoc, hJ]
  constructor
  · simp [Inj.snoc, Mem.new, hJ]
  · intro l' b' hl
    simp only [Mem.new, Tree.get_set] at hl ⊢
    split at hl
    · omega
    · have := h.dom _ _ hl; omega
  · intro l' b' hl
    simp only [Mem.new, Tree.get_set] at hl
    split at hl
    · rename_i e'; subst e'
      simp only [Option.some.injEq] at hl; subst hl
      exact ⟨i, he, by simp [Inj.snoc, hJ]⟩
    · rw [J.snoc_esz_lt (hJ ▸ h.dom _ _ hl)]; exact h.esz _ _ hl
  · intro l' b' hl
    rw [hs]
    rcases rd2 l' b' hl with ⟨rfl, _⟩ | ⟨g1, g⟩
    · rw [hself]; omega
    · rw [hblk _ g1]; have := h.blk _ _ g; omega
  · intro l' b' hl j v hv
    rcases rd2 l' b' hl with ⟨rfl, rfl⟩ | ⟨g1, g⟩
    · obtain ⟨v', k1, k2⟩ := hn j v hv
      exact ⟨v', by rw [hself, hbase, Nat.zero_add]; exact k1, k2.snoc _ _ _ _⟩
    · obtain ⟨v', k1, k2⟩ := h.rd _ _ g j v hv
      refine ⟨v', ?_, k2.snoc _ _ _ _⟩
      rw [hblk _ g1, J.snoc_base_lt (hJ ▸ g1), (ho _ (h.blk _ _ g)).1]
      exact k1
  · intro l' b' hl
    rcases wr2 l' b' hl with ⟨rfl, rfl⟩ | ⟨g1, g⟩
    · refine ⟨by rw [hself]; exact fun hk => Nat.lt_irrefl _ (h.size _ hk), Or.inl hbase, by rw [hext]; exact hex, fun j hj => ?_⟩
      rw [hext] at hj
      rw [hself, hbase, Nat.zero_add]
      exact hx j hj
    · obtain ⟨v1, v2, v3, v4⟩ := h.wr _ _ g
      rw [hblk _ g1, J.snoc_base_lt (hJ ▸ g1), J.snoc_ext_lt (hJ ▸ g1)]
      refine ⟨v1, v2, v3, fun j hj => ?_⟩
      have hlt := h.blk _ _ (Mem.readable_of_writable g)
      rw [(ho ⟨J.blk l', J.base l' + j, none⟩ hlt).1, (ho ⟨J.blk l', J.base l' + j, none⟩ hlt).2]
      exact v4 j hj
  · intro l1 b1 l2 b2 h1 h2 e'
    rcases wr2 l1 b1 h1 with ⟨rfl, rfl⟩ | ⟨n1, g1⟩ <;> rcases rd2 l2 b2 h2 with ⟨rfl, rfl⟩ | ⟨n2, g2⟩
    · exact ⟨rfl, Nat.le_refl _, Nat.le_refl _⟩
    · rw [hself, hblk _ n2] at e'
      have := h.blk _ _ g2; omega
    · rw [hself, hblk _ n1] at e'
      have := h.blk _ _ (Mem.readable_of_writable g1); omega
    · rw [hblk _ n1, hblk _ n2] at e'
      rw [J.snoc_base_lt (hJ ▸ n2), J.snoc_base_lt (hJ ▸ n1)]
      exact h.sep _ _ _ _ g1 g2 e'
  · exact hb
  · exact fun k hk => by have := h.size k hk; omega
  · intro g hg
    obtain ⟨g1, g2, g3⟩ := h.glob g hg
    exact ⟨Nat.lt_of_lt_of_le g1 (J.le_snoc _ _ _ _).n, by rw [J.snoc_blk_lt g1]; exact g2, by rw [J.snoc_base_lt g1]; exact g3⟩
  · intro l1 s1 h1
    obtain ⟨q1, q2, es', q3, q4⟩ := h.mp l1 s1 h1
    have hlt : J.blk l1 < w.heap.size := (Array.getElem?_eq_some_iff.1 q3).1
    refine ⟨by simp only [Mem.new]; omega, by rw [hblk _ q1]; exact q2, es', by rw [hblk _ q1, hh _ hlt]; exact q3, q4.mono (J.le_snoc _ _ _ _)⟩
  · intro l1 l2 s1 s2 h1 h2 e'
    have q1 := (h.mp l1 s1 h1).1
    have q2 := (h.mp l2 s2 h2).1
    rw [hblk _ q1, hblk _ q2] at e'
    exact h.mi l1 l2 s1 s2 h1 h2 e'
  · intro l1 s1 l2 b2 h1 h2
    obtain ⟨q1, q2, es', q3, q4⟩ := h.mp l1 s1 h1
    have hlt : J.blk l1 < w.heap.size := (Array.getElem?_eq_some_iff.1 q3).1
    rw [hblk _ q1]
    rcases rd2 l2 b2 h2 with ⟨rfl, _⟩ | ⟨g1, g⟩
    · rw [hself]; omega
    · rw [hblk _ g1]; exact h.ms l1 s1 l2 b2 h1 g
  · intro l2 b2 h2
    rcases rd2 l2 b2 h2 with ⟨rfl, _⟩ | ⟨g1, g⟩
    · rw [hself]; exact fun hk => Nat.lt_irrefl _ (h.size _ (B.sub _ hk))
    · rw [hblk _ g1]; exact h.nr l2 b2 g
  · intro l2 b2 h2
    rcases wr2 l2 b2 h2 with ⟨rfl, rfl⟩ | ⟨g1, g⟩
    · rw [hself]; exact hse
    · rw [hblk _ g1, shape_of_block (w := w) (hh _ (h.blk _ _ (Mem.readable_of_writable g)))]; exact h.sh l2 b2 g

/-- A BLOCK THAT IS THERE IS TAKEN ON as the next one. -/
theorem MRel.adopt (h : MRel P J m B W w) (cells : List Value) (e : TypeId) (i : TypeInfo) (he : P.info? e = some i) (nb ex : Nat) (hex : cells.length ≤ ex) (hlt : nb < w.heap.size) (hF : ¬ B.F nb)
    (fr : ∀ l b, m.readable l = some b → J.blk l ≠ nb) (fm : ∀ l s, m.maps.get l = some s → J.blk l ≠ nb)
    (hx : ∀ i, i < ex → (w.cell? ⟨nb, i, none⟩).isSome = true ∧ w.frozen? ⟨nb, i, none⟩ = false)
    (hn : ∀ i v, cells[i]? = some v → ∃ v', w.cell? ⟨nb, i, none⟩ = some v' ∧ VRel J v v') (hse : ∃ n, w.shape? nb = some (e, n)) :
    MRel P (J.snoc nb 0 ex i.size) (m.new cells e) B W w := by
  have hJ := h.n
  have rd' : ∀ l' b', (m.new cells e).readable l' = some b' → (l' = m.next ∧ b' = ⟨cells, e, m.next⟩) ∨ (l' < m.next ∧ m.blks.get l' = some b' ∧ (b'.fam ≠ m.next → m.readable l' = some b')) := by
    intro l' b' hr
    obtain ⟨g1, f', g2, g3⟩ := Mem.readable_iff.1 hr
    simp only [Mem.new] at g1 g2
    by_cases e' : l' = m.next
    · subst e'
      rw [Tree.get_set_self] at g1
      simp only [Option.some.injEq] at g1
      exact Or.inl ⟨rfl, g1.symm⟩
    · refine Or.inr ?_
      rw [Tree.get_set_ne _ _ e'] at g1
      refine ⟨h.dom _ _ g1, g1, fun ne => ?_⟩
      rw [Tree.get_set_ne _ _ ne] at g2
      exact Mem.readable_iff.2 ⟨g1, f', g2, g3⟩
  have rd2 : ∀ l' b', (m.new cells e).readable l' = some b' → (l' = m.next ∧ b' = ⟨cells, e, m.next⟩) ∨ (l' < m.next ∧ m.readable l' = some b') := by
    intro l' b' hr
    rcases rd' l' b' hr with g | ⟨g1, g2, g3⟩
    · exact Or.inl g
    · refine Or.inr ⟨g1, ?_⟩
      by_cases ef : b'.fam = m.next
      · -- the family's kill is the new number: such a block can't be read
        obtain ⟨_, f', k2, k3⟩ := Mem.readable_iff.1 hr
        simp only [Mem.new] at k2
        rw [ef, Tree.get_set_self] at k2
        simp only [Option.some.injEq] at k2
        subst k2
        simp only at k3
        omega
      · exact g3 ef
  have wr2 : ∀ l' b', (m.new cells e).writable l' = some b' → (l' = m.next ∧ b' = ⟨cells, e, m.next⟩) ∨ (l' < m.next ∧ m.writable l' = some b') := by
    intro l' b' hr
    obtain ⟨g1, f', g2, g3, g4⟩ := Mem.writable_iff.1 hr
    rcases rd2 l' b' (Mem.readable_of_writable hr) with g | ⟨k1, k2⟩
    · exact Or.inl g
    · refine Or.inr ⟨k1, ?_⟩
      obtain ⟨q1, q, q2, q3⟩ := Mem.readable_iff.1 k2
      simp only [Mem.new] at g2
      by_cases ef : b'.fam = m.next
      · rw [ef, Tree.get_set_self] at g2
        simp only [Option.some.injEq] at g2
        subst g2
        simp only [Option.some.injEq] at g3
        omega
      · rw [Tree.get_set_ne _ _ ef] at g2
        exact Mem.writable_iff.2 ⟨q1, f', g2, g3, g4⟩
  have hblk : ∀ l', l' < m.next → (J.snoc nb 0 ex i.size).blk l' = J.blk l' := fun l' hl => J.snoc_blk_lt (hJ ▸ hl) _ _ _ _
  have hself : (J.snoc nb 0 ex i.size).blk m.next = nb := by simp [Inj.snoc, hJ]
  have hbase : (J.snoc nb 0 ex i.size).base m.next = 0 := by simp [Inj.snoc, hJ]
  have hext : (J.snoc nb 0 ex i.size).ext m.next = ex := by simp [Inj.snoc, hJ]
  constructor
  · simp [Inj.snoc, Mem.new, hJ]
  · intro l' b' hl
    simp only [Mem.new, Tree.get_set] at hl ⊢
    split at hl
    · omega
    · have := h.dom _ _ hl; omega
  · intro l' b' hl
    simp only [Mem.new, Tree.get_set] at hl
    split at hl
    · rename_i e'; subst e'
      simp only [Option.some.injEq] at hl; subst hl
      exact ⟨i, he, by simp [Inj.snoc, hJ]⟩
    · rw [J.snoc_esz_lt (hJ ▸ h.dom _ _ hl)]; exact h.esz _ _ hl
  · intro l' b' hl
    rcases rd2 l' b' hl with ⟨rfl, _⟩ | ⟨g1, g⟩
    · rw [hself]; exact hlt
    · rw [hblk _ g1]; exact h.blk _ _ g
  · intro l' b' hl j v hv
    rcases rd2 l' b' hl with ⟨rfl, rfl⟩ | ⟨g1, g⟩
    · obtain ⟨v', k1, k2⟩ := hn j v hv
      exact ⟨v', by rw [hself, hbase, Nat.zero_add]; exact k1, k2.snoc _ _ _ _⟩
    · obtain ⟨v', k1, k2⟩ := h.rd _ _ g j v hv
      refine ⟨v', ?_, k2.snoc _ _ _ _⟩
      rw [hblk _ g1, J.snoc_base_lt (hJ ▸ g1)]
      exact k1
  · intro l' b' hl
    rcases wr2 l' b' hl with ⟨rfl, rfl⟩ | ⟨g1, g⟩
    · refine ⟨by rw [hself]; exact hF, Or.inl hbase, by rw [hext]; exact hex, fun j hj => ?_⟩
      rw [hext] at hj
      rw [hself, hbase, Nat.zero_add]
      exact hx j hj
    · rw [hblk _ g1, J.snoc_base_lt (hJ ▸ g1), J.snoc_ext_lt (hJ ▸ g1)]
      exact h.wr _ _ g
  · intro l1 b1 l2 b2 h1 h2 e'
    rcases wr2 l1 b1 h1 with ⟨rfl, rfl⟩ | ⟨n1, g1⟩ <;> rcases rd2 l2 b2 h2 with ⟨rfl, rfl⟩ | ⟨n2, g2⟩
    · exact ⟨rfl, Nat.le_refl _, Nat.le_refl _⟩
    · rw [hself, hblk _ n2] at e'
      exact absurd e' (fr _ _ g2)
    · rw [hself, hblk _ n1] at e'
      exact absurd e'.symm (fr _ _ (Mem.readable_of_writable g1))
    · rw [hblk _ n1, hblk _ n2] at e'
      rw [J.snoc_base_lt (hJ ▸ n2), J.snoc_base_lt (hJ ▸ n1)]
      exact h.sep _ _ _ _ g1 g2 e'
  · exact h.below
  · exact h.size
  · intro g hg
    obtain ⟨g1, g2, g3⟩ := h.glob g hg
    exact ⟨Nat.lt_of_lt_of_le g1 (J.le_snoc _ _ _ _).n, by rw [J.snoc_blk_lt g1]; exact g2, by rw [J.snoc_base_lt g1]; exact g3⟩
  · intro l1 s1 h1
    obtain ⟨q1, q2, es', q3, q4⟩ := h.mp l1 s1 h1
    refine ⟨by simp only [Mem.new]; omega, by rw [hblk _ q1]; exact q2, es', by rw [hblk _ q1]; exact q3, q4.mono (J.le_snoc _ _ _ _)⟩
  · intro l1 l2 s1 s2 h1 h2 e'
    have q1 := (h.mp l1 s1 h1).1
    have q2 := (h.mp l2 s2 h2).1
    rw [hblk _ q1, hblk _ q2] at e'
    exact h.mi l1 l2 s1 s2 h1 h2 e'
  · intro l1 s1 l2 b2 h1 h2
    obtain ⟨q1, q2, es', q3, q4⟩ := h.mp l1 s1 h1
    rw [hblk _ q1]
    rcases rd2 l2 b2 h2 with ⟨rfl, _⟩ | ⟨g1, g⟩
    · rw [hself]; exact fun e => fm l1 s1 h1 e.symm
    · rw [hblk _ g1]; exact h.ms l1 s1 l2 b2 h1 g
  · intro l2 b2 h2
    rcases rd2 l2 b2 h2 with ⟨rfl, _⟩ | ⟨g1, g⟩
    · rw [hself]; exact fun hk => hF (B.sub _ hk)
    · rw [hblk _ g1]; exact h.nr l2 b2 g
  · intro l2 b2 h2
    rcases wr2 l2 b2 h2 with ⟨rfl, rfl⟩ | ⟨g1, g⟩
    · rw [hself]; exact hse
    · rw [hblk _ g1]; exact h.sh l2 b2 g

/-- more blocks that stay and are not known -/
def Frame.add (B : Frame) (X : Nat → Prop) : Frame := ⟨fun k => B.F k ∨ X k, fun k => B.N k ∨ X k, fun k h => h.imp (B.sub k) id⟩

/-- THE FRAME IS ANOTHER ONE. -/
theorem MRel.reframe (h : MRel P J m B W w) {B' : Frame} {W' : World} (hb : BelowP B'.F W' w) (hs : ∀ k, B'.F k → k < w.heap.size) (hw : ∀ l b, m.writable l = some b → ¬ B'.F (J.blk l)) (hm : ∀ l s, m.maps.get l = some s → ¬ B'.F (J.blk l))
    (hr : ∀ l b, m.readable l = some b → ¬ B'.N (J.blk l)) : MRel P J m B' W' w :=
  { n := h.n, dom := h.dom, esz := h.esz, blk := h.blk, rd := h.rd, wr := fun l b hl => ⟨hw l b hl, (h.wr l b hl).2⟩, sep := h.sep, below := hb, size := hs, glob := h.glob,
    mp := fun l s hl => ⟨(h.mp l s hl).1, hm l s hl, (h.mp l s hl).2.2⟩, mi := h.mi, ms := h.ms, nr := hr, sh := h.sh }

/-- a smaller frame -/
theorem MRel.less (h : MRel P J m B W w) {B' : Frame} {W' : World} (hF : ∀ k, B'.F k → B.F k) (hN : ∀ k, B'.N k → B.N k) (hb : BelowP B'.F W' w) : MRel P J m B' W' w :=
  h.reframe hb (fun k hk => h.size k (hF k hk)) (fun l b hl hk => (h.wr l b hl).1 (hF _ hk)) (fun l s hl hk => (h.mp l s hl).2.1 (hF _ hk)) (fun l b hl hk => h.nr l b hl (hN _ hk))

theorem MRel.self (h : MRel P J m B W w) : MRel P J m B w w := h.less (fun _ h => h) (fun _ h => h) (.refl _ _)

theorem BelowP.less {F F' : Nat → Prop} {w w' : World} (h : BelowP F w w') (hF : ∀ k, F' k → F k) : BelowP F' w w' := ⟨h.os, h.tape, h.output, h.size, fun k hk => h.block k (hF k hk)⟩

/-- a block that is known nowhere -/
theorem MRel.addFrame (h : MRel P J m B W w) {nb : Nat} (hlt : nb < w.heap.size) (fr : ∀ l b, m.readable l = some b → J.blk l ≠ nb) (fm : ∀ l s, m.maps.get l = some s → J.blk l ≠ nb) : MRel P J m (B.add (· = nb)) w w := by
  refine h.reframe (.refl _ _) (fun k hk => ?_) (fun l b hl hk => ?_) (fun l s hl hk => ?_) (fun l b hl hk => ?_)
  · rcases hk with hk | rfl
    · exact h.size k hk
    · exact hlt
  · rcases hk with hk | hk
    · exact (h.wr l b hl).1 hk
    · exact fr _ _ (Mem.readable_of_writable hl) hk
  · rcases hk with hk | hk
    · exact (h.mp l s hl).2.1 hk
    · exact fm _ _ hl hk
  · rcases hk with hk | hk
    · exact h.nr l b hl hk
    · exact fr _ _ hl hk

/-- A BLOCK GROWS: a new number in its family; its cells lie where the old ones lay (there was room), or in a new row. -/
theorem MRel.extend (h : MRel P J m B W w) {l : Nat} {b : Blk} (hw : m.writable l = some b) (of k : Nat) (hk : of + k ≤ b.cells.length) (news : List Value) (nb nba ex : Nat)
    (hgrow : b.cells.length ≤ of + k + news.length) (hnba : nba = 0 ∨ isI64 P b.elem = true) (hnbp : nb = J.blk l → nba = J.base l + of) (hB : ¬ B.F nb) (hnb : nb < w'.heap.size) (hs : w.heap.size ≤ w'.heap.size) (hb : BelowP B.F W w')
    (hex : k + news.length ≤ ex)
    (ho : ∀ x : Addr, x.block < w.heap.size → (x.block = J.blk l → x.off < J.base l + of + k) → w'.cell? x = w.cell? x)
    (hsm : ∀ x : Addr, x.block < w.heap.size → (w.cell? x).isSome = true → (w'.cell? x).isSome = true)
    (hof : ∀ x : Addr, x.block < w.heap.size → w'.frozen? x = w.frozen? x)
    (hh : ∀ k, k < w.heap.size → k ≠ J.blk l → w'.heap[k]? = w.heap[k]?) (hplace : nb = J.blk l ∨ nb = w.heap.size)
    (hother : nb = w.heap.size → ∀ x : Addr, x.block < w.heap.size → w'.cell? x = w.cell? x)
    (hx : ∀ i, i < ex → (w'.cell? ⟨nb, nba + i, none⟩).isSome = true ∧ w'.frozen? ⟨nb, nba + i, none⟩ = false)
    (hn : ∀ i v, (window b.cells of k ++ news)[i]? = some v → ∃ v', w'.cell? ⟨nb, nba + i, none⟩ = some v' ∧ VRel J v v') (hse : ∃ n, w'.shape? nb = some (b.elem, n)) :
    MRel P (J.snoc nb nba ex (J.esz l)) (m.grow b (window b.cells of k ++ news) (of + k == b.cells.length)) B W w' := by
  have hJ := h.n
  obtain ⟨hg, f, hfam, hlive, hkill⟩ := Mem.writable_iff.1 hw
  have hrd := Mem.readable_of_writable hw
  have hl := h.dom _ _ hg
  obtain ⟨w1, w2, w3, w4⟩ := h.wr l b hw
  have hblks : (m.grow b (window b.cells of k ++ news) (of + k == b.cells.length)).blks = m.blks.set m.next ⟨window b.cells of k ++ news, b.elem, b.fam⟩ := rfl
  have hfams : (m.grow b (window b.cells of k ++ news) (of + k == b.cells.length)).fams = m.fams.set b.fam ⟨some m.next, if of + k == b.cells.length then f.kill else m.next⟩ := by simp [Mem.grow, hfam]
  have hnext : (m.grow b (window b.cells of k ++ news) (of + k == b.cells.length)).next = m.next + 1 := rfl
  have hmaps : (m.grow b (window b.cells of k ++ news) (of + k == b.cells.length)).maps = m.maps := rfl
  generalize m.grow b (window b.cells of k ++ news) (of + k == b.cells.length) = m' at hblks hfams hnext hmaps ⊢
  have rd2 : ∀ l' b', m'.readable l' = some b' → (l' = m.next ∧ b' = ⟨window b.cells of k ++ news, b.elem, b.fam⟩) ∨ (l' < m.next ∧ m.readable l' = some b' ∧ (b'.fam = b.fam → of + k = b.cells.length)) := by
    intro l' b' hr
    obtain ⟨g1, f', g2, g3⟩ := Mem.readable_iff.1 hr
    rw [hblks] at g1
    rw [hfams] at g2
    by_cases e' : l' = m.next
    · subst e'
      rw [Tree.get_set_self] at g1
      simp only [Option.some.injEq] at g1
      exact Or.inl ⟨rfl, g1.symm⟩
    · rw [Tree.get_set_ne _ _ e'] at g1
      have hd := h.dom _ _ g1
      refine Or.inr ⟨hd, ?_⟩
      by_cases ef : b'.fam = b.fam
      · rw [ef, Tree.get_set_self] at g2
        simp only [Option.some.injEq] at g2
        subst g2
        by_cases ek : of + k = b.cells.length
        · simp only [ek, beq_self_eq_true, if_true] at g3
          exact ⟨Mem.readable_iff.2 ⟨g1, f, by rw [ef]; exact hfam, g3⟩, fun _ => ek⟩
        · have : (of + k == b.cells.length) = false := by simpa using ek
          simp only [this] at g3
          simp at g3
          omega
      · rw [Tree.get_set_ne _ _ ef] at g2
        exact ⟨Mem.readable_iff.2 ⟨g1, f', g2, g3⟩, fun q => absurd q ef⟩
  have wr2 : ∀ l' b', m'.writable l' = some b' → (l' = m.next ∧ b' = ⟨window b.cells of k ++ news, b.elem, b.fam⟩) ∨ (l' < m.next ∧ m.writable l' = some b' ∧ b'.fam ≠ b.fam) := by
    intro l' b' hr
    obtain ⟨g1, f', g2, g3, g4⟩ := Mem.writable_iff.1 hr
    rcases rd2 l' b' (Mem.readable_of_writable hr) with g | ⟨k1, k2, _⟩
    · exact Or.inl g
    · refine Or.inr ⟨k1, ?_⟩
      obtain ⟨q1, q, q2, q3⟩ := Mem.readable_iff.1 k2
      rw [hfams] at g2
      by_cases ef : b'.fam = b.fam
      · rw [ef, Tree.get_set_self] at g2
        simp only [Option.some.injEq] at g2
        subst g2
        simp only [Option.some.injEq] at g3
        omega
      · rw [Tree.get_set_ne _ _ ef] at g2
        exact ⟨Mem.writable_iff.2 ⟨q1, f', g2, g3, g4⟩, ef⟩
  have hblk : ∀ l', l' < m.next → (J.snoc nb nba ex (J.esz l)).blk l' = J.blk l' := fun l' hl => J.snoc_blk_lt (hJ ▸ hl) _ _ _ _
  have hself : (J.snoc nb nba ex (J.esz l)).blk m.next = nb := by simp [Inj.snoc, hJ]
  have hbase : (J.snoc nb nba ex (J.esz l)).base m.next = nba := by simp [Inj.snoc, hJ]
  have hext : (J.snoc nb nba ex (J.esz l)).ext m.next = ex := by simp [Inj.snoc, hJ]
  have hlenN : (window b.cells of k ++ news).length = k + news.length := by simp [window]; omega
  constructor
  · simp [Inj.snoc, hnext, hJ]
  · intro l' b' hl
    rw [hblks] at hl
    simp only [Tree.get_set] at hl
    rw [hnext]
    split at hl
    · omega
    · have := h.dom _ _ hl; omega
  · intro l' b' hl'
    rw [hblks] at hl'
    simp only [Tree.get_set] at hl'
    split at hl'
    · rename_i e'; subst e'
      simp only [Option.some.injEq] at hl'; subst hl'
      obtain ⟨i, q1, q2⟩ := h.esz _ _ hg
      exact ⟨i, q1, by simp [Inj.snoc, hJ, q2]⟩
    · rw [J.snoc_esz_lt (hJ ▸ h.dom _ _ hl')]; exact h.esz _ _ hl'
  · intro l' b' hl'
    rcases rd2 l' b' hl' with ⟨rfl, _⟩ | ⟨g1, g, _⟩
    · rw [hself]; exact hnb
    · rw [hblk _ g1]; have := h.blk _ _ g; omega
  · intro l' b' hl' j v hv
    rcases rd2 l' b' hl' with ⟨rfl, rfl⟩ | ⟨g1, g, gk⟩
    · obtain ⟨v', k1, k2⟩ := hn j v hv
      exact ⟨v', by rw [hself, hbase]; exact k1, k2.snoc _ _ _ _⟩
    · obtain ⟨v', k1, k2⟩ := h.rd _ _ g j v hv
      refine ⟨v', ?_, k2.snoc _ _ _ _⟩
      rw [hblk _ g1, J.snoc_base_lt (hJ ▸ g1), ho _ (h.blk _ _ g)]
      · exact k1
      · intro eb
        simp only at eb ⊢
        obtain ⟨s1, s2, s3⟩ := h.sep _ _ _ _ hw g eb
        have := gk s1
        have hj : j < b'.cells.length := (List.getElem?_eq_some_iff.1 hv).1
        omega
  · intro l' b' hl'
    rcases wr2 l' b' hl' with ⟨rfl, rfl⟩ | ⟨g1, g, gf⟩
    · refine ⟨by rw [hself]; exact hB, by rw [hbase]; exact hnba, by rw [hext]; simp only [hlenN]; exact hex, fun j hj => ?_⟩
      rw [hext] at hj
      rw [hself, hbase]
      exact hx j hj
    · obtain ⟨v1, v2, v3, v4⟩ := h.wr _ _ g
      rw [hblk _ g1, J.snoc_base_lt (hJ ▸ g1), J.snoc_ext_lt (hJ ▸ g1)]
      refine ⟨v1, v2, v3, fun j hj => ?_⟩
      have hlt := h.blk _ _ (Mem.readable_of_writable g)
      rw [hof ⟨J.blk l', J.base l' + j, none⟩ hlt]
      exact ⟨hsm _ hlt (v4 j hj).1, (v4 j hj).2⟩
  · intro l1 b1 l2 b2 h1 h2 e'
    rcases wr2 l1 b1 h1 with ⟨rfl, rfl⟩ | ⟨n1, g1, gf1⟩ <;> rcases rd2 l2 b2 h2 with ⟨rfl, rfl⟩ | ⟨n2, g2, gk2⟩
    · exact ⟨rfl, Nat.le_refl _, Nat.le_refl _⟩
    · rw [hself, hblk _ n2] at e'
      rcases hplace with p | p
      · obtain ⟨s1, s2, s3⟩ := h.sep _ _ _ _ hw g2 (e'.trans p)
        exact ⟨s1, by omega, by simp only [hlenN]; rw [J.snoc_base_lt (hJ ▸ n2), hbase, hnbp p]; omega⟩
      · have := h.blk _ _ g2; omega
    · rw [hself, hblk _ n1] at e'
      rcases hplace with p | p
      · have := h.sep _ _ _ _ g1 hrd (p.symm.trans e')
        exact absurd this.1.symm gf1
      · have := h.blk _ _ (Mem.readable_of_writable g1); omega
    · rw [hblk _ n1, hblk _ n2] at e'
      rw [J.snoc_base_lt (hJ ▸ n2), J.snoc_base_lt (hJ ▸ n1)]
      exact h.sep _ _ _ _ g1 g2 e'
  · exact hb
  · exact fun k hk => by have := h.size k hk; omega
  · intro g hg
    obtain ⟨g1, g2, g3⟩ := h.glob g hg
    exact ⟨Nat.lt_of_lt_of_le g1 (J.le_snoc _ _ _ _).n, by rw [J.snoc_blk_lt g1]; exact g2, by rw [J.snoc_base_lt g1]; exact g3⟩
  · intro l1 s1 h1
    rw [hmaps] at h1
    obtain ⟨q1, q2, es', q3, q4⟩ := h.mp l1 s1 h1
    have hlt : J.blk l1 < w.heap.size := (Array.getElem?_eq_some_iff.1 q3).1
    refine ⟨by omega, by rw [hblk _ q1]; exact q2, es', by rw [hblk _ q1, hh _ hlt (fun e => h.ms l1 s1 l b h1 hrd e.symm)]; exact q3, q4.mono (J.le_snoc _ _ _ _)⟩
  · intro l1 l2 s1 s2 h1 h2 e'
    rw [hmaps] at h1 h2
    have q1 := (h.mp l1 s1 h1).1
    have q2 := (h.mp l2 s2 h2).1
    rw [hblk _ q1, hblk _ q2] at e'
    exact h.mi l1 l2 s1 s2 h1 h2 e'
  · intro l1 s1 l2 b2 h1 h2
    rw [hmaps] at h1
    obtain ⟨q1, q2, es', q3, q4⟩ := h.mp l1 s1 h1
    have hlt : J.blk l1 < w.heap.size := (Array.getElem?_eq_some_iff.1 q3).1
    rw [hblk _ q1]
    rcases rd2 l2 b2 h2 with ⟨rfl, _⟩ | ⟨g1, g, _⟩
    · rw [hself]
      rcases hplace with p | p
      · rw [p]; exact h.ms l1 s1 l b h1 hrd
      · omega
    · rw [hblk _ g1]; exact h.ms l1 s1 l2 b2 h1 g
  · intro l2 b2 h2
    rcases rd2 l2 b2 h2 with ⟨rfl, _⟩ | ⟨g1, g, _⟩
    · rw [hself]; exact fun hk => hB (B.sub _ hk)
    · rw [hblk _ g1]; exact h.nr l2 b2 g
  · intro l2 b2 h2
    rcases wr2 l2 b2 h2 with ⟨rfl, rfl⟩ | ⟨g1, g, gf⟩
    · rw [hself]; exact hse
    · rw [hblk _ g1, shape_of_block (w := w) (hh _ (h.blk _ _ (Mem.readable_of_writable g)) (fun e => gf (h.sep _ _ _ _ hw (Mem.readable_of_writable g) e).1))]; exact h.sh l2 b2 g

/-- A MAP's BLOCK TURNS. -/
theorem MRel.setMap (h : MRel P J m B W w) {l : Nat} {s0 s : SMap} (hl : m.maps.get l = some s0) {es' : Array MapEntry} (hes : EsRel J s.entries es'.toList) :
    MRel P J (m.setMap l s) B W { w with heap := w.heap.setIfInBounds (J.blk l) (.map es' s.clock) } := by
  obtain ⟨q1, q2, es0, q3, q4⟩ := h.mp l s0 hl
  have hlt : J.blk l < w.heap.size := (Array.getElem?_eq_some_iff.1 q3).1
  have hh : ∀ k, k ≠ J.blk l → (w.heap.setIfInBounds (J.blk l) (.map es' s.clock))[k]? = w.heap[k]? := fun k hk => Array.getElem?_setIfInBounds_ne (fun e => hk e.symm)
  have hc : ∀ x : Addr, x.block ≠ J.blk l → ({ w with heap := w.heap.setIfInBounds (J.blk l) (.map es' s.clock) } : World).cell? x = w.cell? x := fun x hx => World.cell?_of_block (hh _ hx)
  have hf : ∀ x : Addr, x.block ≠ J.blk l → ({ w with heap := w.heap.setIfInBounds (J.blk l) (.map es' s.clock) } : World).frozen? x = w.frozen? x := fun x hx => World.frozen?_of_block (hh _ hx)
  have hrd : ∀ l' b', (m.setMap l s).readable l' = some b' → m.readable l' = some b' := fun l' b' h => h
  have hwr : ∀ l' b', (m.setMap l s).writable l' = some b' → m.writable l' = some b' := fun l' b' h => h
  constructor
  · exact h.n
  · exact h.dom
  · exact h.esz
  · intro l' b' hl'; simp only [Array.size_setIfInBounds]; exact h.blk l' b' hl'
  · intro l' b' hl' i v hv
    rw [hc _ (h.ms l s0 l' b' hl hl')]
    exact h.rd l' b' hl' i v hv
  · intro l' b' hl'
    obtain ⟨v1, v2, v3, v4⟩ := h.wr l' b' hl'
    have hne := h.ms l s0 l' b' hl (Mem.readable_of_writable hl')
    exact ⟨v1, v2, v3, fun i hi => by rw [hc ⟨J.blk l', J.base l' + i, none⟩ hne, hf ⟨J.blk l', J.base l' + i, none⟩ hne]; exact v4 i hi⟩
  · exact h.sep
  · exact ⟨h.below.os, h.below.tape, h.below.output, by simp only [Array.size_setIfInBounds]; exact h.below.size, fun k hk => by rw [hh k (fun e => q2 (e ▸ hk))]; exact h.below.block k hk⟩
  · simp only [Array.size_setIfInBounds]; exact h.size
  · exact h.glob
  · intro l1 s1 h1
    simp only [Mem.setMap, Tree.get_set] at h1
    split at h1
    · rename_i e
      subst e
      simp only [Option.some.injEq] at h1
      subst h1
      exact ⟨q1, q2, es', by simp [hlt], hes⟩
    · rename_i e
      obtain ⟨r1, r2, es1, r3, r4⟩ := h.mp l1 s1 h1
      exact ⟨r1, r2, es1, by rw [hh _ (fun eb => e (h.mi l1 l s1 s0 h1 hl eb))]; exact r3, r4⟩
  · intro l1 l2 s1 s2 h1 h2 e
    have k1 : ∃ x, m.maps.get l1 = some x := by
      simp only [Mem.setMap, Tree.get_set] at h1
      split at h1
      · rename_i e1; subst e1; exact ⟨_, hl⟩
      · exact ⟨_, h1⟩
    have k2 : ∃ x, m.maps.get l2 = some x := by
      simp only [Mem.setMap, Tree.get_set] at h2
      split at h2
      · rename_i e1; subst e1; exact ⟨_, hl⟩
      · exact ⟨_, h2⟩
    exact h.mi l1 l2 _ _ k1.choose_spec k2.choose_spec e
  · intro l1 s1 l2 b2 h1 h2
    have k1 : ∃ x, m.maps.get l1 = some x := by
      simp only [Mem.setMap, Tree.get_set] at h1
      split at h1
      · rename_i e1; subst e1; exact ⟨_, hl⟩
      · exact ⟨_, h1⟩
    exact h.ms l1 _ l2 b2 k1.choose_spec h2
  · exact h.nr
  · intro l2 b2 h2
    have hne := h.ms l s0 l2 b2 hl (Mem.readable_of_writable h2)
    rw [shape_of_block (w := w) (hh _ hne)]; exact h.sh l2 b2 h2

/-- A NEW MAP. -/
theorem MRel.newMap (h : MRel P J m B W w) : MRel P (J.snoc w.heap.size 0 0 0) m.newMap B W (w.alloc (.map #[] 0)) := by
  have hJ := h.n
  have hh : ∀ k, k < w.heap.size → (w.alloc (.map #[] 0)).heap[k]? = w.heap[k]? := fun k hk => Below.heap_alloc _ _ _ hk
  have hsz : (w.alloc (.map #[] 0)).heap.size = w.heap.size + 1 := by show (w.heap.push _).size = _; simp
  have hself : (J.snoc w.heap.size 0 0 0).blk m.next = w.heap.size := by simp [Inj.snoc, hJ]
  have hblk : ∀ l', l' < m.next → (J.snoc w.heap.size 0 0 0).blk l' = J.blk l' := fun l' hl => J.snoc_blk_lt (hJ ▸ hl) _ _ _ _
  have hrl : ∀ l' b', m.readable l' = some b' → l' < m.next := fun l' b' hr => h.dom l' b' (Mem.readable_iff.1 hr).1
  constructor
  · simp [Inj.snoc, Mem.newMap, hJ]
  · intro l' b' hl
    have := h.dom l' b' hl
    simp only [Mem.newMap]; omega
  · intro l' b' hl
    rw [J.snoc_esz_lt (hJ ▸ h.dom _ _ hl)]; exact h.esz _ _ hl
  · intro l' b' hl
    rw [hsz, hblk _ (hrl l' b' hl)]
    have := h.blk l' b' hl; omega
  · intro l' b' hl i v hv
    obtain ⟨v', k1, k2⟩ := h.rd l' b' hl i v hv
    refine ⟨v', ?_, k2.snoc _ _ _ _⟩
    rw [hblk _ (hrl l' b' hl), J.snoc_base_lt (hJ ▸ hrl l' b' hl), World.cell?_of_block (w := w) (hh _ (h.blk l' b' hl))]
    exact k1
  · intro l' b' hl
    have hr := Mem.readable_of_writable hl
    have hr' : m.readable l' = some b' := hr
    obtain ⟨v1, v2, v3, v4⟩ := h.wr l' b' hl
    rw [hblk _ (hrl l' b' hr'), J.snoc_base_lt (hJ ▸ hrl l' b' hr'), J.snoc_ext_lt (hJ ▸ hrl l' b' hr')]
    exact ⟨v1, v2, v3, fun i hi => by rw [World.cell?_of_block (w := w) (hh _ (h.blk l' b' hr')), World.frozen?_of_block (w := w) (hh _ (h.blk l' b' hr'))]; exact v4 i hi⟩
  · intro l1 b1 l2 b2 h1 h2 e
    have k1 := hrl l1 b1 (Mem.readable_of_writable h1)
    have k2 := hrl l2 b2 h2
    rw [hblk _ k1, hblk _ k2] at e
    rw [J.snoc_base_lt (hJ ▸ k2), J.snoc_base_lt (hJ ▸ k1)]
    exact h.sep l1 b1 l2 b2 h1 h2 e
  · exact h.below.alloc h.size _
  · exact fun k hk => by rw [hsz]; have := h.size k hk; omega
  · intro g hg
    obtain ⟨g1, g2, g3⟩ := h.glob g hg
    exact ⟨Nat.lt_of_lt_of_le g1 (J.le_snoc _ _ _ _).n, by rw [J.snoc_blk_lt g1]; exact g2, by rw [J.snoc_base_lt g1]; exact g3⟩
  · intro l1 s1 h1
    simp only [Mem.newMap, Tree.get_set] at h1
    split at h1
    · rename_i e
      subst e
      simp only [Option.some.injEq] at h1
      subst h1
      refine ⟨by simp [Mem.newMap], by rw [hself]; exact fun hk => Nat.lt_irrefl _ (h.size _ hk), #[], by rw [hself]; exact heap_alloc_new w _, rfl, fun i e e' h => by simp at h⟩
    · obtain ⟨q1, q2, es', q3, q4⟩ := h.mp l1 s1 h1
      have hlt : J.blk l1 < w.heap.size := (Array.getElem?_eq_some_iff.1 q3).1
      exact ⟨by simp only [Mem.newMap]; omega, by rw [hblk _ q1]; exact q2, es', by rw [hblk _ q1, hh _ hlt]; exact q3, q4.mono (J.le_snoc _ _ _ _)⟩
  · intro l1 l2 s1 s2 h1 h2 e
    simp only [Mem.newMap, Tree.get_set] at h1 h2
    split at h1 <;> split at h2
    · rename_i e1 e2; rw [e1, e2]
    · rename_i e1 e2
      obtain ⟨q1, _, es', q3, _⟩ := h.mp l2 s2 h2
      have hlt : J.blk l2 < w.heap.size := (Array.getElem?_eq_some_iff.1 q3).1
      rw [e1, hself, hblk _ q1] at e; omega
    · rename_i e1 e2
      obtain ⟨q1, _, es', q3, _⟩ := h.mp l1 s1 h1
      have hlt : J.blk l1 < w.heap.size := (Array.getElem?_eq_some_iff.1 q3).1
      rw [e2, hself, hblk _ q1] at e; omega
    · rw [hblk _ (h.mp l1 s1 h1).1, hblk _ (h.mp l2 s2 h2).1] at e
      exact h.mi l1 l2 s1 s2 h1 h2 e
  · intro l1 s1 l2 b2 h1 h2
    have k2 : m.readable l2 = some b2 := h2
    have hl2 := h.blk l2 b2 k2
    rw [hblk _ (hrl l2 b2 k2)]
    simp only [Mem.newMap, Tree.get_set] at h1
    split at h1
    · rename_i e; subst e; rw [hself]; omega
    · rw [hblk _ (h.mp l1 s1 h1).1]
      exact h.ms l1 s1 l2 b2 h1 k2
  · intro l2 b2 h2
    have k2 : m.readable l2 = some b2 := h2
    rw [hblk _ (hrl l2 b2 k2)]
    exact h.nr l2 b2 k2
  · intro l2 b2 h2
    have hr : m.readable l2 = some b2 := Mem.readable_of_writable h2
    rw [hblk _ (hrl l2 b2 hr), shape_of_block (w := w) (hh _ (h.blk l2 b2 hr))]
    exact h.sh l2 b2 h2

/-- A CALL HAS LAID NEW BLOCKS AND NOTHING ELSE. -/
theorem MRel.grown (h : MRel P J m B W w) (hb : Below w.heap.size w w') : MRel P J m B W w' := by
  have hh : ∀ k, k < w.heap.size → w'.heap[k]? = w.heap[k]? := fun k hk => hb.block k hk
  constructor
  · exact h.n
  · exact h.dom
  · exact h.esz
  · intro l b hl; exact Nat.lt_of_lt_of_le (h.blk l b hl) hb.size
  · intro l b hl i v hv
    rw [World.cell?_of_block (w := w) (hh _ (h.blk l b hl))]
    exact h.rd l b hl i v hv
  · intro l b hl
    obtain ⟨v1, v2, v3, v4⟩ := h.wr l b hl
    have hlt := h.blk l b (Mem.readable_of_writable hl)
    exact ⟨v1, v2, v3, fun i hi => by rw [World.cell?_of_block (w := w) (hh _ hlt), World.frozen?_of_block (w := w) (hh _ hlt)]; exact v4 i hi⟩
  · exact h.sep
  · exact h.below.trans (.of hb h.size)
  · exact fun k hk => Nat.lt_of_lt_of_le (h.size k hk) hb.size
  · exact h.glob
  · intro l s hl
    obtain ⟨q1, q2, es', q3, q4⟩ := h.mp l s hl
    exact ⟨q1, q2, es', by rw [hh _ (Array.getElem?_eq_some_iff.1 q3).1]; exact q3, q4⟩
  · exact h.mi
  · exact h.ms
  · exact h.nr
  · intro l b hl
    rw [shape_of_block (w := w) (hh _ (h.blk l b (Mem.readable_of_writable hl)))]
    exact h.sh l b hl

/-- BYTES ARE FROZEN: their family can't be written any more. -/
theorem MRel.frz (h : MRel P J m B W w) {l : Nat} {b : Blk} (hw : m.writable l = some b) (off n : Nat) : MRel P J (m.frz b) B W (w.freeze ⟨J.blk l, off, none⟩ n) := by
  obtain ⟨hg, f, hfam, hlive, hkill⟩ := Mem.writable_iff.1 hw
  obtain ⟨w1, w2, w3, w4⟩ := h.wr l b hw
  have hfams : (m.frz b).fams = m.fams.set b.fam ⟨none, f.kill⟩ := by simp [Mem.frz, hfam]
  have hblks : (m.frz b).blks = m.blks := rfl
  have hmaps : (m.frz b).maps = m.maps := rfl
  have hnext : (m.frz b).next = m.next := rfl
  generalize m.frz b = m' at hfams hblks hmaps hnext ⊢
  have rd' : ∀ l' b', m'.readable l' = some b' → m.readable l' = some b' := by
    intro l' b' hr
    obtain ⟨g1, f', g2, g3⟩ := Mem.readable_iff.1 hr
    rw [hblks] at g1
    rw [hfams] at g2
    refine Mem.readable_iff.2 ⟨g1, ?_⟩
    by_cases e : b'.fam = b.fam
    · rw [e, Tree.get_set_self] at g2
      simp only [Option.some.injEq] at g2
      subst g2
      exact ⟨f, by rw [e]; exact hfam, g3⟩
    · rw [Tree.get_set_ne _ _ e] at g2
      exact ⟨f', g2, g3⟩
  have wr' : ∀ l' b', m'.writable l' = some b' → m.writable l' = some b' ∧ b'.fam ≠ b.fam := by
    intro l' b' hr
    obtain ⟨g1, f', g2, g3, g4⟩ := Mem.writable_iff.1 hr
    rw [hblks] at g1
    rw [hfams] at g2
    by_cases e : b'.fam = b.fam
    · rw [e, Tree.get_set_self] at g2
      simp only [Option.some.injEq] at g2
      subst g2
      cases g3
    · rw [Tree.get_set_ne _ _ e] at g2
      exact ⟨Mem.writable_iff.2 ⟨g1, f', g2, g3, g4⟩, e⟩
  obtain ⟨F, hF1, hF2, hget⟩ : ∃ F : Obj → Obj, (∀ c e fr, ∃ fr', F (.cells c e fr) = .cells c e fr') ∧ (∀ o, (∀ c e fr, o ≠ .cells c e fr) → F o = o) ∧
      ∀ k, (w.freeze ⟨J.blk l, off, none⟩ n).heap[k]? = if J.blk l = k then (w.heap[k]?).map F else w.heap[k]? := by
    by_cases hn : n = 0
    · refine ⟨id, fun c e fr => ⟨fr, rfl⟩, fun o _ => rfl, fun k => ?_⟩
      simp [World.freeze, hn]
    · obtain ⟨F, hF⟩ : ∃ F : Obj → Obj, (fun o : Obj => match o with | Obj.cells c elem (lo, hi) => Obj.cells c elem (if lo == hi then (off, off + n) else (min lo off, max hi (off + n))) | o => o) = F := ⟨_, rfl⟩
      have e : w.freeze ⟨J.blk l, off, none⟩ n = { w with heap := w.heap.modify (J.blk l) F } := by
        rw [← hF]; unfold World.freeze; rw [if_neg hn]; rfl
      refine ⟨F, ?_, ?_, fun k => ?_⟩
      · intro c e' fr; rw [← hF]; exact ⟨_, rfl⟩
      · intro o ho
        rw [← hF]
        cases o <;> first | rfl | exact absurd rfl (ho _ _ _)
      · rw [e]; exact Array.getElem?_modify ..
  have hh : ∀ k : Nat, k ≠ J.blk l → (w.freeze ⟨J.blk l, off, none⟩ n).heap[k]? = w.heap[k]? := fun k hk => by rw [hget, if_neg (fun e => hk e.symm)]
  have hsz : (w.freeze ⟨J.blk l, off, none⟩ n).heap.size = w.heap.size := by unfold World.freeze; split <;> simp
  have hcase : ∀ k : Nat, (w.freeze ⟨J.blk l, off, none⟩ n).heap[k]? = w.heap[k]? ∨ ∃ c e fr fr', w.heap[k]? = some (Obj.cells c e fr) ∧ (w.freeze ⟨J.blk l, off, none⟩ n).heap[k]? = some (Obj.cells c e fr') := by
    intro k
    rw [hget]
    by_cases e : J.blk l = k
    · rw [if_pos e]
      cases ho : w.heap[k]? with
      | none => exact Or.inl rfl
      | some o =>
        by_cases hc : ∃ c e fr, o = Obj.cells c e fr
        · obtain ⟨c, e, fr, rfl⟩ := hc
          obtain ⟨fr', h'⟩ := hF1 c e fr
          exact Or.inr ⟨c, e, fr, fr', rfl, by simp [h']⟩
        · exact Or.inl (by simp [hF2 o (fun c e fr h => hc ⟨c, e, fr, h⟩)])
    · rw [if_neg e]; exact Or.inl rfl
  have hs : ∀ k, (w.freeze ⟨J.blk l, off, none⟩ n).shape? k = w.shape? k := by
    intro k
    unfold World.shape?
    rcases hcase k with e | ⟨c, e, fr, fr', h1, h2⟩
    · rw [e]
    · rw [h1, h2]
  have hc : ∀ x : Addr, (w.freeze ⟨J.blk l, off, none⟩ n).cell? x = w.cell? x := by
    intro x
    unfold World.cell?
    rcases hcase x.block with e | ⟨c, e, fr, fr', h1, h2⟩
    · rw [e]
    · rw [h1, h2]
  have hne : ∀ l' b', m.writable l' = some b' → b'.fam ≠ b.fam → J.blk l' ≠ J.blk l := fun l' b' g gf e => gf (h.sep _ _ _ _ hw (Mem.readable_of_writable g) e).1
  constructor
  · rw [hnext]; exact h.n
  · intro l' b' hl; rw [hblks] at hl; rw [hnext]; exact h.dom l' b' hl
  · intro l' b' hl; rw [hblks] at hl; exact h.esz l' b' hl
  · intro l' b' hl; rw [hsz]; exact h.blk l' b' (rd' l' b' hl)
  · intro l' b' hl i v hv; rw [hc]; exact h.rd l' b' (rd' l' b' hl) i v hv
  · intro l' b' hl
    obtain ⟨g, gf⟩ := wr' l' b' hl
    obtain ⟨v1, v2, v3, v4⟩ := h.wr l' b' g
    exact ⟨v1, v2, v3, fun i hi => ⟨by rw [hc]; exact (v4 i hi).1, by rw [World.frozen?_of_block (w := w) (hh _ (hne l' b' g gf))]; exact (v4 i hi).2⟩⟩
  · intro l1 b1 l2 b2 h1 h2 e
    exact h.sep l1 b1 l2 b2 (wr' l1 b1 h1).1 (rd' l2 b2 h2) e
  · refine h.below.trans ⟨?_, ?_, ?_, by rw [hsz]; exact Nat.le_refl _, fun k hk => hh k (fun e => w1 (e ▸ hk))⟩
    all_goals unfold World.freeze; split <;> rfl
  · rw [hsz]; exact h.size
  · exact h.glob
  · intro l1 s1 h1
    rw [hmaps] at h1
    obtain ⟨q1, q2, es', q3, q4⟩ := h.mp l1 s1 h1
    exact ⟨by rw [hnext]; exact q1, q2, es', by rw [hh _ (fun e => h.ms l1 s1 l b h1 (Mem.readable_of_writable hw) e.symm)]; exact q3, q4⟩
  · intro l1 l2 s1 s2 h1 h2 e
    rw [hmaps] at h1 h2
    exact h.mi l1 l2 s1 s2 h1 h2 e
  · intro l1 s1 l2 b2 h1 h2
    rw [hmaps] at h1
    exact h.ms l1 s1 l2 b2 h1 (rd' l2 b2 h2)
  · intro l2 b2 h2; exact h.nr l2 b2 (rd' l2 b2 h2)
  · intro l2 b2 h2; rw [hs]; exact h.sh l2 b2 (wr' l2 b2 h2).1
end Go.Sh

/- One operation: what the abstract run yields, the model's yields too. -/
namespace Go.Sh
open Go.RowKit
set_option linter.unusedVariables false
set_option linter.unusedSimpArgs false

variable {P : Program} {J : Inj} {m m' : Mem} {B : Frame} {W w w' : World}

theorem list_of_forall {α : Type} {Q : Nat → α → Prop} : ∀ k, (∀ i, i < k → ∃ v, Q i v) → ∃ l : List α, l.length = k ∧ ∀ (i : Nat) v, l[i]? = some v → Q i v
  | 0, _ => ⟨[], rfl, fun i v h => by simp at h⟩
  | k + 1, h => by
    obtain ⟨l, hl, hq⟩ := list_of_forall k (fun i hi => h i (by omega))
    obtain ⟨v, hv⟩ := h k (by omega)
    refine ⟨l ++ [v], by simp [hl], fun i x hx => ?_⟩
    by_cases hi : i < l.length
    · rw [List.getElem?_append_left hi] at hx; exact hq i x hx
    · rw [List.getElem?_append_right (by omega)] at hx
      have : i - l.length = 0 := by
        have := (List.getElem?_eq_some_iff.1 hx).1; simp at this; omega
      rw [this] at hx
      simp at hx
      subst hx
      have : i = k := by omega
      subst this
      exact hv

theorem VRel.one {v v' : Value} (r : VRel J v v') : one v = true → v'.oneCell' = true := by
  cases r <;> simp [Sh.one, Value.oneCell']
  rename_i hv
  cases v <;> simp [Sh.one, Value.oneCell']

theorem LRel.nil : LRel J [] [] := ⟨rfl, fun i x y h => by simp at h⟩

theorem LRel.cons {x y : Value} {xs ys : List Value} (h : VRel J x y) (t : LRel J xs ys) : LRel J (x :: xs) (y :: ys) := by
  refine ⟨by simp [t.1], fun i a b ha hb => ?_⟩
  cases i with
  | zero => simp at ha hb; subst ha; subst hb; exact h
  | succ i => simp at ha hb; exact t.2 i a b ha hb

theorem LRel.append {xs ys xs' ys' : List Value} (h : LRel J xs xs') (g : LRel J ys ys') : LRel J (xs ++ ys) (xs' ++ ys') := by
  refine ⟨by simp [h.1, g.1], fun i a b ha hb => ?_⟩
  by_cases hi : i < xs.length
  · rw [List.getElem?_append_left hi] at ha
    rw [List.getElem?_append_left (by rw [← h.1]; exact hi)] at hb
    exact h.2 i a b ha hb
  · rw [List.getElem?_append_right (by omega)] at ha
    rw [List.getElem?_append_right (by rw [← h.1]; omega), ← h.1] at hb
    exact g.2 _ a b ha hb

theorem LRel.of_closed {xs : List Value} (h : closedL xs = true) : LRel J xs xs := by
  rw [closedL_iff] at h
  refine ⟨rfl, fun i a b ha hb => ?_⟩
  rw [ha] at hb
  simp only [Option.some.injEq] at hb
  subst hb
  exact .clo _ (h _ (List.mem_of_getElem? ha))

theorem LRel.get {xs ys : List Value} (h : LRel J xs ys) {i : Nat} {x : Value} (hx : xs[i]? = some x) : ∃ y, ys[i]? = some y ∧ VRel J x y := by
  have hi := (List.getElem?_eq_some_iff.1 hx).1
  have hi' : i < ys.length := h.1 ▸ hi
  exact ⟨ys[i], by simp [hi'], h.2 i x _ hx (by simp [hi'])⟩

theorem LRel.get' {xs ys : List Value} (h : LRel J xs ys) {i : Nat} {y : Value} (hy : ys[i]? = some y) : ∃ x, xs[i]? = some x ∧ VRel J x y := by
  have hi := (List.getElem?_eq_some_iff.1 hy).1
  have hi' : i < xs.length := h.1 ▸ hi
  exact ⟨xs[i], by simp [hi'], h.2 i _ y (by simp [hi']) hy⟩

/-- the cells of related values -/
theorem VRel.cells {v v' : Value} (r : VRel J v v') : LRel J v.cells.toList v'.cells.toList := by
  have single : ∀ a b : Value, VRel J a b → LRel J [a] [b] := fun a b h => .cons h .nil
  cases r with
  | clo _ hv =>
    cases v <;> simp only [Value.cells] <;> first
      | exact single _ _ (.clo _ hv)
      | (simp only [closedV] at hv; rename_i cs; obtain ⟨l⟩ := cs; exact LRel.of_closed (by simpa [closedA] using hv))
  | ptr l o hl => exact single _ _ (.ptr l o hl)
  | slice l o n a' c' h1 h2 h3 h4 h5 => exact single _ _ (.slice l o n a' c' h1 h2 h3 h4 h5)
  | wslice l o n a' c' h1 h2 h3 h4 => exact single _ _ (.wslice l o n a' c' h1 h2 h3 h4)
  | agg xs ys hs h => exact ⟨by simpa [Value.cells] using hs, fun i x y hx hy => h i x y (by simpa [Value.cells] using hx) (by simpa [Value.cells] using hy)⟩
  | tuple xs ys hs h => exact single _ _ (.tuple xs ys hs h)
  | func f a b a' b' h1 h2 h3 h4 => exact single _ _ (.func f a b a' b' h1 h2 h3 h4)
  | iface t v v' h => exact single _ _ (.iface t v v' h)
  | map l h => exact single _ _ (.map l h)

theorem VRel.agg_of {xs ys : List Value} (h : LRel J xs ys) : VRel J (.agg xs.toArray) (.agg ys.toArray) :=
  .agg _ _ (by simp [h.1]) fun i x y hx hy => h.2 i x y (by simpa using hx) (by simpa using hy)

/-- a pointer's relation, opened -/
theorem VRel.ptr_inv {a : Addr} {v' : Value} (r : VRel J (.pointer (some a)) v') :
    a.spot = none ∧ a.block < J.n ∧ v' = .pointer (some ⟨J.blk a.block, J.base a.block + a.off, none⟩) := by
  cases r with
  | clo _ h => simp [closedV] at h
  | ptr l o hl => exact ⟨rfl, hl, rfl⟩

/-- a slice that may be appended to -/
theorem VRel.slice_inv {a : Addr} {n : Nat} {v' : Value} (r : VRel J (.slice (some a) n n) v') :
    a.spot = none ∧ a.block < J.n ∧ ∃ a' c', v' = .slice (some a') n c' ∧ n ≤ c' ∧ c' ≤ 9223372036854775807 ∧ a.off + c' * J.esz a.block = J.ext a.block ∧
      (c' = 0 ∨ a' = ⟨J.blk a.block, J.base a.block + a.off, none⟩) := by
  generalize hc : n = c at r
  cases r with
  | clo _ h => simp [closedV] at h
  | slice l o n a' c' h1 h2 h3 h4 h5 => exact ⟨rfl, h1, a', c', rfl, h2, h3, h4, h5⟩

/-- any slice -/
theorem VRel.wslice_inv {a : Addr} {n c : Nat} {v' : Value} (r : VRel J (.slice (some a) n c) v') :
    a.spot = none ∧ a.block < J.n ∧ ∃ a' c', v' = .slice (some a') n c' ∧ n ≤ c' ∧ c' ≤ 9223372036854775807 ∧ (n = 0 ∨ a' = ⟨J.blk a.block, J.base a.block + a.off, none⟩) := by
  cases r with
  | clo _ h => simp [closedV] at h
  | slice l o n a' c' h1 h2 h3 h4 h5 => exact ⟨rfl, h1, a', c', rfl, h2, h3, h5.imp (fun h => by omega) id⟩
  | wslice l o n a' c' h1 h2 h3 h4 => exact ⟨rfl, h1, a', c', rfl, h2, h3, h4⟩

theorem add_none (a : Addr) (h : a.spot = none) (n : Nat) : a.add n = ⟨a.block, a.off + n, none⟩ := by
  obtain ⟨b, o, s⟩ := a
  simp only at h
  subst h
  exact Addr.add_lit b o n

theorem loadRow_inv {a : Addr} {k : Nat} {cs : List Value} (h : loadRow m a k = some cs) :
    a.spot = none ∧ ∃ b, m.readable a.block = some b ∧ a.off + k ≤ b.cells.length ∧ cs = window b.cells a.off k := by
  unfold loadRow at h
  split at h
  · cases h
  · split at h
    · cases h
    · split at h
      · simp only [Option.some.injEq] at h
        exact ⟨by assumption, _, by assumption, by assumption, h.symm⟩
      · cases h

theorem window_get {cs : List Value} {off k i : Nat} {x : Value} (h : (window cs off k)[i]? = some x) : i < k ∧ cs[off + i]? = some x := by
  unfold window at h
  rw [List.getElem?_take] at h
  split at h
  · rw [List.getElem?_drop] at h; exact ⟨by assumption, h⟩
  · cases h

theorem window_length {cs : List Value} {off k : Nat} (h : off + k ≤ cs.length) : (window cs off k).length = k := by
  unfold window; simp; omega

/-- READING A ROW. -/
theorem MRel.loadRow (h : MRel P J m B W w) {a : Addr} {k : Nat} {cs : List Value} (hl : loadRow m a k = some cs) :
    cs.length = k ∧ ∃ cs', LRel J cs cs' ∧ ∀ (j : Nat) v, cs'[j]? = some v → w.cell? ⟨J.blk a.block, J.base a.block + a.off + j, none⟩ = some v := by
  obtain ⟨hs, b, hb, hk, rfl⟩ := loadRow_inv hl
  have hlen := window_length hk
  refine ⟨hlen, ?_⟩
  obtain ⟨cs', hl', hq⟩ := list_of_forall (Q := fun i v' => ∃ v, (window b.cells a.off k)[i]? = some v ∧ VRel J v v' ∧ w.cell? ⟨J.blk a.block, J.base a.block + a.off + i, none⟩ = some v') k (fun i hi => by
    have hi' : i < (window b.cells a.off k).length := by omega
    obtain ⟨_, hx⟩ := window_get (List.getElem?_eq_getElem hi')
    obtain ⟨v', h1, h2⟩ := h.rd _ _ hb _ _ hx
    exact ⟨v', _, List.getElem?_eq_getElem hi', h2, by rw [Nat.add_assoc]; exact h1⟩)
  refine ⟨cs', ⟨by omega, fun i x y hx hy => ?_⟩, fun j v hv => ?_⟩
  · obtain ⟨v, g1, g2, _⟩ := hq i y hy
    rw [hx] at g1
    simp only [Option.some.injEq] at g1
    exact g1 ▸ g2
  · obtain ⟨_, _, _, g⟩ := hq j v hv
    exact g

theorem run_loadCells_rel {a : Addr} (hs : a.spot = none) {cs : List Value} (h : ∀ (j : Nat) v, cs[j]? = some v → w.cell? ⟨a.block, a.off + j, none⟩ = some v) :
    (loadCells a cs.length).run P w = .ok cs.toArray w :=
  run_loadCells_list w a cs fun j v hv => by rw [add_none a hs]; exact h j v hv

theorem storeRow_inv {a : Addr} {vs : List Value} (h : storeRow m a vs = some m') :
    a.spot = none ∧ ∃ b, m.writable a.block = some b ∧ a.off + vs.length ≤ b.cells.length ∧ vs.all one = true ∧ m' = m.put a.block b (over b.cells a.off vs) := by
  unfold storeRow at h
  split at h
  · cases h
  · split at h
    · cases h
    · split at h
      · rename_i hc
        simp only [Option.some.injEq] at h
        simp only [Bool.and_eq_true, decide_eq_true_eq] at hc
        exact ⟨by assumption, _, by assumption, hc.1, hc.2, h.symm⟩
      · cases h

theorem over_length {cs : List Value} {off : Nat} {new : List Value} (h : off + new.length ≤ cs.length) : (over cs off new).length = cs.length := by
  unfold over; simp; omega

theorem over_get {cs : List Value} {off : Nat} {new : List Value} (h : off + new.length ≤ cs.length) (i : Nat) :
    (over cs off new)[i]? = if i < off then cs[i]? else if i < off + new.length then new[i - off]? else cs[i]? := by
  unfold over
  by_cases h1 : i < off
  · rw [if_pos h1, List.append_assoc, List.getElem?_append_left (by simp; omega), List.getElem?_take, if_pos h1]
  · rw [if_neg h1]
    by_cases h2 : i < off + new.length
    · rw [if_pos h2, List.append_assoc, List.getElem?_append_right (by simp; omega), List.getElem?_append_left (by simp; omega)]
      congr 1; simp; omega
    · rw [if_neg h2, List.getElem?_append_right (by simp; omega), List.getElem?_drop]
      congr 1; simp; omega

theorem heap_size_setCells (b : Nat) : ∀ (vs : List Value) (o : Nat) (w : World), (w.setCells b o vs).heap.size = w.heap.size
  | [], _, _ => rfl
  | v :: r, o, w => by rw [World.setCells, heap_size_setCells b r]; simp [World.setCell]

theorem heap_setCells (b : Nat) : ∀ (vs : List Value) (o : Nat) (w : World) (k : Nat), k ≠ b → (w.setCells b o vs).heap[k]? = w.heap[k]?
  | [], _, _, _, _ => rfl
  | v :: r, o, w, k, hk => by rw [World.setCells, heap_setCells b r (o + 1) _ k hk]; exact Below.heap_setCell w ⟨b, o, none⟩ v k hk

theorem shape_setCell (w : World) (a : Addr) (v : Value) (r : Nat) : (w.setCell a v).shape? r = w.shape? r := by
  unfold World.shape? World.setCell
  simp only [Array.getElem?_modify]
  by_cases e : a.block = r
  · rw [if_pos e]
    cases w.heap[r]? with
    | none => rfl
    | some o => cases o <;> first | rfl | (simp only [Option.map_some]; split <;> simp)
  · rw [if_neg e]

theorem shape_setCells (b : Nat) : ∀ (vs : List Value) (o : Nat) (w : World) (r : Nat), (w.setCells b o vs).shape? r = w.shape? r
  | [], _, _, _ => rfl
  | v :: r, o, w, k => by rw [World.setCells, shape_setCells b r (o + 1) _ k, shape_setCell]

theorem below_setCells {A : World} {b : Nat} (hb : ¬ B.F b) : ∀ (vs : List Value) (o : Nat) (w : World), BelowP B.F A w → BelowP B.F A (w.setCells b o vs)
  | [], _, _, h => h
  | v :: r, o, w, h => by rw [World.setCells]; exact below_setCells hb r (o + 1) _ (h.setCell (p := ⟨b, o, none⟩) hb v)

/-- WRITING A ROW. -/
theorem MRel.setCells (h : MRel P J m B W w) {l : Nat} {b : Blk} (hw : m.writable l = some b) {off : Nat} {vs vs' : List Value} (hr : LRel J vs vs') (hlen : off + vs.length ≤ b.cells.length) :
    MRel P J (m.put l b (over b.cells off vs)) B W (w.setCells (J.blk l) (J.base l + off) vs') := by
  obtain ⟨w1, w2, w3, w4⟩ := h.wr _ _ hw
  have w4' : ∀ j, off + j < J.ext l → (w.cell? ⟨J.blk l, J.base l + off + j, none⟩).isSome = true ∧ w.frozen? ⟨J.blk l, J.base l + off + j, none⟩ = false := fun j hj => by rw [Nat.add_assoc]; exact w4 _ hj
  have hrd := Mem.readable_of_writable hw
  have hin : ∀ j, j < vs'.length → (w.cell? ⟨J.blk l, J.base l + off + j, none⟩).isSome = true := fun j hj => (w4' _ (by rw [← hr.1] at hj; omega)).1
  have hcin := World.cell?_setCells_in (J.blk l) vs' (J.base l + off) w hin
  refine h.put hw (over_length hlen) (fun k hk => heap_setCells _ _ _ _ k hk) (heap_size_setCells _ _ _ _) (below_setCells w1 _ _ _ h.below) (fun x => World.frozen?_setCells _ _ _ _ x) (fun x hx => World.cell?_setCells_out _ _ _ _ _ (fun e => absurd e hx)) (fun i hi => ?_) (shape_setCells _ _ _ _) (fun i v hv => ?_)
  · by_cases hij : J.base l + off ≤ i ∧ i < J.base l + off + vs'.length
    · have := hcin (i - (J.base l + off)) (by omega)
      rw [show J.base l + off + (i - (J.base l + off)) = i by omega] at this
      rw [this]; rfl
    · rw [World.cell?_setCells_out _ _ _ _ _ (fun _ _ => by simp only; omega)]; exact hi
  · rw [over_get hlen] at hv
    by_cases h1 : i < off
    · rw [if_pos h1] at hv
      obtain ⟨v', g1, g2⟩ := h.rd _ _ hrd i v hv
      exact ⟨v', by rw [World.cell?_setCells_out _ _ _ _ _ (fun _ _ => by simp only; omega)]; exact g1, g2⟩
    · rw [if_neg h1] at hv
      by_cases h2 : i < off + vs.length
      · rw [if_pos h2] at hv
        have hj : i - off < vs'.length := by rw [← hr.1]; omega
        have := hcin (i - off) hj
        rw [show J.base l + off + (i - off) = J.base l + i by omega] at this
        exact ⟨_, this, hr.2 _ _ _ hv (List.getElem?_eq_getElem hj)⟩
      · rw [if_neg h2] at hv
        obtain ⟨v', g1, g2⟩ := h.rd _ _ hrd i v hv
        exact ⟨v', by rw [World.cell?_setCells_out _ _ _ _ _ (fun _ _ => by simp only; rw [← hr.1]; omega)]; exact g1, g2⟩

theorem run_storeCells_rel (h : MRel P J m B W w) {l : Nat} {b : Blk} (hw : m.writable l = some b) {off : Nat} {vs vs' : List Value} (hr : LRel J vs vs') (hlen : off + vs.length ≤ b.cells.length) (h1 : vs.all one = true) :
    (storeCells ⟨J.blk l, J.base l + off, none⟩ vs' 0).run P w = .ok () (w.setCells (J.blk l) (J.base l + off) vs') := by
  obtain ⟨w1, w2, w3, w4⟩ := h.wr _ _ hw
  have w4' : ∀ j, off + j < J.ext l → (w.cell? ⟨J.blk l, J.base l + off + j, none⟩).isSome = true ∧ w.frozen? ⟨J.blk l, J.base l + off + j, none⟩ = false := fun j hj => by rw [Nat.add_assoc]; exact w4 _ hj
  have := run_storeCells_cells (P := P) (J.blk l) (J.base l + off) vs' 0 w (fun j hj => (w4' _ (by rw [← hr.1] at hj; omega)).1) (fun j hj => (w4' _ (by rw [← hr.1] at hj; omega)).2) (fun v hv => by
    obtain ⟨i, hi⟩ := List.getElem?_of_mem hv
    obtain ⟨x, hx, hxy⟩ := hr.get' hi
    exact hxy.one (List.all_eq_true.1 h1 x (List.mem_of_getElem? hx)))
  simpa using this

/-- A NEW ROW; a part of what lies behind its cells may be frozen. -/
theorem MRel.allocF (h : MRel P J m B W w) {cells cells' : List Value} (hr : LRel J cells cells') (more : List Value) (e : TypeId) (i : TypeInfo) (he : P.info? e = some i) (fr : Nat × Nat) (hfr : cells.length + more.length ≤ fr.1 ∨ fr.2 = 0) :
    MRel P (J.snoc w.heap.size 0 (cells.length + more.length) i.size) (m.new cells e) B W (w.alloc (.cells (cells' ++ more).toArray e fr)) := by
  have hnew : ∀ j, (w.alloc (.cells (cells' ++ more).toArray e fr)).cell? ⟨w.heap.size, j, none⟩ = (cells' ++ more)[j]? := by
    intro j
    unfold World.cell?
    rw [heap_alloc_new]
    simp
  refine h.new cells e i he _ (by omega) (fun k hk => Below.heap_alloc _ _ _ hk) (by show (w.heap.push _).size = _; simp) (h.below.alloc h.size _) (fun x hx => ?_) (fun j hj => ⟨?_, ?_⟩) (fun j v hv => ?_) ⟨_, by unfold World.shape?; rw [heap_alloc_new]⟩
  · constructor
    · exact World.cell?_of_block (Below.heap_alloc _ _ _ hx)
    · exact World.frozen?_of_block (Below.heap_alloc _ _ _ hx)
  · rw [hnew, List.getElem?_eq_getElem (by simp [← hr.1]; omega)]; rfl
  · unfold World.frozen?
    rw [heap_alloc_new]
    obtain ⟨f1, f2⟩ := fr
    simp only at hfr ⊢
    rw [Bool.and_eq_false_iff]
    simp only [decide_eq_false_iff_not]
    omega
  · have hj := (List.getElem?_eq_some_iff.1 hv).1
    obtain ⟨y, hy, hxy⟩ := hr.get hv
    exact ⟨y, by rw [hnew, List.getElem?_append_left (by rw [← hr.1]; exact hj)]; exact hy, hxy⟩

/-- A NEW ROW. -/
theorem MRel.alloc (h : MRel P J m B W w) {cells cells' : List Value} (hr : LRel J cells cells') (more : List Value) (e : TypeId) (i : TypeInfo) (he : P.info? e = some i) :
    MRel P (J.snoc w.heap.size 0 (cells.length + more.length) i.size) (m.new cells e) B W (w.alloc (.cells (cells' ++ more).toArray e)) :=
  h.allocF hr more e i he (0, 0) (Or.inr rfl)

theorem MRel.alloc0 (h : MRel P J m B W w) {cells cells' : List Value} (hr : LRel J cells cells') (e : TypeId) (i : TypeInfo) (he : P.info? e = some i) :
    MRel P (J.snoc w.heap.size 0 cells.length i.size) (m.new cells e) B W (w.alloc (.cells cells'.toArray e)) := by
  have := h.alloc hr [] e i he
  simpa using this

theorem snoc_ptr (h : MRel P J m B W w) (b ba ex z : Nat) (o : Nat) : VRel (J.snoc b ba ex z) (.pointer (some ⟨m.next, o, none⟩)) (.pointer (some ⟨b, ba + o, none⟩)) := by
  have := VRel.ptr (J := J.snoc b ba ex z) m.next o (by simp [Inj.snoc, h.n])
  simpa [Inj.snoc, h.n] using this

theorem snoc_slice (h : MRel P J m B W w) (b ex z o n c' : Nat) (h1 : n ≤ c') (h2 : c' ≤ 9223372036854775807) (h3 : o + c' * z = ex) :
    VRel (J.snoc b 0 ex z) (.slice (some ⟨m.next, o, none⟩) n n) (.slice (some ⟨b, o, none⟩) n c') := by
  have := VRel.slice (J := J.snoc b 0 ex z) m.next o n ⟨b, o, none⟩ c' (by simp [Inj.snoc, h.n]) h1 h2 (by simp [Inj.snoc, h.n, h3]) (Or.inr (by simp [Inj.snoc, h.n]))
  exact this

/-- likewise of a block that begins within a row -/
theorem snoc_slice' (h : MRel P J m B W w) (b ba ex z n c' : Nat) (h1 : n ≤ c') (h2 : c' ≤ 9223372036854775807) (h3 : c' * z = ex) :
    VRel (J.snoc b ba ex z) (.slice (some ⟨m.next, 0, none⟩) n n) (.slice (some ⟨b, ba, none⟩) n c') := by
  have := VRel.slice (J := J.snoc b ba ex z) m.next 0 n ⟨b, ba, none⟩ c' (by simp [Inj.snoc, h.n]) h1 h2 (by simp [Inj.snoc, h.n, h3]) (Or.inr (by simp [Inj.snoc, h.n]))
  exact this

end Go.Sh

/- One operation: what the abstract run yields, the model's yields too: the operations one by one. -/
namespace Go.Sh
open Go.RowKit
set_option linter.unusedVariables false
set_option linter.unusedSimpArgs false

variable {P : Program} {J : Inj} {m m' : Mem} {B : Frame} {W w w' : World}

theorem run_isAgg {t : TypeId} {d : TypeDesc} (hd : P.underlying t = some d) : (isAgg t).run P w = .ok (isAggT P t) w := by
  unfold isAgg isAggT
  rw [hd]
  simp only [Sem.run_bind, run_underlying hd, Result.andThen_ok]
  cases d <;> rfl

theorem run_sizeOf {t : TypeId} {z : Nat} (h : sizeOfT P t = some z) : (sizeOf t).run P w = .ok z w := by
  unfold sizeOfT at h
  cases hi : P.info? t with
  | none => simp [hi] at h
  | some i => simp [hi] at h; subst h; simp [sizeOf, typeInfo, hi]

theorem run_loadVar_agg (h : MRel P J m B W w) {a : Addr} {t : TypeId} {d : TypeDesc} {z : Nat} {cs : List Value} (hd : P.underlying t = some d) (hagg : isAggT P t = true) (hz : sizeOfT P t = some z) (hl : loadRow m a z = some cs) :
    ∃ cs', LRel J cs cs' ∧ (loadVar t ⟨J.blk a.block, J.base a.block + a.off, none⟩).run P w = .ok (.agg cs'.toArray) w := by
  obtain ⟨hlen, cs', hr, hc⟩ := h.loadRow hl
  refine ⟨cs', hr, ?_⟩
  have := run_loadCells_rel (P := P) (w := w) (a := ⟨J.blk a.block, J.base a.block + a.off, none⟩) rfl hc
  rw [← hr.1, hlen] at this
  unfold loadVar
  simp [run_isAgg hd, hagg, run_sizeOf hz, this]

theorem run_loadVar_one (h : MRel P J m B W w) {a : Addr} {t : TypeId} {d : TypeDesc} {v : Value} (hd : P.underlying t = some d) (hagg : isAggT P t = false) (hl : loadRow m a 1 = some [v]) :
    ∃ v', VRel J v v' ∧ (loadVar t ⟨J.blk a.block, J.base a.block + a.off, none⟩).run P w = .ok v' w := by
  obtain ⟨hlen, cs', hr, hc⟩ := h.loadRow hl
  obtain ⟨y, hy, hxy⟩ := hr.get (i := 0) (x := v) rfl
  refine ⟨y, hxy, ?_⟩
  have h0 := hc 0 y hy
  simp only [Nat.add_zero] at h0
  unfold loadVar
  simp [run_isAgg hd, hagg, h0]

/-- WHAT AN OPERATION YIELDS that calls nothing. -/
def Yields (P : Program) (J : Inj) (m' : Mem) (B : Frame) (W : World) (o : Oper) (a : Act) (w : World) (v : Value) : Prop :=
  ∃ J' n v' w', J.le J' ∧ (execOp a.eval o).run P w = .ok n w' ∧ (n = .value v' ∨ (n = .skip ∧ v' = undef)) ∧ VRel J' v v' ∧ MRel P J' m' B W w'

section
variable {o : Oper} {a : Act} {v : Value}

theorem yields_same (h : MRel P J m B W w) {v' : Value} (hr : VRel J v v') (he : (execOp a.eval o).run P w = .ok (.value v') w) : Yields P J m B W o a w v :=
  ⟨J, _, v', w, .rfl J, he, .inl rfl, hr, h⟩

theorem y_load (h : MRel P J m B W w) {t : TypeId} {x : Operand} (ho : o.op = .load t x) {ad : Addr} {d : TypeDesc} (hx : VRel J (.pointer (some ad)) (a.eval x)) (hd : P.underlying t = some d)
    (he : (if isAggT P t then match sizeOfT P t with
          | some z => (loadRow m ad z).map fun cs => (Value.agg cs.toArray, m)
          | none => none
        else match loadRow m ad 1 with
          | some [v] => some (v, m)
          | _ => none) = some (v, m')) : Yields P J m' B W o a w v := by
  obtain ⟨h1, h2, h3⟩ := hx.ptr_inv
  split at he
  · rename_i hagg
    split at he
    · rename_i z hz
      simp only [Option.map_eq_some_iff, Prod.mk.injEq] at he
      obtain ⟨cs, hl, rfl, rfl⟩ := he
      obtain ⟨cs', hr, hrun⟩ := run_loadVar_agg h hd hagg hz hl
      refine yields_same h (.agg_of hr) ?_
      simp [execOp, ho, Instr.loadAt, Instr.sureAddr, h3, hrun]
    · cases he
  · rename_i hagg
    split at he
    · rename_i u hl
      simp only [Option.some.injEq, Prod.mk.injEq] at he
      obtain ⟨rfl, rfl⟩ := he
      obtain ⟨v', hr, hrun⟩ := run_loadVar_one h hd (by simpa using hagg) hl
      refine yields_same h hr ?_
      simp [execOp, ho, Instr.loadAt, Instr.sureAddr, h3, hrun]
    · cases he

theorem y_store (h : MRel P J m B W w) {t : TypeId} {x y : Operand} (ho : o.op = .store t x y) {ad : Addr} {u : Value} (hx : VRel J (.pointer (some ad)) (a.eval x)) (hy : VRel J u (a.eval y))
    (hz : sizeOfT P t = some u.cells.size) (he : storeRow m ad u.cells.toList = some m') : Yields P J m' B W o a w undef := by
  obtain ⟨h1, h2, h3⟩ := hx.ptr_inv
  obtain ⟨_, b, hw, hlen, h1s, rfl⟩ := storeRow_inv he
  have hr := hy.cells
  obtain ⟨w1, w2, w3, w4⟩ := h.wr _ _ hw
  have hrun := run_storeCells_rel h hw hr hlen h1s
  refine ⟨J, .skip, undef, _, .rfl J, ?_, .inr ⟨rfl, rfl⟩, .undef J, h.setCells hw hr hlen⟩
  have hsz : (a.eval y).cells.size = u.cells.size := by have := hr.1; simpa using this.symm
  simp [execOp, ho, Instr.storeAt, Instr.sureAddr, h3, storeVar, run_sizeOf hz, hsz, hrun]

/-- WHAT AN OPERATION YIELDS that lays a new row and looks at no memory: 'mk': its value, by the row's number. -/
def YFloat (P : Program) (J : Inj) (o : Oper) (a : Act) (w : World) (mk : Nat → Value) (cells : List Value) (e : TypeId) : Prop :=
  ∃ i cells' more v', P.info? e = some i ∧ LRel J cells cells' ∧ (execOp a.eval o).run P w = .ok (.value v') (w.alloc (.cells (cells' ++ more).toArray e)) ∧
    ∀ K : Inj, VRel (K.snoc w.heap.size 0 (cells.length + more.length) i.size) (mk K.n) v'

theorem YFloat.yields {mk : Nat → Value} {cells : List Value} {e : TypeId} (y : YFloat P J o a w mk cells e) (h : MRel P J m B W w) : Yields P J (m.new cells e) B W o a w (mk m.next) := by
  obtain ⟨i, cells', more, v', hi, hr, hx, hv⟩ := y
  refine ⟨_, _, v', _, J.le_snoc _ _ _ _, hx, .inl rfl, ?_, h.alloc hr more e i hi⟩
  rw [← h.n]
  exact hv J

theorem snoc_ptr0 (K : Inj) (b ba ex z : Nat) (o : Nat) : VRel (K.snoc b ba ex z) (.pointer (some ⟨K.n, o, none⟩)) (.pointer (some ⟨b, ba + o, none⟩)) := by
  have := VRel.ptr (J := K.snoc b ba ex z) K.n o (by simp [Inj.snoc])
  simpa [Inj.snoc] using this

theorem snoc_slice0 (K : Inj) (b ex z o n c' : Nat) (h1 : n ≤ c') (h2 : c' ≤ 9223372036854775807) (h3 : o + c' * z = ex) :
    VRel (K.snoc b 0 ex z) (.slice (some ⟨K.n, o, none⟩) n n) (.slice (some ⟨b, o, none⟩) n c') := by
  have := VRel.slice (J := K.snoc b 0 ex z) K.n o n ⟨b, o, none⟩ c' (by simp [Inj.snoc]) h1 h2 (by simp [Inj.snoc, h3]) (Or.inr (by simp [Inj.snoc]))
  exact this

theorem yf_alloc (J : Inj) (w : World) {e : TypeId} (ho : o.op = .alloc e) {i : TypeInfo} {z : Value} (hi : P.info? e = some i) (hz : i.zero = some z) (hc : closedA z.cells = true) :
    YFloat P J o a w (fun n => .pointer (some ⟨n, 0, none⟩)) z.cells.toList e := by
  have hcl : LRel J z.cells.toList z.cells.toList := by
    obtain ⟨l, hl⟩ : ∃ l, z.cells = ⟨l⟩ := ⟨z.cells.toList, rfl⟩
    rw [hl] at hc ⊢
    exact LRel.of_closed (by simpa [closedA] using hc)
  refine ⟨i, z.cells.toList, [], .pointer (some ⟨w.heap.size, 0, none⟩), hi, hcl, ?_, fun K => ?_⟩
  · simp [execOp, ho, Instr.alloc, zeroValue, typeInfo, hi, hz, newVar, newRow]
  · simpa using snoc_ptr0 K w.heap.size 0 (z.cells.toList.length + 0) i.size 0

theorem y_alloc (h : MRel P J m B W w) {e : TypeId} (ho : o.op = .alloc e) {i : TypeInfo} {z : Value} (hi : P.info? e = some i) (hz : i.zero = some z) (hc : closedA z.cells = true) :
    Yields P J (m.new z.cells.toList e) B W o a w (.pointer (some ⟨m.next, 0, none⟩)) := (yf_alloc J w ho hi hz hc).yields h

theorem yf_box (w : World) {e : TypeId} {x : Operand} (ho : o.op = .box e x) {i : TypeInfo} {u : Value} (hi : P.info? e = some i) (hx : VRel J u (a.eval x)) :
    YFloat P J o a w (fun n => .pointer (some ⟨n, 0, none⟩)) u.cells.toList e := by
  refine ⟨i, (a.eval x).cells.toList, [], .pointer (some ⟨w.heap.size, 0, none⟩), hi, hx.cells, ?_, fun K => ?_⟩
  · simp [execOp, ho, Instr.box, newVar, newRow]
  · simpa using snoc_ptr0 K w.heap.size 0 (u.cells.toList.length + 0) i.size 0

theorem y_box (h : MRel P J m B W w) {e : TypeId} {x : Operand} (ho : o.op = .box e x) {i : TypeInfo} {u : Value} (hi : P.info? e = some i) (hx : VRel J u (a.eval x)) :
    Yields P J (m.new u.cells.toList e) B W o a w (.pointer (some ⟨m.next, 0, none⟩)) := (yf_box w ho hi hx).yields h

theorem run_fieldPlace {P : Program} {w : World} {f : Field} {z : Nat} (hz : sizeOfT P f.type = some (z + 1)) (ad : Addr) : (fieldPlace ad f).run P w = .ok (ad.add f.offset) w := by
  unfold fieldPlace
  simp [run_sizeOf hz]

theorem y_fieldAddr (h : MRel P J m B W w) {s : TypeId} {x : Operand} {f : Nat} (ho : o.op = .fieldAddr s x f) {fl : Field} {z : Nat} {ad : Addr} (hf : fieldOf P s f = some fl) (hx : VRel J (.pointer (some ad)) (a.eval x))
    (hz : sizeOfT P fl.type = some (z + 1)) : Yields P J m B W o a w (.pointer (some { ad with off := ad.off + fl.offset })) := by
  obtain ⟨h1, h2, h3⟩ := hx.ptr_inv
  obtain ⟨bl, of, sp⟩ := ad
  simp only at h1 h2 h3 ⊢
  subst h1
  unfold fieldOf at hf
  split at hf
  · rename_i fs hu
    refine yields_same h (v' := .pointer (some ⟨J.blk bl, J.base bl + (of + fl.offset), none⟩)) (.ptr _ _ h2) ?_
    simp [execOp, ho, Instr.fieldAt, run_underlying hu, hf, Instr.sureAddr, h3, run_fieldPlace hz, Addr.add_lit, Nat.add_assoc]
  · cases hf

theorem part_rel {t : TypeId} {cs cs' : Array Value} {off : Nat} {u : Value} (hs : cs.size = cs'.size) (hr : ∀ (i : Nat) x y, cs[i]? = some x → cs'[i]? = some y → VRel J x y) (hp : partOf P t cs off = some u) :
    ∃ u', VRel J u u' ∧ ∀ w : World, (part t cs' off).run P w = .ok u' w := by
  unfold partOf at hp
  split at hp
  · cases hp
  · rename_i d hd
    split at hp
    · rename_i hagg
      split at hp
      · rename_i z hz
        simp only [Option.some.injEq] at hp
        subst hp
        refine ⟨.agg (cs'.extract off (off + z)), .agg _ _ (by simp [hs]) (fun i x y hx hy => ?_), fun w => ?_⟩
        · rw [Array.getElem?_extract] at hx hy
          split at hx
          · rw [if_pos (by rw [← hs]; assumption)] at hy
            exact hr _ _ _ hx hy
          · cases hx
        · unfold part
          simp [run_isAgg hd, hagg, run_sizeOf hz]
      · cases hp
    · rename_i hagg
      have hlt := (Array.getElem?_eq_some_iff.1 hp).1
      have hlt' : off < cs'.size := hs ▸ hlt
      refine ⟨cs'[off], hr _ _ _ hp (by simp [hlt']), fun w => ?_⟩
      unfold part
      simp [run_isAgg hd, hagg, hlt']

theorem VRel.agg_inv {cs : Array Value} {v' : Value} (r : VRel J (.agg cs) v') : ∃ cs', v' = .agg cs' ∧ cs.size = cs'.size ∧ ∀ (i : Nat) x y, cs[i]? = some x → cs'[i]? = some y → VRel J x y := by
  cases r with
  | clo _ h =>
    refine ⟨cs, rfl, rfl, fun i x y hx hy => ?_⟩
    rw [hx] at hy
    simp only [Option.some.injEq] at hy
    subst hy
    simp only [closedV, closedA_iff] at h
    exact .clo _ (h i x hx)
  | agg xs ys hs h => exact ⟨ys, rfl, hs, h⟩

theorem VRel.tuple_inv {cs : Array Value} {v' : Value} (r : VRel J (.tuple cs) v') : ∃ cs', v' = .tuple cs' ∧ cs.size = cs'.size ∧ ∀ (i : Nat) x y, cs[i]? = some x → cs'[i]? = some y → VRel J x y := by
  cases r with
  | clo _ h =>
    refine ⟨cs, rfl, rfl, fun i x y hx hy => ?_⟩
    rw [hx] at hy
    simp only [Option.some.injEq] at hy
    subst hy
    simp only [closedV, closedA_iff] at h
    exact .clo _ (h i x hx)
  | tuple xs ys hs h => exact ⟨ys, rfl, hs, h⟩

theorem y_field (h : MRel P J m B W w) {s : TypeId} {x : Operand} {f : Nat} (ho : o.op = .field s x f) {fl : Field} {cs : Array Value} (hf : fieldOf P s f = some fl) (hx : VRel J (.agg cs) (a.eval x))
    (hp : partOf P fl.type cs fl.offset = some v) : Yields P J m B W o a w v := by
  obtain ⟨cs', h1, h2, h3⟩ := hx.agg_inv
  obtain ⟨u', hr, hrun⟩ := part_rel h2 h3 hp
  unfold fieldOf at hf
  split at hf
  · rename_i fs hu
    refine yields_same h hr ?_
    simp [execOp, ho, Instr.field, run_underlying hu, hf, h1, asAgg, hrun]
  · cases hf

theorem natOf_inv {v : Value} {n : Nat} (h : natOf v = some n) : ∃ k, v = .int k n ∧ (n : Int) ≤ 9223372036854775807 := by
  unfold natOf at h
  split at h
  · rename_i k i
    split at h
    · rename_i hc
      simp only [Bool.and_eq_true, decide_eq_true_eq] at hc
      simp only [Option.some.injEq] at h
      subst h
      exact ⟨k, by rw [Int.toNat_of_nonneg hc.1], by omega⟩
    · cases h
  · cases h

theorem VRel.nat_inv {x x' : Value} {n : Nat} (r : VRel J x x') (h : natOf x = some n) : ∃ k, x' = .int k n ∧ (n : Int) ≤ 9223372036854775807 := by
  obtain ⟨k, rfl, hk⟩ := natOf_inv h
  refine ⟨k, r.closed_eq rfl, hk⟩

theorem y_indexAddr_slice (h : MRel P J m B W w) {t : TypeId} {x ix : Operand} (ho : o.op = .indexAddr t x ix) {xi : Value} {i : Nat} {e : TypeId} {ad : Addr} {n c z : Nat} (hi : VRel J xi (a.eval ix)) (hn : natOf xi = some i)
    (hu : P.underlying t = some (.slice e)) (hx : VRel J (.slice (some ad) n c) (a.eval x)) (hz : sizeOfT P e = some z) (hlt : i < n) :
    Yields P J m B W o a w (.pointer (some { ad with off := ad.off + i * z })) := by
  obtain ⟨k, hi', hb⟩ := hi.nat_inv hn
  obtain ⟨s1, s2, a', c', s3, s4, s5, s7⟩ := hx.wslice_inv
  obtain ⟨bl, of, sp⟩ := ad
  simp only at s1 s2 s7 ⊢
  subst s1
  have hc' : n ≠ 0 := by omega
  rw [s7.resolve_left hc'] at s3
  refine yields_same h (v' := .pointer (some ⟨J.blk bl, J.base bl + (of + i * z), none⟩)) (.ptr _ _ s2) ?_
  have hlt' : (i : Int) < n := by omega
  simp [execOp, ho, Instr.indexAt, hi', asIntOf, run_underlying hu, s3, hlt', run_sizeOf hz, Addr.add_lit, Nat.add_assoc]
  intro _; omega

theorem y_indexAddr_array (h : MRel P J m B W w) {t : TypeId} {x ix : Operand} (ho : o.op = .indexAddr t x ix) {xi : Value} {i : Nat} {e : TypeId} {ad : Addr} {n z : Nat} (hi : VRel J xi (a.eval ix)) (hn : natOf xi = some i)
    (hu : P.underlying t = some (.array n e)) (hx : VRel J (.pointer (some ad)) (a.eval x)) (hz : sizeOfT P e = some z) (hlt : i < n) :
    Yields P J m B W o a w (.pointer (some { ad with off := ad.off + i * z })) := by
  obtain ⟨k, hi', hb⟩ := hi.nat_inv hn
  obtain ⟨h1, h2, h3⟩ := hx.ptr_inv
  obtain ⟨bl, of, sp⟩ := ad
  simp only at h1 h2 h3 ⊢
  subst h1
  refine yields_same h (v' := .pointer (some ⟨J.blk bl, J.base bl + (of + i * z), none⟩)) (.ptr _ _ h2) ?_
  have hlt' : (i : Int) < n := by omega
  simp [execOp, ho, Instr.indexAt, hi', asIntOf, run_underlying hu, h3, Instr.sureAddr, hlt', run_sizeOf hz, Addr.add_lit, Nat.add_assoc]
  intro _; omega

theorem y_index_array (h : MRel P J m B W w) {t : TypeId} {x ix : Operand} (ho : o.op = .index t x ix) {xi : Value} {i : Nat} {e : TypeId} {n z : Nat} {cs : Array Value} (hi : VRel J xi (a.eval ix)) (hn : natOf xi = some i)
    (hu : P.underlying t = some (.array n e)) (hx : VRel J (.agg cs) (a.eval x)) (hz : sizeOfT P e = some z) (hlt : i < n) (hp : partOf P e cs (i * z) = some v) :
    Yields P J m B W o a w v := by
  obtain ⟨k, hi', hb⟩ := hi.nat_inv hn
  obtain ⟨cs', h1, h2, h3⟩ := hx.agg_inv
  obtain ⟨u', hr, hrun⟩ := part_rel h2 h3 hp
  refine yields_same h hr ?_
  have hlt' : (i : Int) < n := by omega
  simp [execOp, ho, Instr.index, hi', asIntOf, run_underlying hu, h1, hlt', run_sizeOf hz, hrun]
  intro _; omega

theorem y_index_string (h : MRel P J m B W w) {t : TypeId} {x ix : Operand} (ho : o.op = .index t x ix) {xi : Value} {i : Nat} {s : ByteArray} {b : UInt8} (hi : VRel J xi (a.eval ix)) (hn : natOf xi = some i)
    (hu : P.underlying t = some .string) (hx : VRel J (.string s) (a.eval x)) (hb : s.data[i]? = some b) :
    Yields P J m B W o a w (.int .u8 b.toNat) := by
  obtain ⟨k, hi', _⟩ := hi.nat_inv hn
  have hx' := hx.closed_eq rfl
  refine yields_same h (.clo _ rfl) ?_
  have hb' : s[i]? = some b := by
    have hlt := (Array.getElem?_eq_some_iff.1 hb).1
    have : s[i]? = some (s[i]'hlt) := getElem?_pos s i hlt
    rw [this]
    have h2 := (Array.getElem?_eq_some_iff.1 hb).2
    exact congrArg some h2
  simp [execOp, ho, Instr.index, hi', asIntOf, run_underlying hu, hx', hb']

theorem y_extract (h : MRel P J m B W w) {x : Operand} {i : Nat} (ho : o.op = .extract x i) {vs : Array Value} (hx : VRel J (.tuple vs) (a.eval x)) (hi : vs[i]? = some v) : Yields P J m B W o a w v := by
  obtain ⟨cs', h1, h2, h3⟩ := hx.tuple_inv
  have hlt := (Array.getElem?_eq_some_iff.1 hi).1
  have hlt' : i < cs'.size := h2 ▸ hlt
  refine yields_same h (h3 i v cs'[i] hi (by simp [hlt'])) ?_
  simp [execOp, ho, Instr.extract, h1, hlt']
end
end Go.Sh

/- One operation: building, making, slicing, appending. -/
namespace Go.Sh
open Go.RowKit
set_option linter.unusedVariables false
set_option linter.unusedSimpArgs false

variable {P : Program} {J : Inj} {m m' : Mem} {B : Frame} {W w w' : World}

theorem prun_run {α : Type} : ∀ (s : Sem α) (x : α), prun P s = some x → ∀ w, s.run P w = .ok x w := by
  intro s
  induction s with
  | pure a => intro x h w; simp [prun] at h; subst h; rfl
  | program k ih => intro x h w; simp only [prun] at h; simp only [Sem.run]; exact ih _ x h w
  | mark k s ih => intro x h w; simp only [prun] at h; simp only [Sem.run]; exact ih x h w
  | _ => intro x h w; simp [prun] at h

section
variable {o : Oper} {a : Act} {v : Value}

theorem y_closed (h : MRel P J m B W w) {ρ : Operand → Value} (hρ : ∀ x ∈ o.op.operands, VRel J (ρ x) (a.eval x)) (hsel : ∀ cs b, o.op ≠ .select cs b) (he : closedOp P ρ o = some v) : Yields P J m B W o a w v := by
  unfold closedOp at he
  split at he
  · rename_i hall
    split at he
    · rename_i u hp
      split at he
      · rename_i hc
        simp only [Option.some.injEq] at he
        subst he
        refine yields_same h (.clo _ hc) ?_
        have hcong : execOp a.eval o = execOp ρ o := execOp_congr o hsel fun x hx => (hρ x hx).closed_eq (Array.all_eq_true'.1 hall x hx)
        rw [hcong]
        exact prun_run _ _ hp w
      · cases he
    · cases he
  · cases he

/-- 'fill', on related parts -/
theorem fill_rel {place : Nat → Option (Nat × Nat)} : ∀ (ps ps' : List (Nat × Value)) (cs cs' out : Array Value), ps.length = ps'.length →
    (∀ (i : Nat) x y, ps[i]? = some x → ps'[i]? = some y → x.1 = y.1 ∧ VRel J x.2 y.2) → LRel J cs.toList cs'.toList → Instr.fill place cs ps = some out →
    ∃ out', Instr.fill place cs' ps' = some out' ∧ LRel J out.toList out'.toList
  | [], [], cs, cs', out, _, _, hc, h => by
    simp only [Instr.fill, Option.some.injEq] at h
    subst h
    exact ⟨cs', rfl, hc⟩
  | (i, x) :: r, (j, y) :: r', cs, cs', out, hl, hp, hc, h => by
    obtain ⟨e, hxy⟩ := hp 0 _ _ rfl rfl
    simp only at e hxy
    subst e
    simp only [Instr.fill] at h ⊢
    cases hpl : place i with
    | none => simp [hpl] at h
    | some os =>
      obtain ⟨off, size⟩ := os
      simp only [hpl] at h
      have hsz : y.cells.size = x.cells.size := by have := hxy.cells.1; simpa using this.symm
      have hcs : cs'.size = cs.size := by have := hc.1; simpa using this.symm
      simp only [hsz, hcs]
      split at h
      · cases h
      · rename_i hcond
        rw [if_neg hcond]
        refine fill_rel r r' _ _ out (by simpa using hl) (fun k a b ha hb => hp (k + 1) a b (by simpa using ha) (by simpa using hb)) ?_ h
        -- the fold writes related cells at the same places
        have key : ∀ (n : Nat) (l l' : List Value) (A A' : Array Value), LRel J l l' → LRel J A.toList A'.toList →
            LRel J ((l.zipIdx n).foldl (fun cs (p : Value × Nat) => cs.setIfInBounds (off + p.2) p.1) A).toList ((l'.zipIdx n).foldl (fun cs (p : Value × Nat) => cs.setIfInBounds (off + p.2) p.1) A').toList := by
          intro n l
          induction l generalizing n with
          | nil => intro l' A A' hll hA; have : l' = [] := List.length_eq_zero_iff.1 hll.1.symm; subst this; simpa using hA
          | cons u l ih =>
            intro l' A A' hll hA
            cases l' with
            | nil => have := hll.1; simp at this
            | cons u' l' =>
              simp only [List.zipIdx_cons, List.foldl_cons]
              refine ih (n + 1) l' _ _ ⟨by simpa using hll.1, fun k a b ha hb => hll.2 (k + 1) a b (by simpa using ha) (by simpa using hb)⟩ ?_
              refine ⟨by simpa using hA.1, fun k a b ha hb => ?_⟩
              simp only [Array.toList_setIfInBounds, List.getElem?_set] at ha hb
              have hAl := hA.1
              split at ha
              · rename_i ek
                rw [if_pos ek] at hb
                split at ha
                · rename_i hlt
                  rw [if_pos (by rw [← hAl]; exact hlt)] at hb
                  simp only [Option.some.injEq] at ha hb
                  subst ha; subst hb
                  exact hll.2 0 _ _ rfl rfl
                · cases ha
              · rename_i ek
                rw [if_neg ek] at hb
                exact hA.2 k a b ha hb
        have := key 0 x.cells.toList y.cells.toList cs cs' hxy.cells hc
        rw [← Array.foldl_toList, ← Array.foldl_toList, Array.toList_zipIdx, Array.toList_zipIdx]
        exact this

theorem parts_rel {ρ : Operand → Value} {parts : Array (Nat × Operand)} (hρ : ∀ p ∈ parts, VRel J (ρ p.2) (a.eval p.2)) :
    ∀ (i : Nat) x y, (parts.map fun (i, x) => (i, ρ x)).toList[i]? = some x → (parts.map fun (i, x) => (i, a.eval x)).toList[i]? = some y → x.1 = y.1 ∧ VRel J x.2 y.2 := by
  intro i x y hx hy
  simp only [Array.toList_map, List.getElem?_map, Option.map_eq_some_iff] at hx hy
  obtain ⟨p, hp, rfl⟩ := hx
  obtain ⟨q, hq, rfl⟩ := hy
  rw [hp] at hq
  simp only [Option.some.injEq] at hq
  subst hq
  exact ⟨rfl, hρ _ (by simpa using List.mem_of_getElem? hp)⟩

theorem closedA_list {cs : Array Value} (h : closedA cs = true) : LRel J cs.toList cs.toList := by
  obtain ⟨l⟩ := cs
  exact LRel.of_closed (by simpa [closedA] using h)

theorem yf_buildSlice (w : World) {ρ : Operand → Value} {t : TypeId} {len : Nat} {parts : Array (Nat × Operand)} (ho : o.op = .buildSlice t len parts) (hρ : ∀ p ∈ parts, VRel J (ρ p.2) (a.eval p.2))
    {e : TypeId} {i : TypeInfo} {z : Value} {cells : Array Value} (hu : P.underlying t = some (.slice e)) (hi : P.info? e = some i) (hz : i.zero = some z) (h0 : 0 < i.size) (h24 : len * i.size ≤ 16777216) (hc : closedA z.cells = true) (hzs : z.cells.size = i.size)
    (hf : Instr.fill (fun j => some (j * i.size, i.size)) (if len * i.size = 0 then #[] else (Array.range (len * i.size)).map (z.cells[· % z.cells.size]!)) (parts.map fun (i, x) => (i, ρ x)).toList = some cells) :
    YFloat P J o a w (fun n => .slice (some ⟨n, 0, none⟩) len len) cells.toList e := by
  have hzero : LRel J ((if len * i.size = 0 then #[] else (Array.range (len * i.size)).map (z.cells[· % z.cells.size]!)) : Array Value).toList ((if len * i.size = 0 then #[] else (Array.range (len * i.size)).map (z.cells[· % z.cells.size]!)) : Array Value).toList := by
    refine closedA_list ?_
    rw [closedA_iff] at hc ⊢
    intro k x hx
    split at hx
    · simp at hx
    · simp only [Array.getElem?_map, Option.map_eq_some_iff] at hx
      obtain ⟨q, _, rfl⟩ := hx
      have : q % z.cells.size < z.cells.size := Nat.mod_lt _ (by omega)
      exact hc (q % z.cells.size) _ (by simp [this])
  obtain ⟨out', hf', hr⟩ := fill_rel _ _ _ _ _ (by simp) (parts_rel hρ) hzero hf
  have hfl : ∀ (place : Nat → Option (Nat × Nat)) (cs : Array Value) (ps : List (Nat × Value)) (out : Array Value), Instr.fill place cs ps = some out → out.size = cs.size := by
    intro place cs ps
    induction ps generalizing cs with
    | nil => intro out h; simp [Instr.fill] at h; rw [h]
    | cons p r ih =>
      intro out h
      obtain ⟨k, x⟩ := p
      simp only [Instr.fill] at h
      split at h
      · cases h
      · split at h
        · cases h
        · rw [ih _ _ h]
          have : ∀ (l : List (Value × Nat)) (A : Array Value) (off : Nat), (l.foldl (fun cs (p : Value × Nat) => cs.setIfInBounds (off + p.2) p.1) A).size = A.size := by
            intro l
            induction l with
            | nil => intro A off; rfl
            | cons q l ih => intro A off; simp only [List.foldl_cons]; rw [ih]; simp
          rw [← Array.foldl_toList]
          exact this _ _ _
  have hsize : cells.size = len * i.size := by
    rw [hfl _ _ _ _ hf]
    split
    · rename_i e0; simp [e0]
    · simp
  have hB := i.size
  refine ⟨i, out'.toList, [], .slice (some ⟨w.heap.size, 0, none⟩) len len, hi, hr, ?_, fun K => ?_⟩
  · have h24' : ¬ (16777216 < len * i.size) := by omega
    by_cases hz0 : len * i.size = 0
    · simp only [hz0, if_true] at hf'
      simp at hf'
      have hr0 : (Array.range 0 : Array Nat) = #[] := rfl
      simp [execOp, ho, Instr.buildSlice, run_underlying hu, sizeOf, typeInfo, hi, h24', hz0, hr0, hf', newRow]
    · simp only [hz0, if_false] at hf'
      simp at hf'
      simp [execOp, ho, Instr.buildSlice, run_underlying hu, sizeOf, typeInfo, zeroValue, hi, hz, h24', hz0, hf', newRow]
  · have hlen63 : len ≤ 9223372036854775807 := by
      have := Nat.le_mul_of_pos_right len h0; omega
    exact snoc_slice0 K w.heap.size _ i.size 0 len len (Nat.le_refl _) hlen63 (by simp [hsize])

theorem y_buildSlice (h : MRel P J m B W w) {ρ : Operand → Value} {t : TypeId} {len : Nat} {parts : Array (Nat × Operand)} (ho : o.op = .buildSlice t len parts) (hρ : ∀ p ∈ parts, VRel J (ρ p.2) (a.eval p.2))
    {e : TypeId} {i : TypeInfo} {z : Value} {cells : Array Value} (hu : P.underlying t = some (.slice e)) (hi : P.info? e = some i) (hz : i.zero = some z) (h0 : 0 < i.size) (h24 : len * i.size ≤ 16777216) (hc : closedA z.cells = true) (hzs : z.cells.size = i.size)
    (hf : Instr.fill (fun j => some (j * i.size, i.size)) (if len * i.size = 0 then #[] else (Array.range (len * i.size)).map (z.cells[· % z.cells.size]!)) (parts.map fun (i, x) => (i, ρ x)).toList = some cells) :
    Yields P J (m.new cells.toList e) B W o a w (.slice (some ⟨m.next, 0, none⟩) len len) := (yf_buildSlice w ho hρ hu hi hz h0 h24 hc hzs hf).yields h

theorem y_build_fill (h : MRel P J m B W w) {ρ : Operand → Value} {t : TypeId} {parts : Array (Nat × Operand)} (hρ : ∀ p ∈ parts, VRel J (ρ p.2) (a.eval p.2))
    {z : Value} (hc : closedA z.cells = true) {place : Nat → Option (Nat × Nat)} {cells : Array Value} (hf : Instr.fill place z.cells (parts.map fun (i, x) => (i, ρ x)).toList = some cells)
    (hrun : ∀ out', Instr.fill place z.cells (parts.map fun (i, x) => (i, a.eval x)).toList = some out' → (execOp a.eval o).run P w = .ok (.value (.agg out')) w) : Yields P J m B W o a w (.agg cells) := by
  obtain ⟨out', hf', hr⟩ := fill_rel _ _ _ _ _ (by simp) (parts_rel hρ) (closedA_list hc) hf
  exact yields_same h (.agg _ _ (by have := hr.1; simpa using this) fun k x y hx hy => hr.2 k x y (by simpa using hx) (by simpa using hy)) (hrun out' hf')

theorem y_build_array (h : MRel P J m B W w) {ρ : Operand → Value} {t : TypeId} {parts : Array (Nat × Operand)} (ho : o.op = .build t parts) (hρ : ∀ p ∈ parts, VRel J (ρ p.2) (a.eval p.2))
    {i : TypeInfo} {z : Value} {n : Nat} {e : TypeId} {size : Nat} (hi : P.info? t = some i) (hz : i.zero = some z) (hc : closedA z.cells = true) (hu : P.underlying t = some (.array n e)) (hs : sizeOfT P e = some size)
    {cells : Array Value} (hf : Instr.fill (fun i => some (i * size, size)) z.cells (parts.map fun (i, x) => (i, ρ x)).toList = some cells) : Yields P J m B W o a w (.agg cells) := by
  refine y_build_fill h (t := t) hρ hc hf fun out' hf' => ?_
  simp at hf'
  simp [execOp, ho, Instr.build, zeroValue, typeInfo, hi, hz, run_underlying hu, run_sizeOf hs, hf']

theorem y_build_struct (h : MRel P J m B W w) {ρ : Operand → Value} {t : TypeId} {parts : Array (Nat × Operand)} (ho : o.op = .build t parts) (hρ : ∀ p ∈ parts, VRel J (ρ p.2) (a.eval p.2))
    {i : TypeInfo} {z : Value} {fields : Array Field} {places : Array (Nat × Nat)} (hi : P.info? t = some i) (hz : i.zero = some z) (hc : closedA z.cells = true) (hu : P.underlying t = some (.struct fields)) (hs : prun P (placesOf fields) = some places)
    {cells : Array Value} (hf : Instr.fill (places[·]?) z.cells (parts.map fun (i, x) => (i, ρ x)).toList = some cells) : Yields P J m B W o a w (.agg cells) := by
  refine y_build_fill h (t := t) hρ hc hf fun out' hf' => ?_
  have hpl := prun_run _ _ hs w
  simp only [Array.toList_map] at hf'
  have hbind : (Instr.build t (parts.map fun (i, x) => (i, a.eval x))).run P w = .ok (.agg out') w := by
    unfold Instr.build
    simp only [Sem.run_bind, zeroValue, typeInfo, run_program, Result.andThen_ok, hi, hz, run_underlying hu, Sem.run_pure]
    rw [show (fields.mapM fun f => do pure (f.offset, ← sizeOf f.type) : Sem (Array (Nat × Nat))) = placesOf fields from rfl, hpl]
    simp only [Result.andThen_ok, Array.toList_map, hf', Sem.run_pure]
  simp only [execOp, ho, Sem.run_bind, hbind, Result.andThen_ok, Sem.run_pure]
end
end Go.Sh

/- One operation: append, copy, slices. -/
namespace Go.Sh
open Go.RowKit
set_option linter.unusedVariables false
set_option linter.unusedSimpArgs false

variable {P : Program} {J : Inj} {m m' : Mem} {B : Frame} {W w w' : World}

/-- What is appended, as the model sees it: type 'dx', value 'x': k elements, their cells 'news' (in the world and in the one behind a draw). -/
inductive Src (P : Program) (w : World) (i : TypeInfo) (z : Value) : TypeDesc → Value → Nat → List Value → Prop
  | slice (e' : TypeId) (a : Option Addr) (k c : Nat) (news : List Value) : (Builtin.firstCells i.size k (.slice a k c)).run P w = .ok news.toArray w → (Builtin.firstCells i.size k (.slice a k c)).run P w.drew = .ok news.toArray w.drew → Src P w i z (.slice e') (.slice a k c) k news
  | string (s : ByteArray) : Src P w i z .string (.string s) s.size (s.data.map fun b => Value.int .u8 b.toNat).toList
  | int (q q' : IntKind) (k : Nat) : (k : Int) ≤ 9223372036854775807 → (k : Int) * i.bytes ≤ 281474976710656 → Src P w i z (.int q) (.int q' k) k (Builtin.zeroCells z.cells k).toList

theorem zeroCells_zero (z : Array Value) (n : Nat) (h : n * z.size = 0) : Builtin.zeroCells z n = #[] := by
  unfold Builtin.zeroCells; rw [h]; apply Array.ext'; simp

theorem firstCells_string (s : ByteArray) (size : Nat) : (Builtin.firstCells size s.size (.string s)).run P w = .ok (s.data.map fun b => Value.int .u8 b.toNat) w := by
  have hx : (Array.map (fun b : UInt8 => Value.int IntKind.u8 (b.toNat : Int)) s.data).extract 0 s.size = Array.map (fun b : UInt8 => Value.int IntKind.u8 (b.toNat : Int)) s.data := by
    have hs : s.size = (Array.map (fun b : UInt8 => Value.int IntKind.u8 (b.toNat : Int)) s.data).size := by rw [Array.size_map]; rfl
    rw [hs, Array.extract_size]
  simp [Builtin.firstCells, hx]

theorem wrap_nat {k : Nat} (h : (k : Int) ≤ 9223372036854775807) : IntKind.i64.wrap (k : Int) = k := by
  simp [IntKind.wrap, IntKind.signed, IntKind.bits]; omega

/-- THERE IS ROOM. -/
theorem append_room {t tx ty e : TypeId} {i : TypeInfo} {z : Value} {dx : TypeDesc} {x : Value} {k : Nat} {news : List Value} (ht : P.underlying t = some (.slice e)) (hi : P.info? e = some i) (hz : i.zero = some z) (hzs : z.cells.size = i.size)
    (hx : P.underlying tx = some dx) (hs : Src P w i z dx x k news) (a : Addr) (n c : Nat) (hroom : n + k ≤ c) (w2 : World) (hst : (storeCells (a.add (n * i.size)) news).run P w = .ok () w2) :
    (Builtin.append_ #[t, tx] ty #[.slice (some a) n c, x]).run P w = .ok (.slice (some a) (n + k) c) w2 := by
  cases hs with
  | slice e' a' k c' news h1 h2 => simp [Builtin.append_, run_underlying ht, run_underlying hx, sizeOf, typeInfo, hi, Builtin.lenOf, hroom, h1, hst]
  | string s =>
    have := firstCells_string (P := P) (w := w) s i.size
    simp at hst
    simp [Builtin.append_, run_underlying ht, run_underlying hx, sizeOf, typeInfo, hi, Builtin.lenOf, hroom, this, hst]
  | int q q' k h1 h2 =>
    have h2' : ¬ (281474976710656 < (k : Int) * (i.bytes : Int)) := by omega
    have hneg : ¬ ((k : Int) < 0) := by omega
    by_cases hk : k * i.size = 0
    · have hz0 : Builtin.zeroCells z.cells k = #[] := zeroCells_zero _ _ (by rw [hzs]; exact hk)
      rw [hz0] at hst
      simp [Builtin.append_, run_underlying ht, run_underlying hx, sizeOf, typeInfo, hi, asInt, asIntOf, wrap_nat h1, h2', hneg, hroom, hk, hst]
    · simp [Builtin.append_, run_underlying ht, run_underlying hx, sizeOf, typeInfo, zeroValue, hi, hz, asInt, asIntOf, wrap_nat h1, h2', hneg, hroom, hk, hst]

/-- NOTHING ONTO NIL. -/
theorem append_nil0 {t tx ty e : TypeId} {i : TypeInfo} {z : Value} {dx : TypeDesc} {x : Value} {news : List Value} (ht : P.underlying t = some (.slice e)) (hi : P.info? e = some i) (hz : i.zero = some z) (hzs : z.cells.size = i.size)
    (hx : P.underlying tx = some dx) (hs : Src P w i z dx x 0 news) :
    (Builtin.append_ #[t, tx] ty #[.slice none 0 0, x]).run P w = .ok (.slice none 0 0) w := by
  generalize hk : (0 : Nat) = k at hs
  cases hs with
  | slice e' a' k c' news h1 h2 => subst hk; simp [Builtin.append_, run_underlying ht, run_underlying hx, sizeOf, typeInfo, hi, Builtin.lenOf, h1]
  | string s =>
    have := firstCells_string (P := P) (w := w) s i.size
    rw [← hk] at this
    simp [Builtin.append_, run_underlying ht, run_underlying hx, sizeOf, typeInfo, hi, Builtin.lenOf, ← hk, this]
  | int q q' k h1 h2 =>
    subst hk
    have h0 : IntKind.i64.wrap (0 : Int) = 0 := by decide
    simp [Builtin.append_, run_underlying ht, run_underlying hx, sizeOf, typeInfo, hi, asInt, asIntOf, h0]

/-- THERE IS NONE: a new row. -/
theorem append_grow {t tx ty e : TypeId} {i : TypeInfo} {z : Value} {dx : TypeDesc} {x : Value} {k : Nat} {news : List Value} (ht : P.underlying t = some (.slice e)) (hi : P.info? e = some i) (hz : i.zero = some z) (hzs : z.cells.size = i.size) (h0 : 0 < i.bytes ∨ True)
    (hx : P.underlying tx = some dx) (hs : Src P w i z dx x k news) (base : Option Addr) (n c : Nat) (olds : List Value) (hold : (Builtin.firstCells i.size n (.slice base n c)).run P w.drew = .ok olds.toArray w.drew)
    (hg : c < n + k) (h63 : n + k ≤ 9223372036854775807) (hfit : (n + k) * i.bytes ≤ 140737488355328) :
    (Builtin.append_ #[t, tx] ty #[.slice base n c, x]).run P w =
      .ok (.slice (some ⟨w.heap.size, 0, none⟩) (n + k) (grownCap w (n + k) c e))
        (w.drew.alloc (.cells ((olds ++ news) ++ (Builtin.zeroCells z.cells (grownCap w (n + k) c e - (n + k))).toList).toArray e)) := by
  have hroom : ¬ (n + k ≤ c) := by omega
  have h63' : ¬ (9223372036854775807 < ((n : Int) + (k : Int))) := by omega
  have h48 := growslice_fits hg hfit
  have h48' : ¬ (281474976710656 < Builtin.nextslicecap (n + k) c * i.bytes) := by omega
  have fin : ∀ A A' : Array Value, A = A' → w.drew.alloc (Obj.cells A e) = w.drew.alloc (Obj.cells A' e) := fun A A' h => by rw [h]
  cases hs with
  | slice e' a' k c' news h1 h2 =>
    simp only [Builtin.append_] 
    simp [run_underlying ht, run_underlying hx, sizeOf, typeInfo, zeroValue, hi, hz, Builtin.lenOf, hroom, h63', h48', Question.forced, hold, h2, newRow, grownCap]
    exact fin _ _ (by apply Array.ext'; simp)
  | string s =>
    have h2 := firstCells_string (P := P) (w := w.drew) s i.size
    simp only [Builtin.append_] 
    simp [run_underlying ht, run_underlying hx, sizeOf, typeInfo, zeroValue, hi, hz, Builtin.lenOf, hroom, h63', h48', Question.forced, hold, h2, newRow, grownCap]
    exact fin _ _ (by apply Array.ext'; simp)
  | int q q' k h1 h2 =>
    have h2' : ¬ (281474976710656 < (k : Int) * (i.bytes : Int)) := by omega
    have hneg : ¬ ((k : Int) < 0) := by omega
    by_cases hk : k * i.size = 0
    · have hz0 : Builtin.zeroCells z.cells k = #[] := zeroCells_zero _ _ (by rw [hzs]; exact hk)
      simp only [Builtin.append_] 
      simp [run_underlying ht, run_underlying hx, sizeOf, typeInfo, zeroValue, hi, hz, asInt, asIntOf, wrap_nat h1, h2', hneg, hroom, h63', h48', Question.forced, hold, hk, hz0, newRow, grownCap]
      exact fin _ _ (by apply Array.ext'; simp)
    · simp only [Builtin.append_] 
      simp [run_underlying ht, run_underlying hx, sizeOf, typeInfo, zeroValue, hi, hz, asInt, asIntOf, wrap_nat h1, h2', hneg, hroom, h63', h48', Question.forced, hold, hk, newRow, grownCap]
      exact fin _ _ (by apply Array.ext'; simp)
end Go.Sh

/- One operation: append over the abstract memory. -/
namespace Go.Sh
open Go.RowKit
set_option linter.unusedVariables false
set_option linter.unusedSimpArgs false

variable {P : Program} {J : Inj} {m m' : Mem} {B : Frame} {W w w' : World}

theorem zeroCells_flatten (z : Array Value) (k : Nat) : (Builtin.zeroCells z k).toList = (List.replicate k z.toList).flatten := by
  induction k with
  | zero => rw [zeroCells_zero z 0 (by simp)]; simp
  | succ k ih =>
    have hr : List.replicate (k + 1) z.toList = List.replicate k z.toList ++ [z.toList] := by rw [List.replicate_succ']
    rw [hr, List.flatten_append, ← ih]
    unfold Builtin.zeroCells
    simp only [Array.toList_map, Array.toList_range, Nat.add_mul, Nat.one_mul, List.range_add, List.map_append, List.map_map, List.flatten_cons, List.flatten_nil, List.append_nil]
    congr 1
    apply List.ext_getElem?
    intro i
    simp only [List.getElem?_map]
    by_cases hi : i < z.size
    · rw [List.getElem?_range hi]
      have : (k * z.size + i) % z.size = i := by rw [Nat.mul_comm, Nat.mul_add_mod]; exact Nat.mod_eq_of_lt hi
      simp [this, hi]
    · rw [List.getElem?_eq_none (by simp; omega), List.getElem?_eq_none (by simp; omega)]
      rfl

theorem zeroCells_len {z : Value} {i : TypeInfo} (hzs : z.cells.size = i.size) (k : Nat) : (Builtin.zeroCells z.cells k).toList.length = k * i.size := by
  simp [Builtin.zeroCells, hzs]

/-- the elder cells, as the model reads them -/
theorem olds_run (h : MRel P J m B W w) {a : Addr} {a' : Addr} {n c' z : Nat} {b : Blk} (hb : m.readable a.block = some b) (hlen : a.off + n * z ≤ b.cells.length) (hs : a.spot = none)
    (ha : n = 0 ∨ a' = ⟨J.blk a.block, J.base a.block + a.off, none⟩) :
    ∃ olds, LRel J (window b.cells a.off (n * z)) olds ∧ (Builtin.firstCells z n (.slice (some a') n c')).run P w = .ok olds.toArray w ∧ (Builtin.firstCells z n (.slice (some a') n c')).run P w.drew = .ok olds.toArray w.drew := by
  have hl : loadRow m a (n * z) = some (window b.cells a.off (n * z)) := by
    unfold loadRow
    rw [hs]
    simp [hb, hlen]
  obtain ⟨h1, cs', h2, h3⟩ := h.loadRow hl
  refine ⟨cs', h2, ?_⟩
  have hcl : cs'.length = n * z := by rw [← h2.1]; exact h1
  rcases ha with rfl | rfl
  · have : cs' = [] := List.length_eq_zero_iff.1 (by simpa using hcl)
    subst this
    constructor <;> simp [Builtin.firstCells, loadCells, loadCellsFrom]
  · constructor
    · exact run_firstCells_some (P := P) w z n _ n c' cs' hcl fun j v hv => by rw [Addr.add_lit]; exact h3 j v hv
    · exact run_firstCells_some (P := P) w.drew z n _ n c' cs' hcl fun j v hv => by rw [Addr.add_lit]; exact h3 j v hv

theorem LRel.take {xs ys : List Value} (h : LRel J xs ys) (k : Nat) : LRel J (xs.take k) (ys.take k) :=
  ⟨by simp [h.1], fun i x y hx hy => by
    rw [List.getElem?_take] at hx hy
    split at hx
    · rw [if_pos (by assumption)] at hy; exact h.2 i x y hx hy
    · cases hx⟩

theorem append_core (h : MRel P J m B W w) {t tx ty e : TypeId} {i : TypeInfo} {z : Value} {dx : TypeDesc} {s s' x' v : Value} {k : Nat} {news news' : List Value} (ht : P.underlying t = some (.slice e)) (hi : P.info? e = some i)
    (hz : i.zero = some z) (hx : P.underlying tx = some dx) (hs : VRel J s s') (hr : LRel J news news') (hsrc : Src P w i z dx x' k news') (he : sappend P t m s news k = some (v, m')) :
    ∃ J' v' w', J.le J' ∧ (Builtin.append_ #[t, tx] ty #[s', x']).run P w = .ok v' w' ∧ VRel J' v v' ∧ MRel P J' m' B W w' := by
  unfold sappend at he
  rw [ht] at he
  simp only [hi] at he
  split at he
  · cases he
  · rename_i hchk
    simp only [Bool.not_eq_true, Bool.not_eq_false', Bool.and_eq_true, decide_eq_true_eq, hz, Option.any_some, beq_iff_eq] at hchk
    obtain ⟨⟨⟨hpos, hzs⟩, hnl⟩, hone⟩ := hchk
    have hnl' : news'.length = k * i.size := hr.1 ▸ hnl
    split at he
    · -- onto nil
      have hs' := hs.closed_eq rfl
      subst hs'
      split at he
      · rename_i hk
        have hk0 : k = 0 := by simpa using hk
        subst hk0
        simp only [Option.some.injEq, Prod.mk.injEq] at he
        obtain ⟨rfl, rfl⟩ := he
        exact ⟨J, _, w, .rfl J, append_nil0 ht hi hz hzs hx hsrc, .clo _ rfl, h⟩
      · rename_i hk
        have hk0 : k ≠ 0 := by simpa using hk
        split at he
        · rename_i hb
          simp only [Bool.and_eq_true, decide_eq_true_eq] at hb
          simp only [Option.some.injEq, Prod.mk.injEq] at he
          obtain ⟨rfl, rfl⟩ := he
          have hrun := append_grow (ty := ty) ht hi hz hzs (Or.inr trivial) hx hsrc none 0 0 [] (by simp [Builtin.firstCells]) (by omega) (by omega) (by simpa using hb.1)
          have hge := grownCap_ge w (0 + k) 0 e
          have hle := grownCap_le_maxLen w (0 + k) 0 e (by simp only [maxLen]; omega)
          simp only [maxLen] at hle
          have hm := h.drew.alloc hr (Builtin.zeroCells z.cells (grownCap w (0 + k) 0 e - (0 + k))).toList e i hi
          refine ⟨_, _, _, J.le_snoc _ _ _ _, hrun, ?_, hm⟩
          have hsl := snoc_slice h.drew w.heap.size (news.length + (Builtin.zeroCells z.cells (grownCap w (0 + k) 0 e - (0 + k))).toList.length) i.size 0 k (grownCap w (0 + k) 0 e) (by omega) hle
            (by rw [zeroCells_len hzs, hnl, ← Nat.add_mul, Nat.zero_add]; congr 1; omega)
          simpa using hsl
        · cases he
    · -- onto a slice
      rename_i ad n c
      split at he
      · rename_i hb
        simp only [Bool.and_eq_true, decide_eq_true_eq, beq_iff_eq] at hb
        obtain ⟨⟨⟨hcn, _⟩, hb1⟩, hb2⟩ := hb
        have hb := And.intro hb1 hb2
        have hcn := hcn.symm
        subst hcn
        obtain ⟨s1, s2, a', c', rfl, s4, s5, s6, s7⟩ := hs.slice_inv
        obtain ⟨l, of, sp⟩ := ad
        simp only at s1 s2 s6 s7 he
        subst s1
        split at he
        · cases he
        · rename_i b hw
          obtain ⟨w1, w2, w3, w4⟩ := h.wr _ _ hw
          have hrd := Mem.readable_of_writable hw
          obtain ⟨i2, q1, q2⟩ := h.esz _ _ (Mem.writable_iff.1 hw).1
          split at he
          · cases he
          · rename_i hel
            have hel' : b.elem = e := by simpa using hel
            rw [hel', hi] at q1
            simp only [Option.some.injEq] at q1
            subst q1
            split at he
            · -- nothing is appended
              rename_i hk
              have hk0 : k = 0 := by simpa using hk
              subst hk0
              simp only [Option.some.injEq, Prod.mk.injEq] at he
              obtain ⟨rfl, rfl⟩ := he
              have hn0 : news' = [] := List.length_eq_zero_iff.1 (by simpa using hnl')
              subst hn0
              refine ⟨J, _, w, .rfl J, append_room ht hi hz hzs hx hsrc a' n c' (by omega) w (by simp [storeCells]), ?_, h⟩
              exact .slice l of _ a' c' s2 s4 s5 s6 s7
            · rename_i hk
              have hk0 : k ≠ 0 := by simpa using hk
              rw [← q2] at s6
              split at he
              · -- in place, over cells that are known
                rename_i hfit
                simp only [Option.some.injEq, Prod.mk.injEq] at he
                obtain ⟨rfl, rfl⟩ := he
                have hroom : n + k ≤ c' := by
                  have h1 : (n + k) * i.size ≤ c' * i.size := by rw [Nat.add_mul]; omega
                  exact Nat.le_of_mul_le_mul_right h1 hpos
                have ha' := s7.resolve_left (by omega)
                subst ha'
                have hst := run_storeCells_rel h hw hr hfit hone
                refine ⟨J, _, _, .rfl J, append_room ht hi hz hzs hx hsrc _ n c' hroom _ (by rw [Addr.add_lit, Nat.add_assoc]; exact hst), ?_, h.setCells hw hr hfit⟩
                exact .slice l of _ _ c' s2 hroom s5 (by rw [← q2]; exact s6) (Or.inr rfl)
              · rename_i hnofit
                have he2 : (of = 0 ∨ isI64 P e = true) ∧ of + n * i.size ≤ b.cells.length ∧ some ((.slice (some ⟨m.next, 0, none⟩) (n + k) (n + k) : Value), m.grow b (window b.cells of (n * i.size) ++ news) (of + n * i.size == b.cells.length)) = some (v, m') := by
                  split at he
                  · rename_i hend
                    simp only [Bool.and_eq_true, decide_eq_true_eq, beq_iff_eq] at hend
                    obtain ⟨hend, rfl⟩ := hend
                    refine ⟨Or.inl rfl, hend, ?_⟩
                    rw [← he]
                    simp [window]
                  · split at he
                    · rename_i hend
                      simp only [Bool.and_eq_true, decide_eq_true_eq] at hend
                      exact ⟨Or.inr hend.2, hend.1, he⟩
                    · cases he
                obtain ⟨hof, hend, he⟩ := he2
                simp only [Option.some.injEq, Prod.mk.injEq] at he
                obtain ⟨rfl, rfl⟩ := he
                rw [← hel'] at hof
                have hJl0 := h.blk _ _ hrd
                by_cases hroom : n + k ≤ c'
                · -- there is room
                  have ha' := s7.resolve_left (by omega)
                  subst ha'
                  have hmul : (n + k) * i.size ≤ c' * i.size := Nat.mul_le_mul_right _ hroom
                  rw [Nat.add_mul] at hmul
                  have hfit2 : of + n * i.size + news'.length ≤ J.ext l := by rw [hnl']; omega
                  have w5 : ∀ j, j < news'.length → (w.cell? ⟨J.blk l, J.base l + of + n * i.size + j, none⟩).isSome = true ∧ w.frozen? ⟨J.blk l, J.base l + of + n * i.size + j, none⟩ = false := fun j hj => by
                    have := w4 (of + n * i.size + j) (by omega)
                    rw [show J.base l + of + n * i.size + j = J.base l + (of + n * i.size + j) by omega]
                    exact this
                  have hst := run_storeCells_cells (P := P) (J.blk l) (J.base l + of + n * i.size) news' 0 w (fun j hj => (w5 _ (by omega)).1) (fun j hj => (w5 _ (by omega)).2) (fun u hu => by
                    obtain ⟨q, hq⟩ := List.getElem?_of_mem hu
                    obtain ⟨y, hy, hyu⟩ := hr.get' hq
                    exact hyu.one (List.all_eq_true.1 hone y (List.mem_of_getElem? hy)))
                  simp only [Nat.add_zero] at hst
                  have hin := World.cell?_setCells_in (J.blk l) news' (J.base l + of + n * i.size) w (fun j hj => (w5 _ (by omega)).1)
                  have hJl : J.blk l < (w.setCells (J.blk l) (J.base l + of + n * i.size) news').heap.size := by rw [heap_size_setCells]; exact h.blk _ _ hrd
                  have hsome : ∀ x : Addr, (w.cell? x).isSome = true → ((w.setCells (J.blk l) (J.base l + of + n * i.size) news').cell? x).isSome = true := by
                    intro x hx
                    by_cases hin2 : x.block = J.blk l ∧ x.spot = none ∧ J.base l + of + n * i.size ≤ x.off ∧ x.off < J.base l + of + n * i.size + news'.length
                    · obtain ⟨e1, e2, e3, e4⟩ := hin2
                      have := hin (x.off - (J.base l + of + n * i.size)) (by omega)
                      rw [show J.base l + of + n * i.size + (x.off - (J.base l + of + n * i.size)) = x.off by omega] at this
                      have hxx : x = ⟨J.blk l, x.off, none⟩ := by cases x; simp_all
                      rw [hxx, this]; rfl
                    · rw [World.cell?_setCells_out _ _ _ _ _ (fun e1 e2 => by
                        by_cases g : x.off < J.base l + of + n * i.size
                        · exact Or.inl g
                        · exact Or.inr (Nat.le_of_not_lt fun g2 => hin2 ⟨e1, e2, by omega, g2⟩))]
                      exact hx
                  have hwl : (window b.cells of (n * i.size)).length = n * i.size := window_length hend
                  have hm := h.extend (w' := w.setCells (J.blk l) (J.base l + of + n * i.size) news') hw of (n * i.size) hend news (J.blk l) (J.base l + of) (J.ext l - of) (by rw [hnl] at *; omega) (by
                      rcases hof with rfl | g
                      · exact w2.imp (fun g => by rw [g]) id
                      · exact Or.inr g) (fun _ => rfl) w1 hJl (by rw [heap_size_setCells]; omega) (below_setCells w1 _ _ _ h.below)
                    (by rw [hr.1]; omega) (fun x hx hxo => World.cell?_setCells_out _ _ _ _ _ (fun e1 e2 => Or.inl (hxo e1))) (fun x _ hx => hsome x hx) (fun x _ => World.frozen?_setCells _ _ _ _ x) (fun k _ hk => heap_setCells _ _ _ _ k hk) (Or.inl rfl)
                    (fun e1 => by have := h.blk _ _ hrd; omega) (fun j hj => by
                      have := w4 (of + j) (by omega)
                      rw [show J.base l + of + j = J.base l + (of + j) by omega]
                      exact ⟨hsome _ this.1, by rw [World.frozen?_setCells]; exact this.2⟩)
                    (fun j u hu => by
                      by_cases hj : j < n * i.size
                      · rw [List.getElem?_append_left (by omega)] at hu
                        obtain ⟨_, hu⟩ := window_get hu
                        obtain ⟨v', g1, g2⟩ := h.rd _ _ hrd _ u hu
                        exact ⟨v', by rw [World.cell?_setCells_out _ _ _ _ _ (fun _ _ => Or.inl (by simp only; omega)), show J.base l + of + j = J.base l + (of + j) by omega]; exact g1, g2⟩
                      · rw [List.getElem?_append_right (by omega)] at hu
                        rw [hwl] at hu
                        obtain ⟨y, hy, hyu⟩ := hr.get hu
                        have hjl := (List.getElem?_eq_some_iff.1 hy).1
                        have := hin (j - n * i.size) hjl
                        rw [show J.base l + of + n * i.size + (j - n * i.size) = J.base l + of + j by omega] at this
                        refine ⟨y, ?_, hyu⟩
                        rw [this]
                        have := (List.getElem?_eq_some_iff.1 hy).2
                        rw [this])
                  refine ⟨_, _, _, J.le_snoc _ _ _ _, append_room ht hi hz hzs hx hsrc _ n c' hroom _ (by rw [Addr.add_lit]; exact hst), ?_, hm (by rw [shape_setCells]; exact h.sh l b hw)⟩
                  have hsl := snoc_slice' h (J.blk l) (J.base l + of) (J.ext l - of) (J.esz l) (n + k) c' hroom s5 (by rw [← q2]; omega)
                  exact hsl
                · -- there is none
                  obtain ⟨olds, ho1, ho2, ho3⟩ := olds_run (a' := a') (c' := c') (z := i.size) (n := n) h (a := ⟨l, of, none⟩) hrd (by simpa using hend) rfl (by
                    rcases s7 with g | g
                    · exact Or.inl (by omega)
                    · exact Or.inr g)
                  have hrun := append_grow (ty := ty) ht hi hz hzs (Or.inr trivial) hx hsrc (some a') n c' olds ho3 (by omega) (by omega) hb.1
                  have hge := grownCap_ge w (n + k) c' e
                  have hle := grownCap_le_maxLen w (n + k) c' e (by simp only [maxLen]; omega)
                  simp only [maxLen] at hle
                  have hol : olds.length = n * i.size := by rw [← ho1.1]; exact window_length (by simpa using hend)
                  generalize hZ : (Builtin.zeroCells z.cells (grownCap w (n + k) c' e - (n + k))).toList = Z at hrun
                  have hZl : Z.length = (grownCap w (n + k) c' e - (n + k)) * i.size := by rw [← hZ]; exact zeroCells_len hzs _
                  have hcell : ∀ j, (w.drew.alloc (.cells ((olds ++ news') ++ Z).toArray e)).cell? ⟨w.heap.size, j, none⟩ = ((olds ++ news') ++ Z)[j]? := by
                    intro j
                    have hal : (w.drew.alloc (.cells ((olds ++ news') ++ Z).toArray e)).heap[w.heap.size]? = some (.cells ((olds ++ news') ++ Z).toArray e) := heap_alloc_new w.drew _
                    unfold World.cell?
                    simp only [hal]
                    simp
                  have hfro : ∀ j, (w.drew.alloc (.cells ((olds ++ news') ++ Z).toArray e)).frozen? ⟨w.heap.size, j, none⟩ = false := by
                    intro j
                    have hal : (w.drew.alloc (.cells ((olds ++ news') ++ Z).toArray e)).heap[w.heap.size]? = some (.cells ((olds ++ news') ++ Z).toArray e) := heap_alloc_new w.drew _
                    unfold World.frozen?
                    simp only [hal]
                    simp
                  have hsz : (w.drew.alloc (.cells ((olds ++ news') ++ Z).toArray e)).heap.size = w.heap.size + 1 := by show (w.heap.push _).size = _; simp
                  have hold : ∀ x : Addr, x.block < w.heap.size → (w.drew.alloc (.cells ((olds ++ news') ++ Z).toArray e)).cell? x = w.cell? x := fun x hx => World.cell?_of_block (w := w) (Below.heap_alloc w.drew _ _ hx)
                  have hfold : ∀ x : Addr, x.block < w.heap.size → (w.drew.alloc (.cells ((olds ++ news') ++ Z).toArray e)).frozen? x = w.frozen? x := fun x hx => World.frozen?_of_block (w := w) (Below.heap_alloc w.drew _ _ hx)
                  have hext : n * i.size + news'.length + Z.length = grownCap w (n + k) c' e * i.size := by
                    rw [hnl', hZl, ← Nat.add_mul, ← Nat.add_mul]; congr 1; omega
                  have hm := h.extend (w' := w.drew.alloc (.cells ((olds ++ news') ++ Z).toArray e)) hw of (n * i.size) hend news w.heap.size 0 (grownCap w (n + k) c' e * i.size) (by rw [hnl] at *; omega) (Or.inl rfl) (fun e1 => by have := h.blk _ _ hrd; omega) (fun hk => Nat.lt_irrefl _ (h.size _ hk)) (by rw [hsz]; omega) (by rw [hsz]; omega)
                    (h.drew.below.alloc h.size _) (by rw [hr.1]; omega) (fun x hx _ => hold x hx) (fun x hx g => by rw [hold x hx]; exact g) (fun x hx => hfold x hx) (fun k hk _ => Below.heap_alloc w.drew _ k hk) (Or.inr rfl) (fun _ x hx => hold x hx)
                    (fun j hj => by rw [Nat.zero_add]; exact ⟨by rw [hcell, List.getElem?_eq_getElem (by simp [hol]; omega)]; rfl, hfro j⟩)
                    (fun j u hu => by
                      have hboth := ho1.append hr
                      obtain ⟨y, hy, hyu⟩ := hboth.get hu
                      refine ⟨y, ?_, hyu⟩
                      rw [Nat.zero_add, hcell, List.getElem?_append_left (List.getElem?_eq_some_iff.1 hy).1]
                      exact hy)
                  refine ⟨_, _, _, J.le_snoc _ _ _ _, hrun, ?_, hm ⟨((olds ++ news') ++ Z).toArray.size, by
                    have hal : (w.drew.alloc (.cells ((olds ++ news') ++ Z).toArray e)).heap[w.heap.size]? = some (.cells ((olds ++ news') ++ Z).toArray e) := heap_alloc_new w.drew _
                    unfold World.shape?
                    simp only [hal, hel']⟩⟩
                  exact snoc_slice h w.heap.size (grownCap w (n + k) c' e * i.size) (J.esz l) 0 _ _ hge hle (by rw [← q2, Nat.zero_add])
      · cases he
    · cases he
end Go.Sh
