/-
  AM, part 1: an abstract machine over Go's code in the model: memory as a list of objects, no order left open. Definitions alone.
    Conditions: none; what it is good for is proved in the later parts.
-/
import Derived.WalkKit
namespace Go.Proofs.YtfbldlgjlgcpoaaDoor.AM
open Go.RowKit

/-- An object of the abstract memory: a row of cells (how often it was moved by append; may it be written?), a map, or nothing that may be touched. -/
inductive AObj where
  | cells (vals : List Value) (ver : Nat) (ro : Bool)
  | map (es : List (Value × Value))
  | gone
  deriving Inhabited

abbrev Heap := List AObj

structure St where
  t : List Value
  h : Heap

def agg (l : List Value) : Value := .agg l.toArray
def tup (l : List Value) : Value := .tuple l.toArray
/-- What lies in one cell, and leads nowhere. -/
def plain1 : Value → Bool
  | .bool _ | .int _ _ | .float _ _ | .complex _ _ _ | .string _ | .pointer none | .slice none 0 0 | .map none | .chan none | .nilFunc | .nilIface => true
  | _ => false
def plain : Value → Bool
  | .agg cs => cs.toList.all plain1
  | v => plain1 v
/-- No address in it. -/
def flat : Value → Bool
  | .tuple cs => cs.toList.all plain
  | v => plain v
/-- The cells of a value. -/
def laid : Value → Option (List Value)
  | .tuple _ => none
  | .agg cs => some cs.toList
  | v => some [v]
/-- A pointer, a slice of the abstract memory: object, place, which of its moves. -/
def ptr (b o v : Nat) : Value := .pointer (some ⟨b, o, some v⟩)
/-- (The third number of a slice is here the size of its elements.) -/
def slc (b o v n c : Nat) : Value := .slice (some ⟨b, o, some v⟩) n c
def nils : Value := .slice none 0 0

def Heap.read (h : Heap) (a : Addr) (n : Nat) : Option (List Value) :=
  match h[a.block]? with
  | some (.cells vals ver _) => if a.spot = some ver ∧ a.off + n ≤ vals.length then some ((vals.drop a.off).take n) else none
  | _ => none
def Heap.read1 (h : Heap) (a : Addr) : Option Value :=
  match h[a.block]? with
  | some (.cells vals ver _) => if a.spot = some ver then vals[a.off]? else none
  | _ => none
def splice (l : List Value) (i : Nat) (ys : List Value) : List Value := l.take i ++ ys ++ l.drop (i + ys.length)
def Heap.write (h : Heap) (a : Addr) (ys : List Value) : Option Heap :=
  match h[a.block]? with
  | some (.cells vals ver false) => if a.spot = some ver ∧ a.off + ys.length ≤ vals.length then some (h.set a.block (.cells (splice vals a.off ys) ver false)) else none
  | _ => none
def Heap.write1 (h : Heap) (a : Addr) (y : Value) : Option Heap :=
  match h[a.block]? with
  | some (.cells vals ver false) => if a.spot = some ver ∧ a.off < vals.length then some (h.set a.block (.cells (vals.set a.off y) ver false)) else none
  | _ => none

/-- What is held against what. -/
inductive EqK where
  | bool | int | str | ptr | slice | map | func | iface
  deriving DecidableEq

/-- What a statement's part does, its types resolved. -/
inductive AOp where
  | mv (x : Operand)
  | pick (c a b : Operand)
  | alloc (zero : List Value)
  | box (n : Nat) (x : Operand)
  | build (zero : List Value) (parts : List (Nat × Nat × Operand))
  | mkRow (zero : List Value) (len : Nat) (parts : List (Nat × Nat × Operand))
  | load1 (a : Operand)
  | load (n : Nat) (a : Operand)
  | store1 (a x : Operand)
  | store (n : Nat) (a x : Operand)
  | nilCheck (x : Operand)
  | bin (op : BinOp) (x y : Operand)
  | un (op : UnOp) (x : Operand)
  | conv (k : IntKind) (x : Operand)
  | same (x : Operand)
  | iface (t : TypeId) (x : Operand)
  | func (f : FuncId) (first captured : List Operand)
  | slice (size : Nat) (x : Operand) (lo hi : Option Operand)
  | sliceStr (x : Operand) (lo hi : Option Operand)
  | off (n : Nat) (x : Operand)
  | field (n : Nat) (i : Nat) (x : Operand)
  | field1 (i : Nat) (x : Operand)
  | atRow (size : Nat) (x i : Operand)
  | atArr (len size : Nat) (x i : Operand)
  | idxArr (len size : Nat) (x i : Operand)
  | idxStr (x i : Operand)
  | extract (x : Operand) (i : Nat)
  | len (x : Operand)
  | lenStr (x : Operand)
  | append (size bytes : Nat) (x y : Operand)
  | mkSlice (size bytes : Nat) (zero : List Value) (n : Operand)
  | call (f : FuncId) (args : List Operand)
  | callv (f : Operand) (args : List Operand)
  | mkMap
  | lookup (kk : EqK) (zero : Value) (m k : Operand) (ok : Bool)
  | update (kk : EqK) (m k v : Operand)
  | lenMap (m : Operand)
  | max2 (x y : Operand)
  | min2 (x y : Operand)
  | again1 (a : Operand) (t : Nat)
  | again (n : Nat) (a : Operand) (t : Nat)
  | eqv (neg : Bool) (k : EqK) (x y : Operand)
  | eqAgg (neg : Bool) (ks : List EqK) (x y : Operand)
  | sliceArr (len size : Nat) (x : Operand) (lo hi : Option Operand)

structure AOper where
  dst : Option Nat
  op : AOp
  guard : Option (Nat × Bool)

inductive ACode where
  | skip
  | ops (l : List AOper)
  | seq (a b : ACode)
  | cond (c : Operand) (a b : ACode)
  | block (id : Nat) (b : ACode)
  | loop (b : ACode)
  | exit (id : Nat)
  | ret

inductive AEx where
  | normal
  | exit (id : Nat)
  | ret
  deriving DecidableEq

inductive ARes where
  | tmp (t : Nat)
  | cell1 (t : Nat)
  | cells (t n : Nat)

structure AFunc where
  ntmps : Nat
  res : List ARes
  body : ACode

def St.eval (s : St) : Operand → Value
  | .tmp i => s.t.getD i undef
  | .const v => v
  | .global g => ptr g 0 0
  | .func f => .func (.func f) #[] #[]

def St.put (s : St) (d : Option Nat) (v : Value) (h : Heap) : St :=
  match d with
  | some i => ⟨s.t.set i v, h⟩
  | none => ⟨s.t, h⟩

def leafEq : EqK → Value → Value → Option Bool
  | .bool, .bool a, .bool b => some (a == b)
  | .int, .int k a, .int k' b => if k = k' then some (a == b) else none
  | .str, .string a, .string b => some (a == b)
  | .ptr, .pointer none, .pointer b => some b.isNone
  | .ptr, .pointer (some _), .pointer none => some false
  | .slice, .slice none _ _, .slice b _ _ => some b.isNone
  | .slice, .slice (some _) _ _, .slice none _ _ => some false
  | .func, .nilFunc, .nilFunc => some true
  | .func, .nilFunc, .func _ _ _ => some false
  | .func, .func _ _ _, .nilFunc => some false
  | .iface, .nilIface, .nilIface => some true
  | .iface, .nilIface, .iface _ _ => some false
  | .iface, .iface _ _, .nilIface => some false
  | .map, .map none, .map b => some b.isNone
  | .map, .map (some _), .map none => some false
  | _, _, _ => none
def rowEq : List EqK → List Value → List Value → Option Bool
  | [], [], [] => some true
  | k :: ks, x :: xs, y :: ys => match leafEq k x y with
    | some true => rowEq ks xs ys
    | some false => some false
    | none => none
  | _, _, _ => none
def binInt (op : BinOp) (k : IntKind) (a b : Int) : Option Value :=
  match op with
  | .add => some (.int k (k.wrap (a + b)))
  | .sub => some (.int k (k.wrap (a - b)))
  | .mul => some (.int k (k.wrap (a * b)))
  | .quo => if b = 0 then none else some (.int k (k.wrap (a.tdiv b)))
  | .rem => if b = 0 then none else some (.int k (a.tmod b))
  | .and => some (.int k (Go.bits .and k a b))
  | .or => some (.int k (Go.bits .or k a b))
  | .xor => some (.int k (Go.bits .xor k a b))
  | .andNot => some (.int k (Go.bits .andNot k a b))
  | .eql => some (.bool (a == b))
  | .neq => some (.bool (a != b))
  | .lss => some (.bool (a < b))
  | .leq => some (.bool (a ≤ b))
  | .gtr => some (.bool (a > b))
  | .geq => some (.bool (a ≥ b))
  | _ => none
def shl (k : IntKind) (a b : Int) : Int := k.wrap (a * 2 ^ min b.toNat k.bits)
def shr (k : IntKind) (a b : Int) : Int := a.fdiv (2 ^ min b.toNat k.bits)
def binVal (op : BinOp) (x y : Value) : Option Value :=
  match op, x, y with
  | .shl, .int k a, .int _ b => if b < 0 then none else some (.int k (shl k a b))
  | .shr, .int k a, .int _ b => if b < 0 then none else some (.int k (shr k a b))
  | op, .int k a, .int k' b => if k = k' then binInt op k a b else none
  | .add, .string a, .string b => if a.size + b.size ≤ 140737488355328 then some (.string (a ++ b)) else none
  | .eql, .string a, .string b => some (.bool (a == b))
  | .neq, .string a, .string b => some (.bool (a != b))
  | _, _, _ => none
def unVal (op : UnOp) (x : Value) : Option Value :=
  match op, x with
  | .neg, .int k n => some (.int k (k.wrap (0 - n)))
  | .not, .bool b => some (.bool !b)
  | .xor, .int k n => some (.int k (Go.bits .xor k (if k.signed then -1 else k.max) n))
  | _, _ => none

def isTup : Value → Bool
  | .tuple _ => true
  | _ => false
/-- A row of cells with parts laid in: place, cells, what. -/
def fillRow (l : List Value) : List (Nat × Nat × Value) → Option (List Value)
  | [] => some l
  | (i, n, v) :: r => match laid v with
    | some c => if c.length = n ∧ i + n ≤ l.length then fillRow (splice l i c) r else none
    | none => none
def zeros (zero : List Value) : Nat → List Value
  | 0 => []
  | n + 1 => zero ++ zeros zero n
def bound (lo : Option Value) (d : Nat) : Option Nat :=
  match lo with
  | none => some d
  | some (.int _ i) => if 0 ≤ i then some i.toNat else none
  | _ => none
/-- A value that may be a key of this kind. -/
def keyOk : EqK → Value → Bool
  | .bool, .bool _ => true
  | .int, .int _ _ => true
  | .str, .string _ => true
  | _, _ => false
def findKey (kk : EqK) (k : Value) : List (Value × Value) → Option (Option Value)
  | [] => some none
  | (j, v) :: r => match leafEq kk k j with
    | some true => some (some v)
    | some false => findKey kk k r
    | none => none
def setKey (kk : EqK) (k v : Value) : List (Value × Value) → Option (List (Value × Value))
  | [] => some [(k, v)]
  | (j, u) :: r => match leafEq kk k j with
    | some true => some ((k, v) :: r)
    | some false => (setKey kk k v r).map ((j, u) :: ·)
    | none => none
/-- What a map has for a key. -/
def mapAt (h : Heap) (kk : EqK) (k : Value) : Value → Option (Option Value)
  | .map none => some none
  | .map (some b) => match h[b]? with
    | some (.map es) => findKey kk k es
    | _ => none
  | _ => none
/-- What is appended: cells, elements. -/
def srcOf (h : Heap) (size : Nat) : Value → Option (List Value × Nat)
  | .slice (some p) n c => if c = size then (h.read p (n * size)).map (·, n) else none
  | .slice none _ _ => some ([], 0)
  | .string s => if size = 1 then some (s.data.toList.map fun b => .int .u8 b.toNat, s.size) else none
  | _ => none
/-- The most that a row which grows may take. -/
def roomFor : Nat := 140737488355328
def appendTo (h : Heap) (size bytes : Nat) : Value → Option (List Value × Nat) → Option (Value × Heap)
  | .slice none _ _, some (ys, n) =>
    if n = 0 then some (nils, h) else if n * bytes ≤ roomFor then some (slc h.length 0 0 n size, h ++ [.cells ys 0 false]) else none
  | .slice (some p) m c, some (ys, n) =>
    match h[p.block]? with
    | some (.cells vals ver false) =>
      if c = size ∧ p.spot = some ver ∧ p.off = 0 ∧ m * size ≤ vals.length ∧ (m + n) * bytes ≤ roomFor then
        some (slc p.block 0 (ver + 1) (m + n) size, h.set p.block (.cells (vals.take (m * size) ++ ys) (ver + 1) false))
      else none
    | _ => none
  | _, _ => none

abbrev Caller := FuncId → List Value → Heap → Option (Value × Heap)

open Classical in
noncomputable def evOp (call : Caller) (ρ : Operand → Value) (h : Heap) : AOp → Option (Value × Heap)
  | .mv x => some (ρ x, h)
  | .pick c a b => match ρ c with
    | .bool t => some (if t then ρ a else ρ b, h)
    | _ => none
  | .alloc z => some (ptr h.length 0 0, h ++ [.cells z 0 false])
  | .box n x => match laid (ρ x) with
    | some l => if l.length = n then some (ptr h.length 0 0, h ++ [.cells l 0 false]) else none
    | none => none
  | .build z ps => (fillRow z (ps.map fun p => (p.1, p.2.1, ρ p.2.2))).map fun l => (agg l, h)
  | .mkRow z n ps => (fillRow (zeros z n) (ps.map fun p => (p.1, p.2.1, ρ p.2.2))).map fun l => (slc h.length 0 0 n z.length, h ++ [.cells l 0 false])
  | .load1 a => match ρ a with
    | .pointer (some p) => (h.read1 p).map (·, h)
    | _ => none
  | .load n a => match ρ a with
    | .pointer (some p) => (h.read p n).map fun l => (agg l, h)
    | _ => none
  | .store1 a x => match ρ a with
    | .pointer (some p) => match ρ x with
      | .agg _ => none
      | .tuple _ => none
      | v => (h.write1 p v).map (undef, ·)
    | _ => none
  | .store n a x => match ρ a, ρ x with
    | .pointer (some p), .agg cs => if cs.size = n then (h.write p cs.toList).map (undef, ·) else none
    | _, _ => none
  | .nilCheck x => match ρ x with
    | .pointer (some p) => some (.pointer (some p), h)
    | .func (.func f) a b => some (.func (.func f) a b, h)
    | _ => none
  | .bin op x y => (binVal op (ρ x) (ρ y)).map (·, h)
  | .un op x => (unVal op (ρ x)).map (·, h)
  | .conv k x => match ρ x with
    | .int _ n => some (.int k (k.wrap n), h)
    | _ => none
  | .same x => match ρ x with
    | .string s => some (.string s, h)
    | _ => none
  | .iface t x => some (.iface t (ρ x), h)
  | .func f a b => some (.func (.func f) (a.map ρ).toArray (b.map ρ).toArray, h)
  | .slice size x lo hi => match ρ x with
    | .slice (some p) n c => match bound (lo.map ρ) 0, bound (hi.map ρ) n with
      | some l, some k => if c = size ∧ l ≤ k ∧ k ≤ n then some (.slice (some { p with off := p.off + l * size }) (k - l) c, h) else none
      | _, _ => none
    | .slice none _ _ => match bound (lo.map ρ) 0, bound (hi.map ρ) 0 with
      | some 0, some 0 => some (nils, h)
      | _, _ => none
    | _ => none
  | .sliceStr x lo hi => match ρ x with
    | .string s => match bound (lo.map ρ) 0, bound (hi.map ρ) s.size with
      | some l, some k => if l ≤ k ∧ k ≤ s.size then some (.string (s.extract l k), h) else none
      | _, _ => none
    | _ => none
  | .off n x => match ρ x with
    | .pointer (some p) => some (.pointer (some { p with off := p.off + n }), h)
    | _ => none
  | .field n i x => match ρ x with
    | .agg cs => if i + n ≤ cs.size then some (agg ((cs.toList.drop i).take n), h) else none
    | _ => none
  | .field1 i x => match ρ x with
    | .agg cs => (cs.toList[i]?).map (·, h)
    | _ => none
  | .atRow size x i => match ρ x, ρ i with
    | .slice (some p) n c, .int _ k => if c = size ∧ 0 ≤ k ∧ k < n then some (.pointer (some { p with off := p.off + k.toNat * size }), h) else none
    | _, _ => none
  | .atArr len size x i => match ρ x, ρ i with
    | .pointer (some p), .int _ k => if 0 ≤ k ∧ k < len then some (.pointer (some { p with off := p.off + k.toNat * size }), h) else none
    | _, _ => none
  | .idxArr len size x i => match ρ x, ρ i with
    | .agg cs, .int _ k => if 0 ≤ k ∧ k < len then (cs.toList[k.toNat * size]?).map (·, h) else none
    | _, _ => none
  | .idxStr x i => match ρ x, ρ i with
    | .string s, .int _ k => if 0 ≤ k then (s.data.toList[k.toNat]?).map fun b => (.int .u8 b.toNat, h) else none
    | _, _ => none
  | .extract x i => match ρ x with
    | .tuple vs => (vs.toList[i]?).map (·, h)
    | _ => none
  | .len x => match ρ x with
    | .slice _ n _ => some (.int .i64 n, h)
    | _ => none
  | .lenStr x => match ρ x with
    | .string s => some (.int .i64 s.size, h)
    | _ => none
  | .append size bytes x y => appendTo h size bytes (ρ x) (srcOf h size (ρ y))
  | .mkSlice size bytes z n => match ρ n with
    | .int _ k => if 0 ≤ k ∧ k * bytes ≤ roomFor then some (slc h.length 0 0 k.toNat size, h ++ [.cells (zeros z k.toNat) 0 false]) else none
    | _ => none
  | .call f as => call f (as.map ρ) h
  | .callv f as => match ρ f with
    | .func (.func g) a b => call g (a.toList ++ as.map ρ ++ b.toList) h
    | _ => none
  | .mkMap => some (.map (some h.length), h ++ [.map []])
  | .lookup kk z m k ok =>
    match (if keyOk kk (ρ k) then mapAt h kk (ρ k) (ρ m) else none) with
    | some (some v) => some (if ok then tup [v, .bool true] else v, h)
    | some none => some (if ok then tup [z, .bool false] else z, h)
    | none => none
  | .update kk m k v => match ρ m with
    | .map (some b) => match h[b]? with
      | some (.map es) => if keyOk kk (ρ k) then (setKey kk (ρ k) (ρ v) es).map fun es' => (undef, h.set b (.map es')) else none
      | _ => none
    | _ => none
  | .lenMap m => match ρ m with
    | .map none => some (.int .i64 0, h)
    | .map (some b) => match h[b]? with
      | some (.map es) => some (.int .i64 es.length, h)
      | _ => none
    | _ => none
  | .max2 x y => match ρ x, ρ y with
    | .int k a, .int _ b => some (.int k (if a < b then b else a), h)
    | _, _ => none
  | .min2 x y => match ρ x, ρ y with
    | .int k a, .int _ b => some (.int k (if b < a then b else a), h)
    | _, _ => none
  | .again1 a t => match ρ a with
    | .pointer (some p) => if h.read1 p = some (ρ (.tmp t)) ∧ isTup (ρ (.tmp t)) = false then some (undef, h) else none
    | _ => none
  | .again n a t => match ρ a with
    | .pointer (some p) => if (h.read p n).map agg = some (ρ (.tmp t)) ∧ isTup (ρ (.tmp t)) = false then some (undef, h) else none
    | _ => none
  | .eqv neg k x y => (leafEq k (ρ x) (ρ y)).map fun b => (.bool (b != neg), h)
  | .eqAgg neg ks x y => match ρ x, ρ y with
    | .agg a, .agg b => if a.size = ks.length ∧ b.size = ks.length then (rowEq ks a.toList b.toList).map fun b => (.bool (b != neg), h) else none
    | _, _ => none
  | .sliceArr len size x lo hi => match ρ x with
    | .pointer (some p) => match bound (lo.map ρ) 0, bound (hi.map ρ) len with
      | some l, some k => match h[p.block]? with
        | some (.cells vals ver _) => if p.spot = some ver ∧ p.off + len * size ≤ vals.length ∧ l ≤ k ∧ k ≤ len then some (.slice (some { p with off := p.off + l * size }) (k - l) size, h) else none
        | _ => none
      | _, _ => none
    | _ => none

def wants (s : St) : Option (Nat × Bool) → Bool
  | none => true
  | some (j, b) => match s.t.getD j undef with
    | .bool c => c == b
    | _ => false
noncomputable def evOper (call : Caller) (o : AOper) (s : St) : Option St :=
  if wants s o.guard then (evOp call s.eval s.h o.op).map fun r => s.put o.dst r.1 r.2 else some (s.put o.dst undef s.h)
noncomputable def evOps (call : Caller) : List AOper → St → Option St
  | [], s => some s
  | o :: l, s => (evOper call o s).bind (evOps call l)

def aRes (s : St) : ARes → Option Value
  | .tmp t => some (s.t.getD t undef)
  | .cell1 t => match s.t.getD t undef with
    | .pointer (some p) => s.h.read1 p
    | _ => none
  | .cells t n => match s.t.getD t undef with
    | .pointer (some p) => (s.h.read p n).map agg
    | _ => none
def aResults (s : St) : List ARes → Option Value
  | [r] => aRes s r
  | l => (l.mapM (aRes s)).map tup

open Classical in
/-- What is left of the memory behind a call: where its answer has no address, and what was there is as it was, just that. -/
noncomputable def finish (h : Heap) (v : Value) (h' : Heap) : Heap := if flat v = true ∧ h'.take h.length = h then h else h'

/-- The functions of a program: those that are read, and what is known of others. -/
structure Funcs where
  fn : FuncId → Option AFunc
  ext : Caller
instance : CoeFun Funcs fun _ => FuncId → Option AFunc := ⟨Funcs.fn⟩

mutual
noncomputable def evC (F : Funcs) : Nat → ACode → St → Option (AEx × St)
  | 0, _, _ => none
  | n + 1, c, s => match c with
    | .skip => some (.normal, s)
    | .ops l => (evOps (evF F n) l s).map fun s' => (.normal, s')
    | .seq a b => match evC F n a s with
      | some (.normal, s') => evC F n b s'
      | r => r
    | .cond c a b => match s.eval c with
      | .bool true => evC F n a s
      | .bool false => evC F n b s
      | _ => none
    | .block id b => match evC F n b s with
      | some (.exit j, s') => some (if j = id then .normal else .exit j, s')
      | r => r
    | .loop b => match evC F n b s with
      | some (.normal, s') => evC F n (.loop b) s'
      | r => r
    | .exit id => some (.exit id, s)
    | .ret => some (.ret, s)
noncomputable def evF (F : Funcs) : Nat → Caller
  | 0, _, _, _ => none
  | n + 1, f, args, h => match F f with
    | none => F.ext f args h
    | some fn => match evC F n fn.body ⟨args ++ List.replicate (fn.ntmps - args.length) undef, h⟩ with
      | some (.exit _, _) => none
      | some (_, s) => (aResults s fn.res).map fun v => (v, finish h v s.h)
      | none => none
end
end Go.Proofs.YtfbldlgjlgcpoaaDoor.AM

namespace Go.Proofs.YtfbldlgjlgcpoaaDoor.AM
open Go.RowKit

/-- One answers at least what the other does. -/
def Below (c c' : Caller) : Prop := ∀ f args h r, c f args h = some r → c' f args h = some r

theorem evOp_mono {c c' : Caller} (hc : Below c c') (ρ : Operand → Value) (h : Heap) (o : AOp) (r : Value × Heap) (e : evOp c ρ h o = some r) : evOp c' ρ h o = some r := by
  cases o <;> first | exact e | skip
  case call f as => exact hc _ _ _ _ e
  case callv f as =>
    simp only [evOp] at e ⊢
    split at e
    · exact hc _ _ _ _ e
    · exact e

theorem evOper_mono {c c' : Caller} (hc : Below c c') (o : AOper) (s r : St) (e : evOper c o s = some r) : evOper c' o s = some r := by
  unfold evOper at e ⊢
  split at e
  · rename_i hw
    rw [if_pos hw]
    cases h : evOp c s.eval s.h o.op with
    | none => rw [h] at e; cases e
    | some v => rw [evOp_mono hc _ _ _ _ h]; rw [h] at e; exact e
  · rename_i hw
    rw [if_neg hw]; exact e

theorem evOps_mono {c c' : Caller} (hc : Below c c') (l : List AOper) : ∀ (s r : St), evOps c l s = some r → evOps c' l s = some r := by
  induction l with
  | nil => exact fun s r e => e
  | cons o l ih =>
    intro s r e
    simp only [evOps] at e ⊢
    cases h : evOper c o s with
    | none => rw [h] at e; cases e
    | some s' => rw [evOper_mono hc _ _ _ h]; rw [h] at e; exact ih _ _ e

theorem ev_mono (F : Funcs) (n : Nat) : (∀ c s r, evC F n c s = some r → evC F (n + 1) c s = some r) ∧ Below (evF F n) (evF F (n + 1)) := by
  induction n with
  | zero => exact ⟨fun c s r e => by simp [evC] at e, fun f args h r e => by simp [evF] at e⟩
  | succ n ih =>
    obtain ⟨ihc, ihf⟩ := ih
    constructor
    · intro c s r e
      cases c with
      | skip => simpa [evC] using e
      | ops l =>
        simp only [evC] at e ⊢
        cases h : evOps (evF F n) l s with
        | none => rw [h] at e; cases e
        | some s' => rw [evOps_mono ihf _ _ _ h]; rw [h] at e; exact e
      | seq a b =>
        rw [evC] at e ⊢
        cases h : evC F n a s with
        | none => rw [h] at e; cases e
        | some p =>
          rw [h] at e; rw [ihc _ _ _ h]
          obtain ⟨x, s'⟩ := p
          cases x with
          | normal => exact ihc _ _ _ e
          | exit id => exact e
          | ret => exact e
      | cond c a b =>
        rw [evC] at e ⊢
        split at e
        · exact ihc _ _ _ e
        · exact ihc _ _ _ e
        · cases e
      | block id b =>
        rw [evC] at e ⊢
        cases h : evC F n b s with
        | none => rw [h] at e; cases e
        | some p => rw [ihc _ _ _ h]; rw [h] at e; exact e
      | loop b =>
        rw [evC] at e ⊢
        cases h : evC F n b s with
        | none => rw [h] at e; cases e
        | some p =>
          rw [h] at e; rw [ihc _ _ _ h]
          obtain ⟨x, s'⟩ := p
          cases x with
          | normal => exact ihc _ _ _ e
          | exit id => exact e
          | ret => exact e
      | exit id => simpa [evC] using e
      | ret => simpa [evC] using e
    · intro f args h r e
      rw [evF] at e ⊢
      cases hf : F f with
      | none => rw [hf] at e; exact e
      | some fn =>
        rw [hf] at e
        simp only at e ⊢
        cases hc : evC F n fn.body ⟨args ++ List.replicate (fn.ntmps - args.length) undef, h⟩ with
        | none => rw [hc] at e; cases e
        | some p => rw [ihc _ _ _ hc]; rw [hc] at e; exact e

theorem evC_le (F : Funcs) {n m : Nat} (h : n ≤ m) {c : ACode} {s : St} {r : AEx × St} (e : evC F n c s = some r) : evC F m c s = some r := by
  induction h with
  | refl => exact e
  | step _ ih => exact (ev_mono F _).1 _ _ _ ih
theorem evF_le (F : Funcs) {n m : Nat} (h : n ≤ m) : Below (evF F n) (evF F m) := by
  induction h with
  | refl => exact fun _ _ _ _ e => e
  | step _ ih => exact fun f a x r e => (ev_mono F _).2 _ _ _ _ (ih _ _ _ _ e)

open Classical in
/-- What a code comes to. -/
noncomputable def D (F : Funcs) (c : ACode) (s : St) : Option (AEx × St) := if h : ∃ r n, evC F n c s = some r then some h.choose else none
open Classical in
/-- What a function comes to. -/
noncomputable def DF (F : Funcs) : Caller := fun f args h => if h : ∃ r n, evF F n f args h = some r then some h.choose else none

theorem D_iff (F : Funcs) (c : ACode) (s : St) (r : AEx × St) : D F c s = some r ↔ ∃ n, evC F n c s = some r := by
  unfold D
  constructor
  · intro e
    split at e
    · rename_i h
      obtain ⟨n, hn⟩ := h.choose_spec
      exact ⟨n, by rw [hn]; exact e⟩
    · cases e
  · rintro ⟨n, hn⟩
    have h : ∃ r n, evC F n c s = some r := ⟨r, n, hn⟩
    rw [dif_pos h]
    obtain ⟨m, hm⟩ := h.choose_spec
    have h1 := evC_le F (Nat.le_max_left n m) hn
    have h2 := evC_le F (Nat.le_max_right n m) hm
    rw [h1] at h2
    exact h2.symm
theorem DF_iff (F : Funcs) (f : FuncId) (args : List Value) (h : Heap) (r : Value × Heap) : DF F f args h = some r ↔ ∃ n, evF F n f args h = some r := by
  unfold DF
  constructor
  · intro e
    split at e
    · rename_i h
      obtain ⟨n, hn⟩ := h.choose_spec
      exact ⟨n, by rw [hn]; exact e⟩
    · cases e
  · rintro ⟨n, hn⟩
    have h' : ∃ r n, evF F n f args h = some r := ⟨r, n, hn⟩
    rw [dif_pos h']
    obtain ⟨m, hm⟩ := h'.choose_spec
    have h1 := evF_le F (Nat.le_max_left n m) _ _ _ _ hn
    have h2 := evF_le F (Nat.le_max_right n m) _ _ _ _ hm
    rw [h1] at h2
    exact h2.symm
theorem evF_DF (F : Funcs) (n : Nat) : Below (evF F n) (DF F) := fun _ _ _ _ e => (DF_iff F _ _ _ _).2 ⟨n, e⟩

theorem evOp_lim {F : Funcs} (ρ : Operand → Value) (h : Heap) (o : AOp) (r : Value × Heap) (e : evOp (DF F) ρ h o = some r) : ∃ n, evOp (evF F n) ρ h o = some r := by
  cases o <;> first | exact ⟨0, e⟩ | skip
  case call f as => exact (DF_iff F _ _ _ _).1 e
  case callv f as =>
    simp only [evOp] at e
    split at e
    · obtain ⟨n, hn⟩ := (DF_iff F _ _ _ _).1 e
      rename_i heq
      exact ⟨n, by simp only [evOp, heq]; exact hn⟩
    · cases e
theorem evOper_lim {F : Funcs} (o : AOper) (s r : St) (e : evOper (DF F) o s = some r) : ∃ n, evOper (evF F n) o s = some r := by
  unfold evOper at e ⊢
  split at e
  · rename_i hw
    cases h : evOp (DF F) s.eval s.h o.op with
    | none => rw [h] at e; cases e
    | some v =>
      obtain ⟨n, hn⟩ := evOp_lim _ _ _ _ h
      exact ⟨n, by rw [if_pos hw, hn]; rw [h] at e; exact e⟩
  · rename_i hw
    exact ⟨0, by rw [if_neg hw]; exact e⟩
theorem evOps_lim {F : Funcs} (l : List AOper) : ∀ (s r : St), evOps (DF F) l s = some r → ∃ n, evOps (evF F n) l s = some r := by
  induction l with
  | nil => exact fun s r e => ⟨0, e⟩
  | cons o l ih =>
    intro s r e
    simp only [evOps] at e ⊢
    cases h : evOper (DF F) o s with
    | none => rw [h] at e; cases e
    | some s' =>
      rw [h] at e
      obtain ⟨n, hn⟩ := evOper_lim _ _ _ h
      obtain ⟨m, hm⟩ := ih _ _ e
      refine ⟨max n m, ?_⟩
      rw [evOper_mono (evF_le F (Nat.le_max_left n m)) _ _ _ hn]
      exact evOps_mono (evF_le F (Nat.le_max_right n m)) _ _ _ hm

theorem opt_ext {α : Type} {a b : Option α} (h : ∀ r, a = some r ↔ b = some r) : a = b := by
  cases a with
  | none => cases b with
    | none => rfl
    | some y => exact absurd ((h y).2 rfl) (by simp)
  | some x => exact ((h x).1 rfl).symm

section
variable (F : Funcs) (s : St)
theorem D_skip : D F .skip s = some (.normal, s) := (D_iff _ _ _ _).2 ⟨1, by simp [evC]⟩
theorem D_exit (id : Nat) : D F (.exit id) s = some (.exit id, s) := (D_iff _ _ _ _).2 ⟨1, by simp [evC]⟩
theorem D_ret : D F .ret s = some (.ret, s) := (D_iff _ _ _ _).2 ⟨1, by simp [evC]⟩
theorem D_ops (l : List AOper) : D F (.ops l) s = (evOps (DF F) l s).map fun s' => (.normal, s') := by
  apply opt_ext; intro r
  rw [D_iff]
  constructor
  · rintro ⟨n, hn⟩
    cases n with
    | zero => simp [evC] at hn
    | succ n =>
      simp only [evC] at hn
      cases h : evOps (evF F n) l s with
      | none => rw [h] at hn; cases hn
      | some s' => rw [evOps_mono (evF_DF F n) _ _ _ h]; rw [h] at hn; exact hn
  · intro e
    cases h : evOps (DF F) l s with
    | none => rw [h] at e; cases e
    | some s' =>
      obtain ⟨n, hn⟩ := evOps_lim _ _ _ h
      exact ⟨n + 1, by simp only [evC]; rw [hn]; rw [h] at e; exact e⟩
/-- What comes behind. -/
noncomputable def thenD (F : Funcs) (b : ACode) : Option (AEx × St) → Option (AEx × St)
  | some (.normal, s') => D F b s'
  | r => r
theorem D_seq (a b : ACode) : D F (.seq a b) s = thenD F b (D F a s) := by
  apply opt_ext; intro r
  rw [D_iff]
  constructor
  · rintro ⟨n, hn⟩
    cases n with
    | zero => simp [evC] at hn
    | succ n =>
      rw [evC] at hn
      cases h : evC F n a s with
      | none => rw [h] at hn; cases hn
      | some p =>
        rw [h] at hn
        rw [(D_iff F a s p).2 ⟨n, h⟩]
        obtain ⟨x, s'⟩ := p
        cases x with
        | normal => exact (D_iff _ _ _ _).2 ⟨n, hn⟩
        | exit id => exact hn
        | ret => exact hn
  · intro e
    cases h : D F a s with
    | none => rw [h] at e; cases e
    | some p =>
      rw [h] at e
      obtain ⟨n, hn⟩ := (D_iff _ _ _ _).1 h
      obtain ⟨x, s'⟩ := p
      cases x with
      | normal =>
        obtain ⟨m, hm⟩ := (D_iff _ _ _ _).1 (show D F b s' = some r from e)
        refine ⟨max n m + 1, ?_⟩
        rw [evC, evC_le F (Nat.le_max_left n m) hn]
        exact evC_le F (Nat.le_max_right n m) hm
      | exit id => exact ⟨n + 1, by rw [evC, hn]; exact e⟩
      | ret => exact ⟨n + 1, by rw [evC, hn]; exact e⟩
theorem D_cond (c : Operand) (a b : ACode) : D F (.cond c a b) s = match s.eval c with
    | .bool true => D F a s
    | .bool false => D F b s
    | _ => none := by
  apply opt_ext; intro r
  rw [D_iff]
  constructor
  · rintro ⟨n, hn⟩
    cases n with
    | zero => simp [evC] at hn
    | succ n =>
      rw [evC] at hn
      split at hn
      · rename_i h; first | (rw [h]; exact (D_iff _ _ _ _).2 ⟨n, hn⟩) | exact (D_iff _ _ _ _).2 ⟨n, hn⟩
      · rename_i h; first | (rw [h]; exact (D_iff _ _ _ _).2 ⟨n, hn⟩) | exact (D_iff _ _ _ _).2 ⟨n, hn⟩
      · cases hn
  · intro e
    split at e
    · obtain ⟨n, hn⟩ := (D_iff _ _ _ _).1 e
      rename_i h
      exact ⟨n + 1, by rw [evC, h]; exact hn⟩
    · obtain ⟨n, hn⟩ := (D_iff _ _ _ _).1 e
      rename_i h
      exact ⟨n + 1, by rw [evC, h]; exact hn⟩
    · cases e
/-- The end of a block. -/
def endBlock (id : Nat) : Option (AEx × St) → Option (AEx × St)
  | some (.exit j, s') => some (if j = id then .normal else .exit j, s')
  | r => r
theorem D_block (id : Nat) (b : ACode) : D F (.block id b) s = endBlock id (D F b s) := by
  apply opt_ext; intro r
  rw [D_iff]
  constructor
  · rintro ⟨n, hn⟩
    cases n with
    | zero => simp [evC] at hn
    | succ n =>
      rw [evC] at hn
      cases h : evC F n b s with
      | none => rw [h] at hn; cases hn
      | some p => rw [(D_iff F b s p).2 ⟨n, h⟩]; rw [h] at hn; exact hn
  · intro e
    cases h : D F b s with
    | none => rw [h] at e; cases e
    | some p =>
      obtain ⟨n, hn⟩ := (D_iff _ _ _ _).1 h
      exact ⟨n + 1, by rw [evC, hn]; rw [h] at e; exact e⟩
theorem D_loop (b : ACode) : D F (.loop b) s = thenD F (.loop b) (D F b s) := by
  apply opt_ext; intro r
  rw [D_iff]
  constructor
  · rintro ⟨n, hn⟩
    cases n with
    | zero => simp [evC] at hn
    | succ n =>
      rw [evC] at hn
      cases h : evC F n b s with
      | none => rw [h] at hn; cases hn
      | some p =>
        rw [h] at hn
        rw [(D_iff F b s p).2 ⟨n, h⟩]
        obtain ⟨x, s'⟩ := p
        cases x with
        | normal => exact (D_iff _ _ _ _).2 ⟨n, hn⟩
        | exit id => exact hn
        | ret => exact hn
  · intro e
    cases h : D F b s with
    | none => rw [h] at e; cases e
    | some p =>
      rw [h] at e
      obtain ⟨n, hn⟩ := (D_iff _ _ _ _).1 h
      obtain ⟨x, s'⟩ := p
      cases x with
      | normal =>
        obtain ⟨m, hm⟩ := (D_iff _ _ _ _).1 (show D F (.loop b) s' = some r from e)
        refine ⟨max n m + 1, ?_⟩
        rw [evC, evC_le F (Nat.le_max_left n m) hn]
        exact evC_le F (Nat.le_max_right n m) hm
      | exit id => exact ⟨n + 1, by rw [evC, hn]; exact e⟩
      | ret => exact ⟨n + 1, by rw [evC, hn]; exact e⟩
end
/-- The end of a function's body. -/
noncomputable def endF (h : Heap) (res : List ARes) : Option (AEx × St) → Option (Value × Heap)
  | some (.exit _, _) => none
  | some (_, s) => (aResults s res).map fun v => (v, finish h v s.h)
  | none => none
theorem DF_ext {F : Funcs} {f : FuncId} (hf : F f = none) (args : List Value) (h : Heap) : DF F f args h = F.ext f args h := by
  apply opt_ext; intro r
  rw [DF_iff]
  constructor
  · rintro ⟨n, hn⟩
    cases n with
    | zero => simp [evF] at hn
    | succ n => rw [evF, hf] at hn; exact hn
  · intro hr
    exact ⟨1, by rw [evF, hf]; exact hr⟩
theorem DF_eq {F : Funcs} {f : FuncId} {fn : AFunc} (hf : F f = some fn) (args : List Value) (h : Heap) :
    DF F f args h = endF h fn.res (D F fn.body ⟨args ++ List.replicate (fn.ntmps - args.length) undef, h⟩) := by
  apply opt_ext; intro r
  rw [DF_iff]
  constructor
  · rintro ⟨n, hn⟩
    cases n with
    | zero => simp [evF] at hn
    | succ n =>
      rw [evF, hf] at hn
      simp only at hn
      cases hc : evC F n fn.body ⟨args ++ List.replicate (fn.ntmps - args.length) undef, h⟩ with
      | none => rw [hc] at hn; cases hn
      | some p => rw [(D_iff F _ _ p).2 ⟨n, hc⟩]; rw [hc] at hn; exact hn
  · intro e
    cases hc : D F fn.body ⟨args ++ List.replicate (fn.ntmps - args.length) undef, h⟩ with
    | none => rw [hc] at e; cases e
    | some p =>
      obtain ⟨n, hn⟩ := (D_iff _ _ _ _).1 hc
      refine ⟨n + 1, ?_⟩
      rw [evF, hf]
      simp only
      rw [hn]; rw [hc] at e; exact e
end Go.Proofs.YtfbldlgjlgcpoaaDoor.AM

namespace Go.Proofs.YtfbldlgjlgcpoaaDoor.AM
open Go.RowKit

section
variable {call : Caller} {F : Funcs}
/-- What comes behind an operation. -/
noncomputable def nextO (call : Caller) (d : Option Nat) (l : List AOper) (s : St) : Option (Value × Heap) → Option St
  | some r => evOps call l (s.put d r.1 r.2)
  | none => none
noncomputable def guardO (call : Caller) (d : Option Nat) (op : AOp) (l : List AOper) (s : St) : Bool → Value → Option St
  | b, .bool c => if c = b then nextO call d l s (evOp call s.eval s.h op) else evOps call l (s.put d undef s.h)
  | _, _ => evOps call l (s.put d undef s.h)
def pairO (h : Heap) : Option Value → Option (Value × Heap)
  | some v => some (v, h)
  | none => none
noncomputable def condD (F : Funcs) (a b : ACode) (s : St) : Value → Option (AEx × St)
  | .bool true => D F a s
  | .bool false => D F b s
  | _ => none
def normalD : Option St → Option (AEx × St)
  | some s => some (.normal, s)
  | none => none
def endR (h : Heap) : Option Value → Heap → Option (Value × Heap)
  | some v, _ => some (v, h)
  | none, _ => none

theorem E_nil (s : St) : evOps call [] s = some s := rfl
theorem E_cons (d : Option Nat) (op : AOp) (l : List AOper) (s : St) : evOps call (⟨d, op, none⟩ :: l) s = nextO call d l s (evOp call s.eval s.h op) := by
  simp only [evOps, evOper, wants, if_true]
  cases evOp call s.eval s.h op <;> rfl
theorem E_guard (d : Option Nat) (op : AOp) (j : Nat) (b : Bool) (l : List AOper) (s : St) : evOps call (⟨d, op, some (j, b)⟩ :: l) s = guardO call d op l s b (s.t.getD j undef) := by
  unfold evOps evOper wants
  cases hx : s.t.getD j undef with
  | bool c =>
    simp only [guardO, hx]
    by_cases h : c = b
    · simp only [h, beq_self_eq_true, if_true]
      cases evOp call s.eval s.h op <;> rfl
    · simp [h]
  | _ => simp only [guardO, hx, Bool.false_eq_true, if_false]; rfl
theorem next_some (d : Nat) (l : List AOper) (t : List Value) (h h' : Heap) (v : Value) : nextO call (some d) l ⟨t, h⟩ (some (v, h')) = evOps call l ⟨t.set d v, h'⟩ := rfl
theorem next_none (l : List AOper) (t : List Value) (h h' : Heap) (v : Value) : nextO call none l ⟨t, h⟩ (some (v, h')) = evOps call l ⟨t, h'⟩ := rfl
theorem next_bad (d : Option Nat) (l : List AOper) (s : St) : nextO call d l s none = none := rfl
theorem guard_tt (d : Option Nat) (op : AOp) (l : List AOper) (s : St) : guardO call d op l s true (.bool true) = nextO call d l s (evOp call s.eval s.h op) := rfl
theorem guard_ff (d : Option Nat) (op : AOp) (l : List AOper) (s : St) : guardO call d op l s false (.bool false) = nextO call d l s (evOp call s.eval s.h op) := rfl
theorem guard_tf (d : Nat) (op : AOp) (l : List AOper) (t : List Value) (h : Heap) : guardO call (some d) op l ⟨t, h⟩ true (.bool false) = evOps call l ⟨t.set d undef, h⟩ := rfl
theorem guard_ft (d : Nat) (op : AOp) (l : List AOper) (t : List Value) (h : Heap) : guardO call (some d) op l ⟨t, h⟩ false (.bool true) = evOps call l ⟨t.set d undef, h⟩ := rfl
theorem guard_tu (d : Nat) (op : AOp) (l : List AOper) (t : List Value) (h : Heap) (b : Bool) : guardO call (some d) op l ⟨t, h⟩ b undef = evOps call l ⟨t.set d undef, h⟩ := by cases b <;> rfl

theorem ev_tmp (t : List Value) (h : Heap) (i : Nat) : St.eval ⟨t, h⟩ (.tmp i) = t.getD i undef := rfl
theorem ev_const (s : St) (v : Value) : St.eval s (.const v) = v := rfl
theorem ev_global (s : St) (g : Nat) : St.eval s (.global g) = ptr g 0 0 := rfl
theorem ev_func (s : St) (f : FuncId) : St.eval s (.func f) = .func (.func f) #[] #[] := rfl
theorem get_succ (v : Value) (t : List Value) (i : Nat) : (v :: t).getD (i + 1) undef = t.getD i undef := rfl
theorem get_zero (v : Value) (t : List Value) : (v :: t).getD 0 undef = v := rfl

variable (ρ : Operand → Value) (h : Heap)
theorem O_mv (x : Operand) : evOp call ρ h (.mv x) = some (ρ x, h) := rfl
def pickO (h : Heap) (a b : Value) : Value → Option (Value × Heap)
  | .bool true => some (a, h)
  | .bool false => some (b, h)
  | _ => none
theorem O_pick (c a b : Operand) : evOp call ρ h (.pick c a b) = pickO h (ρ a) (ρ b) (ρ c) := by
  simp only [evOp]; generalize ρ c = x
  cases x with
  | bool t => cases t <;> rfl
  | _ => rfl
theorem O_bin (op : BinOp) (x y : Operand) : evOp call ρ h (.bin op x y) = pairO h (binVal op (ρ x) (ρ y)) := by simp only [evOp]; cases binVal op (ρ x) (ρ y) <;> rfl
theorem O_un (op : UnOp) (x : Operand) : evOp call ρ h (.un op x) = pairO h (unVal op (ρ x)) := by simp only [evOp]; cases unVal op (ρ x) <;> rfl
def convO (h : Heap) (k : IntKind) : Value → Option (Value × Heap)
  | .int _ n => some (.int k (k.wrap n), h)
  | _ => none
theorem O_conv (k : IntKind) (x : Operand) : evOp call ρ h (.conv k x) = convO h k (ρ x) := by
  simp only [evOp]; generalize ρ x = x; cases x <;> rfl
theorem O_call (f : FuncId) (as : List Operand) : evOp call ρ h (.call f as) = call f (as.map ρ) h := rfl
def lenO (h : Heap) : Value → Option (Value × Heap)
  | .slice _ n _ => some (.int .i64 n, h)
  | _ => none
theorem O_len (x : Operand) : evOp call ρ h (.len x) = lenO h (ρ x) := by
  simp only [evOp]; generalize ρ x = x; cases x <;> rfl
theorem len_slice (a : Option Addr) (n c : Nat) : lenO h (.slice a n c) = some (.int .i64 n, h) := rfl
variable (k : IntKind) (a b : Int)
theorem B_add : binVal .add (.int k a) (.int k b) = some (.int k (k.wrap (a + b))) := by simp [binVal, binInt]
theorem B_sub : binVal .sub (.int k a) (.int k b) = some (.int k (k.wrap (a - b))) := by simp [binVal, binInt]
theorem B_mul : binVal .mul (.int k a) (.int k b) = some (.int k (k.wrap (a * b))) := by simp [binVal, binInt]
theorem B_quo (hb : b ≠ 0) : binVal .quo (.int k a) (.int k b) = some (.int k (k.wrap (a.tdiv b))) := by simp [binVal, binInt, hb]
theorem B_rem (hb : b ≠ 0) : binVal .rem (.int k a) (.int k b) = some (.int k (a.tmod b)) := by simp [binVal, binInt, hb]
theorem B_band : binVal .and (.int k a) (.int k b) = some (.int k (Go.bits .and k a b)) := by simp [binVal, binInt]
theorem B_bor : binVal .or (.int k a) (.int k b) = some (.int k (Go.bits .or k a b)) := by simp [binVal, binInt]
theorem B_bxor : binVal .xor (.int k a) (.int k b) = some (.int k (Go.bits .xor k a b)) := by simp [binVal, binInt]
theorem B_bandNot : binVal .andNot (.int k a) (.int k b) = some (.int k (Go.bits .andNot k a b)) := by simp [binVal, binInt]
theorem B_eql : binVal .eql (.int k a) (.int k b) = some (.bool (a == b)) := by simp [binVal, binInt]
theorem B_neq : binVal .neq (.int k a) (.int k b) = some (.bool (a != b)) := by simp [binVal, binInt]
theorem B_lss : binVal .lss (.int k a) (.int k b) = some (.bool (decide (a < b))) := by simp [binVal, binInt]
theorem B_leq : binVal .leq (.int k a) (.int k b) = some (.bool (decide (a ≤ b))) := by simp [binVal, binInt]
theorem B_gtr : binVal .gtr (.int k a) (.int k b) = some (.bool (decide (b < a))) := by simp [binVal, binInt]
theorem B_geq : binVal .geq (.int k a) (.int k b) = some (.bool (decide (b ≤ a))) := by simp [binVal, binInt]
theorem B_shl' (k' : IntKind) (hb : 0 ≤ b) : binVal .shl (.int k a) (.int k' b) = some (.int k (shl k a b)) := by
  simp only [binVal]; rw [if_neg (by omega)]
theorem B_shr' (k' : IntKind) (hb : 0 ≤ b) : binVal .shr (.int k a) (.int k' b) = some (.int k (shr k a b)) := by
  simp only [binVal]; rw [if_neg (by omega)]
theorem U_not (b : Bool) : unVal .not (.bool b) = some (.bool !b) := rfl
theorem U_neg : unVal .neg (.int k a) = some (.int k (k.wrap (0 - a))) := rfl
end

section
variable {F : Funcs} (s : St)
theorem C_ops (l : List AOper) : D F (.ops l) s = normalD (evOps (DF F) l s) := by rw [D_ops]; cases evOps (DF F) l s <;> rfl
theorem normal_some : normalD (some s) = some (.normal, s) := rfl
theorem C_cond (c : Operand) (a b : ACode) : D F (.cond c a b) s = condD F a b s (s.eval c) := by
  rw [D_cond]; generalize s.eval c = x
  cases x with
  | bool t => cases t <;> rfl
  | _ => rfl
theorem cond_tt (a b : ACode) : condD F a b s (.bool true) = D F a s := rfl
theorem cond_ff (a b : ACode) : condD F a b s (.bool false) = D F b s := rfl
theorem then_normal (b : ACode) : thenD F b (some (.normal, s)) = D F b s := rfl
theorem then_exit (b : ACode) (j : Nat) : thenD F b (some (.exit j, s)) = some (.exit j, s) := rfl
theorem then_ret (b : ACode) : thenD F b (some (.ret, s)) = some (.ret, s) := rfl
theorem block_normal (id : Nat) : endBlock id (some (.normal, s)) = some (.normal, s) := rfl
theorem block_ret (id : Nat) : endBlock id (some (.ret, s)) = some (.ret, s) := rfl
theorem block_exit (id : Nat) : endBlock id (some (.exit id, s)) = some (.normal, s) := by simp [endBlock]
theorem block_other {id j : Nat} (h : j ≠ id) : endBlock id (some (.exit j, s)) = some (.exit j, s) := by simp [endBlock, h]
theorem end_ret (h : Heap) (i : Nat) (t : List Value) : endF h [.tmp i] (some (.ret, ⟨t, h⟩)) = some (t.getD i undef, h) := by simp [endF, aResults, aRes, finish]
theorem end_normal (h : Heap) (i : Nat) (t : List Value) : endF h [.tmp i] (some (.normal, ⟨t, h⟩)) = some (t.getD i undef, h) := by simp [endF, aResults, aRes, finish]
end
end Go.Proofs.YtfbldlgjlgcpoaaDoor.AM

namespace Go.Proofs.YtfbldlgjlgcpoaaDoor.AM
open Go.RowKit

section
variable {F : Funcs}
/-- It comes to something, and that is as asked. -/
def WPD (o : Option (AEx × St)) (Q : AEx → St → Prop) : Prop := ∃ x s, o = some (x, s) ∧ Q x s
/-- What is asked ahead of more code. -/
def contQ (F : Funcs) (b : ACode) (Q : AEx → St → Prop) : AEx → St → Prop
  | .normal, s => WPD (D F b s) Q
  | x, s => Q x s
def blockQ (id : Nat) (Q : AEx → St → Prop) : AEx → St → Prop
  | .exit j, s => Q (if j = id then .normal else .exit j) s
  | x, s => Q x s
def retQ (h : Heap) (res : List ARes) (r : Option (Value × Heap)) : AEx → St → Prop := fun x s => endF h res (some (x, s)) = r
def loopQ (I : Nat → St → Prop) (m : Nat) (Q : AEx → St → Prop) : AEx → St → Prop
  | .normal, s => ∃ m', m' < m ∧ I m' s
  | x, s => Q x s

variable (x : AEx) (s : St) (Q : AEx → St → Prop)
theorem W_some : WPD (some (x, s)) Q = Q x s := by
  unfold WPD; apply propext
  constructor
  · rintro ⟨_, _, h, q⟩; cases h; exact q
  · exact fun q => ⟨_, _, rfl, q⟩
theorem W_seq (a b : ACode) : WPD (D F (.seq a b) s) Q = WPD (D F a s) (contQ F b Q) := by
  rw [D_seq]; unfold WPD; apply propext
  constructor
  · rintro ⟨x, s', h, q⟩
    cases ha : D F a s with
    | none => rw [ha] at h; cases h
    | some p =>
      obtain ⟨y, u⟩ := p
      rw [ha] at h
      refine ⟨y, u, rfl, ?_⟩
      cases y with
      | normal => exact ⟨x, s', h, q⟩
      | exit j => cases h; exact q
      | ret => cases h; exact q
  · rintro ⟨y, u, ha, q⟩
    rw [ha]
    cases y with
    | normal => exact q
    | exit j => exact ⟨_, _, rfl, q⟩
    | ret => exact ⟨_, _, rfl, q⟩
theorem W_block (id : Nat) (b : ACode) : WPD (D F (.block id b) s) Q = WPD (D F b s) (blockQ id Q) := by
  rw [D_block]; unfold WPD; apply propext
  constructor
  · rintro ⟨x, s', h, q⟩
    cases ha : D F b s with
    | none => rw [ha] at h; cases h
    | some p =>
      obtain ⟨y, u⟩ := p
      rw [ha] at h
      refine ⟨y, u, rfl, ?_⟩
      cases y <;> (cases h; exact q)
  · rintro ⟨y, u, ha, q⟩
    rw [ha]
    cases y <;> exact ⟨_, _, rfl, q⟩
theorem Q_cont_normal (b : ACode) : contQ F b Q .normal s = WPD (D F b s) Q := rfl
theorem Q_cont_ret (b : ACode) : contQ F b Q .ret s = Q .ret s := rfl
theorem Q_cont_exit (b : ACode) (j : Nat) : contQ F b Q (.exit j) s = Q (.exit j) s := rfl
theorem Q_block_normal (id : Nat) : blockQ id Q .normal s = Q .normal s := rfl
theorem Q_block_ret (id : Nat) : blockQ id Q .ret s = Q .ret s := rfl
theorem Q_block_exit (id : Nat) : blockQ id Q (.exit id) s = Q .normal s := by simp [blockQ]
theorem Q_block_other (id j : Nat) (h : j ≠ id) : blockQ id Q (.exit j) s = Q (.exit j) s := by simp [blockQ, h]
theorem Q_loop_normal (I : Nat → St → Prop) (m : Nat) : loopQ I m Q .normal s = ∃ m', m' < m ∧ I m' s := rfl
theorem Q_loop_ret (I : Nat → St → Prop) (m : Nat) : loopQ I m Q .ret s = Q .ret s := rfl
theorem Q_loop_exit (I : Nat → St → Prop) (m j : Nat) : loopQ I m Q (.exit j) s = Q (.exit j) s := rfl
theorem Q_ret (h : Heap) (i : Nat) (t : List Value) (r : Option (Value × Heap)) : retQ h [.tmp i] r .ret ⟨t, h⟩ = (some (t.getD i undef, h) = r) := by
  unfold retQ; rw [end_ret]
theorem Q_ret' (h : Heap) (i : Nat) (t : List Value) (r : Option (Value × Heap)) : retQ h [.tmp i] r .normal ⟨t, h⟩ = (some (t.getD i undef, h) = r) := by
  unfold retQ; rw [end_normal]

/-- A function comes to what its body comes to. -/
theorem fun_wp {f : FuncId} {fn : AFunc} (hf : F f = some fn) {args : List Value} {h : Heap} {r : Option (Value × Heap)} (hb : WPD (D F fn.body ⟨args ++ List.replicate (fn.ntmps - args.length) undef, h⟩) (retQ h fn.res r)) : DF F f args h = r := by
  rw [DF_eq hf]
  obtain ⟨x, s, hd, hq⟩ := hb
  rw [hd]; exact hq

/-- The rounds of a loop: what holds ahead of each; each round lowers a number or leaves. -/
theorem loop_wp {b : ACode} {Q : AEx → St → Prop} (I : Nat → St → Prop) (step : ∀ m s, I m s → WPD (D F b s) (loopQ I m Q)) : ∀ m s, I m s → WPD (D F (.loop b) s) Q := by
  intro m
  induction m using Nat.strongRecOn with
  | ind m ih =>
    intro s hI
    obtain ⟨x, s', hd, hq⟩ := step m s hI
    rw [D_loop, hd]
    cases x with
    | normal =>
      obtain ⟨m', hm, hI'⟩ := hq
      exact ih m' hm s' hI'
    | exit j => exact ⟨_, _, rfl, hq⟩
    | ret => exact ⟨_, _, rfl, hq⟩
/-- Places of which nothing is told. -/
theorem junk {l : List Value} {h : Heap} {f : (Nat → Value) → List Value} (e : f (fun i => l.getD i undef) = l) : ∃ j, St.mk l h = ⟨f j, h⟩ := ⟨_, by rw [e]⟩
theorem WPD.mono {o : Option (AEx × St)} {Q Q' : AEx → St → Prop} (h : WPD o Q) (hq : ∀ x s, Q x s → Q' x s) : WPD o Q' := by
  obtain ⟨x, s, e, q⟩ := h; exact ⟨x, s, e, hq _ _ q⟩
end
end Go.Proofs.YtfbldlgjlgcpoaaDoor.AM

namespace Go.Proofs.YtfbldlgjlgcpoaaDoor.AM
open Go.RowKit

section
variable {call : Caller} (ρ : Operand → Value) (h : Heap)
def rowO (h : Heap) (size : Nat) : Value → Value → Option (Value × Heap)
  | .slice (some p) n c, .int _ k => if c = size ∧ 0 ≤ k ∧ k < n then some (.pointer (some { p with off := p.off + k.toNat * size }), h) else none
  | _, _ => none
theorem O_atRow (size : Nat) (x i : Operand) : evOp call ρ h (.atRow size x i) = rowO h size (ρ x) (ρ i) := by
  simp only [evOp]; generalize ρ x = x; generalize ρ i = y
  cases x with
  | slice p n c => cases p <;> cases y <;> rfl
  | _ => rfl
theorem row_some {size : Nat} {p : Addr} {n : Nat} {kk : IntKind} {k : Int} (h0 : 0 ≤ k) (h1 : k < n) : rowO h size (.slice (some p) n size) (.int kk k) = some (.pointer (some ⟨p.block, p.off + k.toNat * size, p.spot⟩), h) := by
  simp only [rowO]; rw [if_pos ⟨trivial, h0, h1⟩]
def load1O (h : Heap) : Value → Option (Value × Heap)
  | .pointer (some p) => pairO h (h.read1 p)
  | _ => none
theorem O_load1 (a : Operand) : evOp call ρ h (.load1 a) = load1O h (ρ a) := by
  simp only [evOp]; generalize ρ a = x
  cases x <;> try rfl
  rename_i p
  cases p with
  | none => rfl
  | some p => simp only [load1O]; cases h.read1 p <;> rfl
theorem load1_ptr (p : Addr) : load1O h (.pointer (some p)) = pairO h (h.read1 p) := rfl
def loadO (h : Heap) (n : Nat) : Value → Option (Value × Heap)
  | .pointer (some p) => pairO h ((h.read p n).map agg)
  | _ => none
theorem O_load (n : Nat) (a : Operand) : evOp call ρ h (.load n a) = loadO h n (ρ a) := by
  simp only [evOp]; generalize ρ a = x
  cases x <;> try rfl
  rename_i p
  cases p with
  | none => rfl
  | some p => simp only [loadO]; cases h.read p n <;> rfl
theorem load_ptr (n : Nat) (p : Addr) : loadO h n (.pointer (some p)) = pairO h ((h.read p n).map agg) := rfl
/-- A new row, its parts laid in. -/
def mkO (h : Heap) (n size : Nat) : Option (List Value) → Option (Value × Heap)
  | some l => some (slc h.length 0 0 n size, h ++ [.cells l 0 false])
  | none => none
def partsV (ρ : Operand → Value) : List (Nat × Nat × Operand) → List (Nat × Nat × Value)
  | [] => []
  | p :: r => (p.1, p.2.1, ρ p.2.2) :: partsV ρ r
theorem partsV_nil : partsV ρ [] = [] := rfl
theorem partsV_cons (i n : Nat) (x : Operand) (r : List (Nat × Nat × Operand)) : partsV ρ ((i, n, x) :: r) = (i, n, ρ x) :: partsV ρ r := rfl
theorem partsV_eq (ps : List (Nat × Nat × Operand)) : (ps.map fun p => (p.1, p.2.1, ρ p.2.2)) = partsV ρ ps := by
  induction ps with
  | nil => rfl
  | cons p r ih => simp only [List.map_cons, ih]; rfl
theorem O_mkRow (z : List Value) (n : Nat) (ps : List (Nat × Nat × Operand)) : evOp call ρ h (.mkRow z n ps) = mkO h n z.length (fillRow (zeros z n) (partsV ρ ps)) := by
  simp only [evOp, partsV_eq]; cases fillRow (zeros z n) (partsV ρ ps) <;> rfl
def buildO (h : Heap) : Option (List Value) → Option (Value × Heap)
  | some l => some (agg l, h)
  | none => none
theorem O_build (z : List Value) (ps : List (Nat × Nat × Operand)) : evOp call ρ h (.build z ps) = buildO h (fillRow z (partsV ρ ps)) := by
  simp only [evOp, partsV_eq]; cases fillRow z (partsV ρ ps) <;> rfl
theorem mk_some (n size : Nat) (l : List Value) : mkO h n size (some l) = some (slc h.length 0 0 n size, h ++ [.cells l 0 false]) := rfl
theorem build_some (l : List Value) : buildO h (some l) = some (agg l, h) := rfl
theorem fill_nil (l : List Value) : fillRow l [] = some l := rfl
theorem splice_one {l : List Value} {i : Nat} (hi : i < l.length) (v : Value) : splice l i [v] = l.set i v := by
  unfold splice; rw [List.set_eq_take_append_cons_drop, if_pos hi]; simp
theorem fill_one {l : List Value} {i : Nat} {v : Value} (r : List (Nat × Nat × Value)) (hi : i < l.length) (hv : laid v = some [v]) : fillRow l ((i, 1, v) :: r) = fillRow (l.set i v) r := by
  rw [fillRow, hv]; simp only [List.length_singleton, true_and]; rw [if_pos (by omega), splice_one hi]
theorem fill_int {l : List Value} {i : Nat} {k : IntKind} {n : Int} (r : List (Nat × Nat × Value)) (hi : i < l.length) : fillRow l ((i, 1, .int k n) :: r) = fillRow (l.set i (.int k n)) r := fill_one r hi rfl
theorem fill_bool {l : List Value} {i : Nat} {b : Bool} (r : List (Nat × Nat × Value)) (hi : i < l.length) : fillRow l ((i, 1, .bool b) :: r) = fillRow (l.set i (.bool b)) r := fill_one r hi rfl
theorem fill_slice {l : List Value} {i : Nat} {p : Option Addr} {n c : Nat} (r : List (Nat × Nat × Value)) (hi : i < l.length) : fillRow l ((i, 1, .slice p n c) :: r) = fillRow (l.set i (.slice p n c)) r := fill_one r hi rfl
theorem fill_string {l : List Value} {i : Nat} {s : ByteArray} (r : List (Nat × Nat × Value)) (hi : i < l.length) : fillRow l ((i, 1, .string s) :: r) = fillRow (l.set i (.string s)) r := fill_one r hi rfl
theorem zeros_zero (z : List Value) : zeros z 0 = [] := rfl
theorem zeros_succ (z : List Value) (n : Nat) : zeros z (n + 1) = z ++ zeros z n := rfl

/-- Reading what was just laid behind the rest. -/
theorem read1_last (l : List Value) (o : Nat) (v : Value) (hv : l[o]? = some v) : Heap.read1 (h ++ [AObj.cells l 0 false]) ⟨h.length, o, some 0⟩ = some v := by
  unfold Heap.read1; simp [hv]
theorem read_last (l : List Value) (n : Nat) (hn : n ≤ l.length) : Heap.read (h ++ [AObj.cells l 0 false]) ⟨h.length, 0, some 0⟩ n = some (l.take n) := by
  unfold Heap.read; simp [hn]
/-- What was read is read with more behind. -/
theorem read_more {p : Addr} {n : Nat} {l : List Value} (more : Heap) (e : h.read p n = some l) : Heap.read (h ++ more) p n = some l := by
  unfold Heap.read at e ⊢
  split at e
  · rename_i vals ver ro hb
    rw [List.getElem?_append_left (List.getElem?_eq_some_iff.1 hb).1, hb]; exact e
  · cases e
theorem read_get {p : Addr} {n : Nat} {l : List Value} (e : h.read p n = some l) {i : Nat} {v : Value} (hv : l[i]? = some v) : h.read1 ⟨p.block, p.off + i, p.spot⟩ = some v := by
  unfold Heap.read at e
  unfold Heap.read1
  split at e
  · rename_i vals ver ro hb
    simp only [hb]
    split at e
    · rename_i hc
      cases e
      rw [if_pos hc.1]
      rw [List.getElem?_take] at hv
      split at hv
      · rwa [List.getElem?_drop] at hv
      · cases hv
    · cases e
  · cases e
theorem read_len {p : Addr} {n : Nat} {l : List Value} (e : h.read p n = some l) : l.length = n := by
  unfold Heap.read at e
  split at e
  · split at e
    · rename_i hc
      cases e; simp; omega
    · cases e
  · cases e
/-- The end of a function that has laid more, and answers a flat value. -/
theorem end_more (more : Heap) (i : Nat) (t : List Value) (hf : flat (t.getD i undef) = true) : endF h [.tmp i] (some (.ret, ⟨t, h ++ more⟩)) = some (t.getD i undef, h) := by
  simp [endF, aResults, aRes, finish, List.getD_eq_getElem?_getD] at hf ⊢
  simp [hf]
theorem Q_more (more : Heap) (i : Nat) (t : List Value) (r : Option (Value × Heap)) (hf : flat (t.getD i undef) = true) : retQ h [.tmp i] r .ret ⟨t, h ++ more⟩ = (some (t.getD i undef, h) = r) := by
  unfold retQ; rw [end_more h more i t hf]
end
/-- A row of whole numbers. -/
def Ints (h : Heap) (s : Value) (ms : List Int) : Prop := ∃ p, s = .slice (some p) ms.length 1 ∧ h.read p ms.length = some (ms.map (.int .i64 ·))
theorem Ints.get {h : Heap} {p : Addr} {ms : List Int} (e : h.read p ms.length = some (ms.map (.int .i64 ·))) {k : Nat} (hk : k < ms.length) : h.read1 ⟨p.block, p.off + k, p.spot⟩ = some (.int .i64 ms[k]) := read_get h e (by simp [hk])
end Go.Proofs.YtfbldlgjlgcpoaaDoor.AM

namespace Go.Proofs.YtfbldlgjlgcpoaaDoor.AM
open Go.RowKit

section
variable {call : Caller} (ρ : Operand → Value) (h : Heap)
theorem O_append (size bytes : Nat) (x y : Operand) : evOp call ρ h (.append size bytes x y) = appendTo h size bytes (ρ x) (srcOf h size (ρ y)) := rfl
theorem src_some {p : Addr} {n size : Nat} {l : List Value} (e : h.read p (n * size) = some l) : srcOf h size (.slice (some p) n size) = some (l, n) := by
  simp [srcOf, e]
theorem src_nils (size : Nat) : srcOf h size nils = some ([], 0) := rfl
/-- Appending to a row of one's own: it moves. -/
theorem append_at {h h' : Heap} {size bytes b m n ver : Nat} {vals ys : List Value} (hb : h[b]? = some (.cells vals ver false)) (hl : m * size ≤ vals.length) (hr : (m + n) * bytes ≤ roomFor) (hs : h.set b (.cells (vals.take (m * size) ++ ys) (ver + 1) false) = h') :
    appendTo h size bytes (slc b 0 ver m size) (some (ys, n)) = some (slc b 0 (ver + 1) (m + n) size, h') := by
  unfold appendTo slc
  simp only [hb]
  rw [if_pos ⟨trivial, trivial, trivial, hl, hr⟩, hs]
def cutO (h : Heap) (size : Nat) (lo hi : Option Value) : Value → Option (Value × Heap)
  | .slice (some p) n c => match bound lo 0, bound hi n with
    | some l, some k => if c = size ∧ l ≤ k ∧ k ≤ n then some (.slice (some { p with off := p.off + l * size }) (k - l) c, h) else none
    | _, _ => none
  | .slice none _ _ => match bound lo 0, bound hi 0 with
    | some 0, some 0 => some (nils, h)
    | _, _ => none
  | _ => none
theorem O_slice (size : Nat) (x : Operand) (lo hi : Option Operand) : evOp call ρ h (.slice size x lo hi) = cutO h size (lo.map ρ) (hi.map ρ) (ρ x) := by
  simp only [evOp]; generalize ρ x = x
  cases x with
  | slice p n c => cases p <;> rfl
  | _ => rfl
end
end Go.Proofs.YtfbldlgjlgcpoaaDoor.AM

namespace Go.Proofs.YtfbldlgjlgcpoaaDoor.AM
open Go.RowKit

/-- Places of which nothing was told. -/
def fillU : Nat → List Value
  | 0 => []
  | n + 1 => undef :: fillU n
theorem fillU_zero : fillU 0 = [] := rfl
theorem fillU_succ (n : Nat) : fillU (n + 1) = undef :: fillU n := rfl
theorem fillU_eq (n : Nat) : List.replicate n undef = fillU n := by
  induction n with
  | zero => rfl
  | succ n ih => rw [List.replicate_succ, ih]; rfl
theorem fun_wpU {F : Funcs} {f : FuncId} {fn : AFunc} (hf : F f = some fn) {args : List Value} {h : Heap} {r : Option (Value × Heap)} (hb : WPD (D F fn.body ⟨args ++ fillU (fn.ntmps - args.length), h⟩) (retQ h fn.res r)) : DF F f args h = r := by
  refine fun_wp hf ?_
  rw [fillU_eq]; exact hb
/-- The same, of what is only told in part. -/
def retE (h : Heap) (res : List ARes) (R : Value → Heap → Prop) : AEx → St → Prop := fun x s => ∃ v h', endF h res (some (x, s)) = some (v, h') ∧ R v h'
theorem fun_wpE {F : Funcs} {f : FuncId} {fn : AFunc} (hf : F f = some fn) {args : List Value} {h : Heap} {R : Value → Heap → Prop} (hb : WPD (D F fn.body ⟨args ++ fillU (fn.ntmps - args.length), h⟩) (retE h fn.res R)) : ∃ v h', DF F f args h = some (v, h') ∧ R v h' := by
  rw [DF_eq hf]
  obtain ⟨x, s, hd, v, h', he, hr⟩ := hb
  rw [fillU_eq, hd]
  exact ⟨v, h', he, hr⟩

section
variable {call : Caller} (ρ : Operand → Value) (h L : Heap) (a : AObj) (i o : Nat) (v : Option Nat)
theorem O_alloc (z : List Value) : evOp call ρ h (.alloc z) = some (.pointer (some ⟨h.length, 0, some 0⟩), h ++ [.cells z 0 false]) := rfl
def boxO (h : Heap) (n : Nat) : Option (List Value) → Option (Value × Heap)
  | some l => if l.length = n then some (.pointer (some ⟨h.length, 0, some 0⟩), h ++ [.cells l 0 false]) else none
  | none => none
theorem O_box (n : Nat) (x : Operand) : evOp call ρ h (.box n x) = boxO h n (laid (ρ x)) := by
  simp only [evOp]; cases laid (ρ x) <;> rfl
def arrO (h : Heap) (len size : Nat) : Value → Value → Option (Value × Heap)
  | .pointer (some p), .int _ k => if 0 ≤ k ∧ k < len then some (.pointer (some { p with off := p.off + k.toNat * size }), h) else none
  | _, _ => none
theorem O_atArr (len size : Nat) (x i : Operand) : evOp call ρ h (.atArr len size x i) = arrO h len size (ρ x) (ρ i) := by
  simp only [evOp]; generalize ρ x = x; generalize ρ i = y
  cases x with
  | pointer p => cases p <;> cases y <;> rfl
  | _ => rfl
theorem arr_some {len size : Nat} {b o : Nat} {s : Option Nat} {kk : IntKind} {k : Int} (h0 : 0 ≤ k) (h1 : k < len) : arrO h len size (.pointer (some ⟨b, o, s⟩)) (.int kk k) = some (.pointer (some ⟨b, o + k.toNat * size, s⟩), h) := by
  simp only [arrO]; rw [if_pos ⟨h0, h1⟩]
def offO (h : Heap) (n : Nat) : Value → Option (Value × Heap)
  | .pointer (some p) => some (.pointer (some { p with off := p.off + n }), h)
  | _ => none
theorem O_off (n : Nat) (x : Operand) : evOp call ρ h (.off n x) = offO h n (ρ x) := by
  simp only [evOp]; generalize ρ x = x
  cases x with
  | pointer p => cases p <;> rfl
  | _ => rfl
theorem off_ptr (n b o : Nat) (s : Option Nat) : offO h n (.pointer (some ⟨b, o, s⟩)) = some (.pointer (some ⟨b, o + n, s⟩), h) := rfl
def fieldO (h : Heap) (n i : Nat) : Value → Option (Value × Heap)
  | .agg cs => if i + n ≤ cs.size then some (agg ((cs.toList.drop i).take n), h) else none
  | _ => none
theorem O_field (n i : Nat) (x : Operand) : evOp call ρ h (.field n i x) = fieldO h n i (ρ x) := by
  simp only [evOp]; generalize ρ x = x; cases x <;> rfl
theorem field_agg {n i : Nat} {l : List Value} (hl : i + n ≤ l.length) : fieldO h n i (agg l) = some (agg ((l.drop i).take n), h) := by
  simp [fieldO, agg, hl]
def field1O (h : Heap) (i : Nat) : Value → Option (Value × Heap)
  | .agg cs => pairO h cs.toList[i]?
  | _ => none
theorem O_field1 (i : Nat) (x : Operand) : evOp call ρ h (.field1 i x) = field1O h i (ρ x) := by
  simp only [evOp]; generalize ρ x = x
  cases x with
  | agg cs => simp only [field1O]; cases cs.toList[i]? <;> rfl
  | _ => rfl
theorem field1_agg (i : Nat) (l : List Value) : field1O h i (agg l) = pairO h l[i]? := by simp [field1O, agg]
theorem pair_some (x : Value) : pairO h (some x) = some (x, h) := rfl
def extractO (h : Heap) (i : Nat) : Value → Option (Value × Heap)
  | .tuple cs => pairO h cs.toList[i]?
  | _ => none
theorem O_extract (i : Nat) (x : Operand) : evOp call ρ h (.extract x i) = extractO h i (ρ x) := by
  simp only [evOp]; generalize ρ x = x
  cases x with
  | tuple cs => simp only [extractO]; cases cs.toList[i]? <;> rfl
  | _ => rfl
theorem extract_tup (i : Nat) (l : List Value) : extractO h i (tup l) = pairO h l[i]? := by simp [extractO, tup]
def wroteO : Option Heap → Option (Value × Heap)
  | some h' => some (undef, h')
  | none => none
theorem wrote_some (h' : Heap) : wroteO (some h') = some (undef, h') := rfl
def store1O (h : Heap) : Value → Value → Option (Value × Heap)
  | .pointer (some p), v => match v with
    | .agg _ => none
    | .tuple _ => none
    | v => wroteO (h.write1 p v)
  | _, _ => none
theorem O_store1 (a x : Operand) : evOp call ρ h (.store1 a x) = store1O h (ρ a) (ρ x) := by
  simp only [evOp]; generalize ρ a = a; generalize ρ x = x
  cases a with
  | pointer p =>
    cases p with
    | none => rfl
    | some p => cases x <;> first | rfl | (simp only [store1O]; cases Heap.write1 h p _ <;> rfl)
  | _ => rfl
theorem store1_int (p : Addr) (k : IntKind) (n : Int) : store1O h (.pointer (some p)) (.int k n) = wroteO (h.write1 p (.int k n)) := rfl
theorem store1_bool (p : Addr) (b : Bool) : store1O h (.pointer (some p)) (.bool b) = wroteO (h.write1 p (.bool b)) := rfl
theorem store1_string (p : Addr) (s : ByteArray) : store1O h (.pointer (some p)) (.string s) = wroteO (h.write1 p (.string s)) := rfl
theorem store1_slice (p : Addr) (q : Option Addr) (n c : Nat) : store1O h (.pointer (some p)) (.slice q n c) = wroteO (h.write1 p (.slice q n c)) := rfl
theorem store1_ptr (p : Addr) (q : Option Addr) : store1O h (.pointer (some p)) (.pointer q) = wroteO (h.write1 p (.pointer q)) := rfl
theorem store1_func (p : Addr) (f : Fn) (x y : Array Value) : store1O h (.pointer (some p)) (.func f x y) = wroteO (h.write1 p (.func f x y)) := rfl
theorem store1_nilFunc (p : Addr) : store1O h (.pointer (some p)) .nilFunc = wroteO (h.write1 p .nilFunc) := rfl
theorem store1_map (p : Addr) (m : Option Nat) : store1O h (.pointer (some p)) (.map m) = wroteO (h.write1 p (.map m)) := rfl
def storeO (h : Heap) (n : Nat) : Value → Value → Option (Value × Heap)
  | .pointer (some p), .agg cs => if cs.size = n then wroteO (h.write p cs.toList) else none
  | _, _ => none
theorem O_store (n : Nat) (a x : Operand) : evOp call ρ h (.store n a x) = storeO h n (ρ a) (ρ x) := by
  simp only [evOp]; generalize ρ a = a; generalize ρ x = x
  cases a with
  | pointer p =>
    cases p with
    | none => cases x <;> rfl
    | some p =>
      cases x with
      | agg cs =>
        simp only [storeO]
        split
        · cases Heap.write h p cs.toList <;> rfl
        · rfl
      | _ => rfl
  | _ => rfl
theorem store_agg {n : Nat} {p : Addr} {l : List Value} (hl : l.length = n) : storeO h n (.pointer (some p)) (agg l) = wroteO (h.write p l) := by
  simp [storeO, agg, hl]
def nilCheckO (h : Heap) : Value → Option (Value × Heap)
  | .pointer (some p) => some (.pointer (some p), h)
  | .func (.func f) a b => some (.func (.func f) a b, h)
  | _ => none
theorem O_nilCheck (x : Operand) : evOp call ρ h (.nilCheck x) = nilCheckO h (ρ x) := by
  simp only [evOp]; generalize ρ x = x
  cases x with
  | pointer p => cases p <;> rfl
  | func f a b => cases f <;> rfl
  | _ => rfl
theorem nilCheck_ptr (p : Addr) : nilCheckO h (.pointer (some p)) = some (.pointer (some p), h) := rfl
theorem nilCheck_func (f : FuncId) (x y : Array Value) : nilCheckO h (.func (.func f) x y) = some (.func (.func f) x y, h) := rfl

/-! Where something lies. -/
theorem read1_skip : Heap.read1 (h ++ L) ⟨h.length + i, o, v⟩ = Heap.read1 L ⟨i, o, v⟩ := by
  unfold Heap.read1; simp only; rw [List.getElem?_append_right (by omega), Nat.add_sub_cancel_left]
theorem read1_skip0 : Heap.read1 (h ++ L) ⟨h.length, o, v⟩ = Heap.read1 L ⟨0, o, v⟩ := read1_skip h L 0 o v
theorem read1_next : Heap.read1 (a :: L) ⟨i + 1, o, v⟩ = Heap.read1 L ⟨i, o, v⟩ := rfl
theorem read1_there (l : List Value) (n : Nat) (ro : Bool) : Heap.read1 (.cells l n ro :: L) ⟨0, o, some n⟩ = l[o]? := by simp [Heap.read1]
theorem read_skip (n : Nat) : Heap.read (h ++ L) ⟨h.length + i, o, v⟩ n = Heap.read L ⟨i, o, v⟩ n := by
  unfold Heap.read; simp only; rw [List.getElem?_append_right (by omega), Nat.add_sub_cancel_left]
theorem read_skip0 (n : Nat) : Heap.read (h ++ L) ⟨h.length, o, v⟩ n = Heap.read L ⟨0, o, v⟩ n := read_skip h L 0 o v n
theorem read_next (n : Nat) : Heap.read (a :: L) ⟨i + 1, o, v⟩ n = Heap.read L ⟨i, o, v⟩ n := rfl
theorem read_there {l : List Value} (n m : Nat) (ro : Bool) (hl : l.length = m) : Heap.read (.cells l n ro :: L) ⟨0, 0, some n⟩ m = some l := by
  simp [Heap.read, hl]; rw [← hl]; simp
def preO (h : Heap) : Option Heap → Option Heap
  | some L => some (h ++ L)
  | none => none
theorem pre_some : preO h (some L) = some (h ++ L) := rfl
def consO (a : AObj) : Option Heap → Option Heap
  | some L => some (a :: L)
  | none => none
theorem cons_some : consO a (some L) = some (a :: L) := rfl
theorem set_skip (x : AObj) : (h ++ L).set (h.length + i) x = h ++ L.set i x := by
  rw [List.set_append_right _ _ (by omega), Nat.add_sub_cancel_left]
theorem write1_skip (y : Value) : Heap.write1 (h ++ L) ⟨h.length + i, o, v⟩ y = preO h (Heap.write1 L ⟨i, o, v⟩ y) := by
  unfold Heap.write1; simp only; rw [List.getElem?_append_right (by omega), Nat.add_sub_cancel_left]
  cases L[i]? with
  | none => rfl
  | some ob =>
    cases ob with
    | cells vals ver ro =>
      cases ro with
      | true => rfl
      | false =>
        simp only
        split
        · rw [set_skip]; rfl
        · rfl
    | _ => rfl
theorem write1_skip0 (y : Value) : Heap.write1 (h ++ L) ⟨h.length, o, v⟩ y = preO h (Heap.write1 L ⟨0, o, v⟩ y) := write1_skip h L 0 o v y
theorem write1_next (y : Value) : Heap.write1 (a :: L) ⟨i + 1, o, v⟩ y = consO a (Heap.write1 L ⟨i, o, v⟩ y) := by
  unfold Heap.write1; simp only [List.getElem?_cons_succ, List.set_cons_succ]
  cases L[i]? with
  | none => rfl
  | some ob =>
    cases ob with
    | cells vals ver ro =>
      cases ro with
      | true => rfl
      | false => simp only; split <;> rfl
    | _ => rfl
theorem write1_there {l : List Value} (n : Nat) (y : Value) {o : Nat} (ho : o < l.length) : Heap.write1 (.cells l n false :: L) ⟨0, o, some n⟩ y = some (.cells (l.set o y) n false :: L) := by
  simp [Heap.write1, ho]
theorem write_skip (ys : List Value) : Heap.write (h ++ L) ⟨h.length + i, o, v⟩ ys = preO h (Heap.write L ⟨i, o, v⟩ ys) := by
  unfold Heap.write; simp only; rw [List.getElem?_append_right (by omega), Nat.add_sub_cancel_left]
  cases L[i]? with
  | none => rfl
  | some ob =>
    cases ob with
    | cells vals ver ro =>
      cases ro with
      | true => rfl
      | false =>
        simp only
        split
        · rw [set_skip]; rfl
        · rfl
    | _ => rfl
theorem write_skip0 (ys : List Value) : Heap.write (h ++ L) ⟨h.length, o, v⟩ ys = preO h (Heap.write L ⟨0, o, v⟩ ys) := write_skip h L 0 o v ys
theorem write_next (ys : List Value) : Heap.write (a :: L) ⟨i + 1, o, v⟩ ys = consO a (Heap.write L ⟨i, o, v⟩ ys) := by
  unfold Heap.write; simp only [List.getElem?_cons_succ, List.set_cons_succ]
  cases L[i]? with
  | none => rfl
  | some ob =>
    cases ob with
    | cells vals ver ro =>
      cases ro with
      | true => rfl
      | false => simp only; split <;> rfl
    | _ => rfl
theorem write_there {l : List Value} (n : Nat) {ys : List Value} (hl : l.length = ys.length) : Heap.write (.cells l n false :: L) ⟨0, 0, some n⟩ ys = some (.cells ys n false :: L) := by
  simp [Heap.write, hl, splice]
/-- What was read is read with more behind. -/
theorem read1_more {h : Heap} {p : Addr} {x : Value} (e : h.read1 p = some x) (more : Heap) : Heap.read1 (h ++ more) p = some x := by
  unfold Heap.read1 at e ⊢
  split at e
  · rename_i vals ver ro hb
    rw [List.getElem?_append_left (List.getElem?_eq_some_iff.1 hb).1, hb]; exact e
  · cases e
/-! Ends. -/
theorem end_two (h h' : Heap) (i j : Nat) (t : List Value) : endF h [.tmp i, .tmp j] (some (.ret, ⟨t, h'⟩)) = some (tup [t.getD i undef, t.getD j undef], finish h (tup [t.getD i undef, t.getD j undef]) h') := rfl
theorem end_three (h h' : Heap) (i j k : Nat) (t : List Value) : endF h [.tmp i, .tmp j, .tmp k] (some (.ret, ⟨t, h'⟩)) = some (tup [t.getD i undef, t.getD j undef, t.getD k undef], finish h (tup [t.getD i undef, t.getD j undef, t.getD k undef]) h') := rfl
theorem end_one (h h' : Heap) (i : Nat) (t : List Value) : endF h [.tmp i] (some (.ret, ⟨t, h'⟩)) = some (t.getD i undef, finish h (t.getD i undef) h') := rfl
theorem finish_same (v : Value) : finish h v h = h := by unfold finish; split <;> rfl
theorem finish_flat {v : Value} (hf : flat v = true) : finish h v (h ++ L) = h := by unfold finish; simp [hf]
theorem finish_not {v : Value} (hf : flat v = false) (h' : Heap) : finish h v h' = h' := by unfold finish; simp [hf]
/-- Of whatever answer. -/
theorem finish_any (v : Value) : finish h v (h ++ L) = h ++ L ∨ (finish h v (h ++ L) = h ∧ flat v = true) := by
  cases hf : flat v
  · exact .inl (finish_not h hf _)
  · exact .inr ⟨finish_flat h L hf, rfl⟩
theorem Q_cells {h L : Heap} {i n : Nat} {t : List Value} {r : Option (Value × Heap)} {p : Addr} {l : List Value} (hp : t.getD i undef = .pointer (some p)) (hr : Heap.read (h ++ L) p n = some l) (hf : l.all plain1 = true) :
    retQ h [.cells i n] r .ret ⟨t, h ++ L⟩ = (some (agg l, h) = r) := by
  simp only [retQ, endF, aResults, aRes, hp, hr, Option.map_some]
  rw [finish_flat]
  simp [flat, plain, agg, hf]
theorem E_cells {h L : Heap} {i n : Nat} {t : List Value} {p : Addr} {l : List Value} (hp : t.getD i undef = .pointer (some p)) (hr : Heap.read (h ++ L) p n = some l) (hf : l.all plain1 = true) :
    endF h [.cells i n] (some (.ret, ⟨t, h ++ L⟩)) = some (agg l, h) := by
  simp only [endF, aResults, aRes, hp, hr, Option.map_some]
  rw [finish_flat]
  simp [flat, plain, agg, hf]
end

/-- A row by its places. -/
def rowOf {α : Type} (n : Nat) (f : Nat → α) : List α := (List.range n).map f
section
variable {α : Type} {n : Nat} {f g : Nat → α}
theorem rowOf_len (n : Nat) (f : Nat → α) : (rowOf n f).length = n := by rw [rowOf, List.length_map, List.length_range]
theorem rowOf_get {k : Nat} (hk : k < n) : (rowOf n f)[k]? = some (f k) := by rw [rowOf, List.getElem?_map, List.getElem?_range hk]; rfl
theorem rowOf_congr (h : ∀ k, k < n → f k = g k) : rowOf n f = rowOf n g := by
  unfold rowOf; apply List.map_congr_left; intro k hk; exact h k (by simpa using hk)
theorem rowOf_set {k : Nat} (v : α) : (rowOf n f).set k v = rowOf n (fun i => if i = k then v else f i) := by
  apply List.ext_getElem?
  intro i
  rw [List.getElem?_set]
  by_cases hi : i < n
  · rw [rowOf_get (f := f) hi, rowOf_get hi]
    by_cases h : k = i
    · subst h; rw [if_pos rfl, if_pos (by rw [rowOf_len]; exact hi), if_pos rfl]
    · rw [if_neg h, if_neg (fun e => h e.symm)]
  · rw [List.getElem?_eq_none (by rw [rowOf_len]; omega), List.getElem?_eq_none (by rw [rowOf_len]; omega)]
    by_cases h : k = i
    · rw [if_pos h, if_neg (by rw [rowOf_len]; omega)]
    · rw [if_neg h]
theorem rowOf_rep (n : Nat) (v : α) : List.replicate n v = rowOf n (fun _ => v) := by
  apply List.ext_getElem?
  intro i
  by_cases hi : i < n
  · rw [rowOf_get hi, List.getElem?_replicate, if_pos hi]
  · rw [List.getElem?_eq_none (by rw [List.length_replicate]; omega), List.getElem?_eq_none (by rw [rowOf_len]; omega)]
theorem rowOf_inj (h : rowOf n f = rowOf n g) {k : Nat} (hk : k < n) : f k = g k := by
  have := congrArg (·[k]?) h
  simp only [rowOf_get hk] at this
  exact Option.some.inj this
theorem rowOf_all (p : α → Bool) (h : ∀ k, k < n → p (f k) = true) : (rowOf n f).all p = true := by
  rw [List.all_eq_true]; intro x hx
  simp [rowOf] at hx
  obtain ⟨k, hk, rfl⟩ := hx
  exact h k hk
end

section
variable (h : Heap)
/-- Appending to a row that lies just behind what was there. -/
theorem append_there {L : Heap} {size bytes m n ver : Nat} {vals ys : List Value} (hl : vals.length = m * size) (hr : (m + n) * bytes ≤ roomFor) :
    appendTo (h ++ AObj.cells vals ver false :: L) size bytes (.slice (some ⟨h.length, 0, some ver⟩) m size) (some (ys, n)) = some (.slice (some ⟨h.length, 0, some (ver + 1)⟩) (m + n) size, h ++ AObj.cells (vals ++ ys) (ver + 1) false :: L) := by
  unfold appendTo
  simp only
  rw [List.getElem?_append_right (Nat.le_refl _), Nat.sub_self]
  simp only [List.getElem?_cons_zero]
  rw [if_pos ⟨trivial, trivial, trivial, by omega, hr⟩, List.take_of_length_le (by omega)]
  have e := set_skip h (AObj.cells vals ver false :: L) 0 (AObj.cells (vals ++ ys) (ver + 1) false)
  rw [Nat.add_zero] at e
  rw [e]; rfl
theorem src_there {L : Heap} {size n ver : Nat} {l : List Value} {ro : Bool} (hl : l.length = n * size) : srcOf (h ++ AObj.cells l ver ro :: L) size (.slice (some ⟨h.length, 0, some ver⟩) n size) = some (l, n) := by
  rw [src_some]; rw [read_skip0, read_there _ _ _ _ hl]
theorem src_there1 {a : AObj} {L : Heap} {size n ver : Nat} {l : List Value} {ro : Bool} (hl : l.length = n * size) : srcOf (h ++ a :: AObj.cells l ver ro :: L) size (.slice (some ⟨h.length + 1, 0, some ver⟩) n size) = some (l, n) := by
  rw [src_some]; rw [read_skip]; exact read_there L ver _ ro hl
end

section
variable (h : Heap)
theorem bound_none (d : Nat) : bound none d = some d := rfl
theorem bound_int {k : IntKind} {n : Int} (h0 : 0 ≤ n) (d : Nat) : bound (some (.int k n)) d = some n.toNat := by simp [bound, h0]
theorem bound_nat (k : IntKind) (n : Nat) (d : Nat) : bound (some (.int k (n : Int))) d = some n := by simp [bound]
theorem cut_some {size b o n l k : Nat} {s : Option Nat} {lo hi : Option Value} (hl : bound lo 0 = some l) (hk : bound hi n = some k) (h1 : l ≤ k) (h2 : k ≤ n) :
    cutO h size lo hi (.slice (some ⟨b, o, s⟩) n size) = some (.slice (some ⟨b, o + l * size, s⟩) (k - l) size, h) := by
  simp only [cutO, hl, hk]
  rw [if_pos ⟨trivial, h1, h2⟩]
theorem cut_to {size b o n k : Nat} {s : Option Nat} (kk : IntKind) (h1 : k ≤ n) : cutO h size none (some (.int kk (k : Int))) (.slice (some ⟨b, o, s⟩) n size) = some (.slice (some ⟨b, o, s⟩) k size, h) := by
  rw [cut_some h (bound_none 0) (bound_nat kk k n) (Nat.zero_le _) h1]; simp
theorem cut_from {size b o n l : Nat} {s : Option Nat} (kk : IntKind) (h1 : l ≤ n) : cutO h size (some (.int kk (l : Int))) none (.slice (some ⟨b, o, s⟩) n size) = some (.slice (some ⟨b, o + l * size, s⟩) (n - l) size, h) :=
  cut_some h (bound_nat kk l 0) (bound_none n) h1 (Nat.le_refl _)
theorem cut_mid {size b o n l k : Nat} {s : Option Nat} (kk kj : IntKind) (h1 : l ≤ k) (h2 : k ≤ n) : cutO h size (some (.int kk (l : Int))) (some (.int kj (k : Int))) (.slice (some ⟨b, o, s⟩) n size) = some (.slice (some ⟨b, o + l * size, s⟩) (k - l) size, h) :=
  cut_some h (bound_nat kk l 0) (bound_nat kj k n) h1 h2
theorem cut_all {size b o n : Nat} {s : Option Nat} : cutO h size none none (.slice (some ⟨b, o, s⟩) n size) = some (.slice (some ⟨b, o, s⟩) n size, h) := by
  rw [cut_some h (bound_none 0) (bound_none n) (Nat.zero_le _) (Nat.le_refl _)]; simp
end
end Go.Proofs.YtfbldlgjlgcpoaaDoor.AM

namespace Go.Proofs.YtfbldlgjlgcpoaaDoor.AM
open Go.RowKit

def B (x : Int) : BitVec 64 := BitVec.ofInt 64 x
def W (x : Int) : Prop := -9223372036854775808 ≤ x ∧ x ≤ 9223372036854775807
/-- Bit i. -/
def bi (x : Int) (i : Nat) : Bool := (B x).getLsbD i

theorem W_of_wf {x : Int} (h : (Lit.int .i64 x).wf = true) : W x := by
  simp [Lit.wf, IntKind.min, IntKind.max, IntKind.signed, IntKind.bits] at h
  unfold W; omega

theorem two64 : ((2 ^ 64 : Nat) : Int) = 18446744073709551616 := rfl

theorem toInt_B {x : Int} (hx : W x) : (B x).toInt = x := by
  unfold W at hx
  unfold B; rw [BitVec.toInt_ofInt, Int.bmod_def, two64]; split <;> omega

theorem wrap_toInt (n : Int) : IntKind.i64.wrap n = (BitVec.ofInt 64 n).toInt := by
  rw [BitVec.toInt_ofInt, Int.bmod_def, two64, IntKind.wrap_i64]; split <;> omega

theorem B_toInt (v : BitVec 64) : B v.toInt = v := by unfold B; exact BitVec.ofInt_toInt
theorem W_toInt (v : BitVec 64) : W v.toInt := by
  unfold W; have h1 := BitVec.toInt_lt (x := v); have h2 := BitVec.le_toInt (x := v)
  have e : (2 : Int) ^ (64 - 1) = 9223372036854775808 := rfl
  rw [e] at h1 h2; omega
theorem W_wrap (n : Int) : W (IntKind.i64.wrap n) := by rw [wrap_toInt]; exact W_toInt _
theorem B_wrap (n : Int) : B (IntKind.i64.wrap n) = B n := by rw [wrap_toInt, B_toInt]; rfl
theorem wrap_in {n : Int} (h : W n) : IntKind.i64.wrap n = n := by unfold W at h; rw [IntKind.wrap_i64]; omega
theorem B_nat (v : BitVec 64) : B (v.toNat : Int) = v := by
  unfold B; rw [BitVec.ofInt_natCast]; exact BitVec.ofNat_toNat 64 v ▸ (by simp)

theorem ext {x y : Int} (hx : W x) (hy : W y) (h : ∀ i, i < 64 → bi x i = bi y i) : x = y := by
  have e : B x = B y := BitVec.eq_of_getLsbD_eq (fun i hi => h i hi)
  rw [← toInt_B hx, ← toInt_B hy, e]

theorem W_bits (op : BinOp) (x y : Int) : W (Go.bits op .i64 x y) := by unfold Go.bits; exact W_wrap _
theorem W_shl (x y : Int) : W (shl .i64 x y) := by unfold shl; exact W_wrap _
theorem B_and (x y : Int) : B (Go.bits .and .i64 x y) = B x &&& B y := by unfold Go.bits; rw [B_wrap]; exact B_nat _
theorem B_or (x y : Int) : B (Go.bits .or .i64 x y) = B x ||| B y := by unfold Go.bits; rw [B_wrap]; exact B_nat _
theorem B_xor (x y : Int) : B (Go.bits .xor .i64 x y) = B x ^^^ B y := by unfold Go.bits; rw [B_wrap]; exact B_nat _
theorem B_andNot (x y : Int) : B (Go.bits .andNot .i64 x y) = B x &&& ~~~ B y := by unfold Go.bits; rw [B_wrap]; exact B_nat _

theorem b_wrap (n : Int) (i : Nat) : bi (IntKind.i64.wrap n) i = bi n i := by unfold bi; rw [B_wrap]
theorem b_and (x y : Int) (i : Nat) : bi (Go.bits .and .i64 x y) i = (bi x i && bi y i) := by unfold bi; rw [B_and]; simp
theorem b_or (x y : Int) (i : Nat) : bi (Go.bits .or .i64 x y) i = (bi x i || bi y i) := by unfold bi; rw [B_or]; simp
theorem b_xor (x y : Int) (i : Nat) : bi (Go.bits .xor .i64 x y) i = (bi x i != bi y i) := by unfold bi; rw [B_xor]; simp
theorem b_andNot (x y : Int) {i : Nat} (hi : i < 64) : bi (Go.bits .andNot .i64 x y) i = (bi x i && !bi y i) := by
  unfold bi; rw [B_andNot]; simp [hi]

theorem B_shl (x n : Int) (hn : 0 ≤ n) (hn' : n ≤ 64) : B (shl .i64 x n) = B x <<< n.toNat := by
  unfold shl
  rw [B_wrap]
  have : min n.toNat IntKind.i64.bits = n.toNat := by simp [IntKind.bits]; omega
  rw [this]
  unfold B
  rw [BitVec.ofInt_mul, BitVec.shiftLeft_eq_mul_twoPow]
  congr 1
  apply BitVec.eq_of_toNat_eq
  rw [BitVec.toNat_ofInt, BitVec.toNat_twoPow]
  have : ((2 : Int) ^ n.toNat) = ((2 ^ n.toNat : Nat) : Int) := by simp
  rw [this, ← Int.natCast_emod, Int.toNat_natCast]
theorem b_shl (x n : Int) (hn : 0 ≤ n) (hn' : n ≤ 64) {i : Nat} (hi : i < 64) : bi (shl .i64 x n) i = (!decide (i < n.toNat) && bi x (i - n.toNat)) := by
  unfold bi; rw [B_shl x n hn hn', BitVec.getLsbD_shiftLeft]; simp [hi]

theorem fdiv_pow (x : Int) (n : Nat) : x.fdiv (2 ^ n) = x >>> n := by
  rw [Int.shiftRight_eq_div_pow, Int.fdiv_eq_ediv_of_nonneg _ (by exact Int.le_of_lt (Int.pow_pos (by decide)))]
  simp
theorem B_shr (x n : Int) (hx : W x) (hn' : n ≤ 64) : B (shr .i64 x n) = (B x).sshiftRight n.toNat := by
  unfold shr
  have : min n.toNat IntKind.i64.bits = n.toNat := by simp [IntKind.bits]; omega
  rw [this, fdiv_pow]
  apply BitVec.eq_of_toInt_eq
  rw [BitVec.toInt_sshiftRight, toInt_B hx, ← toInt_B hx, ← BitVec.toInt_sshiftRight, B_toInt]
theorem W_shr (x n : Int) (hx : W x) (hn' : n ≤ 64) : W (shr .i64 x n) := by
  unfold shr
  have : min n.toNat IntKind.i64.bits = n.toNat := by simp [IntKind.bits]; omega
  rw [this, fdiv_pow, ← toInt_B hx, ← BitVec.toInt_sshiftRight]
  exact W_toInt _
theorem b_shr (x n : Int) (hx : W x) (hn' : n ≤ 64) {i : Nat} (hi : i < 64) : bi (shr .i64 x n) i = if n.toNat + i < 64 then bi x (n.toNat + i) else bi x 63 := by
  unfold bi; rw [B_shr x n hx hn', BitVec.getLsbD_sshiftRight]; simp [hi, BitVec.msb_eq_getLsbD_last]

/-- The shift of what is taken without a sign. -/
theorem u64_wrap (v : Int) : IntKind.u64.wrap v = ((B v).toNat : Int) := by
  unfold B
  rw [BitVec.toNat_ofInt]
  have : IntKind.u64.wrap v = v % 18446744073709551616 := by simp [IntKind.wrap, IntKind.signed, IntKind.bits]
  rw [this, Int.toNat_of_nonneg (Int.emod_nonneg _ (by decide))]
  rfl
theorem B_ushr (v n : Int) (hn' : n ≤ 64) : B (IntKind.i64.wrap (shr .u64 (IntKind.u64.wrap v) n)) = B v >>> n.toNat := by
  rw [B_wrap, u64_wrap]
  unfold shr
  have : min n.toNat IntKind.u64.bits = n.toNat := by simp [IntKind.bits]; omega
  rw [this, fdiv_pow]
  have : ((B v).toNat : Int) >>> n.toNat = ((B v >>> n.toNat).toNat : Int) := by
    rw [BitVec.toNat_ushiftRight]; rfl
  rw [this, B_nat]
theorem b_ushr (v n : Int) (hn' : n ≤ 64) (i : Nat) : bi (IntKind.i64.wrap (shr .u64 (IntKind.u64.wrap v) n)) i = bi v (n.toNat + i) := by
  unfold bi; rw [B_ushr v n hn', BitVec.getLsbD_ushiftRight]
theorem b_ge (v : Int) {i : Nat} (hi : 64 ≤ i) : bi v i = false := by unfold bi; exact BitVec.getLsbD_of_ge _ _ hi
end Go.Proofs.YtfbldlgjlgcpoaaDoor.AM
