/-
  AM, part 1: an abstract machine over Go's code in the model: memory as a list of objects, no order left open. Definitions alone.
  Conditions: none; what it is good for is proved in the later parts.
-/
import Derived.WalkKit
namespace Go.Proofs.YtjjlbfamfioofaaDoor.AM
open Go.RowKit

/-- An object of the abstract memory: a row of cells (how often it was moved by append; may it be written?), a map, or nothing that may be touched. -/
inductive AObj where
  | cells (vals : List Value) (ver : Nat) (ro : Bool)
  | map (es : List (Value × Value))
  | gone
  deriving Inhabited

abbrev Heap := List AObj

structure St where
  t : List Value
  h : Heap

def agg (l : List Value) : Value := .agg l.toArray
def tup (l : List Value) : Value := .tuple l.toArray
/-- What lies in one cell, and leads nowhere. -/
def plain1 : Value → Bool
  | .bool _ | .int _ _ | .float _ _ | .complex _ _ _ | .string _ | .pointer none | .slice none 0 0 | .map none | .chan none | .nilFunc | .nilIface => true
  | _ => false
def plain : Value → Bool
  | .agg cs => cs.toList.all plain1
  | v => plain1 v
/-- No address in it. -/
def flat : Value → Bool
  | .tuple cs => cs.toList.all plain
  | v => plain v
/-- The cells of a value. -/
def laid : Value → Option (List Value)
  | .tuple _ => none
  | .agg cs => some cs.toList
  | v => some [v]
/-- A pointer, a slice of the abstract memory: object, place, which of its moves. -/
def ptr (b o v : Nat) : Value := .pointer (some ⟨b, o, some v⟩)
/-- (The third number of a slice is here the size of its elements.) -/
def slc (b o v n c : Nat) : Value := .slice (some ⟨b, o, some v⟩) n c
def nils : Value := .slice none 0 0

def Heap.read (h : Heap) (a : Addr) (n : Nat) : Option (List Value) :=
  match h[a.block]? with
  | some (.cells vals ver _) => if a.spot = some ver ∧ a.off + n ≤ vals.length then some ((vals.drop a.off).take n) else none
  | _ => none
def Heap.read1 (h : Heap) (a : Addr) : Option Value :=
  match h[a.block]? with
  | some (.cells vals ver _) => if a.spot = some ver then vals[a.off]? else none
  | _ => none
def splice (l : List Value) (i : Nat) (ys : List Value) : List Value := l.take i ++ ys ++ l.drop (i + ys.length)
def Heap.write (h : Heap) (a : Addr) (ys : List Value) : Option Heap :=
  match h[a.block]? with
  | some (.cells vals ver false) => if a.spot = some ver ∧ a.off + ys.length ≤ vals.length then some (h.set a.block (.cells (splice vals a.off ys) ver false)) else none
  | _ => none
def Heap.write1 (h : Heap) (a : Addr) (y : Value) : Option Heap :=
  match h[a.block]? with
  | some (.cells vals ver false) => if a.spot = some ver ∧ a.off < vals.length then some (h.set a.block (.cells (vals.set a.off y) ver false)) else none
  | _ => none

/-- What is held against what. -/
inductive EqK where
  | bool | int | str | ptr | slice | map | func | iface
  deriving DecidableEq

/-- What a statement's part does, its types resolved. -/
inductive AOp where
  | mv (x : Operand)
  | pick (c a b : Operand)
  | alloc (zero : List Value)
  | box (n : Nat) (x : Operand)
  | build (zero : List Value) (parts : List (Nat × Nat × Operand))
  | mkRow (zero : List Value) (len : Nat) (parts : List (Nat × Nat × Operand))
  | load1 (a : Operand)
  | load (n : Nat) (a : Operand)
  | store1 (a x : Operand)
  | store (n : Nat) (a x : Operand)
  | nilCheck (x : Operand)
  | bin (op : BinOp) (x y : Operand)
  | un (op : UnOp) (x : Operand)
  | conv (k : IntKind) (x : Operand)
  | same (x : Operand)
  | iface (t : TypeId) (x : Operand)
  | func (f : FuncId) (first captured : List Operand)
  | slice (size : Nat) (x : Operand) (lo hi : Option Operand)
  | sliceStr (x : Operand) (lo hi : Option Operand)
  | off (n : Nat) (x : Operand)
  | field (n : Nat) (i : Nat) (x : Operand)
  | field1 (i : Nat) (x : Operand)
  | atRow (size : Nat) (x i : Operand)
  | atArr (len size : Nat) (x i : Operand)
  | idxArr (len size : Nat) (x i : Operand)
  | idxStr (x i : Operand)
  | extract (x : Operand) (i : Nat)
  | len (x : Operand)
  | lenStr (x : Operand)
  | append (size bytes : Nat) (x y : Operand)
  | mkSlice (size bytes : Nat) (zero : List Value) (n : Operand)
  | call (f : FuncId) (args : List Operand)
  | callv (f : Operand) (args : List Operand)
  | mkMap
  | lookup (kk : EqK) (zero : Value) (m k : Operand) (ok : Bool)
  | update (kk : EqK) (m k v : Operand)
  | lenMap (m : Operand)
  | max2 (x y : Operand)
  | min2 (x y : Operand)
  | again1 (a : Operand) (t : Nat)
  | again (n : Nat) (a : Operand) (t : Nat)
  | eqv (neg : Bool) (k : EqK) (x y : Operand)
  | eqAgg (neg : Bool) (ks : List EqK) (x y : Operand)
  | sliceArr (len size : Nat) (x : Operand) (lo hi : Option Operand)

structure AOper where
  dst : Option Nat
  op : AOp
  guard : Option (Nat × Bool)

inductive ACode where
  | skip
  | ops (l : List AOper)
  | seq (a b : ACode)
  | cond (c : Operand) (a b : ACode)
  | block (id : Nat) (b : ACode)
  | loop (b : ACode)
  | exit (id : Nat)
  | ret

inductive AEx where
  | normal
  | exit (id : Nat)
  | ret
  deriving DecidableEq

inductive ARes where
  | tmp (t : Nat)
  | cell1 (t : Nat)
  | cells (t n : Nat)

structure AFunc where
  ntmps : Nat
  res : List ARes
  body : ACode

def St.eval (s : St) : Operand → Value
  | .tmp i => s.t.getD i undef
  | .const v => v
  | .global g => ptr g 0 0
  | .func f => .func (.func f) #[] #[]

def St.put (s : St) (d : Option Nat) (v : Value) (h : Heap) : St :=
  match d with
  | some i => ⟨s.t.set i v, h⟩
  | none => ⟨s.t, h⟩

def leafEq : EqK → Value → Value → Option Bool
  | .bool, .bool a, .bool b => some (a == b)
  | .int, .int k a, .int k' b => if k = k' then some (a == b) else none
  | .str, .string a, .string b => some (a == b)
  | .ptr, .pointer none, .pointer b => some b.isNone
  | .ptr, .pointer (some _), .pointer none => some false
  | .slice, .slice none _ _, .slice b _ _ => some b.isNone
  | .slice, .slice (some _) _ _, .slice none _ _ => some false
  | .func, .nilFunc, .nilFunc => some true
  | .func, .nilFunc, .func _ _ _ => some false
  | .func, .func _ _ _, .nilFunc => some false
  | .iface, .nilIface, .nilIface => some true
  | .iface, .nilIface, .iface _ _ => some false
  | .iface, .iface _ _, .nilIface => some false
  | .map, .map none, .map b => some b.isNone
  | .map, .map (some _), .map none => some false
  | _, _, _ => none
def rowEq : List EqK → List Value → List Value → Option Bool
  | [], [], [] => some true
  | k :: ks, x :: xs, y :: ys => match leafEq k x y with
    | some true => rowEq ks xs ys
    | some false => some false
    | none => none
  | _, _, _ => none
def binInt (op : BinOp) (k : IntKind) (a b : Int) : Option Value :=
  match op with
  | .add => some (.int k (k.wrap (a + b)))
  | .sub => some (.int k (k.wrap (a - b)))
  | .mul => some (.int k (k.wrap (a * b)))
  | .quo => if b = 0 then none else some (.int k (k.wrap (a.tdiv b)))
  | .rem => if b = 0 then none else some (.int k (a.tmod b))
  | .and => some (.int k (Go.bits .and k a b))
  | .or => some (.int k (Go.bits .or k a b))
  | .xor => some (.int k (Go.bits .xor k a b))
  | .andNot => some (.int k (Go.bits .andNot k a b))
  | .eql => some (.bool (a == b))
  | .neq => some (.bool (a != b))
  | .lss => some (.bool (a < b))
  | .leq => some (.bool (a ≤ b))
  | .gtr => some (.bool (a > b))
  | .geq => some (.bool (a ≥ b))
  | _ => none
def shl (k : IntKind) (a b : Int) : Int := k.wrap (a * 2 ^ min b.toNat k.bits)
def shr (k : IntKind) (a b : Int) : Int := a.fdiv (2 ^ min b.toNat k.bits)
def binVal (op : BinOp) (x y : Value) : Option Value :=
  match op, x, y with
  | .shl, .int k a, .int _ b => if b < 0 then none else some (.int k (shl k a b))
  | .shr, .int k a, .int _ b => if b < 0 then none else some (.int k (shr k a b))
  | op, .int k a, .int k' b => if k = k' then binInt op k a b else none
  | .add, .string a, .string b => if a.size + b.size ≤ 140737488355328 then some (.string (a ++ b)) else none
  | .eql, .string a, .string b => some (.bool (a == b))
  | .neq, .string a, .string b => some (.bool (a != b))
  | _, _, _ => none
def unVal (op : UnOp) (x : Value) : Option Value :=
  match op, x with
  | .neg, .int k n => some (.int k (k.wrap (0 - n)))
  | .not, .bool b => some (.bool !b)
  | .xor, .int k n => some (.int k (Go.bits .xor k (if k.signed then -1 else k.max) n))
  | _, _ => none

def isTup : Value → Bool
  | .tuple _ => true
  | _ => false
/-- A row of cells with parts laid in: place, cells, what. -/
def fillRow (l : List Value) : List (Nat × Nat × Value) → Option (List Value)
  | [] => some l
  | (i, n, v) :: r => match laid v with
    | some c => if c.length = n ∧ i + n ≤ l.length then fillRow (splice l i c) r else none
    | none => none
def zeros (zero : List Value) : Nat → List Value
  | 0 => []
  | n + 1 => zero ++ zeros zero n
def bound (lo : Option Value) (d : Nat) : Option Nat :=
  match lo with
  | none => some d
  | some (.int _ i) => if 0 ≤ i then some i.toNat else none
  | _ => none
/-- A value that may be a key of this kind. -/
def keyOk : EqK → Value → Bool
  | .bool, .bool _ => true
  | .int, .int _ _ => true
  | .str, .string _ => true
  | _, _ => false
def findKey (kk : EqK) (k : Value) : List (Value × Value) → Option (Option Value)
  | [] => some none
  | (j, v) :: r => match leafEq kk k j with
    | some true => some (some v)
    | some false => findKey kk k r
    | none => none
def setKey (kk : EqK) (k v : Value) : List (Value × Value) → Option (List (Value × Value))
  | [] => some [(k, v)]
  | (j, u) :: r => match leafEq kk k j with
    | some true => some ((k, v) :: r)
    | some false => (setKey kk k v r).map ((j, u) :: ·)
    | none => none
/-- What a map has for a key. -/
def mapAt (h : Heap) (kk : EqK) (k : Value) : Value → Option (Option Value)
  | .map none => some none
  | .map (some b) => match h[b]? with
    | some (.map es) => findKey kk k es
    | _ => none
  | _ => none
/-- What is appended: cells, elements. -/
def srcOf (h : Heap) (size : Nat) : Value → Option (List Value × Nat)
  | .slice (some p) n c => if c = size then (h.read p (n * size)).map (·, n) else none
  | .slice none _ _ => some ([], 0)
  | .string s => if size = 1 then some (s.data.toList.map fun b => .int .u8 b.toNat, s.size) else none
  | _ => none
/-- The most that a row which grows may take. -/
def roomFor : Nat := 70368744177664
def appendTo (h : Heap) (size bytes : Nat) : Value → Option (List Value × Nat) → Option (Value × Heap)
  | .slice none _ _, some (ys, n) =>
    if n = 0 then some (nils, h) else if n * bytes ≤ roomFor then some (slc h.length 0 0 n size, h ++ [.cells ys 0 false]) else none
  | .slice (some p) m c, some (ys, n) =>
    match h[p.block]? with
    | some (.cells vals ver false) =>
      if c = size ∧ p.spot = some ver ∧ p.off = 0 ∧ m * size ≤ vals.length ∧ (m + n) * bytes ≤ roomFor then
        some (slc p.block 0 (ver + 1) (m + n) size, h.set p.block (.cells (vals.take (m * size) ++ ys) (ver + 1) false))
      else none
    | _ => none
  | _, _ => none

abbrev Caller := FuncId → List Value → Heap → Option (Value × Heap)

open Classical in
noncomputable def evOp (call : Caller) (ρ : Operand → Value) (h : Heap) : AOp → Option (Value × Heap)
  | .mv x => some (ρ x, h)
  | .pick c a b => match ρ c with
    | .bool t => some (if t then ρ a else ρ b, h)
    | _ => none
  | .alloc z => some (ptr h.length 0 0, h ++ [.cells z 0 false])
  | .box n x => match laid (ρ x) with
    | some l => if l.length = n then some (ptr h.length 0 0, h ++ [.cells l 0 false]) else none
    | none => none
  | .build z ps => (fillRow z (ps.map fun p => (p.1, p.2.1, ρ p.2.2))).map fun l => (agg l, h)
  | .mkRow z n ps => (fillRow (zeros z n) (ps.map fun p => (p.1, p.2.1, ρ p.2.2))).map fun l => (slc h.length 0 0 n z.length, h ++ [.cells l 0 false])
  | .load1 a => match ρ a with
    | .pointer (some p) => (h.read1 p).map (·, h)
    | _ => none
  | .load n a => match ρ a with
    | .pointer (some p) => (h.read p n).map fun l => (agg l, h)
    | _ => none
  | .store1 a x => match ρ a with
    | .pointer (some p) => match ρ x with
      | .agg _ => none
      | .tuple _ => none
      | v => (h.write1 p v).map (undef, ·)
    | _ => none
  | .store n a x => match ρ a, ρ x with
    | .pointer (some p), .agg cs => if cs.size = n then (h.write p cs.toList).map (undef, ·) else none
    | _, _ => none
  | .nilCheck x => match ρ x with
    | .pointer (some p) => some (.pointer (some p), h)
    | .func (.func f) a b => some (.func (.func f) a b, h)
    | _ => none
  | .bin op x y => (binVal op (ρ x) (ρ y)).map (·, h)
  | .un op x => (unVal op (ρ x)).map (·, h)
  | .conv k x => match ρ x with
    | .int _ n => some (.int k (k.wrap n), h)
    | _ => none
  | .same x => match ρ x with
    | .string s => some (.string s, h)
    | _ => none
  | .iface t x => some (.iface t (ρ x), h)
  | .func f a b => some (.func (.func f) (a.map ρ).toArray (b.map ρ).toArray, h)
  | .slice size x lo hi => match ρ x with
    | .slice (some p) n c => match bound (lo.map ρ) 0, bound (hi.map ρ) n with
      | some l, some k => if c = size ∧ l ≤ k ∧ k ≤ n then some (.slice (some { p with off := p.off + l * size }) (k - l) c, h) else none
      | _, _ => none
    | .slice none _ _ => match bound (lo.map ρ) 0, bound (hi.map ρ) 0 with
      | some 0, some 0 => some (nils, h)
      | _, _ => none
    | _ => none
  | .sliceStr x lo hi => match ρ x with
    | .string s => match bound (lo.map ρ) 0, bound (hi.map ρ) s.size with
      | some l, some k => if l ≤ k ∧ k ≤ s.size then some (.string (s.extract l k), h) else none
      | _, _ => none
    | _ => none
  | .off n x => match ρ x with
    | .pointer (some p) => some (.pointer (some { p with off := p.off + n }), h)
    | _ => none
  | .field n i x => match ρ x with
    | .agg cs => if i + n ≤ cs.size then some (agg ((cs.toList.drop i).take n), h) else none
    | _ => none
  | .field1 i x => match ρ x with
    | .agg cs => (cs.toList[i]?).map (·, h)
    | _ => none
  | .atRow size x i => match ρ x, ρ i with
    | .slice (some p) n c, .int _ k => if c = size ∧ 0 ≤ k ∧ k < n then some (.pointer (some { p with off := p.off + k.toNat * size }), h) else none
    | _, _ => none
  | .atArr len size x i => match ρ x, ρ i with
    | .pointer (some p), .int _ k => if 0 ≤ k ∧ k < len then some (.pointer (some { p with off := p.off + k.toNat * size }), h) else none
    | _, _ => none
  | .idxArr len size x i => match ρ x, ρ i with
    | .agg cs, .int _ k => if 0 ≤ k ∧ k < len then (cs.toList[k.toNat * size]?).map (·, h) else none
    | _, _ => none
  | .idxStr x i => match ρ x, ρ i with
    | .string s, .int _ k => if 0 ≤ k then (s.data.toList[k.toNat]?).map fun b => (.int .u8 b.toNat, h) else none
    | _, _ => none
  | .extract x i => match ρ x with
    | .tuple vs => (vs.toList[i]?).map (·, h)
    | _ => none
  | .len x => match ρ x with
    | .slice _ n _ => some (.int .i64 n, h)
    | _ => none
  | .lenStr x => match ρ x with
    | .string s => some (.int .i64 s.size, h)
    | _ => none
  | .append size bytes x y => appendTo h size bytes (ρ x) (srcOf h size (ρ y))
  | .mkSlice size bytes z n => match ρ n with
    | .int _ k => if 0 ≤ k ∧ k * bytes ≤ roomFor then some (slc h.length 0 0 k.toNat size, h ++ [.cells (zeros z k.toNat) 0 false]) else none
    | _ => none
  | .call f as => call f (as.map ρ) h
  | .callv f as => match ρ f with
    | .func (.func g) a b => call g (a.toList ++ as.map ρ ++ b.toList) h
    | _ => none
  | .mkMap => some (.map (some h.length), h ++ [.map []])
  | .lookup kk z m k ok =>
    match (if keyOk kk (ρ k) then mapAt h kk (ρ k) (ρ m) else none) with
    | some (some v) => some (if ok then tup [v, .bool true] else v, h)
    | some none => some (if ok then tup [z, .bool false] else z, h)
    | none => none
  | .update kk m k v => match ρ m with
    | .map (some b) => match h[b]? with
      | some (.map es) => if keyOk kk (ρ k) then (setKey kk (ρ k) (ρ v) es).map fun es' => (undef, h.set b (.map es')) else none
      | _ => none
    | _ => none
  | .lenMap m => match ρ m with
    | .map none => some (.int .i64 0, h)
    | .map (some b) => match h[b]? with
      | some (.map es) => some (.int .i64 es.length, h)
      | _ => none
    | _ => none
  | .max2 x y => match ρ x, ρ y with
    | .int k a, .int _ b => some (.int k (if a < b then b else a), h)
    | _, _ => none
  | .min2 x y => match ρ x, ρ y with
    | .int k a, .int _ b => some (.int k (if b < a then b else a), h)
    | _, _ => none
  | .again1 a t => match ρ a with
    | .pointer (some p) => if h.read1 p = some (ρ (.tmp t)) ∧ isTup (ρ (.tmp t)) = false then some (undef, h) else none
    | _ => none
  | .again n a t => match ρ a with
    | .pointer (some p) => if (h.read p n).map agg = some (ρ (.tmp t)) ∧ isTup (ρ (.tmp t)) = false then some (undef, h) else none
    | _ => none
  | .eqv neg k x y => (leafEq k (ρ x) (ρ y)).map fun b => (.bool (b != neg), h)
  | .eqAgg neg ks x y => match ρ x, ρ y with
    | .agg a, .agg b => if a.size = ks.length ∧ b.size = ks.length then (rowEq ks a.toList b.toList).map fun b => (.bool (b != neg), h) else none
    | _, _ => none
  | .sliceArr len size x lo hi => match ρ x with
    | .pointer (some p) => match bound (lo.map ρ) 0, bound (hi.map ρ) len with
      | some l, some k => match h[p.block]? with
        | some (.cells vals ver _) => if p.spot = some ver ∧ p.off + len * size ≤ vals.length ∧ l ≤ k ∧ k ≤ len then some (.slice (some { p with off := p.off + l * size }) (k - l) size, h) else none
        | _ => none
      | _, _ => none
    | _ => none

def wants (s : St) : Option (Nat × Bool) → Bool
  | none => true
  | some (j, b) => match s.t.getD j undef with
    | .bool c => c == b
    | _ => false
noncomputable def evOper (call : Caller) (o : AOper) (s : St) : Option St :=
  if wants s o.guard then (evOp call s.eval s.h o.op).map fun r => s.put o.dst r.1 r.2 else some (s.put o.dst undef s.h)
noncomputable def evOps (call : Caller) : List AOper → St → Option St
  | [], s => some s
  | o :: l, s => (evOper call o s).bind (evOps call l)

def aRes (s : St) : ARes → Option Value
  | .tmp t => some (s.t.getD t undef)
  | .cell1 t => match s.t.getD t undef with
    | .pointer (some p) => s.h.read1 p
    | _ => none
  | .cells t n => match s.t.getD t undef with
    | .pointer (some p) => (s.h.read p n).map agg
    | _ => none
def aResults (s : St) : List ARes → Option Value
  | [r] => aRes s r
  | l => (l.mapM (aRes s)).map tup

open Classical in
/-- What is left of the memory behind a call: where its answer has no address, and what was there is as it was, just that. -/
noncomputable def finish (h : Heap) (v : Value) (h' : Heap) : Heap := if flat v = true ∧ h'.take h.length = h then h else h'

/-- The functions of a program. -/
abbrev Funcs := FuncId → Option AFunc

mutual
noncomputable def evC (F : Funcs) : Nat → ACode → St → Option (AEx × St)
  | 0, _, _ => none
  | n + 1, c, s => match c with
    | .skip => some (.normal, s)
    | .ops l => (evOps (evF F n) l s).map fun s' => (.normal, s')
    | .seq a b => match evC F n a s with
      | some (.normal, s') => evC F n b s'
      | r => r
    | .cond c a b => match s.eval c with
      | .bool true => evC F n a s
      | .bool false => evC F n b s
      | _ => none
    | .block id b => match evC F n b s with
      | some (.exit j, s') => some (if j = id then .normal else .exit j, s')
      | r => r
    | .loop b => match evC F n b s with
      | some (.normal, s') => evC F n (.loop b) s'
      | r => r
    | .exit id => some (.exit id, s)
    | .ret => some (.ret, s)
noncomputable def evF (F : Funcs) : Nat → Caller
  | 0, _, _, _ => none
  | n + 1, f, args, h => match F f with
    | none => none
    | some fn => match evC F n fn.body ⟨args ++ List.replicate (fn.ntmps - args.length) undef, h⟩ with
      | some (.exit _, _) => none
      | some (_, s) => (aResults s fn.res).map fun v => (v, finish h v s.h)
      | none => none
end
end Go.Proofs.YtjjlbfamfioofaaDoor.AM
