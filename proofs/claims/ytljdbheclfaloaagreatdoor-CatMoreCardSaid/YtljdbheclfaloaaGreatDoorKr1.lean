/-
  Part 1.
  Conditions: as each says.
-/
import Derived.WalkKit
import Derived.Laws.StructEq
import Derived.ChangeKeysEq
namespace Go.Proofs.YtljdbheclfaloaaGreatDoor.AM
set_option linter.unusedSimpArgs false
open Go.RowKit
inductive AObj where
  | cells (vals : List Value) (ver : Nat) (ro : Bool)
  | map (es : List (Value × Value))
  | gone
  deriving Inhabited
abbrev Heap := List AObj
structure St where
  t : List Value
  h : Heap
def agg (l : List Value) : Value := .agg l.toArray
def tup (l : List Value) : Value := .tuple l.toArray
def plain1 : Value → Bool
  | .bool _ | .int _ _ | .float _ _ | .complex _ _ _ | .string _ | .pointer none | .slice none 0 0 | .map none | .chan none | .nilFunc | .nilIface => true
  | _ => false
def plain : Value → Bool
  | .agg cs => cs.toList.all plain1
  | v => plain1 v
def flat : Value → Bool
  | .tuple cs => cs.toList.all plain
  | v => plain v
def laid : Value → Option (List Value)
  | .tuple _ => none
  | .agg cs => some cs.toList
  | v => some [v]
def ptr (b o v : Nat) : Value := .pointer (some ⟨b, o, some v⟩)
def slc (b o v n c : Nat) : Value := .slice (some ⟨b, o, some v⟩) n c
def nils : Value := .slice none 0 0
def Heap.read (h : Heap) (a : Addr) (n : Nat) : Option (List Value) :=
  match h[a.block]? with
  | some (.cells vals ver _) => if a.spot = some ver ∧ a.off + n ≤ vals.length then some ((vals.drop a.off).take n) else none
  | _ => none
def Heap.read1 (h : Heap) (a : Addr) : Option Value :=
  match h[a.block]? with
  | some (.cells vals ver _) => if a.spot = some ver then vals[a.off]? else none
  | _ => none
def splice (l : List Value) (i : Nat) (ys : List Value) : List Value := l.take i ++ ys ++ l.drop (i + ys.length)
def Heap.write (h : Heap) (a : Addr) (ys : List Value) : Option Heap :=
  match h[a.block]? with
  | some (.cells vals ver false) => if a.spot = some ver ∧ a.off + ys.length ≤ vals.length then some (h.set a.block (.cells (splice vals a.off ys) ver false)) else none
  | _ => none
def Heap.write1 (h : Heap) (a : Addr) (y : Value) : Option Heap :=
  match h[a.block]? with
  | some (.cells vals ver false) => if a.spot = some ver ∧ a.off < vals.length then some (h.set a.block (.cells (vals.set a.off y) ver false)) else none
  | _ => none
inductive EqK where
  | bool | int | str | ptr | slice | map | func | iface
  deriving DecidableEq
inductive AOp where
  | mv (x : Operand)
  | pick (c a b : Operand)
  | alloc (zero : List Value)
  | box (n : Nat) (x : Operand)
  | build (zero : List Value) (parts : List (Nat × Nat × Operand))
  | mkRow (zero : List Value) (len : Nat) (parts : List (Nat × Nat × Operand))
  | load1 (a : Operand)
  | load (n : Nat) (a : Operand)
  | store1 (a x : Operand)
  | store (n : Nat) (a x : Operand)
  | nilCheck (x : Operand)
  | bin (op : BinOp) (x y : Operand)
  | un (op : UnOp) (x : Operand)
  | conv (k : IntKind) (x : Operand)
  | same (x : Operand)
  | iface (t : TypeId) (x : Operand)
  | func (f : FuncId) (first captured : List Operand)
  | slice (size : Nat) (x : Operand) (lo hi : Option Operand)
  | sliceStr (x : Operand) (lo hi : Option Operand)
  | off (n : Nat) (x : Operand)
  | field (n : Nat) (i : Nat) (x : Operand)
  | field1 (i : Nat) (x : Operand)
  | atRow (size : Nat) (x i : Operand)
  | atArr (len size : Nat) (x i : Operand)
  | idxArr (len size : Nat) (x i : Operand)
  | idxStr (x i : Operand)
  | extract (x : Operand) (i : Nat)
  | len (x : Operand)
  | lenStr (x : Operand)
  | append (size bytes : Nat) (x y : Operand)
  | mkSlice (size bytes : Nat) (zero : List Value) (n : Operand)
  | call (f : FuncId) (args : List Operand)
  | callv (f : Operand) (args : List Operand)
  | mkMap
  | lookup (kk : EqK) (zero : Value) (m k : Operand) (ok : Bool)
  | update (kk : EqK) (m k v : Operand)
  | lenMap (m : Operand)
  | max2 (x y : Operand)
  | min2 (x y : Operand)
  | again1 (a : Operand) (t : Nat)
  | again (n : Nat) (a : Operand) (t : Nat)
  | eqv (neg : Bool) (k : EqK) (x y : Operand)
  | eqAgg (neg : Bool) (ks : List EqK) (x y : Operand)
  | sliceArr (len size : Nat) (x : Operand) (lo hi : Option Operand)
structure gq where
  dst : Option Nat
  op : AOp
  guard : Option (Nat × Bool)
inductive pv where
  | skip
  | ops (l : List gq)
  | seq (a b : pv)
  | cond (c : Operand) (a b : pv)
  | block (id : Nat) (b : pv)
  | loop (b : pv)
  | exit (id : Nat)
  | ret
inductive AEx where
  | normal
  | exit (id : Nat)
  | ret
  deriving DecidableEq
inductive ARes where
  | tmp (t : Nat)
  | cell1 (t : Nat)
  | cells (t n : Nat)
structure vt where
  ntmps : Nat
  res : List ARes
  body : pv
def St.eval (s : St) : Operand → Value
  | .tmp i => s.t.getD i undef
  | .const v => v
  | .global g => ptr g 0 0
  | .func f => .func (.func f) #[] #[]
def St.put (s : St) (d : Option Nat) (v : Value) (h : Heap) : St :=
  match d with
  | some i => ⟨s.t.set i v, h⟩
  | none => ⟨s.t, h⟩
def qw : EqK → Value → Value → Option Bool
  | .bool, .bool a, .bool b => some (a == b)
  | .int, .int k a, .int k' b => if k = k' then some (a == b) else none
  | .str, .string a, .string b => some (a == b)
  | .ptr, .pointer none, .pointer b => some b.isNone
  | .ptr, .pointer (some _), .pointer none => some false
  | .slice, .slice none _ _, .slice b _ _ => some b.isNone
  | .slice, .slice (some _) _ _, .slice none _ _ => some false
  | .func, .nilFunc, .nilFunc => some true
  | .func, .nilFunc, .func _ _ _ => some false
  | .func, .func _ _ _, .nilFunc => some false
  | .iface, .nilIface, .nilIface => some true
  | .iface, .nilIface, .iface _ _ => some false
  | .iface, .iface _ _, .nilIface => some false
  | .map, .map none, .map b => some b.isNone
  | .map, .map (some _), .map none => some false
  | _, _, _ => none
def zbh : List EqK → List Value → List Value → Option Bool
  | [], [], [] => some true
  | k :: ks, x :: xs, y :: ys => match qw k x y with
    | some true => zbh ks xs ys
    | some false => some false
    | none => none
  | _, _, _ => none
def zea (op : BinOp) (k : IntKind) (a b : Int) : Option Value :=
  match op with
  | .add => some (.int k (k.wrap (a + b)))
  | .sub => some (.int k (k.wrap (a - b)))
  | .mul => some (.int k (k.wrap (a * b)))
  | .quo => if b = 0 then none else some (.int k (k.wrap (a.tdiv b)))
  | .rem => if b = 0 then none else some (.int k (a.tmod b))
  | .and => some (.int k (Go.bits .and k a b))
  | .or => some (.int k (Go.bits .or k a b))
  | .xor => some (.int k (Go.bits .xor k a b))
  | .andNot => some (.int k (Go.bits .andNot k a b))
  | .eql => some (.bool (a == b))
  | .neq => some (.bool (a != b))
  | .lss => some (.bool (a < b))
  | .leq => some (.bool (a ≤ b))
  | .gtr => some (.bool (a > b))
  | .geq => some (.bool (a ≥ b))
  | _ => none
def shl (k : IntKind) (a b : Int) : Int := k.wrap (a * 2 ^ min b.toNat k.bits)
def shr (k : IntKind) (a b : Int) : Int := a.fdiv (2 ^ min b.toNat k.bits)
def je (op : BinOp) (x y : Value) : Option Value :=
  match op, x, y with
  | .shl, .int k a, .int _ b => if b < 0 then none else some (.int k (shl k a b))
  | .shr, .int k a, .int _ b => if b < 0 then none else some (.int k (shr k a b))
  | op, .int k a, .int k' b => if k = k' then zea op k a b else none
  | .add, .string a, .string b => if a.size + b.size ≤ 4611686018427387904 then some (.string (a ++ b)) else none
  | .eql, .string a, .string b => some (.bool (a == b))
  | .neq, .string a, .string b => some (.bool (a != b))
  | _, _, _ => none
def zwd (op : UnOp) (x : Value) : Option Value :=
  match op, x with
  | .neg, .int k n => some (.int k (k.wrap (0 - n)))
  | .not, .bool b => some (.bool !b)
  | .xor, .int k n => some (.int k (Go.bits .xor k (if k.signed then -1 else k.max) n))
  | _, _ => none
def zmr : Value → Bool
  | .tuple _ => true
  | _ => false
def w4 (l : List Value) : List (Nat × Nat × Value) → Option (List Value)
  | [] => some l
  | (i, n, v) :: r => match laid v with
    | some c => if c.length = n ∧ i + n ≤ l.length then w4 (splice l i c) r else none
    | none => none
def bw (zero : List Value) : Nat → List Value
  | 0 => []
  | n + 1 => zero ++ bw zero n
def za6 (lo : Option Value) (d : Nat) : Option Nat :=
  match lo with
  | none => some d
  | some (.int _ i) => if 0 ≤ i then some i.toNat else none
  | _ => none
def zdx : EqK → Value → Bool
  | .bool, .bool _ => true
  | .int, .int _ _ => true
  | .str, .string _ => true
  | _, _ => false
def findKey (kk : EqK) (k : Value) : List (Value × Value) → Option (Option Value)
  | [] => some none
  | (j, v) :: r => match qw kk k j with
    | some true => some (some v)
    | some false => findKey kk k r
    | none => none
def px (kk : EqK) (k v : Value) : List (Value × Value) → Option (List (Value × Value))
  | [] => some [(k, v)]
  | (j, u) :: r => match qw kk k j with
    | some true => some ((k, v) :: r)
    | some false => (px kk k v r).map ((j, u) :: ·)
    | none => none
def zkk (h : Heap) (kk : EqK) (k : Value) : Value → Option (Option Value)
  | .map none => some none
  | .map (some b) => match h[b]? with
    | some (.map es) => findKey kk k es
    | _ => none
  | _ => none
def zc9 (h : Heap) (size : Nat) : Value → Option (List Value × Nat)
  | .slice (some p) n c => if c = size then (h.read p (n * size)).map (·, n) else none
  | .slice none _ _ => some ([], 0)
  | .string s => if size = 1 then some (s.data.toList.map fun b => .int .u8 b.toNat, s.size) else none
  | _ => none
def k8 : Nat := 140737488355328
def kh (h : Heap) (size bytes : Nat) : Value → Option (List Value × Nat) → Option (Value × Heap)
  | .slice none _ _, some (ys, n) =>
    if n = 0 then some (nils, h) else if n * bytes ≤ k8 then some (slc h.length 0 0 n size, h ++ [.cells ys 0 false]) else none
  | .slice (some p) m c, some (ys, n) =>
    match h[p.block]? with
    | some (.cells vals ver false) =>
      if c = size ∧ p.spot = some ver ∧ p.off = 0 ∧ m * size ≤ vals.length ∧ (m + n) * bytes ≤ k8 then
        some (slc p.block 0 (ver + 1) (m + n) size, h.set p.block (.cells (vals.take (m * size) ++ ys) (ver + 1) false))
      else none
    | _ => none
  | _, _ => none
abbrev qd := FuncId → List Value → Heap → Option (Value × Heap)
open Classical in
noncomputable def evOp (call : qd) (ρ : Operand → Value) (h : Heap) : AOp → Option (Value × Heap)
  | .mv x => some (ρ x, h)
  | .pick c a b => match ρ c with
    | .bool t => some (if t then ρ a else ρ b, h)
    | _ => none
  | .alloc z => some (ptr h.length 0 0, h ++ [.cells z 0 false])
  | .box n x => match laid (ρ x) with
    | some l => if l.length = n then some (ptr h.length 0 0, h ++ [.cells l 0 false]) else none
    | none => none
  | .build z ps => (w4 z (ps.map fun p => (p.1, p.2.1, ρ p.2.2))).map fun l => (agg l, h)
  | .mkRow z n ps => (w4 (bw z n) (ps.map fun p => (p.1, p.2.1, ρ p.2.2))).map fun l => (slc h.length 0 0 n z.length, h ++ [.cells l 0 false])
  | .load1 a => match ρ a with
    | .pointer (some p) => (h.read1 p).map (·, h)
    | _ => none
  | .load n a => match ρ a with
    | .pointer (some p) => (h.read p n).map fun l => (agg l, h)
    | _ => none
  | .store1 a x => match ρ a with
    | .pointer (some p) => match ρ x with
      | .agg _ => none
      | .tuple _ => none
      | v => (h.write1 p v).map (undef, ·)
    | _ => none
  | .store n a x => match ρ a, ρ x with
    | .pointer (some p), .agg cs => if cs.size = n then (h.write p cs.toList).map (undef, ·) else none
    | _, _ => none
  | .nilCheck x => match ρ x with
    | .pointer (some p) => some (.pointer (some p), h)
    | .func (.func f) a b => some (.func (.func f) a b, h)
    | _ => none
  | .bin op x y => (je op (ρ x) (ρ y)).map (·, h)
  | .un op x => (zwd op (ρ x)).map (·, h)
  | .conv k x => match ρ x with
    | .int _ n => some (.int k (k.wrap n), h)
    | _ => none
  | .same x => match ρ x with
    | .string s => some (.string s, h)
    | _ => none
  | .iface t x => some (.iface t (ρ x), h)
  | .func f a b => some (.func (.func f) (a.map ρ).toArray (b.map ρ).toArray, h)
  | .slice size x lo hi => match ρ x with
    | .slice (some p) n c => match za6 (lo.map ρ) 0, za6 (hi.map ρ) n with
      | some l, some k => if c = size ∧ l ≤ k ∧ k ≤ n then some (.slice (some { p with off := p.off + l * size }) (k - l) c, h) else none
      | _, _ => none
    | .slice none _ _ => match za6 (lo.map ρ) 0, za6 (hi.map ρ) 0 with
      | some 0, some 0 => some (nils, h)
      | _, _ => none
    | _ => none
  | .sliceStr x lo hi => match ρ x with
    | .string s => match za6 (lo.map ρ) 0, za6 (hi.map ρ) s.size with
      | some l, some k => if l ≤ k ∧ k ≤ s.size then some (.string (s.extract l k), h) else none
      | _, _ => none
    | _ => none
  | .off n x => match ρ x with
    | .pointer (some p) => some (.pointer (some { p with off := p.off + n }), h)
    | _ => none
  | .field n i x => match ρ x with
    | .agg cs => if i + n ≤ cs.size then some (agg ((cs.toList.drop i).take n), h) else none
    | _ => none
  | .field1 i x => match ρ x with
    | .agg cs => (cs.toList[i]?).map (·, h)
    | _ => none
  | .atRow size x i => match ρ x, ρ i with
    | .slice (some p) n c, .int _ k => if c = size ∧ 0 ≤ k ∧ k < n then some (.pointer (some { p with off := p.off + k.toNat * size }), h) else none
    | _, _ => none
  | .atArr len size x i => match ρ x, ρ i with
    | .pointer (some p), .int _ k => if 0 ≤ k ∧ k < len then some (.pointer (some { p with off := p.off + k.toNat * size }), h) else none
    | _, _ => none
  | .idxArr len size x i => match ρ x, ρ i with
    | .agg cs, .int _ k => if 0 ≤ k ∧ k < len then (cs.toList[k.toNat * size]?).map (·, h) else none
    | _, _ => none
  | .idxStr x i => match ρ x, ρ i with
    | .string s, .int _ k => if 0 ≤ k then (s.data.toList[k.toNat]?).map fun b => (.int .u8 b.toNat, h) else none
    | _, _ => none
  | .extract x i => match ρ x with
    | .tuple vs => (vs.toList[i]?).map (·, h)
    | _ => none
  | .len x => match ρ x with
    | .slice _ n _ => some (.int .i64 n, h)
    | _ => none
  | .lenStr x => match ρ x with
    | .string s => some (.int .i64 s.size, h)
    | _ => none
  | .append size bytes x y => kh h size bytes (ρ x) (zc9 h size (ρ y))
  | .mkSlice size bytes z n => match ρ n with
    | .int _ k => if 0 ≤ k ∧ k * bytes ≤ k8 then some (slc h.length 0 0 k.toNat size, h ++ [.cells (bw z k.toNat) 0 false]) else none
    | _ => none
  | .call f as => call f (as.map ρ) h
  | .callv f as => match ρ f with
    | .func (.func g) a b => call g (a.toList ++ as.map ρ ++ b.toList) h
    | _ => none
  | .mkMap => some (.map (some h.length), h ++ [.map []])
  | .lookup kk z m k ok =>
    match (if zdx kk (ρ k) then zkk h kk (ρ k) (ρ m) else none) with
    | some (some v) => some (if ok then tup [v, .bool true] else v, h)
    | some none => some (if ok then tup [z, .bool false] else z, h)
    | none => none
  | .update kk m k v => match ρ m with
    | .map (some b) => match h[b]? with
      | some (.map es) => if zdx kk (ρ k) then (px kk (ρ k) (ρ v) es).map fun es' => (undef, h.set b (.map es')) else none
      | _ => none
    | _ => none
  | .lenMap m => match ρ m with
    | .map none => some (.int .i64 0, h)
    | .map (some b) => match h[b]? with
      | some (.map es) => some (.int .i64 es.length, h)
      | _ => none
    | _ => none
  | .max2 x y => match ρ x, ρ y with
    | .int k a, .int _ b => some (.int k (if a < b then b else a), h)
    | _, _ => none
  | .min2 x y => match ρ x, ρ y with
    | .int k a, .int _ b => some (.int k (if b < a then b else a), h)
    | _, _ => none
  | .again1 a t => match ρ a with
    | .pointer (some p) => if h.read1 p = some (ρ (.tmp t)) ∧ zmr (ρ (.tmp t)) = false then some (undef, h) else none
    | _ => none
  | .again n a t => match ρ a with
    | .pointer (some p) => if (h.read p n).map agg = some (ρ (.tmp t)) ∧ zmr (ρ (.tmp t)) = false then some (undef, h) else none
    | _ => none
  | .eqv neg k x y => (qw k (ρ x) (ρ y)).map fun b => (.bool (b != neg), h)
  | .eqAgg neg ks x y => match ρ x, ρ y with
    | .agg a, .agg b => if a.size = ks.length ∧ b.size = ks.length then (zbh ks a.toList b.toList).map fun b => (.bool (b != neg), h) else none
    | _, _ => none
  | .sliceArr len size x lo hi => match ρ x with
    | .pointer (some p) => match za6 (lo.map ρ) 0, za6 (hi.map ρ) len with
      | some l, some k => match h[p.block]? with
        | some (.cells vals ver _) => if p.spot = some ver ∧ p.off + len * size ≤ vals.length ∧ l ≤ k ∧ k ≤ len then some (.slice (some { p with off := p.off + l * size }) (k - l) size, h) else none
        | _ => none
      | _, _ => none
    | _ => none
def zjp (s : St) : Option (Nat × Bool) → Bool
  | none => true
  | some (j, b) => match s.t.getD j undef with
    | .bool c => c == b
    | _ => false
noncomputable def zbw (call : qd) (o : gq) (s : St) : Option St :=
  if zjp s o.guard then (evOp call s.eval s.h o.op).map fun r => s.put o.dst r.1 r.2 else some (s.put o.dst undef s.h)
noncomputable def fj (call : qd) : List gq → St → Option St
  | [], s => some s
  | o :: l, s => (zbw call o s).bind (fj call l)
def aRes (s : St) : ARes → Option Value
  | .tmp t => some (s.t.getD t undef)
  | .cell1 t => match s.t.getD t undef with
    | .pointer (some p) => s.h.read1 p
    | _ => none
  | .cells t n => match s.t.getD t undef with
    | .pointer (some p) => (s.h.read p n).map agg
    | _ => none
def f8 (s : St) : List ARes → Option Value
  | [r] => aRes s r
  | l => (l.mapM (aRes s)).map tup
open Classical in
noncomputable def finish (h : Heap) (v : Value) (h' : Heap) : Heap := if flat v = true ∧ h'.take h.length = h then h else h'
structure Funcs where
  fn : FuncId → Option vt
  ext : qd
instance : CoeFun Funcs fun _ => FuncId → Option vt := ⟨Funcs.fn⟩
mutual
noncomputable def evC (F : Funcs) : Nat → pv → St → Option (AEx × St)
  | 0, _, _ => none
  | n + 1, c, s => match c with
    | .skip => some (.normal, s)
    | .ops l => (fj (evF F n) l s).map fun s' => (.normal, s')
    | .seq a b => match evC F n a s with
      | some (.normal, s') => evC F n b s'
      | r => r
    | .cond c a b => match s.eval c with
      | .bool true => evC F n a s
      | .bool false => evC F n b s
      | _ => none
    | .block id b => match evC F n b s with
      | some (.exit j, s') => some (if j = id then .normal else .exit j, s')
      | r => r
    | .loop b => match evC F n b s with
      | some (.normal, s') => evC F n (.loop b) s'
      | r => r
    | .exit id => some (.exit id, s)
    | .ret => some (.ret, s)
noncomputable def evF (F : Funcs) : Nat → qd
  | 0, _, _, _ => none
  | n + 1, f, args, h => match F f with
    | none => F.ext f args h
    | some fn => match evC F n fn.body ⟨args ++ List.replicate (fn.ntmps - args.length) undef, h⟩ with
      | some (.exit _, _) => none
      | some (_, s) => (f8 s fn.res).map fun v => (v, finish h v s.h)
      | none => none
end
end Go.Proofs.YtljdbheclfaloaaGreatDoor.AM
namespace Go.Proofs.YtljdbheclfaloaaGreatDoor.AM
set_option linter.unusedSimpArgs false
open Go.RowKit
def Below (c c' : qd) : Prop := ∀ f args h r, c f args h = some r → c' f args h = some r
theorem zzc {c c' : qd} (hc : Below c c') (ρ : Operand → Value) (h : Heap) (o : AOp) (r : Value × Heap) (e : evOp c ρ h o = some r) : evOp c' ρ h o = some r := by
  cases o <;> first | exact e | skip
  case call f as => exact hc _ _ _ _ e
  case callv f as =>
    simp only [evOp] at e ⊢
    split at e
    · exact hc _ _ _ _ e
    · exact e
theorem zk1 {c c' : qd} (hc : Below c c') (o : gq) (s r : St) (e : zbw c o s = some r) : zbw c' o s = some r := by
  unfold zbw at e ⊢
  split at e
  · rename_i hw
    rw [if_pos hw]
    cases h : evOp c s.eval s.h o.op with
    | none => rw [h] at e; cases e
    | some v => rw [zzc hc _ _ _ _ h]; rw [h] at e; exact e
  · rename_i hw
    rw [if_neg hw]; exact e
theorem zi9 {c c' : qd} (hc : Below c c') (l : List gq) : ∀ (s r : St), fj c l s = some r → fj c' l s = some r := by
  induction l with
  | nil => exact fun s r e => e
  | cons o l ih =>
    intro s r e
    simp only [fj] at e ⊢
    cases h : zbw c o s with
    | none => rw [h] at e; cases e
    | some s' => rw [zk1 hc _ _ _ h]; rw [h] at e; exact ih _ _ e
theorem zzf (F : Funcs) (n : Nat) : (∀ c s r, evC F n c s = some r → evC F (n + 1) c s = some r) ∧ Below (evF F n) (evF F (n + 1)) := by
  induction n with
  | zero => exact ⟨fun c s r e => by simp [evC] at e, fun f args h r e => by simp [evF] at e⟩
  | succ n ih =>
    obtain ⟨ihc, ihf⟩ := ih
    constructor
    · intro c s r e
      cases c with
      | skip => simpa [evC] using e
      | ops l =>
        simp only [evC] at e ⊢
        cases h : fj (evF F n) l s with
        | none => rw [h] at e; cases e
        | some s' => rw [zi9 ihf _ _ _ h]; rw [h] at e; exact e
      | seq a b =>
        rw [evC] at e ⊢
        cases h : evC F n a s with
        | none => rw [h] at e; cases e
        | some p =>
          rw [h] at e; rw [ihc _ _ _ h]
          obtain ⟨x, s'⟩ := p
          cases x with
          | normal => exact ihc _ _ _ e
          | exit id => exact e
          | ret => exact e
      | cond c a b =>
        rw [evC] at e ⊢
        split at e
        · exact ihc _ _ _ e
        · exact ihc _ _ _ e
        · cases e
      | block id b =>
        rw [evC] at e ⊢
        cases h : evC F n b s with
        | none => rw [h] at e; cases e
        | some p => rw [ihc _ _ _ h]; rw [h] at e; exact e
      | loop b =>
        rw [evC] at e ⊢
        cases h : evC F n b s with
        | none => rw [h] at e; cases e
        | some p =>
          rw [h] at e; rw [ihc _ _ _ h]
          obtain ⟨x, s'⟩ := p
          cases x with
          | normal => exact ihc _ _ _ e
          | exit id => exact e
          | ret => exact e
      | exit id => simpa [evC] using e
      | ret => simpa [evC] using e
    · intro f args h r e
      rw [evF] at e ⊢
      cases hf : F f with
      | none => rw [hf] at e; exact e
      | some fn =>
        rw [hf] at e
        simp only at e ⊢
        cases hc : evC F n fn.body ⟨args ++ List.replicate (fn.ntmps - args.length) undef, h⟩ with
        | none => rw [hc] at e; cases e
        | some p => rw [ihc _ _ _ hc]; rw [hc] at e; exact e
theorem zn4 (F : Funcs) {n m : Nat} (h : n ≤ m) {c : pv} {s : St} {r : AEx × St} (e : evC F n c s = some r) : evC F m c s = some r := by
  induction h with
  | refl => exact e
  | step _ ih => exact (zzf F _).1 _ _ _ ih
theorem zut (F : Funcs) {n m : Nat} (h : n ≤ m) : Below (evF F n) (evF F m) := by
  induction h with
  | refl => exact fun _ _ _ _ e => e
  | step _ ih => exact fun f a x r e => (zzf F _).2 _ _ _ _ (ih _ _ _ _ e)
open Classical in
noncomputable def D (F : Funcs) (c : pv) (s : St) : Option (AEx × St) := if h : ∃ r n, evC F n c s = some r then some h.choose else none
open Classical in
noncomputable def DF (F : Funcs) : qd := fun f args h => if h : ∃ r n, evF F n f args h = some r then some h.choose else none
theorem zbp (F : Funcs) (c : pv) (s : St) (r : AEx × St) : D F c s = some r ↔ ∃ n, evC F n c s = some r := by
  unfold D
  constructor
  · intro e
    split at e
    · rename_i h
      obtain ⟨n, hn⟩ := h.choose_spec
      exact ⟨n, by rw [hn]; exact e⟩
    · cases e
  · rintro ⟨n, hn⟩
    have h : ∃ r n, evC F n c s = some r := ⟨r, n, hn⟩
    rw [dif_pos h]
    obtain ⟨m, hm⟩ := h.choose_spec
    have h1 := zn4 F (Nat.le_max_left n m) hn
    have h2 := zn4 F (Nat.le_max_right n m) hm
    rw [h1] at h2
    exact h2.symm
theorem zn1 (F : Funcs) (f : FuncId) (args : List Value) (h : Heap) (r : Value × Heap) : DF F f args h = some r ↔ ∃ n, evF F n f args h = some r := by
  unfold DF
  constructor
  · intro e
    split at e
    · rename_i h
      obtain ⟨n, hn⟩ := h.choose_spec
      exact ⟨n, by rw [hn]; exact e⟩
    · cases e
  · rintro ⟨n, hn⟩
    have h' : ∃ r n, evF F n f args h = some r := ⟨r, n, hn⟩
    rw [dif_pos h']
    obtain ⟨m, hm⟩ := h'.choose_spec
    have h1 := zut F (Nat.le_max_left n m) _ _ _ _ hn
    have h2 := zut F (Nat.le_max_right n m) _ _ _ _ hm
    rw [h1] at h2
    exact h2.symm
theorem yf4 (F : Funcs) (n : Nat) : Below (evF F n) (DF F) := fun _ _ _ _ e => (zn1 F _ _ _ _).2 ⟨n, e⟩
theorem yc5 {F : Funcs} (ρ : Operand → Value) (h : Heap) (o : AOp) (r : Value × Heap) (e : evOp (DF F) ρ h o = some r) : ∃ n, evOp (evF F n) ρ h o = some r := by
  cases o <;> first | exact ⟨0, e⟩ | skip
  case call f as => exact (zn1 F _ _ _ _).1 e
  case callv f as =>
    simp only [evOp] at e
    split at e
    · obtain ⟨n, hn⟩ := (zn1 F _ _ _ _).1 e
      rename_i heq
      exact ⟨n, by simp only [evOp, heq]; exact hn⟩
    · cases e
theorem zvz {F : Funcs} (o : gq) (s r : St) (e : zbw (DF F) o s = some r) : ∃ n, zbw (evF F n) o s = some r := by
  unfold zbw at e ⊢
  split at e
  · rename_i hw
    cases h : evOp (DF F) s.eval s.h o.op with
    | none => rw [h] at e; cases e
    | some v =>
      obtain ⟨n, hn⟩ := yc5 _ _ _ _ h
      exact ⟨n, by rw [if_pos hw, hn]; rw [h] at e; exact e⟩
  · rename_i hw
    exact ⟨0, by rw [if_neg hw]; exact e⟩
theorem zxt {F : Funcs} (l : List gq) : ∀ (s r : St), fj (DF F) l s = some r → ∃ n, fj (evF F n) l s = some r := by
  induction l with
  | nil => exact fun s r e => ⟨0, e⟩
  | cons o l ih =>
    intro s r e
    simp only [fj] at e ⊢
    cases h : zbw (DF F) o s with
    | none => rw [h] at e; cases e
    | some s' =>
      rw [h] at e
      obtain ⟨n, hn⟩ := zvz _ _ _ h
      obtain ⟨m, hm⟩ := ih _ _ e
      refine ⟨max n m, ?_⟩
      rw [zk1 (zut F (Nat.le_max_left n m)) _ _ _ hn]
      exact zi9 (zut F (Nat.le_max_right n m)) _ _ _ hm
theorem zhb {α : Type} {a b : Option α} (h : ∀ r, a = some r ↔ b = some r) : a = b := by
  cases a with
  | none => cases b with
    | none => rfl
    | some y => exact absurd ((h y).2 rfl) (by simp)
  | some x => exact ((h x).1 rfl).symm
section
variable (F : Funcs) (s : St)
theorem yl : D F .skip s = some (.normal, s) := (zbp _ _ _ _).2 ⟨1, by simp [evC]⟩
theorem w6 (id : Nat) : D F (.exit id) s = some (.exit id, s) := (zbp _ _ _ _).2 ⟨1, by simp [evC]⟩
theorem xe : D F .ret s = some (.ret, s) := (zbp _ _ _ _).2 ⟨1, by simp [evC]⟩
theorem yha (l : List gq) : D F (.ops l) s = (fj (DF F) l s).map fun s' => (.normal, s') := by
  apply zhb; intro r
  rw [zbp]
  constructor
  · rintro ⟨n, hn⟩
    cases n with
    | zero => simp [evC] at hn
    | succ n =>
      simp only [evC] at hn
      cases h : fj (evF F n) l s with
      | none => rw [h] at hn; cases hn
      | some s' => rw [zi9 (yf4 F n) _ _ _ h]; rw [h] at hn; exact hn
  · intro e
    cases h : fj (DF F) l s with
    | none => rw [h] at e; cases e
    | some s' =>
      obtain ⟨n, hn⟩ := zxt _ _ _ h
      exact ⟨n + 1, by simp only [evC]; rw [hn]; rw [h] at e; exact e⟩
noncomputable def yfx (F : Funcs) (b : pv) : Option (AEx × St) → Option (AEx × St)
  | some (.normal, s') => D F b s'
  | r => r
theorem yg8 (a b : pv) : D F (.seq a b) s = yfx F b (D F a s) := by
  apply zhb; intro r
  rw [zbp]
  constructor
  · rintro ⟨n, hn⟩
    cases n with
    | zero => simp [evC] at hn
    | succ n =>
      rw [evC] at hn
      cases h : evC F n a s with
      | none => rw [h] at hn; cases hn
      | some p =>
        rw [h] at hn
        rw [(zbp F a s p).2 ⟨n, h⟩]
        obtain ⟨x, s'⟩ := p
        cases x with
        | normal => exact (zbp _ _ _ _).2 ⟨n, hn⟩
        | exit id => exact hn
        | ret => exact hn
  · intro e
    cases h : D F a s with
    | none => rw [h] at e; cases e
    | some p =>
      rw [h] at e
      obtain ⟨n, hn⟩ := (zbp _ _ _ _).1 h
      obtain ⟨x, s'⟩ := p
      cases x with
      | normal =>
        obtain ⟨m, hm⟩ := (zbp _ _ _ _).1 (show D F b s' = some r from e)
        refine ⟨max n m + 1, ?_⟩
        rw [evC, zn4 F (Nat.le_max_left n m) hn]
        exact zn4 F (Nat.le_max_right n m) hm
      | exit id => exact ⟨n + 1, by rw [evC, hn]; exact e⟩
      | ret => exact ⟨n + 1, by rw [evC, hn]; exact e⟩
theorem ygw (c : Operand) (a b : pv) : D F (.cond c a b) s = match s.eval c with
    | .bool true => D F a s
    | .bool false => D F b s
    | _ => none := by
  apply zhb; intro r
  rw [zbp]
  constructor
  · rintro ⟨n, hn⟩
    cases n with
    | zero => simp [evC] at hn
    | succ n =>
      rw [evC] at hn
      split at hn
      · rename_i h; first | (rw [h]; exact (zbp _ _ _ _).2 ⟨n, hn⟩) | exact (zbp _ _ _ _).2 ⟨n, hn⟩
      · rename_i h; first | (rw [h]; exact (zbp _ _ _ _).2 ⟨n, hn⟩) | exact (zbp _ _ _ _).2 ⟨n, hn⟩
      · cases hn
  · intro e
    split at e
    · obtain ⟨n, hn⟩ := (zbp _ _ _ _).1 e
      rename_i h
      exact ⟨n + 1, by rw [evC, h]; exact hn⟩
    · obtain ⟨n, hn⟩ := (zbp _ _ _ _).1 e
      rename_i h
      exact ⟨n + 1, by rw [evC, h]; exact hn⟩
    · cases e
def yb1 (id : Nat) : Option (AEx × St) → Option (AEx × St)
  | some (.exit j, s') => some (if j = id then .normal else .exit j, s')
  | r => r
theorem ye8 (id : Nat) (b : pv) : D F (.block id b) s = yb1 id (D F b s) := by
  apply zhb; intro r
  rw [zbp]
  constructor
  · rintro ⟨n, hn⟩
    cases n with
    | zero => simp [evC] at hn
    | succ n =>
      rw [evC] at hn
      cases h : evC F n b s with
      | none => rw [h] at hn; cases hn
      | some p => rw [(zbp F b s p).2 ⟨n, h⟩]; rw [h] at hn; exact hn
  · intro e
    cases h : D F b s with
    | none => rw [h] at e; cases e
    | some p =>
      obtain ⟨n, hn⟩ := (zbp _ _ _ _).1 h
      exact ⟨n + 1, by rw [evC, hn]; rw [h] at e; exact e⟩
theorem yd0 (b : pv) : D F (.loop b) s = yfx F (.loop b) (D F b s) := by
  apply zhb; intro r
  rw [zbp]
  constructor
  · rintro ⟨n, hn⟩
    cases n with
    | zero => simp [evC] at hn
    | succ n =>
      rw [evC] at hn
      cases h : evC F n b s with
      | none => rw [h] at hn; cases hn
      | some p =>
        rw [h] at hn
        rw [(zbp F b s p).2 ⟨n, h⟩]
        obtain ⟨x, s'⟩ := p
        cases x with
        | normal => exact (zbp _ _ _ _).2 ⟨n, hn⟩
        | exit id => exact hn
        | ret => exact hn
  · intro e
    cases h : D F b s with
    | none => rw [h] at e; cases e
    | some p =>
      rw [h] at e
      obtain ⟨n, hn⟩ := (zbp _ _ _ _).1 h
      obtain ⟨x, s'⟩ := p
      cases x with
      | normal =>
        obtain ⟨m, hm⟩ := (zbp _ _ _ _).1 (show D F (.loop b) s' = some r from e)
        refine ⟨max n m + 1, ?_⟩
        rw [evC, zn4 F (Nat.le_max_left n m) hn]
        exact zn4 F (Nat.le_max_right n m) hm
      | exit id => exact ⟨n + 1, by rw [evC, hn]; exact e⟩
      | ret => exact ⟨n + 1, by rw [evC, hn]; exact e⟩
end
noncomputable def endF (h : Heap) (res : List ARes) : Option (AEx × St) → Option (Value × Heap)
  | some (.exit _, _) => none
  | some (_, s) => (f8 s res).map fun v => (v, finish h v s.h)
  | none => none
theorem zz9 {F : Funcs} {f : FuncId} (hf : F f = none) (args : List Value) (h : Heap) : DF F f args h = F.ext f args h := by
  apply zhb; intro r
  rw [zn1]
  constructor
  · rintro ⟨n, hn⟩
    cases n with
    | zero => simp [evF] at hn
    | succ n => rw [evF, hf] at hn; exact hn
  · intro hr
    exact ⟨1, by rw [evF, hf]; exact hr⟩
theorem yg2 {F : Funcs} {f : FuncId} {fn : vt} (hf : F f = some fn) (args : List Value) (h : Heap) :
    DF F f args h = endF h fn.res (D F fn.body ⟨args ++ List.replicate (fn.ntmps - args.length) undef, h⟩) := by
  apply zhb; intro r
  rw [zn1]
  constructor
  · rintro ⟨n, hn⟩
    cases n with
    | zero => simp [evF] at hn
    | succ n =>
      rw [evF, hf] at hn
      simp only at hn
      cases hc : evC F n fn.body ⟨args ++ List.replicate (fn.ntmps - args.length) undef, h⟩ with
      | none => rw [hc] at hn; cases hn
      | some p => rw [(zbp F _ _ p).2 ⟨n, hc⟩]; rw [hc] at hn; exact hn
  · intro e
    cases hc : D F fn.body ⟨args ++ List.replicate (fn.ntmps - args.length) undef, h⟩ with
    | none => rw [hc] at e; cases e
    | some p =>
      obtain ⟨n, hn⟩ := (zbp _ _ _ _).1 hc
      refine ⟨n + 1, ?_⟩
      rw [evF, hf]
      simp only
      rw [hn]; rw [hc] at e; exact e
end Go.Proofs.YtljdbheclfaloaaGreatDoor.AM
namespace Go.Proofs.YtljdbheclfaloaaGreatDoor.AM
set_option linter.unusedSimpArgs false
open Go.RowKit
section
variable {call : qd} {F : Funcs}
noncomputable def zwp (call : qd) (d : Option Nat) (l : List gq) (s : St) : Option (Value × Heap) → Option St
  | some r => fj call l (s.put d r.1 r.2)
  | none => none
noncomputable def zj2 (call : qd) (d : Option Nat) (op : AOp) (l : List gq) (s : St) : Bool → Value → Option St
  | b, .bool c => if c = b then zwp call d l s (evOp call s.eval s.h op) else fj call l (s.put d undef s.h)
  | _, _ => fj call l (s.put d undef s.h)
def yg (h : Heap) : Option Value → Option (Value × Heap)
  | some v => some (v, h)
  | none => none
noncomputable def yew (F : Funcs) (a b : pv) (s : St) : Value → Option (AEx × St)
  | .bool true => D F a s
  | .bool false => D F b s
  | _ => none
def zx2 : Option St → Option (AEx × St)
  | some s => some (.normal, s)
  | none => none
theorem z8 (s : St) : fj call [] s = some s := rfl
theorem zn (d : Option Nat) (op : AOp) (l : List gq) (s : St) : fj call (⟨d, op, none⟩ :: l) s = zwp call d l s (evOp call s.eval s.h op) := by
  simp only [fj, zbw, zjp, if_true]
  cases evOp call s.eval s.h op <;> rfl
theorem ye (d : Option Nat) (op : AOp) (j : Nat) (b : Bool) (l : List gq) (s : St) : fj call (⟨d, op, some (j, b)⟩ :: l) s = zj2 call d op l s b (s.t.getD j undef) := by
  unfold fj zbw zjp
  cases hx : s.t.getD j undef with
  | bool c =>
    simp only [zj2, hx]
    by_cases h : c = b
    · simp only [h, beq_self_eq_true, if_true]
      cases evOp call s.eval s.h op <;> rfl
    · simp [h]
  | _ => simp only [zj2, hx, Bool.false_eq_true, if_false]; rfl
theorem zc (d : Nat) (l : List gq) (t : List Value) (h h' : Heap) (v : Value) : zwp call (some d) l ⟨t, h⟩ (some (v, h')) = fj call l ⟨t.set d v, h'⟩ := rfl
theorem zp (l : List gq) (t : List Value) (h h' : Heap) (v : Value) : zwp call none l ⟨t, h⟩ (some (v, h')) = fj call l ⟨t, h'⟩ := rfl
theorem xl (d : Option Nat) (op : AOp) (l : List gq) (s : St) : zj2 call d op l s true (.bool true) = zwp call d l s (evOp call s.eval s.h op) := rfl
theorem yr (d : Option Nat) (op : AOp) (l : List gq) (s : St) : zj2 call d op l s false (.bool false) = zwp call d l s (evOp call s.eval s.h op) := rfl
theorem w5 (d : Nat) (op : AOp) (l : List gq) (t : List Value) (h : Heap) : zj2 call (some d) op l ⟨t, h⟩ true (.bool false) = fj call l ⟨t.set d undef, h⟩ := rfl
theorem wi (d : Nat) (op : AOp) (l : List gq) (t : List Value) (h : Heap) : zj2 call (some d) op l ⟨t, h⟩ false (.bool true) = fj call l ⟨t.set d undef, h⟩ := rfl
theorem zor (d : Nat) (op : AOp) (l : List gq) (t : List Value) (h : Heap) (b : Bool) : zj2 call (some d) op l ⟨t, h⟩ b undef = fj call l ⟨t.set d undef, h⟩ := by cases b <;> rfl
theorem zo (t : List Value) (h : Heap) (i : Nat) : St.eval ⟨t, h⟩ (.tmp i) = t.getD i undef := rfl
theorem zf (s : St) (v : Value) : St.eval s (.const v) = v := rfl
theorem zoq (s : St) (f : FuncId) : St.eval s (.func f) = .func (.func f) #[] #[] := rfl
theorem ze (v : Value) (t : List Value) (i : Nat) : (v :: t).getD (i + 1) undef = t.getD i undef := rfl
theorem zd (v : Value) (t : List Value) : (v :: t).getD 0 undef = v := rfl
variable (ρ : Operand → Value) (h : Heap)
theorem O_mv (x : Operand) : evOp call ρ h (.mv x) = some (ρ x, h) := rfl
def xf (h : Heap) (a b : Value) : Value → Option (Value × Heap)
  | .bool true => some (a, h)
  | .bool false => some (b, h)
  | _ => none
theorem yw (c a b : Operand) : evOp call ρ h (.pick c a b) = xf h (ρ a) (ρ b) (ρ c) := by
  simp only [evOp]; generalize ρ c = x
  cases x with
  | bool t => cases t <;> rfl
  | _ => rfl
theorem yu (op : BinOp) (x y : Operand) : evOp call ρ h (.bin op x y) = yg h (je op (ρ x) (ρ y)) := by simp only [evOp]; cases je op (ρ x) (ρ y) <;> rfl
theorem O_un (op : UnOp) (x : Operand) : evOp call ρ h (.un op x) = yg h (zwd op (ρ x)) := by simp only [evOp]; cases zwd op (ρ x) <;> rfl
def zsn (h : Heap) (k : IntKind) : Value → Option (Value × Heap)
  | .int _ n => some (.int k (k.wrap n), h)
  | _ => none
theorem zms (k : IntKind) (x : Operand) : evOp call ρ h (.conv k x) = zsn h k (ρ x) := by
  simp only [evOp]; generalize ρ x = x; cases x <;> rfl
theorem yf (f : FuncId) (as : List Operand) : evOp call ρ h (.call f as) = call f (as.map ρ) h := rfl
def lenO (h : Heap) : Value → Option (Value × Heap)
  | .slice _ n _ => some (.int .i64 n, h)
  | _ => none
theorem j7 (x : Operand) : evOp call ρ h (.len x) = lenO h (ρ x) := by
  simp only [evOp]; generalize ρ x = x; cases x <;> rfl
variable (k : IntKind) (a b : Int)
theorem vj : je .add (.int k a) (.int k b) = some (.int k (k.wrap (a + b))) := by simp [je, zea]
theorem zr7 : je .sub (.int k a) (.int k b) = some (.int k (k.wrap (a - b))) := by simp [je, zea]
theorem zvc : je .and (.int k a) (.int k b) = some (.int k (Go.bits .and k a b)) := by simp [je, zea]
theorem yam : je .or (.int k a) (.int k b) = some (.int k (Go.bits .or k a b)) := by simp [je, zea]
theorem zq8 : je .andNot (.int k a) (.int k b) = some (.int k (Go.bits .andNot k a b)) := by simp [je, zea]
theorem jy : je .eql (.int k a) (.int k b) = some (.bool (a == b)) := by simp [je, zea]
theorem zit : je .neq (.int k a) (.int k b) = some (.bool (a != b)) := by simp [je, zea]
theorem xy : je .lss (.int k a) (.int k b) = some (.bool (decide (a < b))) := by simp [je, zea]
theorem zj9 : je .leq (.int k a) (.int k b) = some (.bool (decide (a ≤ b))) := by simp [je, zea]
theorem zab : je .gtr (.int k a) (.int k b) = some (.bool (decide (b < a))) := by simp [je, zea]
theorem zbb : je .geq (.int k a) (.int k b) = some (.bool (decide (b ≤ a))) := by simp [je, zea]
theorem ydu (k' : IntKind) (hb : 0 ≤ b) : je .shl (.int k a) (.int k' b) = some (.int k (shl k a b)) := by
  simp only [je]; rw [if_neg (by omega)]
theorem yf9 (k' : IntKind) (hb : 0 ≤ b) : je .shr (.int k a) (.int k' b) = some (.int k (shr k a b)) := by
  simp only [je]; rw [if_neg (by omega)]
theorem vp (b : Bool) : zwd .not (.bool b) = some (.bool !b) := rfl
end
section
variable {F : Funcs} (s : St)
theorem z7 (l : List gq) : D F (.ops l) s = zx2 (fj (DF F) l s) := by rw [yha]; cases fj (DF F) l s <;> rfl
theorem zb : zx2 (some s) = some (.normal, s) := rfl
theorem zr (c : Operand) (a b : pv) : D F (.cond c a b) s = yew F a b s (s.eval c) := by
  rw [ygw]; generalize s.eval c = x
  cases x with
  | bool t => cases t <;> rfl
  | _ => rfl
theorem zw (a b : pv) : yew F a b s (.bool true) = D F a s := rfl
theorem zu (a b : pv) : yew F a b s (.bool false) = D F b s := rfl
theorem yex (h : Heap) (i : Nat) (t : List Value) : endF h [.tmp i] (some (.ret, ⟨t, h⟩)) = some (t.getD i undef, h) := by simp [endF, f8, aRes, finish]
end
end Go.Proofs.YtljdbheclfaloaaGreatDoor.AM
namespace Go.Proofs.YtljdbheclfaloaaGreatDoor.AM
set_option linter.unusedSimpArgs false
open Go.RowKit
section
variable {F : Funcs}
def WPD (o : Option (AEx × St)) (Q : AEx → St → Prop) : Prop := ∃ x s, o = some (x, s) ∧ Q x s
def yas (F : Funcs) (b : pv) (Q : AEx → St → Prop) : AEx → St → Prop
  | .normal, s => WPD (D F b s) Q
  | x, s => Q x s
def zky (id : Nat) (Q : AEx → St → Prop) : AEx → St → Prop
  | .exit j, s => Q (if j = id then .normal else .exit j) s
  | x, s => Q x s
def retQ (h : Heap) (res : List ARes) (r : Option (Value × Heap)) : AEx → St → Prop := fun x s => endF h res (some (x, s)) = r
def zx8 (I : Nat → St → Prop) (m : Nat) (Q : AEx → St → Prop) : AEx → St → Prop
  | .normal, s => ∃ m', m' < m ∧ I m' s
  | x, s => Q x s
variable (x : AEx) (s : St) (Q : AEx → St → Prop)
theorem zm : WPD (some (x, s)) Q = Q x s := by
  unfold WPD; apply propext
  constructor
  · rintro ⟨_, _, h, q⟩; cases h; exact q
  · exact fun q => ⟨_, _, rfl, q⟩
theorem yb (a b : pv) : WPD (D F (.seq a b) s) Q = WPD (D F a s) (yas F b Q) := by
  rw [yg8]; unfold WPD; apply propext
  constructor
  · rintro ⟨x, s', h, q⟩
    cases ha : D F a s with
    | none => rw [ha] at h; cases h
    | some p =>
      obtain ⟨y, u⟩ := p
      rw [ha] at h
      refine ⟨y, u, rfl, ?_⟩
      cases y with
      | normal => exact ⟨x, s', h, q⟩
      | exit j => cases h; exact q
      | ret => cases h; exact q
  · rintro ⟨y, u, ha, q⟩
    rw [ha]
    cases y with
    | normal => exact q
    | exit j => exact ⟨_, _, rfl, q⟩
    | ret => exact ⟨_, _, rfl, q⟩
theorem zx (id : Nat) (b : pv) : WPD (D F (.block id b) s) Q = WPD (D F b s) (zky id Q) := by
  rw [ye8]; unfold WPD; apply propext
  constructor
  · rintro ⟨x, s', h, q⟩
    cases ha : D F b s with
    | none => rw [ha] at h; cases h
    | some p =>
      obtain ⟨y, u⟩ := p
      rw [ha] at h
      refine ⟨y, u, rfl, ?_⟩
      cases y <;> (cases h; exact q)
  · rintro ⟨y, u, ha, q⟩
    rw [ha]
    cases y <;> exact ⟨_, _, rfl, q⟩
theorem za (b : pv) : yas F b Q .normal s = WPD (D F b s) Q := rfl
theorem y5 (b : pv) : yas F b Q .ret s = Q .ret s := rfl
theorem yx (b : pv) (j : Nat) : yas F b Q (.exit j) s = Q (.exit j) s := rfl
theorem zi (id : Nat) : zky id Q .normal s = Q .normal s := rfl
theorem xx (id : Nat) : zky id Q .ret s = Q .ret s := rfl
theorem yj (id : Nat) : zky id Q (.exit id) s = Q .normal s := by simp [zky]
theorem zov (id j : Nat) (h : j ≠ id) : zky id Q (.exit j) s = Q (.exit j) s := by simp [zky, h]
theorem vq (I : Nat → St → Prop) (m : Nat) : zx8 I m Q .normal s = ∃ m', m' < m ∧ I m' s := rfl
theorem zch (I : Nat → St → Prop) (m : Nat) : zx8 I m Q .ret s = Q .ret s := rfl
theorem zag (I : Nat → St → Prop) (m j : Nat) : zx8 I m Q (.exit j) s = Q (.exit j) s := rfl
theorem zbt (h : Heap) (i : Nat) (t : List Value) (r : Option (Value × Heap)) : retQ h [.tmp i] r .ret ⟨t, h⟩ = (some (t.getD i undef, h) = r) := by
  unfold retQ; rw [yex]
theorem ygx {f : FuncId} {fn : vt} (hf : F f = some fn) {args : List Value} {h : Heap} {r : Option (Value × Heap)} (hb : WPD (D F fn.body ⟨args ++ List.replicate (fn.ntmps - args.length) undef, h⟩) (retQ h fn.res r)) : DF F f args h = r := by
  rw [yg2 hf]
  obtain ⟨x, s, hd, hq⟩ := hb
  rw [hd]; exact hq
theorem zi6 {b : pv} {Q : AEx → St → Prop} (I : Nat → St → Prop) (step : ∀ m s, I m s → WPD (D F b s) (zx8 I m Q)) : ∀ m s, I m s → WPD (D F (.loop b) s) Q := by
  intro m
  induction m using Nat.strongRecOn with
  | ind m ih =>
    intro s hI
    obtain ⟨x, s', hd, hq⟩ := step m s hI
    rw [yd0, hd]
    cases x with
    | normal =>
      obtain ⟨m', hm, hI'⟩ := hq
      exact ih m' hm s' hI'
    | exit j => exact ⟨_, _, rfl, hq⟩
    | ret => exact ⟨_, _, rfl, hq⟩
theorem junk {l : List Value} {h : Heap} {f : (Nat → Value) → List Value} (e : f (fun i => l.getD i undef) = l) : ∃ j, St.mk l h = ⟨f j, h⟩ := ⟨_, by rw [e]⟩
theorem WPD.mono {o : Option (AEx × St)} {Q Q' : AEx → St → Prop} (h : WPD o Q) (hq : ∀ x s, Q x s → Q' x s) : WPD o Q' := by
  obtain ⟨x, s, e, q⟩ := h; exact ⟨x, s, e, hq _ _ q⟩
end
end Go.Proofs.YtljdbheclfaloaaGreatDoor.AM
namespace Go.Proofs.YtljdbheclfaloaaGreatDoor.AM
set_option linter.unusedSimpArgs false
open Go.RowKit
section
variable {call : qd} (ρ : Operand → Value) (h : Heap)
def rowO (h : Heap) (size : Nat) : Value → Value → Option (Value × Heap)
  | .slice (some p) n c, .int _ k => if c = size ∧ 0 ≤ k ∧ k < n then some (.pointer (some { p with off := p.off + k.toNat * size }), h) else none
  | _, _ => none
theorem vh (size : Nat) (x i : Operand) : evOp call ρ h (.atRow size x i) = rowO h size (ρ x) (ρ i) := by
  simp only [evOp]; generalize ρ x = x; generalize ρ i = y
  cases x with
  | slice p n c => cases p <;> cases y <;> rfl
  | _ => rfl
theorem yb0 {size : Nat} {p : Addr} {n : Nat} {kk : IntKind} {k : Int} (h0 : 0 ≤ k) (h1 : k < n) : rowO h size (.slice (some p) n size) (.int kk k) = some (.pointer (some ⟨p.block, p.off + k.toNat * size, p.spot⟩), h) := by
  simp only [rowO]; rw [if_pos ⟨trivial, h0, h1⟩]
def zz5 (h : Heap) : Value → Option (Value × Heap)
  | .pointer (some p) => yg h (h.read1 p)
  | _ => none
theorem zz (a : Operand) : evOp call ρ h (.load1 a) = zz5 h (ρ a) := by
  simp only [evOp]; generalize ρ a = x
  cases x <;> try rfl
  rename_i p
  cases p with
  | none => rfl
  | some p => simp only [zz5]; cases h.read1 p <;> rfl
theorem zk (p : Addr) : zz5 h (.pointer (some p)) = yg h (h.read1 p) := rfl
def yey (h : Heap) (n : Nat) : Value → Option (Value × Heap)
  | .pointer (some p) => yg h ((h.read p n).map agg)
  | _ => none
theorem x7 (n : Nat) (a : Operand) : evOp call ρ h (.load n a) = yey h n (ρ a) := by
  simp only [evOp]; generalize ρ a = x
  cases x <;> try rfl
  rename_i p
  cases p with
  | none => rfl
  | some p => simp only [yey]; cases h.read p n <;> rfl
theorem y8 (n : Nat) (p : Addr) : yey h n (.pointer (some p)) = yg h ((h.read p n).map agg) := rfl
def mkO (h : Heap) (n size : Nat) : Option (List Value) → Option (Value × Heap)
  | some l => some (slc h.length 0 0 n size, h ++ [.cells l 0 false])
  | none => none
def zin (ρ : Operand → Value) : List (Nat × Nat × Operand) → List (Nat × Nat × Value)
  | [] => []
  | p :: r => (p.1, p.2.1, ρ p.2.2) :: zin ρ r
theorem yc : zin ρ [] = [] := rfl
theorem yd (i n : Nat) (x : Operand) (r : List (Nat × Nat × Operand)) : zin ρ ((i, n, x) :: r) = (i, n, ρ x) :: zin ρ r := rfl
theorem zp1 (ps : List (Nat × Nat × Operand)) : (ps.map fun p => (p.1, p.2.1, ρ p.2.2)) = zin ρ ps := by
  induction ps with
  | nil => rfl
  | cons p r ih => simp only [List.map_cons, ih]; rfl
theorem ww (z : List Value) (n : Nat) (ps : List (Nat × Nat × Operand)) : evOp call ρ h (.mkRow z n ps) = mkO h n z.length (w4 (bw z n) (zin ρ ps)) := by
  simp only [evOp, zp1]; cases w4 (bw z n) (zin ρ ps) <;> rfl
def yd8 (h : Heap) : Option (List Value) → Option (Value × Heap)
  | some l => some (agg l, h)
  | none => none
theorem wg (z : List Value) (ps : List (Nat × Nat × Operand)) : evOp call ρ h (.build z ps) = yd8 h (w4 z (zin ρ ps)) := by
  simp only [evOp, zp1]; cases w4 z (zin ρ ps) <;> rfl
theorem wd (n size : Nat) (l : List Value) : mkO h n size (some l) = some (slc h.length 0 0 n size, h ++ [.cells l 0 false]) := rfl
theorem y9 (l : List Value) : yd8 h (some l) = some (agg l, h) := rfl
theorem yz (l : List Value) : w4 l [] = some l := rfl
theorem zvn {l : List Value} {i : Nat} (hi : i < l.length) (v : Value) : splice l i [v] = l.set i v := by
  unfold splice; rw [List.set_eq_take_append_cons_drop, if_pos hi]; simp
theorem zgw {l : List Value} {i : Nat} {v : Value} (r : List (Nat × Nat × Value)) (hi : i < l.length) (hv : laid v = some [v]) : w4 l ((i, 1, v) :: r) = w4 (l.set i v) r := by
  rw [w4, hv]; simp only [List.length_singleton, true_and]; rw [if_pos (by omega), zvn hi]
theorem wu {l : List Value} {i : Nat} {k : IntKind} {n : Int} (r : List (Nat × Nat × Value)) (hi : i < l.length) : w4 l ((i, 1, .int k n) :: r) = w4 (l.set i (.int k n)) r := zgw r hi rfl
theorem ba {l : List Value} {i : Nat} {b : Bool} (r : List (Nat × Nat × Value)) (hi : i < l.length) : w4 l ((i, 1, .bool b) :: r) = w4 (l.set i (.bool b)) r := zgw r hi rfl
theorem zne {l : List Value} {i : Nat} {p : Option Addr} {n c : Nat} (r : List (Nat × Nat × Value)) (hi : i < l.length) : w4 l ((i, 1, .slice p n c) :: r) = w4 (l.set i (.slice p n c)) r := zgw r hi rfl
theorem xb (z : List Value) : bw z 0 = [] := rfl
theorem xi (z : List Value) (n : Nat) : bw z (n + 1) = z ++ bw z n := rfl
theorem zh8 {p : Addr} {n : Nat} {l : List Value} (more : Heap) (e : h.read p n = some l) : Heap.read (h ++ more) p n = some l := by
  unfold Heap.read at e ⊢
  split at e
  · rename_i vals ver ro hb
    rw [List.getElem?_append_left (List.getElem?_eq_some_iff.1 hb).1, hb]; exact e
  · cases e
theorem zt9 {p : Addr} {n : Nat} {l : List Value} (e : h.read p n = some l) {i : Nat} {v : Value} (hv : l[i]? = some v) : h.read1 ⟨p.block, p.off + i, p.spot⟩ = some v := by
  unfold Heap.read at e
  unfold Heap.read1
  split at e
  · rename_i vals ver ro hb
    simp only [hb]
    split at e
    · rename_i hc
      cases e
      rw [if_pos hc.1]
      rw [List.getElem?_take] at hv
      split at hv
      · rwa [List.getElem?_drop] at hv
      · cases hv
    · cases e
  · cases e
theorem yca (more : Heap) (i : Nat) (t : List Value) (hf : flat (t.getD i undef) = true) : endF h [.tmp i] (some (.ret, ⟨t, h ++ more⟩)) = some (t.getD i undef, h) := by
  simp [endF, f8, aRes, finish, List.getD_eq_getElem?_getD] at hf ⊢
  simp [hf]
theorem zf4 (more : Heap) (i : Nat) (t : List Value) (r : Option (Value × Heap)) (hf : flat (t.getD i undef) = true) : retQ h [.tmp i] r .ret ⟨t, h ++ more⟩ = (some (t.getD i undef, h) = r) := by
  unfold retQ; rw [yca h more i t hf]
end
end Go.Proofs.YtljdbheclfaloaaGreatDoor.AM
namespace Go.Proofs.YtljdbheclfaloaaGreatDoor.AM
set_option linter.unusedSimpArgs false
open Go.RowKit
section
variable {call : qd} (ρ : Operand → Value) (h : Heap)
theorem qv (size bytes : Nat) (x y : Operand) : evOp call ρ h (.append size bytes x y) = kh h size bytes (ρ x) (zc9 h size (ρ y)) := rfl
theorem zoh {p : Addr} {n size : Nat} {l : List Value} (e : h.read p (n * size) = some l) : zc9 h size (.slice (some p) n size) = some (l, n) := by
  simp [zc9, e]
end
end Go.Proofs.YtljdbheclfaloaaGreatDoor.AM
namespace Go.Proofs.YtljdbheclfaloaaGreatDoor.AM
set_option linter.unusedSimpArgs false
open Go.RowKit
def ztq : Nat → List Value
  | 0 => []
  | n + 1 => undef :: ztq n
theorem zh : ztq 0 = [] := rfl
theorem zg (n : Nat) : ztq (n + 1) = undef :: ztq n := rfl
theorem zuy (n : Nat) : List.replicate n undef = ztq n := by
  induction n with
  | zero => rfl
  | succ n ih => rw [List.replicate_succ, ih]; rfl
theorem wh {F : Funcs} {f : FuncId} {fn : vt} (hf : F f = some fn) {args : List Value} {h : Heap} {r : Option (Value × Heap)} (hb : WPD (D F fn.body ⟨args ++ ztq (fn.ntmps - args.length), h⟩) (retQ h fn.res r)) : DF F f args h = r := by
  refine ygx hf ?_
  rw [zuy]; exact hb
def retE (h : Heap) (res : List ARes) (R : Value → Heap → Prop) : AEx → St → Prop := fun x s => ∃ v h', endF h res (some (x, s)) = some (v, h') ∧ R v h'
theorem wz {F : Funcs} {f : FuncId} {fn : vt} (hf : F f = some fn) {args : List Value} {h : Heap} {R : Value → Heap → Prop} (hb : WPD (D F fn.body ⟨args ++ ztq (fn.ntmps - args.length), h⟩) (retE h fn.res R)) : ∃ v h', DF F f args h = some (v, h') ∧ R v h' := by
  rw [yg2 hf]
  obtain ⟨x, s, hd, v, h', he, hr⟩ := hb
  rw [zuy, hd]
  exact ⟨v, h', he, hr⟩
section
variable {call : qd} (ρ : Operand → Value) (h L : Heap) (a : AObj) (i o : Nat) (v : Option Nat)
theorem y0 (z : List Value) : evOp call ρ h (.alloc z) = some (.pointer (some ⟨h.length, 0, some 0⟩), h ++ [.cells z 0 false]) := rfl
def boxO (h : Heap) (n : Nat) : Option (List Value) → Option (Value × Heap)
  | some l => if l.length = n then some (.pointer (some ⟨h.length, 0, some 0⟩), h ++ [.cells l 0 false]) else none
  | none => none
theorem w8 (n : Nat) (x : Operand) : evOp call ρ h (.box n x) = boxO h n (laid (ρ x)) := by
  simp only [evOp]; cases laid (ρ x) <;> rfl
def arrO (h : Heap) (len size : Nat) : Value → Value → Option (Value × Heap)
  | .pointer (some p), .int _ k => if 0 ≤ k ∧ k < len then some (.pointer (some { p with off := p.off + k.toNat * size }), h) else none
  | _, _ => none
theorem zc5 (len size : Nat) (x i : Operand) : evOp call ρ h (.atArr len size x i) = arrO h len size (ρ x) (ρ i) := by
  simp only [evOp]; generalize ρ x = x; generalize ρ i = y
  cases x with
  | pointer p => cases p <;> cases y <;> rfl
  | _ => rfl
theorem yc4 {len size : Nat} {b o : Nat} {s : Option Nat} {kk : IntKind} {k : Int} (h0 : 0 ≤ k) (h1 : k < len) : arrO h len size (.pointer (some ⟨b, o, s⟩)) (.int kk k) = some (.pointer (some ⟨b, o + k.toNat * size, s⟩), h) := by
  simp only [arrO]; rw [if_pos ⟨h0, h1⟩]
def offO (h : Heap) (n : Nat) : Value → Option (Value × Heap)
  | .pointer (some p) => some (.pointer (some { p with off := p.off + n }), h)
  | _ => none
theorem xc (n : Nat) (x : Operand) : evOp call ρ h (.off n x) = offO h n (ρ x) := by
  simp only [evOp]; generalize ρ x = x
  cases x with
  | pointer p => cases p <;> rfl
  | _ => rfl
theorem z6 (n b o : Nat) (s : Option Nat) : offO h n (.pointer (some ⟨b, o, s⟩)) = some (.pointer (some ⟨b, o + n, s⟩), h) := rfl
def zur (h : Heap) (n i : Nat) : Value → Option (Value × Heap)
  | .agg cs => if i + n ≤ cs.size then some (agg ((cs.toList.drop i).take n), h) else none
  | _ => none
theorem zyu (n i : Nat) (x : Operand) : evOp call ρ h (.field n i x) = zur h n i (ρ x) := by
  simp only [evOp]; generalize ρ x = x; cases x <;> rfl
theorem zzt {n i : Nat} {l : List Value} (hl : i + n ≤ l.length) : zur h n i (agg l) = some (agg ((l.drop i).take n), h) := by
  simp [zur, agg, hl]
def zoj (h : Heap) (i : Nat) : Value → Option (Value × Heap)
  | .agg cs => yg h cs.toList[i]?
  | _ => none
theorem zgr (i : Nat) (x : Operand) : evOp call ρ h (.field1 i x) = zoj h i (ρ x) := by
  simp only [evOp]; generalize ρ x = x
  cases x with
  | agg cs => simp only [zoj]; cases cs.toList[i]? <;> rfl
  | _ => rfl
theorem zcj (i : Nat) (l : List Value) : zoj h i (agg l) = yg h l[i]? := by simp [zoj, agg]
def zkr (h : Heap) (i : Nat) : Value → Option (Value × Heap)
  | .tuple cs => yg h cs.toList[i]?
  | _ => none
theorem xg (i : Nat) (x : Operand) : evOp call ρ h (.extract x i) = zkr h i (ρ x) := by
  simp only [evOp]; generalize ρ x = x
  cases x with
  | tuple cs => simp only [zkr]; cases cs.toList[i]? <;> rfl
  | _ => rfl
theorem y7 (i : Nat) (l : List Value) : zkr h i (tup l) = yg h l[i]? := by simp [zkr, tup]
def zg5 : Option Heap → Option (Value × Heap)
  | some h' => some (undef, h')
  | none => none
theorem zl (h' : Heap) : zg5 (some h') = some (undef, h') := rfl
def zfx (h : Heap) : Value → Value → Option (Value × Heap)
  | .pointer (some p), v => match v with
    | .agg _ => none
    | .tuple _ => none
    | v => zg5 (h.write1 p v)
  | _, _ => none
theorem xd (a x : Operand) : evOp call ρ h (.store1 a x) = zfx h (ρ a) (ρ x) := by
  simp only [evOp]; generalize ρ a = a; generalize ρ x = x
  cases a with
  | pointer p =>
    cases p with
    | none => rfl
    | some p => cases x <;> first | rfl | (simp only [zfx]; cases Heap.write1 h p _ <;> rfl)
  | _ => rfl
theorem x5 (p : Addr) (k : IntKind) (n : Int) : zfx h (.pointer (some p)) (.int k n) = zg5 (h.write1 p (.int k n)) := rfl
theorem fe (p : Addr) (b : Bool) : zfx h (.pointer (some p)) (.bool b) = zg5 (h.write1 p (.bool b)) := rfl
theorem fq (p : Addr) (q : Option Addr) (n c : Nat) : zfx h (.pointer (some p)) (.slice q n c) = zg5 (h.write1 p (.slice q n c)) := rfl
theorem qg (p : Addr) (q : Option Addr) : zfx h (.pointer (some p)) (.pointer q) = zg5 (h.write1 p (.pointer q)) := rfl
theorem zao (p : Addr) (m : Option Nat) : zfx h (.pointer (some p)) (.map m) = zg5 (h.write1 p (.map m)) := rfl
def zug (h : Heap) (n : Nat) : Value → Value → Option (Value × Heap)
  | .pointer (some p), .agg cs => if cs.size = n then zg5 (h.write p cs.toList) else none
  | _, _ => none
theorem y4 (n : Nat) (a x : Operand) : evOp call ρ h (.store n a x) = zug h n (ρ a) (ρ x) := by
  simp only [evOp]; generalize ρ a = a; generalize ρ x = x
  cases a with
  | pointer p =>
    cases p with
    | none => cases x <;> rfl
    | some p =>
      cases x with
      | agg cs =>
        simp only [zug]
        split
        · cases Heap.write h p cs.toList <;> rfl
        · rfl
      | _ => rfl
  | _ => rfl
theorem ya {n : Nat} {p : Addr} {l : List Value} (hl : l.length = n) : zug h n (.pointer (some p)) (agg l) = zg5 (h.write p l) := by
  simp [zug, agg, hl]
def zrg (h : Heap) : Value → Option (Value × Heap)
  | .pointer (some p) => some (.pointer (some p), h)
  | .func (.func f) a b => some (.func (.func f) a b, h)
  | _ => none
theorem zq (x : Operand) : evOp call ρ h (.nilCheck x) = zrg h (ρ x) := by
  simp only [evOp]; generalize ρ x = x
  cases x with
  | pointer p => cases p <;> rfl
  | func f a b => cases f <;> rfl
  | _ => rfl
theorem zj (p : Addr) : zrg h (.pointer (some p)) = some (.pointer (some p), h) := rfl
theorem fp : Heap.read1 (h ++ L) ⟨h.length + i, o, v⟩ = Heap.read1 L ⟨i, o, v⟩ := by
  unfold Heap.read1; simp only; rw [List.getElem?_append_right (by omega), Nat.add_sub_cancel_left]
theorem yy : Heap.read1 (h ++ L) ⟨h.length, o, v⟩ = Heap.read1 L ⟨0, o, v⟩ := fp h L 0 o v
theorem bg : Heap.read1 (a :: L) ⟨i + 1, o, v⟩ = Heap.read1 L ⟨i, o, v⟩ := rfl
theorem yq (l : List Value) (n : Nat) (ro : Bool) : Heap.read1 (.cells l n ro :: L) ⟨0, o, some n⟩ = l[o]? := by simp [Heap.read1]
theorem qq (n : Nat) : Heap.read (h ++ L) ⟨h.length + i, o, v⟩ n = Heap.read L ⟨i, o, v⟩ n := by
  unfold Heap.read; simp only; rw [List.getElem?_append_right (by omega), Nat.add_sub_cancel_left]
theorem xr (n : Nat) : Heap.read (h ++ L) ⟨h.length, o, v⟩ n = Heap.read L ⟨0, o, v⟩ n := qq h L 0 o v n
theorem qx (n : Nat) : Heap.read (a :: L) ⟨i + 1, o, v⟩ n = Heap.read L ⟨i, o, v⟩ n := rfl
theorem xh {l : List Value} (n m : Nat) (ro : Bool) (hl : l.length = m) : Heap.read (.cells l n ro :: L) ⟨0, 0, some n⟩ m = some l := by
  simp [Heap.read, hl]; rw [← hl]; simp
def preO (h : Heap) : Option Heap → Option Heap
  | some L => some (h ++ L)
  | none => none
theorem yk : preO h (some L) = some (h ++ L) := rfl
def yfp (a : AObj) : Option Heap → Option Heap
  | some L => some (a :: L)
  | none => none
theorem va : yfp a (some L) = some (a :: L) := rfl
theorem zop (x : AObj) : (h ++ L).set (h.length + i) x = h ++ L.set i x := by
  rw [List.set_append_right _ _ (by omega), Nat.add_sub_cancel_left]
theorem fx (y : Value) : Heap.write1 (h ++ L) ⟨h.length + i, o, v⟩ y = preO h (Heap.write1 L ⟨i, o, v⟩ y) := by
  unfold Heap.write1; simp only; rw [List.getElem?_append_right (by omega), Nat.add_sub_cancel_left]
  cases L[i]? with
  | none => rfl
  | some ob =>
    cases ob with
    | cells vals ver ro =>
      cases ro with
      | true => rfl
      | false =>
        simp only
        split
        · rw [zop]; rfl
        · rfl
    | _ => rfl
theorem j6 (y : Value) : Heap.write1 (h ++ L) ⟨h.length, o, v⟩ y = preO h (Heap.write1 L ⟨0, o, v⟩ y) := fx h L 0 o v y
theorem b4 (y : Value) : Heap.write1 (a :: L) ⟨i + 1, o, v⟩ y = yfp a (Heap.write1 L ⟨i, o, v⟩ y) := by
  unfold Heap.write1; simp only [List.getElem?_cons_succ, List.set_cons_succ]
  cases L[i]? with
  | none => rfl
  | some ob =>
    cases ob with
    | cells vals ver ro =>
      cases ro with
      | true => rfl
      | false => simp only; split <;> rfl
    | _ => rfl
theorem vg {l : List Value} (n : Nat) (y : Value) {o : Nat} (ho : o < l.length) : Heap.write1 (.cells l n false :: L) ⟨0, o, some n⟩ y = some (.cells (l.set o y) n false :: L) := by
  simp [Heap.write1, ho]
theorem ve (ys : List Value) : Heap.write (h ++ L) ⟨h.length + i, o, v⟩ ys = preO h (Heap.write L ⟨i, o, v⟩ ys) := by
  unfold Heap.write; simp only; rw [List.getElem?_append_right (by omega), Nat.add_sub_cancel_left]
  cases L[i]? with
  | none => rfl
  | some ob =>
    cases ob with
    | cells vals ver ro =>
      cases ro with
      | true => rfl
      | false =>
        simp only
        split
        · rw [zop]; rfl
        · rfl
    | _ => rfl
theorem zy (ys : List Value) : Heap.write (h ++ L) ⟨h.length, o, v⟩ ys = preO h (Heap.write L ⟨0, o, v⟩ ys) := ve h L 0 o v ys
theorem vm (ys : List Value) : Heap.write (a :: L) ⟨i + 1, o, v⟩ ys = yfp a (Heap.write L ⟨i, o, v⟩ ys) := by
  unfold Heap.write; simp only [List.getElem?_cons_succ, List.set_cons_succ]
  cases L[i]? with
  | none => rfl
  | some ob =>
    cases ob with
    | cells vals ver ro =>
      cases ro with
      | true => rfl
      | false => simp only; split <;> rfl
    | _ => rfl
theorem zs {l : List Value} (n : Nat) {ys : List Value} (hl : l.length = ys.length) : Heap.write (.cells l n false :: L) ⟨0, 0, some n⟩ ys = some (.cells ys n false :: L) := by
  simp [Heap.write, hl, splice]
theorem zz6 (h h' : Heap) (i j : Nat) (t : List Value) : endF h [.tmp i, .tmp j] (some (.ret, ⟨t, h'⟩)) = some (tup [t.getD i undef, t.getD j undef], finish h (tup [t.getD i undef, t.getD j undef]) h') := rfl
theorem zz3 (h h' : Heap) (i j k : Nat) (t : List Value) : endF h [.tmp i, .tmp j, .tmp k] (some (.ret, ⟨t, h'⟩)) = some (tup [t.getD i undef, t.getD j undef, t.getD k undef], finish h (tup [t.getD i undef, t.getD j undef, t.getD k undef]) h') := rfl
theorem yef (h h' : Heap) (i : Nat) (t : List Value) : endF h [.tmp i] (some (.ret, ⟨t, h'⟩)) = some (t.getD i undef, finish h (t.getD i undef) h') := rfl
theorem wt (v : Value) : finish h v h = h := by unfold finish; split <;> rfl
theorem fv {v : Value} (hf : flat v = true) : finish h v (h ++ L) = h := by unfold finish; simp [hf]
theorem zgq {v : Value} (hf : flat v = false) (h' : Heap) : finish h v h' = h' := by unfold finish; simp [hf]
theorem zm8 (v : Value) : finish h v (h ++ L) = h ++ L ∨ (finish h v (h ++ L) = h ∧ flat v = true) := by
  cases hf : flat v
  · exact .inl (zgq h hf _)
  · exact .inr ⟨fv h L hf, rfl⟩
end
def zby {α : Type} (n : Nat) (f : Nat → α) : List α := (List.range n).map f
section
variable {α : Type} {n : Nat} {f g : Nat → α}
theorem f9 (n : Nat) (f : Nat → α) : (zby n f).length = n := by rw [zby, List.length_map, List.length_range]
theorem zf6 {k : Nat} (hk : k < n) : (zby n f)[k]? = some (f k) := by rw [zby, List.getElem?_map, List.getElem?_range hk]; rfl
theorem zhe (h : ∀ k, k < n → f k = g k) : zby n f = zby n g := by
  unfold zby; apply List.map_congr_left; intro k hk; exact h k (by simpa using hk)
theorem zxe {k : Nat} (v : α) : (zby n f).set k v = zby n (fun i => if i = k then v else f i) := by
  apply List.ext_getElem?
  intro i
  rw [List.getElem?_set]
  by_cases hi : i < n
  · rw [zf6 (f := f) hi, zf6 hi]
    by_cases h : k = i
    · subst h; rw [if_pos rfl, if_pos (by rw [f9]; exact hi), if_pos rfl]
    · rw [if_neg h, if_neg (fun e => h e.symm)]
  · rw [List.getElem?_eq_none (by rw [f9]; omega), List.getElem?_eq_none (by rw [f9]; omega)]
    by_cases h : k = i
    · rw [if_pos h, if_neg (by rw [f9]; omega)]
    · rw [if_neg h]
theorem yal (n : Nat) (v : α) : List.replicate n v = zby n (fun _ => v) := by
  apply List.ext_getElem?
  intro i
  by_cases hi : i < n
  · rw [zf6 hi, List.getElem?_replicate, if_pos hi]
  · rw [List.getElem?_eq_none (by rw [List.length_replicate]; omega), List.getElem?_eq_none (by rw [f9]; omega)]
theorem zxy (h : zby n f = zby n g) {k : Nat} (hk : k < n) : f k = g k := by
  have := congrArg (·[k]?) h
  simp only [zf6 hk] at this
  exact Option.some.inj this
theorem zxg (p : α → Bool) (h : ∀ k, k < n → p (f k) = true) : (zby n f).all p = true := by
  rw [List.all_eq_true]; intro x hx
  simp [zby] at hx
  obtain ⟨k, hk, rfl⟩ := hx
  exact h k hk
end
section
variable (h : Heap)
theorem zrb {L : Heap} {size bytes m n ver : Nat} {vals ys : List Value} (hl : vals.length = m * size) (hr : (m + n) * bytes ≤ k8) :
    kh (h ++ AObj.cells vals ver false :: L) size bytes (.slice (some ⟨h.length, 0, some ver⟩) m size) (some (ys, n)) = some (.slice (some ⟨h.length, 0, some (ver + 1)⟩) (m + n) size, h ++ AObj.cells (vals ++ ys) (ver + 1) false :: L) := by
  unfold kh
  simp only
  rw [List.getElem?_append_right (Nat.le_refl _), Nat.sub_self]
  simp only [List.getElem?_cons_zero]
  rw [if_pos ⟨trivial, trivial, trivial, by omega, hr⟩, List.take_of_length_le (by omega)]
  have e := zop h (AObj.cells vals ver false :: L) 0 (AObj.cells (vals ++ ys) (ver + 1) false)
  rw [Nat.add_zero] at e
  rw [e]; rfl
theorem zye {L : Heap} {size n ver : Nat} {l : List Value} {ro : Bool} (hl : l.length = n * size) : zc9 (h ++ AObj.cells l ver ro :: L) size (.slice (some ⟨h.length, 0, some ver⟩) n size) = some (l, n) := by
  rw [zoh]; rw [xr, xh _ _ _ _ hl]
end
section
variable (h : Heap)
theorem znk (d : Nat) : za6 none d = some d := rfl
theorem zqw (k : IntKind) (n : Nat) (d : Nat) : za6 (some (.int k (n : Int))) d = some n := by simp [za6]
end
end Go.Proofs.YtljdbheclfaloaaGreatDoor.AM
namespace Go.Proofs.YtljdbheclfaloaaGreatDoor.AM
set_option linter.unusedSimpArgs false
open Go.RowKit
def B (x : Int) : BitVec 64 := BitVec.ofInt 64 x
def W (x : Int) : Prop := -9223372036854775808 ≤ x ∧ x ≤ 9223372036854775807
def bi (x : Int) (i : Nat) : Bool := (B x).getLsbD i
theorem yhi : ((2 ^ 64 : Nat) : Int) = 18446744073709551616 := rfl
theorem zxs {x : Int} (hx : W x) : (B x).toInt = x := by
  unfold W at hx
  unfold B; rw [BitVec.toInt_ofInt, Int.bmod_def, yhi]; split <;> omega
theorem zga {n : Int} (h : W n) : IntKind.i64.wrap n = n := by unfold W at h; rw [IntKind.wrap_i64]; omega
theorem ext {x y : Int} (hx : W x) (hy : W y) (h : ∀ i, i < 64 → bi x i = bi y i) : x = y := by
  have e : B x = B y := BitVec.eq_of_getLsbD_eq (fun i hi => h i hi)
  rw [← zxs hx, ← zxs hy, e]
theorem ybv (x : Int) (n : Nat) : x.fdiv (2 ^ n) = x >>> n := by
  rw [Int.shiftRight_eq_div_pow, Int.fdiv_eq_ediv_of_nonneg _ (by exact Int.le_of_lt (Int.pow_pos (by decide)))]
  simp
end Go.Proofs.YtljdbheclfaloaaGreatDoor.AM
namespace Go.Proofs.YtljdbheclfaloaaGreatDoor.AM
open Go.RowKit
def zf5 (P : Program) (t : TypeId) : Option Value := ((P.info? t).bind (·.zero)).bind fun v => if plain v then some v else none
def zfi (P : Program) (t : TypeId) : Option (List Value) := (zf5 P t).bind laid
def gk (P : Program) (t : TypeId) : Option Nat := (P.info? t).map (·.size)
def zj0 (P : Program) (t : TypeId) : Option Nat := (P.info? t).map (·.bytes)
def aggT (P : Program) (t : TypeId) : Option Bool :=
  match P.underlying t with
  | some (.struct _) | some (.array _ _) => some true
  | some _ => some false
  | none => none
def eqK : TypeDesc → Option EqK
  | .bool => some .bool
  | .int _ => some .int
  | .string => some .str
  | _ => none
def eqK1 : TypeDesc → Option EqK
  | .bool => some .bool
  | .pointer _ => some .ptr
  | .slice _ => some .slice
  | .map _ _ => some .map
  | .func _ _ _ => some .func
  | .interface _ => some .iface
  | _ => none
def repl (n : Nat) (l : List EqK) : List EqK :=
  match n with
  | 0 => []
  | n + 1 => l ++ repl n l
def leaves (P : Program) : Nat → TypeId → Option (List EqK)
  | 0, _ => none
  | d + 1, t => match P.underlying t with
    | some (.struct fs) => if P.stoodInHeld t then none else leavesOf (leaves P d) (fun u => (P.info? u).map (·.size)) fs.toList 0
    | some (.array n e) => (leaves P d e).bind fun l => if l.length = ((P.info? e).map (·.size)).getD 0 then some (repl n l) else none
    | some k => (eqK k).map ([·])
    | none => none
where
  leavesOf (go : TypeId → Option (List EqK)) (size : TypeId → Option Nat) : List Field → Nat → Option (List EqK)
    | [], _ => some []
    | f :: r, o => if f.name = "_" ∨ f.offset ≠ o then none else
      match go f.type, size f.type with
      | some l, some n => if l.length = n then (leavesOf go size r (o + n)).map (l ++ ·) else none
      | _, _ => none
def zal : Operand → Bool
  | .const .nilIface => true
  | _ => false
def zdm (P : Program) (neg : Bool) (t : TypeId) (x y : Operand) : Option AOp :=
  match P.underlying t with
  | some (.int _) => some (.bin (if neg then .neq else .eql) x y)
  | some .string => some (.bin (if neg then .neq else .eql) x y)
  | some (.struct _) | some (.array _ _) => if P.eqGuardType P.depth t then none else (leaves P 8 t).map fun ks => .eqAgg neg ks x y
  | some (.interface _) => if zal x || zal y then some (.eqv neg .iface x y) else none
  | some d => (eqK1 d).map fun k => .eqv neg k x y
  | none => none
def zfa (P : Program) (t : TypeId) : Bool :=
  match P.underlying t with
  | some (.int _) => true
  | _ => false
def ye1 (P : Program) (t : TypeId) : Bool :=
  match P.underlying t with
  | some .string => true
  | _ => false
def zfn (P : Program) (e : TypeId) (ps : Array (Nat × Operand)) : Option (List (Nat × Nat × Operand)) :=
  (gk P e).map fun n => ps.toList.map fun p => (p.1 * n, n, p.2)
def zcm (P : Program) (fs : Array Field) : List (Nat × Operand) → Option (List (Nat × Nat × Operand))
  | [] => some []
  | (i, x) :: r => match fs[i]? with
    | some f => match gk P f.type, zcm P fs r with
      | some n, some l => some ((f.offset, n, x) :: l)
      | _, _ => none
    | none => none
def zlj (P : Program) (f : FuncId) : Bool :=
  match P.funcs[f]? with
  | some fn => fn.body.isSome && fn.name != "runtime.NumGoroutine"
  | none => false
def zli : Operand → Operand → Bool
  | .tmp a, .tmp b => a == b
  | .const (.int _ a), .const (.int _ b) => a == b
  | _, _ => false
def za5 : Option TypeDesc → Option Operand → Option AOp
  | some (.map _ _), none => some .mkMap
  | some (.map _ _), some (.const (.int _ _)) => some .mkMap
  | _, _ => none
def zdl (P : Program) (ty : TypeId) (c : Call) : Option AOp :=
  match c.callee, c.args.toList, c.argTypes.toList with
  | .builtin .len, [x], [t] => match P.underlying t with
    | some .string => some (.lenStr x)
    | some (.slice _) => some (.len x)
    | some (.array n _) => some (.mv (.const (.int .i64 n)))
    | some (.pointer a) => match P.underlying a with
      | some (.array n _) => some (.mv (.const (.int .i64 n)))
      | _ => none
    | some (.map _ _) => some (.lenMap x)
    | _ => none
  | .builtin .append, [x, y], [t, u] => match P.underlying t with
    | some (.slice e) => match gk P e, zj0 P e, zfi P e with
      | some n, some b, some z => if 0 < n ∧ 0 < b ∧ z.length = n ∧ zfa P u = false ∧ (P.underlying u).isSome = true then some (.append n b x y) else none
      | _, _, _ => none
    | _ => none
  | .builtin .max, [x, y], _ => if zfa P ty then some (.max2 x y) else none
  | .builtin .min, [x, y], _ => if zfa P ty then some (.min2 x y) else none
  | .value (.func f), as, _ => if zlj P f then some (.call f as) else none
  | .value (.tmp f), as, _ => some (.callv (.tmp f) as)
  | _, _, _ => none
def wv (P : Program) (ty : TypeId) : Op → Option AOp
  | .move x | .assign x => some (.mv x)
  | .pick c a b => some (.pick c a b)
  | .alloc t => (zfi P t).map .alloc
  | .box t x => (gk P t).map fun n => .box n x
  | .build t ps => match P.underlying t, zfi P t with
    | some (.struct fs), some z => if fs.toList.all fun f => (gk P f.type).isSome then (zcm P fs ps.toList).map (.build z) else none
    | some (.array _ e), some z => (zfn P e ps).map (.build z)
    | _, _ => none
  | .buildSlice t n ps => match P.underlying t with
    | some (.slice e) => match zfi P e, gk P e, zfn P e ps with
      | some z, some m, some l => if n * m ≤ 16777216 ∧ z.length = m ∧ 0 < m then some (.mkRow z n l) else none
      | _, _, _ => none
    | _ => none
  | .load t a => match aggT P t, gk P t with
    | some true, some n => some (.load n a)
    | some false, some _ => some (.load1 a)
    | _, _ => none
  | .store t a x => match aggT P t, gk P t with
    | some true, some n => some (.store n a x)
    | some false, some 1 => some (.store1 a x)
    | _, _ => none
  | .nilCheck x => some (.nilCheck x)
  | .binOp op t x y yt => match op with
    | .eql => zdm P false t x y
    | .neq => zdm P true t x y
    | .add => if zfa P t || ye1 P t then some (.bin .add x y) else none
    | .shl | .shr => if zfa P t && zfa P yt then some (.bin op x y) else none
    | op => if zfa P t then some (.bin op x y) else none
  | .unOp op _ x => some (.un op x)
  | .convert s d x => match P.underlying s, P.underlying d with
    | some (.int _), some (.int k) => some (.conv k x)
    | some .string, some .string => some (.same x)
    | _, _ => none
  | .makeInterface t x => match P.underlying t with
    | some (.interface _) => none
    | some _ => some (.iface t x)
    | none => none
  | .makeFunc (.func f) a b => some (.func f a.toList b.toList)
  | .slice t x lo hi none => match P.underlying t with
    | some .string => some (.sliceStr x lo hi)
    | some (.slice e) => (gk P e).bind fun n => if 0 < n then some (.slice n x lo hi) else none
    | some (.array n e) => (gk P e).bind fun m => if 0 < m then some (.sliceArr n m x lo hi) else none
    | _ => none
  | .fieldAddr t x i => match P.underlying t with
    | some (.struct fs) => match fs[i]? with
      | some f => (gk P f.type).bind fun n => if 0 < n then some (.off f.offset x) else none
      | none => none
    | _ => none
  | .field t x i => match P.underlying t with
    | some (.struct fs) => match fs[i]? with
      | some f => match aggT P f.type, gk P f.type with
        | some true, some n => some (.field n f.offset x)
        | some false, some _ => some (.field1 f.offset x)
        | _, _ => none
      | none => none
    | _ => none
  | .indexAddr t x i => match P.underlying t with
    | some (.slice e) => (gk P e).bind fun n => if 0 < n then some (.atRow n x i) else none
    | some (.array n e) => (gk P e).bind fun m => if 0 < m then some (.atArr n m x i) else none
    | _ => none
  | .index t x i => match P.underlying t with
    | some .string => some (.idxStr x i)
    | some (.array n e) => match aggT P e, gk P e with
      | some false, some 1 => some (.idxArr n 1 x i)
      | _, _ => none
    | _ => none
  | .extract x i => some (.extract x i)
  | .makeMap t r => za5 (P.underlying t) r
  | .makeSlice t l c => match P.underlying t with
    | some (.slice e) => match zfi P e, gk P e, zj0 P e with
      | some z, some m, some b => if zli l c ∧ z.length = m ∧ 0 < m ∧ 0 < b then some (.mkSlice m b z l) else none
      | _, _, _ => none
    | _ => none
  | .lookup t m k ok => match P.underlying t with
    | some (.map kt e) => match (P.underlying kt).bind eqK, zf5 P e with
      | some kk, some z => some (.lookup kk z m k ok)
      | _, _ => none
    | _ => none
  | .mapUpdate t m k v => match P.underlying t with
    | some (.map kt _) => match (P.underlying kt).bind eqK with
      | some kk => some (.update kk m k v)
      | _ => none
    | _ => none
  | .call c => zdl P ty c
  | _ => none
def zd1 (ops : Array Oper) : Option (Nat × Bool) → Option (Option (Nat × Bool))
  | none => some none
  | some (j, b) => match (ops[j]?).bind (·.dst) with
    | some t => some (some (t, b))
    | none => none
def zbq (G : Nat) : Operand → Bool
  | .const v => plain v
  | .global g => g < G
  | _ => true
def zgs (P : Program) (G : Nat) (ops : Array Oper) (o : Oper) : Option gq :=
  if o.op.operands.toList.all (zbq G) then
    match wv P o.type o.op, zd1 ops o.guard with
    | some a, some g => some ⟨o.dst, a, g⟩
    | _, _ => none
  else none
def zct (P : Program) (G : Nat) (ops : Array Oper) : List Oper → Option (List gq)
  | [] => some []
  | o :: r => match zgs P G ops o, zct P G ops r with
    | some a, some l => some (a :: l)
    | _, _ => none
def AOp.acts : AOp → Bool
  | .store1 _ _ | .store _ _ _ | .append _ _ _ _ | .call _ _ | .callv _ _ | .update _ _ _ _ => true
  | _ => false
def AOp.makes : AOp → Bool
  | .alloc _ | .box _ _ | .mkRow _ _ _ | .mkSlice _ _ _ _ | .mkMap => true
  | _ => false
def AOp.reads : AOp → Bool
  | .load1 _ | .load _ _ | .lookup _ _ _ _ _ | .lenMap _ | .sliceArr _ _ _ _ _ => true
  | _ => false
def AOp.againOf (t : Nat) : AOp → Option AOp
  | .load1 a => some (.again1 a t)
  | .load n a => some (.again n a t)
  | _ => none
def zeu (o : Oper) (a : gq) : List Nat :=
  (o.op.operands.toList.filterMap fun | .tmp t => some t | _ => none) ++ (match a.guard with | some (t, _) => [t] | none => [])
def vf : gq := ⟨none, .mkMap, none⟩
def zn8 (ops : List Oper) (as : List gq) (b : List Nat) : Bool :=
  (List.range as.length).all fun i => (List.range as.length).all fun j =>
    let o := as.getD i vf
    let p := as.getD j vf
    match o.dst with
    | none => true
    | some t =>
      (i == j || p.dst != some t) &&
      (!(zeu (ops.getD j default) p).contains t || ((b.getD j 0).testBit i) || ((b.getD i 0).testBit j))
def zvb (ops : List Oper) (b : List Nat) : Bool :=
  (List.range ops.length).all fun i => match (ops.getD i default).guard with
    | some (j, _) => (b.getD i 0).testBit j
    | none => true
def zds (as : List gq) (b : List Nat) : List Nat → Nat → Bool
  | [], _ => true
  | i :: r, seen =>
    !seen.testBit i && i < as.length && (b.getD i 0 &&& seen) == b.getD i 0 &&
    (!(as.getD i vf).op.acts || (List.range as.length).all fun j => seen.testBit j || j == i || (b.getD j 0).testBit i) &&
    zds as b r (seen ||| 2 ^ i)
def zsz (ops : List Oper) (as : List gq) (b : List Nat) (bi : Nat) : List Nat → Option (List gq)
  | [] => some []
  | j :: r =>
    let o := as.getD j vf
    if o.op.reads && !bi.testBit j then
      match o.dst, zsz ops as b bi r with
      | some t, some l =>
        if (List.range as.length).all fun k => match (as.getD k vf).dst with
          | some u => !(zeu (ops.getD j default) o).contains u || (b.getD j 0).testBit k
          | none => true
        then (o.op.againOf t).map fun a => ⟨none, a, o.guard⟩ :: l else none
      | _, _ => none
    else zsz ops as b bi r
def zos (ops : List Oper) (as : List gq) (b : List Nat) : List Nat → List Nat → Option (List gq)
  | [], _ => some []
  | i :: r, done =>
    let o := as.getD i vf
    match (if o.op.acts then zsz ops as b (b.getD i 0) done else some []), zos ops as b r (done ++ [i]) with
    | some l, some m => some (o :: (l ++ m))
    | _, _ => none
def zgl (P : Program) (G : Nat) (ord : Option (List Nat)) (ops : Array Oper) (draw : Bool) : Option (List gq) :=
  match zct P G ops ops.toList with
  | none => none
  | some as =>
    if draw then
      let b := (Region.before ops).toList
      let l := ord.getD (List.range as.length)
      if zn8 ops.toList as b && zvb ops.toList b && ((List.range as.length).all fun i => l.contains i) && zds as b l 0 then zos ops.toList as b l [] else none
    else some as
def zbm (P : Program) (G : Nat) (ords : List (Nat × List Nat)) : Code → Option pv
  | .skip => some .skip
  | .region id ops d => (zgl P G (ords.lookup id) ops d).map .ops
  | .seq a b => match zbm P G ords a, zbm P G ords b with
    | some a, some b => some (.seq a b)
    | _, _ => none
  | .cond c a b => match zbm P G ords a, zbm P G ords b with
    | some a, some b => if zbq G c then some (.cond c a b) else none
    | _, _ => none
  | .block id b => (zbm P G ords b).map (.block id)
  | .loop b => (zbm P G ords b).map .loop
  | .exit id => some (.exit id)
  | .ret => some .ret
  | _ => none
def gu (P : Program) : List ResultVar → Option (List ARes)
  | [] => some []
  | .tmp t :: r => (gu P r).map (.tmp t :: ·)
  | .cell a t :: r => match aggT P t, gk P t, gu P r with
    | some true, some n, some l => some (.cells a n :: l)
    | some false, some _, some l => some (.cell1 a :: l)
    | _, _, _ => none
def zkq (P : Program) (G : Nat) (ords : List (Nat × List Nat)) (fn : Func) : Option vt :=
  match fn.body.bind (zbm P G ords), gu P fn.results.toList with
  | some b, some r => some ⟨fn.ntmps, r, b⟩
  | _, _ => none
end Go.Proofs.YtljdbheclfaloaaGreatDoor.AM
namespace Go.Proofs.YtljdbheclfaloaaGreatDoor.AM
open Go.RowKit
structure Seat where
  blk : Nat
  base : Nat
  size : Nat
abbrev Emb := Nat → Seat
abbrev Mem := Nat → Option AObj
def single : Value → Bool
  | .agg _ | .tuple _ => false
  | _ => true
mutual
inductive VR (σ : Emb) (g : Mem) : Value → Value → Prop
  | bool (b : Bool) : VR σ g (.bool b) (.bool b)
  | int (k : IntKind) (n : Int) : VR σ g (.int k n) (.int k n)
  | float (k : FloatKind) (n : Nat) : VR σ g (.float k n) (.float k n)
  | complex (k : FloatKind) (n m : Nat) : VR σ g (.complex k n m) (.complex k n m)
  | string (s : ByteArray) : VR σ g (.string s) (.string s)
  | nilPtr : VR σ g (.pointer none) (.pointer none)
  | ptr (p q : Addr) (v : Nat) (vals : List Value) (ver : Nat) (ro : Bool) (hv : p.spot = some v) (hg : g p.block = some (.cells vals ver ro)) (hle : v ≤ ver)
      (hq : v = ver → q = ⟨(σ p.block).blk, (σ p.block).base + p.off, none⟩) : VR σ g (.pointer (some p)) (.pointer (some q))
  | nilSlice : VR σ g (.slice none 0 0) (.slice none 0 0)
  | slice (p q : Addr) (n c cap : Nat) (v : Nat) (vals : List Value) (ver : Nat) (ro : Bool) (hv : p.spot = some v) (hg : g p.block = some (.cells vals ver ro)) (hle : v ≤ ver) (hn : n ≤ cap)
      (hq : v = ver → (q = ⟨(σ p.block).blk, (σ p.block).base + p.off, none⟩ ∧ (ro = false → (σ p.block).base + p.off + cap * c ≤ (σ p.block).size)) ∨ (n = 0 ∧ cap = 0)) :
      VR σ g (.slice (some p) n c) (.slice (some q) n cap)
  | nilMap : VR σ g (.map none) (.map none)
  | map (r s : Nat) (es : List (Value × Value)) (hg : g r = some (.map es)) (hs : s = (σ r).blk) : VR σ g (.map (some r)) (.map (some s))
  | nilChan : VR σ g (.chan none) (.chan none)
  | any (k : Nat) (q : Option Addr) : VR σ g (.chan (some k)) (.pointer q)
  | func (fn : Fn) (xs ys us vs : List Value) (h : VRs σ g xs ys) (h' : VRs σ g us vs) : VR σ g (.func fn ⟨xs⟩ ⟨us⟩) (.func fn ⟨ys⟩ ⟨vs⟩)
  | nilFunc : VR σ g .nilFunc .nilFunc
  | iface (t : TypeId) (u c : Value) (h : VR σ g u c) : VR σ g (.iface t u) (.iface t c)
  | nilIface : VR σ g .nilIface .nilIface
  | agg (xs ys : List Value) (h : VRs σ g xs ys) (h1 : ∀ x ∈ xs, single x = true) : VR σ g (.agg ⟨xs⟩) (.agg ⟨ys⟩)
  | tuple (xs ys : List Value) (h : VRs σ g xs ys) : VR σ g (.tuple ⟨xs⟩) (.tuple ⟨ys⟩)
inductive VRs (σ : Emb) (g : Mem) : List Value → List Value → Prop
  | nil : VRs σ g [] []
  | cons (u c : Value) (us cs : List Value) (h : VR σ g u c) (hs : VRs σ g us cs) : VRs σ g (u :: us) (c :: cs)
end
variable {σ σ' : Emb} {g g' : Mem}
theorem VRs.length {us cs : List Value} : VRs σ g us cs → us.length = cs.length
  | .nil => rfl
  | .cons _ _ _ _ _ hs => by simp [VRs.length hs]
theorem VRs.get {us cs : List Value} : VRs σ g us cs → ∀ {i : Nat} {u : Value}, us[i]? = some u → ∃ c, cs[i]? = some c ∧ VR σ g u c
  | .nil, _, _, h => by simp at h
  | .cons u c us cs h hs, i, x, hi => by
    cases i with
    | zero => simp at hi; subst hi; exact ⟨c, by simp, h⟩
    | succ i => simp only [List.getElem?_cons_succ] at hi ⊢; exact VRs.get hs hi
theorem VRs.get' {us cs : List Value} : VRs σ g us cs → ∀ {i : Nat} {c : Value}, cs[i]? = some c → ∃ u, us[i]? = some u ∧ VR σ g u c
  | .nil, _, _, h => by simp at h
  | .cons u c us cs h hs, i, x, hi => by
    cases i with
    | zero => simp at hi; subst hi; exact ⟨u, by simp, h⟩
    | succ i => simp only [List.getElem?_cons_succ] at hi ⊢; exact VRs.get' hs hi
theorem VRs.of_get : ∀ {us cs : List Value}, us.length = cs.length → (∀ (i : Nat) (u c : Value), us[i]? = some u → cs[i]? = some c → VR σ g u c) → VRs σ g us cs
  | [], [], _, _ => .nil
  | u :: us, c :: cs, hl, h => .cons _ _ _ _ (h 0 u c (by simp) (by simp)) (VRs.of_get (by simpa using hl) fun i x y hx hy => h (i + 1) x y (by simpa using hx) (by simpa using hy))
  | [], c :: cs, hl, _ => by simp at hl
  | u :: us, [], hl, _ => by simp at hl
theorem VRs.append {us cs us' cs' : List Value} : VRs σ g us cs → VRs σ g us' cs' → VRs σ g (us ++ us') (cs ++ cs')
  | .nil, h => h
  | .cons _ _ _ _ h hs, h' => .cons _ _ _ _ h (hs.append h')
theorem VRs.drop {us cs : List Value} (h : VRs σ g us cs) (n : Nat) : VRs σ g (us.drop n) (cs.drop n) :=
  .of_get (by simp [h.length]) fun i u c hu hc => by
    rw [List.getElem?_drop] at hu hc
    obtain ⟨c', hc', hv⟩ := h.get hu
    rw [hc] at hc'; cases hc'; exact hv
theorem VRs.take {us cs : List Value} (h : VRs σ g us cs) (n : Nat) : VRs σ g (us.take n) (cs.take n) :=
  .of_get (by simp [h.length]) fun i u c hu hc => by
    rw [List.getElem?_take] at hu hc
    split at hu
    · rename_i hi
      rw [if_pos hi] at hc
      obtain ⟨c', hc', hv⟩ := h.get hu
      rw [hc] at hc'; cases hc'; exact hv
    · cases hu
theorem VRs.set {us cs : List Value} (h : VRs σ g us cs) (i : Nat) {u c : Value} (hv : VR σ g u c) : VRs σ g (us.set i u) (cs.set i c) :=
  .of_get (by simp [h.length]) fun j x y hx hy => by
    rw [List.getElem?_set] at hx hy
    by_cases hij : i = j
    · subst hij
      have hl := h.length
      by_cases hlt : i < us.length
      · rw [if_pos rfl, if_pos hlt] at hx; rw [if_pos rfl, if_pos (by omega)] at hy
        cases hx; cases hy; exact hv
      · rw [if_pos rfl, if_neg hlt] at hx; cases hx
    · rw [if_neg hij] at hx hy
      obtain ⟨c', hc', hv⟩ := h.get hx
      rw [hy] at hc'; cases hc'; exact hv
theorem VRs.getD {us cs : List Value} (h : VRs σ g us cs) (i : Nat) : VR σ g (us.getD i undef) (cs.getD i undef) := by
  cases hu : us[i]? with
  | none =>
    have : cs[i]? = none := by
      rw [List.getElem?_eq_none_iff] at hu ⊢; rw [← h.length]; exact hu
    rw [List.getD_eq_getElem?_getD, List.getD_eq_getElem?_getD, hu, this]
    exact .tuple [] [] .nil
  | some u =>
    obtain ⟨c, hc, hv⟩ := h.get hu
    rw [List.getD_eq_getElem?_getD, List.getD_eq_getElem?_getD, hu, hc]; exact hv
theorem VRs.replicate {u c : Value} (h : VR σ g u c) : ∀ n : Nat, VRs σ g (List.replicate n u) (List.replicate n c)
  | 0 => .nil
  | n + 1 => .cons _ _ _ _ h (VRs.replicate h n)
theorem VRs.map {α : Type} {f f' : α → Value} : ∀ (l : List α), (∀ x ∈ l, VR σ g (f x) (f' x)) → VRs σ g (l.map f) (l.map f')
  | [], _ => .nil
  | x :: l, h => .cons _ _ _ _ (h x (by simp)) (VRs.map l fun y hy => h y (by simp [hy]))
theorem zqh (k : EqK) (x : Option Nat) (u : Value) : qw k (.chan x) u = none := by cases k <;> cases u <;> rfl
theorem zqc (k : EqK) (x : Option Nat) (u : Value) : qw k u (.chan x) = none := by
  cases k <;> cases u <;> first | rfl | (rename_i p; cases p <;> rfl) | (rename_i p _ _; cases p <;> rfl)
theorem VR.single {u c : Value} (h : VR σ g u c) : single c = single u := by cases h <;> rfl
theorem VR.plain1 {u : Value} (h : plain1 u = true) : VR σ g u u := by
  unfold AM.plain1 at h
  split at h <;> first | (constructor; done) | cases h
theorem kv {u : Value} (h : AM.plain1 u = true) : AM.single u = true := by
  unfold AM.plain1 at h
  split at h <;> first | rfl | cases h
theorem VRs.plain1 : ∀ {us : List Value}, us.all AM.plain1 = true → VRs σ g us us
  | [], _ => .nil
  | u :: us, h => by
    simp only [List.all_cons, Bool.and_eq_true] at h
    exact .cons _ _ _ _ (.plain1 h.1) (VRs.plain1 h.2)
theorem VR.plain {u : Value} (h : plain u = true) : VR σ g u u := by
  unfold AM.plain at h
  split at h
  · rename_i cs
    obtain ⟨l⟩ := cs
    refine .agg l l (.plain1 h) fun x hx => kv (List.all_eq_true.1 h x hx)
  · exact .plain1 h
theorem VRs.plain : ∀ {us : List Value}, us.all AM.plain = true → VRs σ g us us
  | [], _ => .nil
  | u :: us, h => by
    simp only [List.all_cons, Bool.and_eq_true] at h
    exact .cons _ _ _ _ (.plain h.1) (VRs.plain h.2)
theorem VR.flat {u : Value} (h : flat u = true) : VR σ g u u := by
  unfold AM.flat at h
  split at h
  · rename_i cs
    obtain ⟨l⟩ := cs
    exact .tuple l l (.plain h)
  · exact .plain h
structure Ext (σ : Emb) (g : Mem) (σ' : Emb) (g' : Mem) : Prop where
  cells : ∀ i vals ver ro, g i = some (.cells vals ver ro) → ∃ vals' ver', g' i = some (.cells vals' ver' ro) ∧ ver ≤ ver' ∧ (ver = ver' → σ' i = σ i)
  map : ∀ i es, g i = some (.map es) → ∃ es', g' i = some (.map es') ∧ σ' i = σ i
theorem Ext.refl (σ : Emb) (g : Mem) : Ext σ g σ g := ⟨fun _ vals ver _ h => ⟨vals, ver, h, Nat.le_refl _, fun _ => rfl⟩, fun _ es h => ⟨es, h, rfl⟩⟩
theorem Ext.trans {σ₁ σ₂ σ₃ : Emb} {g₁ g₂ g₃ : Mem} (h : Ext σ₁ g₁ σ₂ g₂) (h' : Ext σ₂ g₂ σ₃ g₃) : Ext σ₁ g₁ σ₃ g₃ := by
  constructor
  · intro i vals ver ro hi
    obtain ⟨vals', ver', h1, h2, h3⟩ := h.cells i vals ver ro hi
    obtain ⟨vals'', ver'', h1', h2', h3'⟩ := h'.cells i vals' ver' ro h1
    exact ⟨vals'', ver'', h1', Nat.le_trans h2 h2', fun e => by rw [h3' (by omega), h3 (by omega)]⟩
  · intro i es hi
    obtain ⟨es', h1, h2⟩ := h.map i es hi
    obtain ⟨es'', h1', h2'⟩ := h'.map i es' h1
    exact ⟨es'', h1', by rw [h2', h2]⟩
mutual
theorem VR.ext (he : Ext σ g σ' g') {u c : Value} : VR σ g u c → VR σ' g' u c
  | .bool b => .bool b
  | .int k n => .int k n
  | .float k n => .float k n
  | .complex k n m => .complex k n m
  | .string s => .string s
  | .nilPtr => .nilPtr
  | .ptr p q v vals ver ro hv hg hle hq => by
    obtain ⟨vals', ver', h1, h2, h3⟩ := he.cells _ _ _ _ hg
    refine .ptr p q v vals' ver' ro hv h1 (Nat.le_trans hle h2) fun e => ?_
    rw [h3 (by omega)]; exact hq (by omega)
  | .nilSlice => .nilSlice
  | .slice p q n c cap v vals ver ro hv hg hle hn hq => by
    obtain ⟨vals', ver', h1, h2, h3⟩ := he.cells _ _ _ _ hg
    refine .slice p q n c cap v vals' ver' ro hv h1 (Nat.le_trans hle h2) hn fun e => ?_
    rw [h3 (by omega)]; exact hq (by omega)
  | .nilMap => .nilMap
  | .map r s es hg hs => by
    obtain ⟨es', h1, h2⟩ := he.map _ _ hg
    exact .map r s es' h1 (by rw [h2]; exact hs)
  | .nilChan => .nilChan
  | .any k q => .any k q
  | .func fn xs ys us vs h h' => .func fn xs ys us vs (VRs.ext he h) (VRs.ext he h')
  | .nilFunc => .nilFunc
  | .iface t u c h => .iface t u c (VR.ext he h)
  | .nilIface => .nilIface
  | .agg xs ys h h1 => .agg xs ys (VRs.ext he h) h1
  | .tuple xs ys h => .tuple xs ys (VRs.ext he h)
theorem VRs.ext (he : Ext σ g σ' g') {us cs : List Value} : VRs σ g us cs → VRs σ' g' us cs
  | .nil => .nil
  | .cons u c us cs h hs => .cons u c us cs (VR.ext he h) (VRs.ext he hs)
end
structure ygu (σ : Emb) (g : Mem) (e : Value × Value) (m : MapEntry) : Prop where
  key : m.key = e.1
  plain : plain1 e.1 = true
  val : VR σ g e.2 m.val
inductive EntriesR (σ : Emb) (g : Mem) : List (Value × Value) → List MapEntry → Prop
  | nil : EntriesR σ g [] []
  | cons (e : Value × Value) (m : MapEntry) (es : List (Value × Value)) (ms : List MapEntry) (h : ygu σ g e m) (hs : EntriesR σ g es ms) : EntriesR σ g (e :: es) (m :: ms)
theorem EntriesR.ext (he : Ext σ g σ' g') {es : List (Value × Value)} {ms : List MapEntry} (h : EntriesR σ g es ms) : EntriesR σ' g' es ms := by
  induction h with
  | nil => exact .nil
  | cons e m es ms h _ ih => exact .cons _ _ _ _ ⟨h.key, h.plain, h.val.ext he⟩ ih
inductive ObjR (N : Nat) (σ : Emb) (g : Mem) (w : World) (s : Seat) : AObj → Prop
  | own (vals cs : List Value) (ver : Nat) (el : TypeId) (hb : N ≤ s.blk) (h0 : s.base = 0) (hw : w.heap[s.blk]? = some (.cells ⟨cs⟩ el (0, 0))) (hs : s.size = cs.length)
      (hv : VRs σ g vals (cs.take vals.length)) (hl : vals.length ≤ cs.length) (h1 : ∀ x ∈ vals, single x = true) : ObjR N σ g w s (.cells vals ver false)
  | ro (vals : List Value) (hb : s.blk < N)
      (hv : ∀ i u, vals[i]? = some u → ∃ c, w.cell? ⟨s.blk, s.base + i, none⟩ = some c ∧ VR σ g u c) (h1 : ∀ x ∈ vals, single x = true) : ObjR N σ g w s (.cells vals 0 true)
  | map (es : List (Value × Value)) (ms : List MapEntry) (clock : Nat) (hb : N ≤ s.blk) (hw : w.heap[s.blk]? = some (.map ⟨ms⟩ clock)) (he : EntriesR σ g es ms) : ObjR N σ g w s (.map es)
def owns : AObj → Bool
  | .cells _ _ ro => !ro
  | .map _ => true
  | .gone => false
def yfi (σ : Emb) (g : Mem) (b : Nat) : Prop := ∃ i o, g i = some o ∧ owns o = true ∧ (σ i).blk = b
structure MR (G N : Nat) (σ : Emb) (g : Mem) (w : World) : Prop where
  obj : ∀ i o, g i = some o → ObjR N σ g w (σ i) o
  inj : ∀ i j o p, g i = some o → g j = some p → owns o = true → owns p = true → (σ i).blk = (σ j).blk → i = j
  glob : ∀ i, i < G → ∃ vals, g i = some (.cells vals 0 true) ∧ (σ i).blk = i ∧ (σ i).base = 0
  size : N ≤ w.heap.size
structure Go (N : Nat) (σ : Emb) (g : Mem) (w : World) (σ' : Emb) (g' : Mem) (w' : World) : Prop where
  ext : Ext σ g σ' g'
  size : w.heap.size ≤ w'.heap.size
  os : w'.os = w.os
  tape : w'.tape = w.tape
  output : w'.output = w.output
  rest : ∀ b, b < w.heap.size → ¬ yfi σ g b → w'.heap[b]? = w.heap[b]?
  own : ∀ b, yfi σ' g' b → yfi σ g b ∨ w.heap.size ≤ b
theorem Go.refl (N : Nat) (σ : Emb) (g : Mem) (w : World) : Go N σ g w σ g w := ⟨.refl _ _, Nat.le_refl _, rfl, rfl, rfl, fun _ _ _ => rfl, fun _ h => .inl h⟩
theorem Go.trans {N : Nat} {σ₁ σ₂ σ₃ : Emb} {g₁ g₂ g₃ : Mem} {w₁ w₂ w₃ : World} (h : Go N σ₁ g₁ w₁ σ₂ g₂ w₂) (h' : Go N σ₂ g₂ w₂ σ₃ g₃ w₃) : Go N σ₁ g₁ w₁ σ₃ g₃ w₃ := by
  refine ⟨h.ext.trans h'.ext, Nat.le_trans h.size h'.size, h'.os.trans h.os, h'.tape.trans h.tape, h'.output.trans h.output, fun b hb hn => ?_, fun b hb => ?_⟩
  · rw [h'.rest b (Nat.lt_of_lt_of_le hb h.size) (fun ho => (h.own b ho).elim hn (fun hge => by omega)), h.rest b hb hn]
  · rcases h'.own b hb with ho | hge
    · exact h.own b ho
    · exact .inr (Nat.le_trans h.size hge)
end Go.Proofs.YtljdbheclfaloaaGreatDoor.AM
namespace Go.Proofs.YtljdbheclfaloaaGreatDoor.AM
open Go.RowKit
variable {P : Program} {G N : Nat} {σ : Emb} {g : Mem} {w : World}
def Sub (g : Mem) (h : Heap) : Prop := ∀ i o, g i = some o → h[i]? = some o
theorem ze8 (b o n : Nat) : Addr.add ⟨b, o, none⟩ n = ⟨b, o + n, none⟩ := by
  unfold Addr.add; split
  · subst_vars; rfl
  · rfl
theorem MR.cell (hm : MR G N σ g w) {b : Nat} {vals : List Value} {ver : Nat} {ro : Bool} (hg : g b = some (.cells vals ver ro)) {i : Nat} {u : Value} (hi : vals[i]? = some u) :
    ∃ c, w.cell? ⟨(σ b).blk, (σ b).base + i, none⟩ = some c ∧ VR σ g u c := by
  have ho := hm.obj _ _ hg
  cases ho with
  | own _ cs _ el hb h0 hw hs hv hl h1 =>
    obtain ⟨c, hc, hvr⟩ := hv.get hi
    rw [List.getElem?_take] at hc
    split at hc
    · refine ⟨c, ?_, hvr⟩
      simp only [World.cell?, hw, h0, Nat.zero_add]
      simpa using hc
    · cases hc
  | ro _ hb hv h1 => exact hv i u hi
theorem MR.singles (hm : MR G N σ g w) {b : Nat} {vals : List Value} {ver : Nat} {ro : Bool} (hg : g b = some (.cells vals ver ro)) : ∀ x ∈ vals, single x = true := by
  have ho := hm.obj _ _ hg
  cases ho <;> assumption
theorem zjj (b o : Nat) (n : Nat) : ∀ (i : Nat) (acc : Array Value) (cs : List Value), cs.length = n →
    (∀ j c, cs[j]? = some c → w.cell? ⟨b, o + (i + j), none⟩ = some c) → (loadCellsFrom ⟨b, o, none⟩ i n acc).run P w = .ok (acc ++ ⟨cs⟩) w := by
  induction n with
  | zero =>
    intro i acc cs hl _
    obtain rfl : cs = [] := List.length_eq_zero_iff.1 hl
    simp [loadCellsFrom]
  | succ n ih =>
    intro i acc cs hl hc
    obtain ⟨c, cs, rfl⟩ : ∃ c r, cs = c :: r := by cases cs with | nil => simp at hl | cons c r => exact ⟨c, r, rfl⟩
    have h0 := hc 0 c (by simp)
    simp only [loadCellsFrom, Sem.run_bind, run_load, ze8]
    rw [show o + i = o + (i + 0) from rfl, h0]
    simp only [Result.andThen_ok]
    rw [ih (i + 1) (acc.push c) cs (by simpa using hl) (fun j x hx => by
      have := hc (j + 1) x (by simpa using hx)
      rw [show i + 1 + j = i + (j + 1) from by omega]; exact this)]
    congr 1
    apply Array.ext'
    simp
theorem zh0 {b o n : Nat} {cs : List Value} (hl : cs.length = n) (hc : ∀ (j : Nat) c, cs[j]? = some c → w.cell? ⟨b, o + j, none⟩ = some c) :
    (loadCells ⟨b, o, none⟩ n).run P w = .ok ⟨cs⟩ w := by
  unfold loadCells
  rw [zjj b o n 0 #[] cs hl (fun j c h => by rw [Nat.zero_add]; exact hc j c h)]
  simp
theorem MR.read (hm : MR G N σ g w) {h : Heap} (hs : Sub g h) {p q : Addr} {n : Nat} {l : List Value} (hp : VR σ g (.pointer (some p)) (.pointer (some q))) (hr : h.read p n = some l) :
    ∃ cs, q.spot = none ∧ (loadCells q n).run P w = .ok ⟨cs⟩ w ∧ VRs σ g l cs ∧ l.length = n ∧ ∀ x ∈ l, single x = true := by
  cases hp with
  | ptr _ _ v vals ver ro hv hg hle hq =>
    unfold Heap.read at hr
    rw [hs _ _ hg] at hr
    simp only at hr
    split at hr
    · rename_i hc
      obtain ⟨hsp, hlen⟩ := hc
      rw [hv] at hsp
      cases hsp
      have hq := hq rfl
      subst hq
      cases hr
      have hex : ∀ i, i < n → ∃ c, w.cell? ⟨(σ p.block).blk, (σ p.block).base + p.off + i, none⟩ = some c ∧ ∃ u, vals[p.off + i]? = some u ∧ VR σ g u c := by
        intro i hi
        have hlt : p.off + i < vals.length := by omega
        obtain ⟨c, hc, hvr⟩ := hm.cell hg (List.getElem?_eq_getElem hlt)
        exact ⟨c, by rw [Nat.add_assoc]; exact hc, _, List.getElem?_eq_getElem hlt, hvr⟩
      let cs : List Value := (List.range n).map fun i => (w.cell? ⟨(σ p.block).blk, (σ p.block).base + p.off + i, none⟩).getD undef
      have hcl : cs.length = n := by simp [cs]
      refine ⟨cs, rfl, zh0 hcl fun j c hj => ?_, VRs.of_get ?_ fun i u c hu hc => ?_, ?_, fun x hx => ?_⟩
      · have hjn : j < n := by
          have := (List.getElem?_eq_some_iff.1 hj).1; omega
        obtain ⟨c', hc', _⟩ := hex j hjn
        simp only [cs, List.getElem?_map, List.getElem?_range hjn, Option.map_some, hc', Option.getD_some, Option.some.injEq] at hj
        rw [hc', hj]
      · rw [hcl, List.length_take, List.length_drop]; omega
      · have hin : i < n := by
          have := (List.getElem?_eq_some_iff.1 hc).1; omega
        obtain ⟨c', hc', u', hu', hvr⟩ := hex i hin
        simp only [cs, List.getElem?_map, List.getElem?_range hin, Option.map_some, hc', Option.getD_some, Option.some.injEq] at hc
        rw [List.getElem?_take, if_pos hin, List.getElem?_drop, hu'] at hu
        cases hu; rw [← hc]; exact hvr
      · rw [List.length_take, List.length_drop]; omega
      · exact hm.singles hg x (List.mem_of_mem_drop (List.mem_of_mem_take hx))
    · cases hr
theorem MR.read1 (hm : MR G N σ g w) {h : Heap} (hs : Sub g h) {p q : Addr} {u : Value} (hp : VR σ g (.pointer (some p)) (.pointer (some q))) (hr : h.read1 p = some u) :
    ∃ c, q.spot = none ∧ w.cell? q = some c ∧ VR σ g u c ∧ single u = true := by
  cases hp with
  | ptr _ _ v vals ver ro hv hg hle hq =>
    unfold Heap.read1 at hr
    rw [hs _ _ hg] at hr
    simp only at hr
    split at hr
    · rename_i hsp
      rw [hv] at hsp
      cases hsp
      have hq := hq rfl
      subst hq
      obtain ⟨c, hc, hvr⟩ := hm.cell hg hr
      exact ⟨c, rfl, hc, hvr, hm.singles hg _ (List.mem_of_getElem? hr)⟩
    · cases hr
theorem vc {t : TypeId} {d : TypeDesc} (h : P.underlying t = some d) (w : World) : (underlying t).run P w = .ok d w := by simp [underlying, h]
theorem jg {t : TypeId} {n : Nat} (h : gk P t = some n) (w : World) : (sizeOf t).run P w = .ok n w := by
  unfold gk at h
  cases hi : P.info? t with
  | none => rw [hi] at h; cases h
  | some i => rw [hi] at h; cases h; simp [sizeOf, typeInfo, hi]
theorem zdz {t : TypeId} {b : Bool} (h : aggT P t = some b) (w : World) : (isAgg t).run P w = .ok b w := by
  unfold aggT at h
  cases hu : P.underlying t with
  | none => rw [hu] at h; cases h
  | some d =>
    rw [hu] at h
    simp only [isAgg, Sem.run_bind, vc hu, Result.andThen_ok]
    cases d <;> simp_all
theorem zce {t : TypeId} {v : Value} (h : zf5 P t = some v) (w : World) : (zeroValue t).run P w = .ok v w ∧ plain v = true := by
  unfold zf5 at h
  cases hi : P.info? t with
  | none => rw [hi] at h; cases h
  | some i =>
    rw [hi] at h
    simp only [Option.bind_some] at h
    cases hz : i.zero with
    | none => rw [hz] at h; cases h
    | some z =>
      rw [hz] at h
      simp only [Option.bind_some] at h
      split at h
      · cases h; rename_i hp; exact ⟨by simp [zeroValue, typeInfo, hi, hz], hp⟩
      · cases h
theorem zns (hm : MR G N σ g w) {h : Heap} (hs : Sub g h) {t : TypeId} {n : Nat} (ht : aggT P t = some true) (hz : gk P t = some n) {p : Addr} {c : Value} {l : List Value}
    (hp : VR σ g (.pointer (some p)) c) (hr : h.read p n = some l) : ∃ cv, (Instr.loadAt t c).run P w = .ok cv w ∧ VR σ g (agg l) cv := by
  obtain ⟨q, rfl⟩ : ∃ q, c = .pointer (some q) := by cases hp; exact ⟨_, rfl⟩
  obtain ⟨cs, _, hrun, hv, _, h1⟩ := hm.read (P := P) hs hp hr
  refine ⟨.agg ⟨cs⟩, ?_, .agg _ _ hv h1⟩
  simp [Instr.loadAt, Instr.sureAddr, loadVar, zdz ht, jg hz, hrun]
theorem zlh (hm : MR G N σ g w) {h : Heap} (hs : Sub g h) {t : TypeId} (ht : aggT P t = some false) {p : Addr} {c : Value} {u : Value}
    (hp : VR σ g (.pointer (some p)) c) (hr : h.read1 p = some u) : ∃ cv, (Instr.loadAt t c).run P w = .ok cv w ∧ VR σ g u cv := by
  obtain ⟨q, rfl⟩ : ∃ q, c = .pointer (some q) := by cases hp; exact ⟨_, rfl⟩
  obtain ⟨c, _, hc, hv, _⟩ := hm.read1 hs hp hr
  exact ⟨c, by simp [Instr.loadAt, Instr.sureAddr, loadVar, zdz ht, hc], hv⟩
theorem VR.int_inv {k : IntKind} {n : Int} {c : Value} (h : VR σ g (.int k n) c) : c = .int k n := by cases h; rfl
theorem VR.bool_inv {b : Bool} {c : Value} (h : VR σ g (.bool b) c) : c = .bool b := by cases h; rfl
theorem VR.string_inv {s : ByteArray} {c : Value} (h : VR σ g (.string s) c) : c = .string s := by cases h; rfl
theorem VR.ptr_inv {p : Addr} {c : Value} (h : VR σ g (.pointer (some p)) c) : ∃ q, c = .pointer (some q) := by cases h; exact ⟨_, rfl⟩
theorem VR.agg_inv {xs : Array Value} {c : Value} (h : VR σ g (.agg xs) c) : ∃ ys, c = .agg ⟨ys⟩ ∧ VRs σ g xs.toList ys ∧ ∀ x ∈ xs.toList, AM.single x = true := by
  cases h with | agg xs ys h h1 => exact ⟨ys, rfl, h, h1⟩
theorem VR.tuple_inv {xs : Array Value} {c : Value} (h : VR σ g (.tuple xs) c) : ∃ ys, c = .tuple ⟨ys⟩ ∧ VRs σ g xs.toList ys := by
  cases h with | tuple xs ys h => exact ⟨ys, rfl, h⟩
theorem VR.off {p : Addr} {c : Value} (h : VR σ g (.pointer (some p)) c) (n : Nat) : ∃ q, c = .pointer (some q) ∧ VR σ g (.pointer (some { p with off := p.off + n })) (.pointer (some (q.add n))) := by
  cases h with
  | ptr _ q v vals ver ro hv hg hle hq =>
    refine ⟨q, rfl, .ptr _ _ v vals ver ro hv hg hle fun e => ?_⟩
    rw [hq e, ze8, Nat.add_assoc]
theorem zw3 {t : TypeId} {fs : Array Field} {f : Field} {i n : Nat} (ht : P.underlying t = some (.struct fs)) (hf : fs[i]? = some f) (hz : gk P f.type = some n) (hn : 0 < n) {p : Addr} {c : Value}
    (h : VR σ g (.pointer (some p)) c) : ∃ cv, (Instr.fieldAt t c i).run P w = .ok cv w ∧ VR σ g (.pointer (some { p with off := p.off + f.offset })) cv := by
  obtain ⟨q, rfl, hv⟩ := h.off f.offset
  refine ⟨_, ?_, hv⟩
  simp [Instr.fieldAt, vc ht, hf, Instr.sureAddr, fieldPlace, jg hz, Nat.ne_of_gt hn]
theorem zr6 {t e : TypeId} {len m : Nat} (ht : P.underlying t = some (.array len e)) (hz : gk P e = some m) {p : Addr} {c : Value} {k : IntKind} {i : Int}
    (h : VR σ g (.pointer (some p)) c) (h0 : 0 ≤ i) (h1 : i < len) : ∃ cv, (Instr.indexAt t c (.int k i)).run P w = .ok cv w ∧ VR σ g (.pointer (some { p with off := p.off + i.toNat * m })) cv := by
  obtain ⟨q, rfl, hv⟩ := h.off (i.toNat * m)
  refine ⟨_, ?_, hv⟩
  simp [Instr.indexAt, asIntOf, vc ht, Instr.sureAddr, jg hz, h0, h1]
theorem zrv {t e : TypeId} {m n : Nat} (ht : P.underlying t = some (.slice e)) (hz : gk P e = some m) {p : Addr} {c : Value} {k : IntKind} {i : Int}
    (h : VR σ g (.slice (some p) n m) c) (h0 : 0 ≤ i) (h1 : i < n) : ∃ cv, (Instr.indexAt t c (.int k i)).run P w = .ok cv w ∧ VR σ g (.pointer (some { p with off := p.off + i.toNat * m })) cv := by
  cases h with
  | slice _ q _ _ cap v vals ver ro hv hg hle hn hq =>
    refine ⟨.pointer (some (q.add (i.toNat * m))), ?_, .ptr _ _ v vals ver ro hv hg hle fun e => ?_⟩
    · simp [Instr.indexAt, asIntOf, vc ht, jg hz, h0, h1]
    · rcases hq e with ⟨hq, _⟩ | ⟨hz, _⟩
      · rw [hq, ze8, Nat.add_assoc]
      · omega
theorem zra {t : TypeId} (ht : P.underlying t = some .string) {s : ByteArray} {k : IntKind} {i : Int} {b : UInt8} (h0 : 0 ≤ i) (hb : s.data.toList[i.toNat]? = some b) :
    (Instr.index t (.string s) (.int k i)).run P w = .ok (.int .u8 b.toNat) w := by
  have : s[i.toNat]? = some b := by
    have hlt : i.toNat < s.size := by
      have := (List.getElem?_eq_some_iff.1 hb).1; simpa using this
    rw [getElem?_pos s i.toNat hlt]
    have h2 := (List.getElem?_eq_some_iff.1 hb).2
    rw [← h2]; rfl
  simp [Instr.index, asIntOf, vc ht, h0, this]
theorem zjr {e : TypeId} {l cs : List Value} (hv : VRs σ g l cs) (h1 : ∀ x ∈ l, single x = true) {o : Nat} :
    (∀ n, aggT P e = some true → gk P e = some n → ∃ cv, (part e ⟨cs⟩ o).run P w = .ok cv w ∧ VR σ g (agg ((l.drop o).take n)) cv) ∧
    (∀ u, aggT P e = some false → l[o]? = some u → ∃ cv, (part e ⟨cs⟩ o).run P w = .ok cv w ∧ VR σ g u cv) := by
  constructor
  · intro n ha hz
    refine ⟨.agg ⟨(cs.drop o).take n⟩, ?_, .agg _ _ ((hv.drop o).take n) fun x hx => h1 x (List.mem_of_mem_drop (List.mem_of_mem_take hx))⟩
    simp [part, zdz ha, jg hz, List.extract_toArray, List.extract_eq_take_drop]
  · intro u ha hu
    obtain ⟨c, hc, hvr⟩ := hv.get hu
    refine ⟨c, ?_, hvr⟩
    simp [part, zdz ha, hc]
end Go.Proofs.YtljdbheclfaloaaGreatDoor.AM
namespace Go.Proofs.YtljdbheclfaloaaGreatDoor.AM
open Go.RowKit
variable {P : Program} {w : World}
theorem zf3 : ∀ (k1 k2 : List EqK) (xs ys : List Value), k1.length ≤ xs.length → k1.length ≤ ys.length →
    zbh (k1 ++ k2) xs ys = match zbh k1 (xs.take k1.length) (ys.take k1.length) with
      | some true => zbh k2 (xs.drop k1.length) (ys.drop k1.length)
      | some false => some false
      | none => none
  | [], k2, xs, ys, _, _ => by simp [zbh]
  | k :: k1, k2, [], ys, h, _ => by simp at h
  | k :: k1, k2, x :: xs, [], _, h => by simp at h
  | k :: k1, k2, x :: xs, y :: ys, h, h' => by
    have ih := zf3 k1 k2 xs ys (by simpa using h) (by simpa using h')
    simp only [List.cons_append, zbh, List.length_cons, List.take_succ_cons, List.drop_succ_cons]
    cases qw k x y with
    | none => rfl
    | some b => cases b with
      | false => rfl
      | true => exact ih
def zhq (P : Program) (t : TypeId) (l : List Value) : Value :=
  match P.underlying t with
  | some (.struct _) | some (.array _ _) => .agg ⟨l⟩
  | _ => l.getD 0 undef
theorem zmx {e : TypeId} {l : List Value} {o n : Nat} (hz : gk P e = some n) (h : o + n ≤ l.length) (hp : ∀ d, P.underlying e = some d → (eqK d).isSome = true → n = 1)
    (hu : ∃ d, P.underlying e = some d ∧ ((eqK d).isSome = true ∨ (∃ fs, d = .struct fs) ∨ ∃ m u, d = .array m u)) :
    (part e ⟨l⟩ o).run P w = .ok (zhq P e ((l.drop o).take n)) w := by
  obtain ⟨d, hd, hc⟩ := hu
  have hag : (∃ fs, d = .struct fs) ∨ (∃ m u, d = .array m u) → (part e ⟨l⟩ o).run P w = .ok (zhq P e ((l.drop o).take n)) w := by
    intro hc
    have ha : aggT P e = some true := by unfold aggT; rw [hd]; rcases hc with ⟨fs, rfl⟩ | ⟨m, u, rfl⟩ <;> rfl
    have hv : zhq P e ((l.drop o).take n) = .agg ⟨(l.drop o).take n⟩ := by unfold zhq; rw [hd]; rcases hc with ⟨fs, rfl⟩ | ⟨m, u, rfl⟩ <;> rfl
    rw [hv]
    simp [part, zdz ha, jg hz, List.extract_toArray, List.extract_eq_take_drop]
  rcases hc with hk | hc
  · obtain rfl := hp d hd hk
    have ha : aggT P e = some false := by unfold aggT; rw [hd]; cases d <;> first | rfl | simp [eqK] at hk
    have hv : zhq P e ((l.drop o).take 1) = ((l.drop o).take 1).getD 0 undef := by unfold zhq; rw [hd]; cases d <;> first | rfl | simp [eqK] at hk
    rw [hv]
    have hlt : o < l.length := by omega
    simp [part, zdz ha, List.getElem?_eq_getElem hlt, List.getD_eq_getElem?_getD]
  · exact hag hc
theorem ycj {d : TypeDesc} {k : EqK} (hd : eqK d = some k) {t : TypeId} (hu : P.underlying t = some d) {x y : Value} {b : Bool} (he : qw k x y = some b) (m : Nat) :
    (Op.equalIn (m + 1) t x y).run P w = .ok b w := by
  cases d <;> simp only [eqK, Option.some.injEq, reduceCtorEq] at hd <;> subst hd
  · cases x <;> cases y <;> simp [qw] at he
    subst he; simp [Op.equalIn, vc hu]
  · cases x <;> cases y <;> simp [qw] at he
    obtain ⟨rfl, rfl⟩ := he; simp [Op.equalIn, vc hu]
  · cases x <;> cases y <;> simp [qw] at he
    subst he; simp [Op.equalIn, vc hu]
theorem zkv {d : Nat} {t : TypeId} {ks : List EqK} (h : leaves P d t = some ks) :
    ∃ k, P.underlying t = some k ∧ ((eqK k).isSome = true ∨ (∃ fs, k = .struct fs) ∨ ∃ m u, k = .array m u) ∧ ((eqK k).isSome = true → ks.length = 1) := by
  cases d with
  | zero => simp [leaves] at h
  | succ d =>
    unfold leaves at h
    cases hu : P.underlying t with
    | none => rw [hu] at h; cases h
    | some k =>
      rw [hu] at h
      refine ⟨k, rfl, ?_⟩
      cases k <;> simp [eqK] at h ⊢ <;> (try (subst h; rfl))
theorem zyo (d : Nat) : ∀ (m : Nat) (t : TypeId) (ks : List EqK) (xs ys : List Value) (b : Bool), leaves P d t = some ks → xs.length = ks.length → ys.length = ks.length →
    zbh ks xs ys = some b → (Op.equalIn (d + m) t (zhq P t xs) (zhq P t ys)).run P w = .ok b w := by
  induction d with
  | zero => intro m t ks xs ys b h; simp [leaves] at h
  | succ d ih =>
    intro m t ks xs ys b h hx hy he
    have step : ∀ (e : TypeId) (l : List EqK) (n o : Nat) (xs ys : List Value) (c : Bool), leaves P d e = some l → gk P e = some n → l.length = n → o + n ≤ xs.length → o + n ≤ ys.length →
        zbh l ((xs.drop o).take n) ((ys.drop o).take n) = some c →
        ∃ u v, (part e ⟨xs⟩ o).run P w = .ok u w ∧ (part e ⟨ys⟩ o).run P w = .ok v w ∧ (Op.equalIn (d + m) e u v).run P w = .ok c w := by
      intro e l n o xs ys c hl hz hn h1 h2 hr
      obtain ⟨k, hk, hkind, hone⟩ := zkv hl
      have hp : ∀ d, P.underlying e = some d → (eqK d).isSome = true → n = 1 := fun d hd hs => by rw [hk] at hd; cases hd; rw [← hn]; exact hone hs
      exact ⟨_, _, zmx hz h1 hp ⟨k, hk, hkind⟩, zmx hz h2 hp ⟨k, hk, hkind⟩,
        ih m e l _ _ c hl (by rw [List.length_take, List.length_drop]; omega) (by rw [List.length_take, List.length_drop]; omega) hr⟩
    rw [show d + 1 + m = (d + m) + 1 from by omega]
    unfold leaves at h
    cases hu : P.underlying t with
    | none => rw [hu] at h; cases h
    | some k =>
      rw [hu] at h
      cases k
      case struct fs =>
        simp only at h
        split at h
        · cases h
        rename_i hst
        have hv : ∀ l, zhq P t l = .agg ⟨l⟩ := fun l => by unfold zhq; rw [hu]
        have hf : P.fieldsOf t = fs := by simp [Program.fieldsOf, hu]
        rw [hv, hv, run_equalIn_struct (P := P) w (d + m) t ⟨xs⟩ ⟨ys⟩ (by rw [hf]; exact hu) (by simpa using hst), hf]
        have key : ∀ (l : List Field) (o : Nat) (ks : List EqK) (b : Bool), leaves.leavesOf (leaves P d) (fun u => (P.info? u).map (·.size)) l o = some ks →
            xs.length = o + ks.length → ys.length = o + ks.length → zbh ks (xs.drop o) (ys.drop o) = some b → (Op.eqFields (d + m) ⟨xs⟩ ⟨ys⟩ l).run P w = .ok b w := by
          intro l
          induction l with
          | nil =>
            intro o ks b h hx hy he
            simp only [leaves.leavesOf, Option.some.injEq] at h
            subst h
            rw [List.drop_eq_nil_of_le (by simp at hx; omega), List.drop_eq_nil_of_le (by simp at hy; omega)] at he
            simp only [zbh, Option.some.injEq] at he
            subst he
            simp [Op.eqFields]
          | cons f l ihl =>
            intro o ks b h hx hy he
            unfold leaves.leavesOf at h
            split at h
            · cases h
            rename_i hno
            have hname : f.name ≠ "_" := fun e => hno (.inl e)
            have hoff : f.offset = o := Decidable.byContradiction fun e => hno (.inr e)
            cases hl : leaves P d f.type with
            | none => rw [hl] at h; cases h
            | some l1 =>
              cases hz : (P.info? f.type).map (·.size) with
              | none => rw [hl, hz] at h; cases h
              | some n =>
                rw [hl, hz] at h
                simp only at h
                split at h
                · rename_i hn
                  cases hr : leaves.leavesOf (leaves P d) (fun u => (P.info? u).map (·.size)) l (o + n) with
                  | none => rw [hr] at h; cases h
                  | some k2 =>
                    rw [hr] at h
                    simp only [Option.map_some, Option.some.injEq] at h
                    subst h
                    simp only [List.length_append] at hx hy
                    rw [zf3 l1 k2 _ _ (by rw [List.length_drop]; omega) (by rw [List.length_drop]; omega), hn] at he
                    simp only [Op.eqFields, if_pos hname, Sem.run_bind]
                    cases hc : zbh l1 ((xs.drop o).take n) ((ys.drop o).take n) with
                    | none => rw [hc] at he; cases he
                    | some c =>
                      obtain ⟨u, v, h1, h2, h3⟩ := step f.type l1 n o xs ys c hl hz hn (by omega) (by omega) hc
                      rw [hoff, h1]; simp only [Result.andThen_ok]
                      rw [h2]; simp only [Result.andThen_ok]
                      rw [h3]; simp only [Result.andThen_ok]
                      rw [hc] at he
                      cases c with
                      | false => simp only [Option.some.injEq] at he; subst he; simp
                      | true =>
                        simp only [List.drop_drop] at he
                        simpa using ihl (o + n) k2 b hr (by omega) (by omega) he
                · cases h
        exact key fs.toList 0 ks b h (by simpa using hx) (by simpa using hy) (by simpa using he)
      case array n e =>
        simp only [Option.bind_eq_some_iff] at h
        obtain ⟨l, hl, h⟩ := h
        split at h
        · rename_i hn
          cases h
          have hv : ∀ l, zhq P t l = .agg ⟨l⟩ := fun l => by unfold zhq; rw [hu]
          obtain ⟨ke, hke, _⟩ := zkv hl
          obtain ⟨i, hi⟩ : ∃ i, P.info? e = some i := by
            cases hi : P.info? e with
            | none => simp [Program.underlying, hi] at hke
            | some i => exact ⟨i, rfl⟩
          have hz : gk P e = some l.length := by unfold gk; rw [hi]; rw [hn, hi]; rfl
          have hc : P.cellsOf e = l.length := by unfold Program.cellsOf; rw [hn]
          rw [hv, hv, run_equalIn_array w (d + m) ⟨xs⟩ ⟨ys⟩ hu hi, hc]
          have key : ∀ (q o : Nat) (b : Bool), xs.length = o * l.length + (repl q l).length → ys.length = o * l.length + (repl q l).length →
              zbh (repl q l) (xs.drop (o * l.length)) (ys.drop (o * l.length)) = some b → (Op.eqItems (d + m) e l.length ⟨xs⟩ ⟨ys⟩ (List.range' o q)).run P w = .ok b w := by
            intro q
            induction q with
            | zero =>
              intro o b hx hy he
              simp only [repl, List.length_nil, Nat.add_zero] at hx hy he
              rw [List.drop_eq_nil_of_le (by omega), List.drop_eq_nil_of_le (by omega)] at he
              simp only [zbh, Option.some.injEq] at he
              subst he
              simp [Op.eqItems]
            | succ q ihq =>
              intro o b hx hy he
              simp only [repl, List.length_append] at hx hy
              rw [show repl (q + 1) l = l ++ repl q l from rfl, zf3 l _ _ _ (by rw [List.length_drop]; omega) (by rw [List.length_drop]; omega)] at he
              simp only [List.range'_succ, Op.eqItems, Sem.run_bind]
              cases hc : zbh l ((xs.drop (o * l.length)).take l.length) ((ys.drop (o * l.length)).take l.length) with
              | none => rw [hc] at he; cases he
              | some c =>
                obtain ⟨u, v, h1, h2, h3⟩ := step e l l.length (o * l.length) xs ys c hl hz rfl (by omega) (by omega) hc
                rw [h1]; simp only [Result.andThen_ok]
                rw [h2]; simp only [Result.andThen_ok]
                rw [h3]; simp only [Result.andThen_ok]
                rw [hc] at he
                cases c with
                | false => simp only [Option.some.injEq] at he; subst he; simp
                | true =>
                  simp only [List.drop_drop] at he
                  have e1 : o * l.length + l.length = (o + 1) * l.length := by rw [Nat.add_mul, Nat.one_mul]
                  rw [e1] at he
                  simpa using ihq (o + 1) b (by rw [← e1]; omega) (by rw [← e1]; omega) he
          rw [List.range_eq_range']
          exact key n 0 b (by simpa using hx) (by simpa using hy) (by simpa using he)
        · cases h
      all_goals
        simp only [Option.map_eq_some_iff] at h
        obtain ⟨k, hk, rfl⟩ := h
        obtain ⟨x, rfl⟩ : ∃ x, xs = [x] := List.length_eq_one_iff.1 hx
        obtain ⟨y, rfl⟩ : ∃ y, ys = [y] := List.length_eq_one_iff.1 hy
        have hl : qw k x y = some b := by
          simp only [zbh] at he
          cases hq : qw k x y with
          | none => rw [hq] at he; cases he
          | some c => rw [hq] at he; cases c <;> simp_all
        have := ycj (w := w) hk hu hl (d + m)
        unfold zhq; rw [hu]; exact this
end Go.Proofs.YtljdbheclfaloaaGreatDoor.AM
namespace Go.Proofs.YtljdbheclfaloaaGreatDoor.AM
open Go.RowKit
set_option linter.unusedSimpArgs false
variable {P : Program} {G N : Nat} {σ : Emb} {g : Mem} {w : World}
def zkb (P : Program) (w : World) (σ : Emb) (g : Mem) (v : Value) (s : Sem Next) : Prop := ∃ cv, s.run P w = .ok (.value cv) w ∧ VR σ g v cv
theorem jx {s : Sem Value} {v : Value} (h : ∃ cv, s.run P w = .ok cv w ∧ VR σ g v cv) : zkb P w σ g v (do pure (.value (← s))) := by
  obtain ⟨cv, h1, h2⟩ := h
  exact ⟨cv, by simp [h1], h2⟩
theorem zw6 {op : BinOp} {t : TypeId} {x y : Operand} {u v r cu cv : Value} (hu : VR σ g u cu) (hv : VR σ g v cv) (h : je op u v = some r) :
    ((do eqGuard op t x y cu cv; binOp op t cu cv : Sem Value)).run P w = .ok r w ∧ plain1 r = true := by
  have ints : ∀ (k k' : IntKind) (a b : Int), u = .int k a → v = .int k' b → ((do eqGuard op t x y cu cv; binOp op t cu cv : Sem Value)).run P w = .ok r w ∧ plain1 r = true := by
    rintro k k' a b rfl rfl
    rw [hu.int_inv, hv.int_inv]
    cases op <;> simp only [je] at h
    case shl | shr =>
      split at h
      · cases h
      · rename_i hb
        cases h
        exact ⟨by simp [eqGuard_at_int, binOp, Op.shift, hb, shl, shr], rfl⟩
    all_goals
      split at h
      · rename_i hk
        subst hk
        simp only [zea] at h
        first
          | (cases h; refine ⟨?_, rfl⟩; simp [eqGuard_at_int, binOp, Op.intArith, Op.intBits, Op.intCmp, Go.bits]; done)
          | (split at h
             · cases h
             · rename_i hb; cases h; refine ⟨?_, rfl⟩; simp [eqGuard_at_int, binOp, Op.intDiv, hb])
      · cases h
  cases hu' : u with
  | int k a =>
    cases hv' : v with
    | int k' b => exact ints k k' a b hu' hv'
    | _ => subst hu'; subst hv'; cases op <;> simp [je] at h
  | string a =>
    cases hv' : v with
    | string b =>
      subst hu'; subst hv'
      rw [hu.string_inv, hv.string_inv]
      cases op <;> simp only [je, reduceCtorEq] at h
      case add =>
        split at h
        · rename_i hle
          cases h; refine ⟨?_, rfl⟩
          have hno : ¬ (((a.size + b.size : Nat) : Int) > IntKind.i64.max) := by rw [IntKind.max_i64]; omega
          rw [eqGuard_at_string]
          show (Op.stringOp .add a b).run P w = _
          unfold Op.stringOp
          simp only [if_neg hno, Sem.run_pure]
        · cases h
      case eql => cases h; refine ⟨?_, rfl⟩; simp [eqGuard_at_string, binOp, Op.stringOp, beq_toListBytes]
      case neq => cases h; refine ⟨?_, rfl⟩; simp [eqGuard_at_string, binOp, Op.stringOp, bne, beq_toListBytes]
    | _ => subst hu'; subst hv'; cases op <;> simp [je] at h
  | _ => subst hu'; cases op <;> simp [je] at h
theorem ybq {op : UnOp} {u r cu : Value} (hu : VR σ g u cu) (h : zwd op u = some r) : (Op.unary op cu).run P w = .ok r w ∧ plain1 r = true := by
  cases u <;> cases op <;> simp only [zwd, reduceCtorEq, Option.some.injEq] at h
  all_goals first
    | (rw [hu.int_inv]; subst h; refine ⟨?_, rfl⟩; simp [Op.unary, Op.intArith, Op.intBits, Go.bits]; done)
    | (rw [hu.bool_inv]; subst h; refine ⟨?_, rfl⟩; simp [Op.unary]; done)
set_option maxHeartbeats 4000000 in
theorem zvv {k : EqK} {d : TypeDesc} (hd : eqK1 d = some k) {t : TypeId} (ht : P.underlying t = some d) {u v cu cv : Value} (hu : VR σ g u cu) (hv : VR σ g v cv) {b : Bool}
    (h : qw k u v = some b) {op : BinOp} {x y : Operand} (hi : k = .iface → zal x = true ∨ zal y = true) :
    (eqGuard op t x y cu cv).run P w = .ok () w ∧ (Op.equal t cu cv).run P w = .ok b w := by
  have hm : Op.maxDepth = 9999 + 1 := rfl
  unfold Op.equal
  rw [hm]
  generalize 9999 = n
  cases d <;> simp only [eqK1, Option.some.injEq, reduceCtorEq] at hd <;> subst hd <;> cases hu <;> cases hv <;> simp only [qw, Option.some.injEq, reduceCtorEq] at h <;> (try subst h)
  all_goals first
    | (constructor
       · first | simp [eqGuard_at_bool, eqGuard_at_pointer, eqGuard_at_slice, eqGuard_at_map, eqGuard_at_func, eqGuard_at_nilFunc, eqGuard_at_iface, eqGuard_nil_iface]
       · simp [Op.equalIn, vc ht]
       done)
    | skip
  · constructor
    · rcases hi rfl with hx | hx
      · cases x <;> simp only [zal, Bool.false_eq_true] at hx
        rw [eqGuard_nil_constL]; rfl
      · cases y <;> simp only [zal, Bool.false_eq_true] at hx
        rw [eqGuard_nil_constR]; rfl
    · simp [Op.equalIn, vc ht]
end Go.Proofs.YtljdbheclfaloaaGreatDoor.AM
namespace Go.Proofs.YtljdbheclfaloaaGreatDoor.AM
open Go.RowKit
set_option linter.unusedSimpArgs false
variable {P : Program} {G N : Nat} {σ : Emb} {g : Mem} {w : World}
theorem fu {l c : List Value} {i : Nat} (h : i + c.length ≤ l.length) : (splice l i c).length = l.length := by
  unfold splice; simp only [List.length_append, List.length_take, List.length_drop]; omega
theorem VRs.splice {l cs c ds : List Value} (h : VRs σ g l cs) (h' : VRs σ g c ds) (i : Nat) : VRs σ g (AM.splice l i c) (AM.splice cs i ds) := by
  unfold AM.splice
  rw [h'.length]
  exact ((h.take i).append h').append (h.drop _)
theorem zg1 {l c : List Value} (h : ∀ x ∈ l, single x = true) (h' : ∀ x ∈ c, single x = true) (i : Nat) : ∀ x ∈ splice l i c, single x = true := by
  intro x hx
  unfold splice at hx
  simp only [List.mem_append] at hx
  rcases hx with (hx | hx) | hx
  · exact h x (List.mem_of_mem_take hx)
  · exact h' x hx
  · exact h x (List.mem_of_mem_drop hx)
theorem zj6 : ∀ (c : List Value) (k off : Nat) (l : List Value), off + k + c.length ≤ l.length →
    (c.zipIdx k).foldl (fun (cs : Array Value) (x : Value × Nat) => cs.setIfInBounds (off + x.2) x.1) ⟨l⟩ = ⟨splice l (off + k) c⟩
  | [], k, off, l, h => by simp [splice]
  | x :: c, k, off, l, h => by
    simp only [List.zipIdx_cons, List.foldl_cons, List.setIfInBounds_toArray]
    simp only [List.length_cons] at h
    rw [zj6 c (k + 1) off (l.set (off + k) x) (by rw [List.length_set]; omega)]
    congr 1
    have hle : off + k < l.length := by omega
    have ht : (l.take (off + k)).length = off + k := by rw [List.length_take]; omega
    have hs : l.set (off + k) x = l.take (off + k) ++ x :: l.drop (off + k + 1) := by rw [List.set_eq_take_append_cons_drop, if_pos hle]
    unfold splice
    rw [hs, List.take_append, List.drop_append, ht, List.take_of_length_le (show (l.take (off + k)).length ≤ off + (k + 1) by omega),
      List.drop_eq_nil_of_le (show (l.take (off + k)).length ≤ off + (k + 1) + c.length by omega)]
    rw [show off + (k + 1) - (off + k) = 1 from by omega, show off + (k + 1) + c.length - (off + k) = c.length + 1 from by omega]
    simp only [List.take_succ_cons, List.take_zero, List.drop_succ_cons, List.drop_drop, List.nil_append, List.append_assoc, List.cons_append, List.length_cons]
    rw [show off + k + 1 + c.length = off + k + (c.length + 1) from by omega]
theorem zmt {u cu : Value} {l : List Value} (h : VR σ g u cu) (hl : laid u = some l) : ∃ cs, cu.cells = ⟨cs⟩ ∧ VRs σ g l cs ∧ (∀ x ∈ l, single x = true) := by
  cases h <;> simp only [laid, Option.some.injEq, reduceCtorEq] at hl <;> subst hl
  case agg xs ys h h1 => exact ⟨ys, rfl, h, h1⟩
  all_goals refine ⟨_, rfl, .cons _ _ _ _ ?_ .nil, by simp [single]⟩ <;> constructor <;> assumption
theorem zgv {place : Nat → Option (Nat × Nat)} : ∀ (ps : List (Nat × Nat × Value)) (qs : List (Nat × Value)) (l cs r : List Value), VRs σ g l cs → (∀ x ∈ l, single x = true) →
    ps.length = qs.length → (∀ (i : Nat) p q, ps[i]? = some p → qs[i]? = some q → place q.1 = some (p.1, p.2.1) ∧ VR σ g p.2.2 q.2) → w4 l ps = some r →
    ∃ ds, Instr.fill place ⟨cs⟩ qs = some ⟨ds⟩ ∧ VRs σ g r ds ∧ (∀ x ∈ r, single x = true) ∧ r.length = l.length
  | [], qs, l, cs, r, hl, h1, hlen, _, h => by
    obtain rfl : qs = [] := List.length_eq_zero_iff.1 hlen.symm
    simp only [w4, Option.some.injEq] at h
    subst h
    exact ⟨cs, rfl, hl, h1, rfl⟩
  | (i, n, v) :: ps, [], l, cs, r, _, _, hlen, _, _ => by simp at hlen
  | (i, n, v) :: ps, (j, c) :: qs, l, cs, r, hl, h1, hlen, hp, h => by
    obtain ⟨hpl, hvr⟩ := hp 0 (i, n, v) (j, c) rfl rfl
    simp only at hpl hvr
    unfold w4 at h
    split at h
    · rename_i lv hlv
      split at h
      · rename_i hc
        obtain ⟨hn, hle⟩ := hc
        obtain ⟨cv, hcells, hvs, hs⟩ := zmt hvr hlv
        have hlc := hl.length
        have hvl := hvs.length
        have ih := zgv ps qs (splice l i lv) (splice cs i cv) r (hl.splice hvs i) (zg1 h1 hs i) (by simpa using hlen)
          (fun k p q hk hq => hp (k + 1) p q (by simpa using hk) (by simpa using hq)) h
        obtain ⟨ds, h2, h3, h4, h5⟩ := ih
        refine ⟨ds, ?_, h3, h4, by rw [h5, fu (by omega)]⟩
        unfold Instr.fill
        simp only [hpl, hcells]
        have hsz : (⟨cv⟩ : Array Value).size = cv.length := rfl
        have hsz' : (⟨cs⟩ : Array Value).size = cs.length := rfl
        rw [if_neg (by simp only [hsz, hsz']; simp; omega)]
        have := zj6 cv 0 i cs (by omega)
        simp only [Nat.add_zero] at this
        have hz : (⟨cv⟩ : Array Value).zipIdx = ⟨cv.zipIdx⟩ := by simp
        rw [hz, ← Array.foldl_toList, this]
        exact h2
      · cases h
    · cases h
theorem VR.slice_inv {p : Addr} {n c : Nat} {cv : Value} (h : VR σ g (.slice (some p) n c) cv) : ∃ q cap, cv = .slice (some q) n cap ∧ n ≤ cap := by cases h; exact ⟨_, _, rfl, by assumption⟩
theorem VR.nilSlice_inv {n c : Nat} {cv : Value} (h : VR σ g (.slice none n c) cv) : n = 0 ∧ c = 0 ∧ cv = .slice none 0 0 := by cases h; exact ⟨rfl, rfl, rfl⟩
theorem zl5 {x : Value} {cx : Value} (hv : VR σ g x cx) {d k y : Nat} {code : BoundsCode} (hb : za6 (some x) d = some k) (hk : k ≤ y) : (Instr.sliceBound cx y code).run P w = .ok k w := by
  cases x <;> simp only [za6, reduceCtorEq] at hb
  rename_i kd n
  split at hb
  · rename_i h0
    simp only [Option.some.injEq] at hb
    have h1 : n ≤ (y : Int) := by omega
    rw [hv.int_inv]
    simp only [Instr.sliceBound, asIntOf, Sem.run_bind, Sem.run_pure, Result.andThen_ok]
    rw [if_pos ⟨h0, h1⟩, Sem.run_pure, hb]
  · cases hb
inductive OptR (σ : Emb) (g : Mem) : Option Value → Option Value → Prop
  | none : OptR σ g none none
  | some (u c : Value) (h : VR σ g u c) : OptR σ g (some u) (some c)
theorem zgn {lo hi : Option Value} {clo chi : Option Value} (hlo : OptR σ g lo clo) (hhi : OptR σ g hi chi) {n cap l k : Nat} (hn : n ≤ cap) (hl : za6 lo 0 = some l) (hk : za6 hi n = some k) (hlk : l ≤ k) (hkn : k ≤ n) (s : Bool) :
    (Instr.sliceBounds s n cap clo chi none).run P w = .ok (l, k, cap) w := by
  unfold Instr.sliceBounds
  cases hlo with
  | none =>
    simp only [za6, Option.some.injEq] at hl; subst hl
    cases hhi with
    | none => simp only [za6, Option.some.injEq] at hk; subst hk; rfl
    | some u c h =>
      have := zl5 (P := P) (w := w) h hk (show k ≤ cap by omega) (code := if s then .sliceAcap else .sliceAlen)
      simp only [Sem.run_bind, Sem.run_pure, Result.andThen_ok]
      rw [this]; rfl
  | some u c h =>
    have hlr := zl5 (P := P) (w := w) h hl hlk (code := .sliceB)
    cases hhi with
    | none =>
      simp only [za6, Option.some.injEq] at hk; subst hk
      simp only [Sem.run_bind, Sem.run_pure, Result.andThen_ok, Option.isSome_none, Bool.false_eq_true, if_false]
      rw [hlr]; rfl
    | some u' c' h' =>
      have := zl5 (P := P) (w := w) h' hk (show k ≤ cap by omega) (code := if s then .sliceAcap else .sliceAlen)
      simp only [Sem.run_bind, Sem.run_pure, Result.andThen_ok, Option.isSome_none, Bool.false_eq_true, if_false]
      rw [this]; simp only [Result.andThen_ok]
      rw [hlr]; rfl
end Go.Proofs.YtljdbheclfaloaaGreatDoor.AM
namespace Go.Proofs.YtljdbheclfaloaaGreatDoor.AM
open Go.RowKit
set_option linter.unusedSimpArgs false
variable {P : Program} {G N : Nat} {σ : Emb} {g : Mem} {w : World}
theorem zia {kk : EqK} {d : TypeDesc} (hd : eqK d = some kk) {k j : Value} {b : Bool} (h : qw kk k j = some b) : Instr.sameNow d k j = some b := by
  cases d <;> simp only [eqK, Option.some.injEq, reduceCtorEq] at hd <;> subst hd
  · cases k <;> cases j <;> simp [qw] at h
    subst h; rfl
  · cases k <;> cases j <;> simp [qw] at h
    obtain ⟨rfl, rfl⟩ := h; simp [Instr.sameNow]
  · cases k <;> cases j <;> simp [qw] at h
    subst h; rfl
theorem zie {kk : EqK} {d : TypeDesc} (hd : eqK d = some kk) {k : Value} : ∀ {es : List (Value × Value)} {ms : List MapEntry} (_ : EntriesR σ g es ms) (i : Nat) {r : Option Value}, findKey kk k es = some r →
    (r = none → Instr.findNow d k ms i = some none) ∧ (∀ v, r = some v → ∃ j c, Instr.findNow d k ms i = some (some (j, c)) ∧ VR σ g v c)
  | _, _, .nil, i, r, h => by
    simp only [findKey, Option.some.injEq] at h; subst h
    exact ⟨fun _ => rfl, (fun v h => by cases h)⟩
  | _, _, .cons e m es ms he hs, i, r, h => by
    obtain ⟨kj, v⟩ := e
    unfold findKey at h
    have hkey : m.key = kj := he.key
    cases hq : qw kk k kj with
    | none => rw [hq] at h; cases h
    | some b =>
      rw [hq] at h
      have hn := zia hd hq
      rw [← hkey] at hn
      cases b with
      | true =>
        simp only [Option.some.injEq] at h; subst h
        refine ⟨(fun h => by cases h), fun u hu => ?_⟩
        cases hu
        exact ⟨i, m.val, by unfold Instr.findNow; rw [hn], he.val⟩
      | false =>
        obtain ⟨h1, h2⟩ := zie hd hs (i + 1) h
        refine ⟨fun hr => ?_, fun u hu => ?_⟩
        · unfold Instr.findNow; rw [hn]; exact h1 hr
        · obtain ⟨j, c, h3, h4⟩ := h2 u hu
          exact ⟨j, c, by unfold Instr.findNow; rw [hn]; exact h3, h4⟩
theorem zj1 {kk : EqK} {d : TypeDesc} (hd : eqK d = some kk) {t : TypeId} (ht : P.underlying t = some d) {k : Value} (hk : zdx kk k = true) (e : Bool) (n : Nat) : (Instr.checkKey e (n + 1) t k).run P w = .ok () w := by
  cases d <;> simp only [eqK, Option.some.injEq, reduceCtorEq] at hd <;> subst hd <;> cases k <;> simp only [zdx, Bool.false_eq_true] at hk <;> simp [Instr.checkKey, vc ht]
theorem zp3 {kk : EqK} {k ck : Value} (hk : zdx kk k = true) (h : VR σ g k ck) : ck = k := by
  cases kk <;> cases k <;> simp only [zdx, Bool.false_eq_true] at hk <;> cases h <;> rfl
def zsv (ok : Bool) (z : Value) : Option Value → Value
  | some v => if ok then tup [v, .bool true] else v
  | none => if ok then tup [z, .bool false] else z
theorem zp4 (hm : MR G N σ g w) {h : Heap} (hs : Sub g h) {t kt e : TypeId} {d : TypeDesc} {kk : EqK} (ht : P.underlying t = some (.map kt e)) (hk : P.underlying kt = some d) (hd : eqK d = some kk)
    {z : Value} (hz : zf5 P e = some z) {m cm k ck : Value} (hvm : VR σ g m cm) (hvk : VR σ g k ck) (hok : zdx kk k = true) {r : Option Value} {ok : Bool}
    (hr : zkk h kk k m = some r) :
    ∃ cv, (Instr.lookup t cm ck ok).run P w = .ok cv w ∧ VR σ g (zsv ok z r) cv := by
  have hck := zp3 hok hvk
  subst hck
  have hzr := fun w => (zce hz w).1
  have hzp := (zce hz w).2
  have e0 : (10000 : Nat) = 9999 + 1 := rfl
  have fin : ∀ (es : Array MapEntry) (r : Option Value), (r = none → Instr.findNow d ck es.toList 0 = some none) → (∀ v, r = some v → ∃ j c, Instr.findNow d ck es.toList 0 = some (some (j, c)) ∧ VR σ g v c) →
      ∃ cv, (do
        Instr.checkKey es.isEmpty 10000 kt ck
        let (v, ok') ← match ← Instr.findKey kt ck es.toList with
          | some (_, v) => pure (v, true)
          | none => pure (← zeroValue e, false)
        pure (if ok then .tuple #[v, .bool ok'] else v) : Sem Value).run P w = .ok cv w ∧ VR σ g (zsv ok z r) cv := by
    intro es r h1 h2
    have hc := zj1 (w := w) hd hk hok es.isEmpty 9999
    rw [e0]
    simp only [Sem.run_bind, hc, Result.andThen_ok]
    cases r with
    | none =>
      have hf : (Instr.findKey kt ck es.toList).run P w = .ok none w := by
        simp [Instr.findKey, vc hk, h1 rfl]
      rw [hf]
      simp only [Result.andThen_ok, Sem.run_bind, hzr, Sem.run_pure]
      refine ⟨_, rfl, ?_⟩
      cases ok
      · exact .plain hzp
      · exact .tuple [z, .bool false] [z, .bool false] (.cons _ _ _ _ (.plain hzp) (.cons _ _ _ _ (.bool _) .nil))
    | some v =>
      obtain ⟨j, c, h3, h4⟩ := h2 v rfl
      have hf : (Instr.findKey kt ck es.toList).run P w = .ok (some (j, c)) w := by
        simp [Instr.findKey, vc hk, h3]
      rw [hf]
      simp only [Result.andThen_ok]
      refine ⟨_, rfl, ?_⟩
      cases ok
      · exact h4
      · exact .tuple [v, .bool true] [c, .bool true] (.cons _ _ _ _ h4 (.cons _ _ _ _ (.bool _) .nil))
  unfold Instr.lookup
  simp only [Sem.run_bind, vc ht, Result.andThen_ok]
  cases hvm with
  | nilMap =>
    simp only [zkk, Option.some.injEq] at hr
    subst hr
    have := fin #[] none (fun _ => rfl) (fun v h => by cases h)
    simp only [Sem.run_bind] at this
    simp only [Sem.run_bind, Sem.run_pure, Result.andThen_ok]
    exact this
  | map b s es hg hsb =>
    simp only [zkk, hs _ _ hg] at hr
    have ho := hm.obj _ _ hg
    cases ho with
    | map _ ms clock hb hw he =>
      rw [← hsb] at hw
      have hgo : (getObj s).run P w = .ok (.map ⟨ms⟩ clock) w := by simp [getObj, Sem.run, hw]
      simp only [Sem.run_bind, hgo, Result.andThen_ok, Sem.run_pure]
      have hf := zie hd he 0 hr
      have := fin ⟨ms⟩ r hf.1 hf.2
      simp only [Sem.run_bind] at this
      exact this
  | _ => simp [zkk] at hr
end Go.Proofs.YtljdbheclfaloaaGreatDoor.AM
namespace Go.Proofs.YtljdbheclfaloaaGreatDoor.AM
open Go.RowKit
set_option linter.unusedSimpArgs false
variable {P : Program} {G N : Nat} {σ : Emb} {g : Mem} {w : World}
theorem yo {α β : Type} {f : α → β} {o : Option α} {r : β} (h : o.map f = some r) : ∃ a, o = some a ∧ f a = r := Option.map_eq_some_iff.1 h
theorem zof {ρ ρc : Operand → Value} {l : List Operand} (h : ∀ x ∈ l, VR σ g (ρ x) (ρc x)) : VRs σ g (l.map ρ) (l.map ρc) := VRs.map l h
theorem zvh {ρ ρc : Operand → Value} {o : Option Operand} (h : ∀ x, o = some x → VR σ g (ρ x) (ρc x)) : OptR σ g (o.map ρ) (o.map ρc) := by
  cases o with
  | none => exact .none
  | some x => exact .some _ _ (h x rfl)
theorem ztf {t e : TypeId} {m : Nat} (ht : P.underlying t = some (.slice e)) (hz : gk P e = some m) {p : Addr} {n : Nat} {cv : Value} (hv : VR σ g (.slice (some p) n m) cv) {lo hi clo chi : Option Value}
    (hlo : OptR σ g lo clo) (hhi : OptR σ g hi chi) {l k : Nat} (hl : za6 lo 0 = some l) (hk : za6 hi n = some k) (hlk : l ≤ k) (hkn : k ≤ n) :
    ∃ r, (Instr.sliceAt t cv clo chi none).run P w = .ok r w ∧ VR σ g (.slice (some { p with off := p.off + l * m }) (k - l) m) r := by
  cases hv with
  | slice _ q _ _ cap v vals ver ro hv hg hle hn hq =>
    have hb := fun w => zgn (P := P) (w := w) hlo hhi hn hl hk hlk hkn true
    refine ⟨.slice (some (if cap = l then q else q.add (l * m))) (k - l) (cap - l), ?_, .slice _ _ _ _ _ v vals ver ro hv hg hle (by omega) fun e => ?_⟩
    · simp only [Instr.sliceAt, Sem.run_bind, vc ht, Result.andThen_ok, Instr.slice, hb, jg hz, Sem.run_pure]
      congr 2
      split <;> simp
    · rcases hq e with ⟨hq, hsz⟩ | ⟨h0, hc0⟩
      · by_cases hcl : cap = l
        · exact .inr ⟨by omega, by omega⟩
        · left
          rw [if_neg hcl, hq, ze8, Nat.add_assoc]
          refine ⟨rfl, fun hro => ?_⟩
          have := hsz hro
          simp only
          have e1 : cap * m = l * m + (cap - l) * m := by rw [← Nat.add_mul]; congr 1; omega
          omega
      · exact .inr ⟨by omega, by omega⟩
theorem zmk {t e : TypeId} {m : Nat} (ht : P.underlying t = some (.slice e)) (hz : gk P e = some m) {n c : Nat} {cv : Value} (hv : VR σ g (.slice none n c) cv) {lo hi clo chi : Option Value}
    (hlo : OptR σ g lo clo) (hhi : OptR σ g hi chi) (hl : za6 lo 0 = some 0) (hk : za6 hi 0 = some 0) :
    (Instr.sliceAt t cv clo chi none).run P w = .ok nils w := by
  obtain ⟨_, _, rfl⟩ := hv.nilSlice_inv
  have hb := fun w => zgn (P := P) (w := w) hlo hhi (Nat.le_refl 0) hl hk (Nat.le_refl 0) (Nat.le_refl 0) true
  simp only [Instr.sliceAt, Sem.run_bind, vc ht, Result.andThen_ok, Instr.slice, hb, jg hz, Sem.run_pure]
  rfl
theorem zmn {t : TypeId} (ht : P.underlying t = some .string) {s : ByteArray} {lo hi clo chi : Option Value}
    (hlo : OptR σ g lo clo) (hhi : OptR σ g hi chi) {l k : Nat} (hl : za6 lo 0 = some l) (hk : za6 hi s.size = some k) (hlk : l ≤ k) (hkn : k ≤ s.size) :
    (Instr.sliceAt t (.string s) clo chi none).run P w = .ok (.string (s.extract l k)) w := by
  have hb := fun w => zgn (P := P) (w := w) hlo hhi (Nat.le_refl s.size) hl hk hlk hkn false
  simp only [Instr.sliceAt, Sem.run_bind, vc ht, Result.andThen_ok, Instr.slice, hb, Option.isSome_none, Bool.false_eq_true, if_false, Sem.run_pure]
theorem zmp {t e : TypeId} {m n : Nat} (ht : P.underlying t = some (.array n e)) (hz : gk P e = some m) {p : Addr} {cv : Value} (hv : VR σ g (.pointer (some p)) cv)
    (hroom : ∀ vals ver ro, g p.block = some (.cells vals ver ro) → p.spot = some ver → ro = false → (σ p.block).base + p.off + n * m ≤ (σ p.block).size) {lo hi clo chi : Option Value}
    (hlo : OptR σ g lo clo) (hhi : OptR σ g hi chi) {l k : Nat} (hl : za6 lo 0 = some l) (hk : za6 hi n = some k) (hlk : l ≤ k) (hkn : k ≤ n) :
    ∃ r, (Instr.sliceAt t cv clo chi none).run P w = .ok r w ∧ VR σ g (.slice (some { p with off := p.off + l * m }) (k - l) m) r := by
  cases hv with
  | ptr _ q v vals ver ro hv hg hle hq =>
    have hb := fun w => zgn (P := P) (w := w) hlo hhi (Nat.le_refl n) hl hk hlk hkn false
    refine ⟨.slice (some (if n = l then q else q.add (l * m))) (k - l) (n - l), ?_, .slice _ _ _ _ _ v vals ver ro hv hg hle (by omega) fun e => ?_⟩
    · simp only [Instr.sliceAt, Sem.run_bind, vc ht, Result.andThen_ok, hb, jg hz, Sem.run_pure, Instr.sureAddr]
    · by_cases hcl : n = l
      · exact .inr ⟨by omega, by omega⟩
      · left
        rw [if_neg hcl, hq e, ze8, Nat.add_assoc]
        refine ⟨rfl, fun hro => ?_⟩
        have := hroom vals ver ro hg (by rw [hv, e]) hro
        simp only
        have e1 : n * m = l * m + (n - l) * m := by rw [← Nat.add_mul]; congr 1; omega
        omega
theorem zj3 {fs : Array Field} {z : List Value} {ρ ρc : Operand → Value} : ∀ {ps : List (Nat × Operand)} {qs : List (Nat × Nat × Operand)}, zcm P fs ps = some qs →
    qs.length = ps.length ∧ ∀ (i : Nat) q p, qs[i]? = some q → ps[i]? = some p → ∃ f, fs[p.1]? = some f ∧ q.1 = f.offset ∧ gk P f.type = some q.2.1 ∧ q.2.2 = p.2
  | [], qs, h => by
    simp only [zcm, Option.some.injEq] at h; subst h
    exact ⟨rfl, fun i q p hq => by simp at hq⟩
  | (i, x) :: r, qs, h => by
    unfold zcm at h
    cases hf : fs[i]? with
    | none => rw [hf] at h; cases h
    | some f =>
      rw [hf] at h
      simp only at h
      cases hz : gk P f.type with
      | none => rw [hz] at h; cases h
      | some n =>
        cases hr : zcm P fs r with
        | none => rw [hz, hr] at h; cases h
        | some l =>
          rw [hz, hr] at h
          simp only [Option.some.injEq] at h
          subst h
          obtain ⟨h1, h2⟩ := zj3 (z := z) (ρ := ρ) (ρc := ρc) hr
          refine ⟨by simp [h1], fun j q p hq hp => ?_⟩
          cases j with
          | zero => simp at hq hp; subst hq; subst hp; exact ⟨f, hf, rfl, hz, rfl⟩
          | succ j => exact h2 j q p (by simpa using hq) (by simpa using hp)
theorem zb9 {t : TypeId} {v : Value} (h : zf5 P t = some v) : plain v = true := (zce h default).2
theorem zee {t : TypeId} {l : List Value} (h : zfi P t = some l) : ∃ v, zf5 P t = some v ∧ laid v = some l := by
  unfold zfi at h; exact Option.bind_eq_some_iff.1 h
theorem zeb {v : Value} {l : List Value} (h : laid v = some l) : v.cells = ⟨l⟩ := by
  cases v <;> simp only [laid, Option.some.injEq, reduceCtorEq] at h <;> subst h <;> rfl
theorem zgk {v : Value} {l : List Value} (h : laid v = some l) (hp : plain v = true) : l.all plain1 = true := by
  unfold plain at hp
  cases v <;> simp only [laid, Option.some.injEq, reduceCtorEq] at h <;> subst h <;> simp_all
theorem zsp {fs : Array Field} (h : ∀ f ∈ fs, (gk P f.type).isSome = true) :
    (fs.mapM fun f => do pure (f.offset, ← sizeOf f.type) : Sem (Array (Nat × Nat))).run P w = .ok (fs.map fun f => (f.offset, (gk P f.type).getD 0)) w := by
  rw [Array.mapM_eq_mapM_toList]
  have key : ∀ l : List Field, (∀ f ∈ l, (gk P f.type).isSome = true) → (l.mapM fun f => do pure (f.offset, ← sizeOf f.type) : Sem (List (Nat × Nat))).run P w = .ok (l.map fun f => (f.offset, (gk P f.type).getD 0)) w := by
    intro l
    induction l with
    | nil => intro _; rfl
    | cons f l ih =>
      intro h
      obtain ⟨n, hn⟩ := Option.isSome_iff_exists.1 (h f (by simp))
      rw [List.mapM_cons]
      simp only [Sem.run_bind, jg hn, Result.andThen_ok, Sem.run_pure, ih fun g hg => h g (by simp [hg]), List.map_cons, hn, Option.getD_some]
  simp only [Sem.run_map, key fs.toList (fun f hf => h f (Array.mem_toList_iff.1 hf)), Result.andThen_ok]
  congr 1
  apply Array.ext'
  simp
end Go.Proofs.YtljdbheclfaloaaGreatDoor.AM
namespace Go.Proofs.YtljdbheclfaloaaGreatDoor.AM
open Go.RowKit
set_option linter.unusedSimpArgs false
variable {P : Program} {G N : Nat} {σ : Emb} {g : Mem} {w : World}
theorem ztd {t ty : TypeId} {x : Value} {n : Nat} {e : TypeId} (h : P.underlying t = some (.array n e) ∨ ∃ a, P.underlying t = some (.pointer a) ∧ P.underlying a = some (.array n e)) :
    (Builtin.len_ #[t] ty #[x]).run P w = .ok (.int .i64 n) w := by
  rcases h with h | ⟨a, h, h'⟩
  · unfold Builtin.len_
    cases x <;> simp [vc h, goInt]
  · unfold Builtin.len_
    cases x <;> simp [vc h, vc h', goInt]
theorem VR.func_inv {f : Fn} {a b : Array Value} {c : Value} (h : VR σ g (.func f a b) c) : ∃ ys vs, c = .func f ⟨ys⟩ ⟨vs⟩ := by cases h; exact ⟨_, _, rfl⟩
theorem zzg (neg : Bool) (t : TypeId) {u v : Value} (hni : ∀ k a k' a', ¬ (u = .int k a ∧ v = .int k' a')) (hns : ∀ s s', ¬ (u = .string s ∧ v = .string s'))
    (hnf : ∀ k a k' a', ¬ (u = .float k a ∧ v = .float k' a')) (hnc : ∀ k a c k' a' c', ¬ (u = .complex k a c ∧ v = .complex k' a' c')) :
    binOp (if neg then .neq else .eql) t u v = (do pure (.bool ((← Op.equal t u v) != neg)) : Sem Value) := by
  cases neg
  · simp only [Bool.false_eq_true, if_false, Bool.bne_false]
    cases u <;> cases v <;> first | rfl | exact absurd ⟨rfl, rfl⟩ (hni _ _ _ _) | exact absurd ⟨rfl, rfl⟩ (hns _ _) | exact absurd ⟨rfl, rfl⟩ (hnf _ _ _ _) | exact absurd ⟨rfl, rfl⟩ (hnc _ _ _ _ _ _)
  · simp only [if_true, Bool.bne_true]
    cases u <;> cases v <;> first | rfl | exact absurd ⟨rfl, rfl⟩ (hni _ _ _ _) | exact absurd ⟨rfl, rfl⟩ (hns _ _) | exact absurd ⟨rfl, rfl⟩ (hnf _ _ _ _) | exact absurd ⟨rfl, rfl⟩ (hnc _ _ _ _ _ _)
theorem zqo {d : Nat} : ∀ {t : TypeId} {ks : List EqK}, leaves P d t = some ks → ∀ k ∈ ks, k = .bool ∨ k = .int ∨ k = .str := by
  induction d with
  | zero => intro t ks h; simp [leaves] at h
  | succ d ih =>
    intro t ks h
    unfold leaves at h
    cases hu : P.underlying t with
    | none => rw [hu] at h; cases h
    | some q =>
      rw [hu] at h
      cases q
      case struct fs =>
        simp only at h
        split at h
        · cases h
        have key : ∀ (l : List Field) (o : Nat) (ks : List EqK), leaves.leavesOf (leaves P d) (fun u => (P.info? u).map (·.size)) l o = some ks → ∀ k ∈ ks, k = .bool ∨ k = .int ∨ k = .str := by
          intro l
          induction l with
          | nil => intro o ks h k hk; simp only [leaves.leavesOf, Option.some.injEq] at h; subst h; simp at hk
          | cons f l ihl =>
            intro o ks h k hk
            unfold leaves.leavesOf at h
            split at h
            · cases h
            cases hl : leaves P d f.type with
            | none => rw [hl] at h; cases h
            | some l1 =>
              cases hz : (P.info? f.type).map (·.size) with
              | none => rw [hl, hz] at h; cases h
              | some n =>
                rw [hl, hz] at h
                simp only at h
                split at h
                · obtain ⟨k2, hk2, rfl⟩ := yo h
                  rcases List.mem_append.1 hk with hk | hk
                  · exact ih hl k hk
                  · exact ihl _ _ hk2 k hk
                · cases h
        exact key _ _ _ h
      case array n e =>
        simp only [Option.bind_eq_some_iff] at h
        obtain ⟨l, hl, h⟩ := h
        split at h
        · cases h
          intro k hk
          have : ∀ n, k ∈ repl n l → k ∈ l := by
            intro n
            induction n with
            | zero => intro h; simp [repl] at h
            | succ n ihn => intro h; rcases List.mem_append.1 h with h | h; exact h; exact ihn h
          exact ih hl k (this _ hk)
        · cases h
      all_goals
        simp only [Option.map_eq_some_iff] at h
        obtain ⟨k0, hk0, rfl⟩ := h
        intro k hk
        simp only [List.mem_singleton] at hk
        subst hk
        simp only [eqK, Option.some.injEq, reduceCtorEq] at hk0
        try (subst hk0; simp)
theorem EntriesR.length {es : List (Value × Value)} {ms : List MapEntry} (h : EntriesR σ g es ms) : es.length = ms.length := by
  induction h with
  | nil => rfl
  | cons _ _ _ _ _ _ ih => simp [ih]
set_option maxHeartbeats 1000000 in
theorem zwi (call : qd) (hm : MR G N σ g w) {h : Heap} (hs : Sub g h) {ρ ρc : Operand → Value} {dst : Option Tmp} {c : Call} {ty : TypeId} {pos : String} {after : Array Edge} {guard : Option (Nat × Bool)} {ao : AOp}
    (hn : wv P ty (.call c) = some ao) (hk : ao.acts = false)
    (hv : ∀ x ∈ (Op.call c).operands, VR σ g (ρ x) (ρc x)) (hc : ∀ v, ρ (.const v) = v ∧ ρc (.const v) = v) {v : Value} {h' : Heap} (he : evOp call ρ h ao = some (v, h')) :
    h' = h ∧ zkb P w σ g v (execOp ρc ⟨dst, .call c, ty, pos, after, guard⟩) := by
  obtain ⟨callee, ⟨as⟩, ⟨ts⟩⟩ := c
  simp only [wv, zdl] at hn
  split at hn
  · rename_i x t
    have hx := hv x (by simp [Op.operands, Call.operands])
    have hrun : ∀ r, (Builtin.len_ #[t] ty #[ρc x]).run P w = .ok r w → VR σ g v r → zkb P w σ g v (execOp ρc ⟨dst, .call ⟨.builtin .len, ⟨[x]⟩, ⟨[t]⟩⟩, ty, pos, after, guard⟩) := by
      intro r hr hvr
      refine ⟨r, ?_, hvr⟩
      simp only [execOp, resolve, List.map_toArray, List.map_cons, List.map_nil, Sem.run_bind, Sem.run_pure, Result.andThen_ok, invoke, builtin]
      rw [hr]
      rfl
    have consts : ∀ (n : Nat) e, ao = .mv (.const (.int .i64 n)) → (P.underlying t = some (.array n e) ∨ ∃ a, P.underlying t = some (.pointer a) ∧ P.underlying a = some (.array n e)) →
        h' = h ∧ zkb P w σ g v (execOp ρc ⟨dst, .call ⟨.builtin .len, ⟨[x]⟩, ⟨[t]⟩⟩, ty, pos, after, guard⟩) := by
      rintro n e rfl ht
      simp only [evOp, (hc _).1, Option.some.injEq, Prod.mk.injEq] at he
      obtain ⟨rfl, rfl⟩ := he
      exact ⟨rfl, hrun _ (ztd ht) (.int _ _)⟩
    cases hu : P.underlying t with
    | none => rw [hu] at hn; cases hn
    | some d =>
      rw [hu] at hn
      cases d <;> simp only [reduceCtorEq] at hn
      case string =>
        simp only [Option.some.injEq] at hn; subst hn
        simp only [evOp] at he
        split at he
        · rename_i s hxs
          simp only [Option.some.injEq, Prod.mk.injEq] at he
          obtain ⟨rfl, rfl⟩ := he
          rw [hxs] at hx
          refine ⟨rfl, hrun _ ?_ (.int _ _)⟩
          rw [hx.string_inv]
          simp [Builtin.len_, vc hu, goInt]
        · cases he
      case slice e =>
        simp only [Option.some.injEq] at hn; subst hn
        simp only [evOp] at he
        split at he
        · rename_i a n c hxs
          simp only [Option.some.injEq, Prod.mk.injEq] at he
          obtain ⟨rfl, rfl⟩ := he
          rw [hxs] at hx
          refine ⟨rfl, hrun _ ?_ (.int _ _)⟩
          generalize ρc x = cx at hx ⊢
          cases hx <;> simp [Builtin.len_, vc hu, goInt]
        · cases he
      case array n e =>
        simp only [Option.some.injEq] at hn
        exact consts n e hn.symm (.inl hu)
      case pointer a =>
        cases hua : P.underlying a with
        | none => rw [hua] at hn; cases hn
        | some d2 =>
          rw [hua] at hn
          cases d2 <;> simp only [reduceCtorEq, Option.some.injEq] at hn
          exact consts _ _ hn.symm (.inr ⟨a, hu, hua⟩)
      case map k e =>
        simp only [Option.some.injEq] at hn; subst hn
        simp only [evOp] at he
        split at he
        · rename_i hxs
          simp only [Option.some.injEq, Prod.mk.injEq] at he
          obtain ⟨rfl, rfl⟩ := he
          rw [hxs] at hx
          refine ⟨rfl, hrun _ ?_ (.int _ _)⟩
          generalize ρc x = cx at hx ⊢
          cases hx
          simp [Builtin.len_, vc hu, goInt]
        · rename_i b hxs
          split at he
          · rename_i es hb
            simp only [Option.some.injEq, Prod.mk.injEq] at he
            obtain ⟨rfl, rfl⟩ := he
            rw [hxs] at hx
            refine ⟨rfl, hrun _ ?_ (.int _ _)⟩
            generalize ρc x = cx at hx ⊢
            cases hx with
            | map _ s es' hg hsb =>
              have := hs _ _ hg
              rw [hb] at this
              cases this
              have ho := hm.obj _ _ hg
              cases ho with
              | map _ ms clock hbn hw hent =>
                rw [← hsb] at hw
                have hgo : (getObj s).run P w = .ok (.map ⟨ms⟩ clock) w := by simp [getObj, Sem.run, hw]
                simp [Builtin.len_, vc hu, goInt, hgo, hent.length]
          · cases he
        · cases he
  · rename_i x y t u
    exfalso
    split at hn
    · split at hn
      · split at hn
        · simp only [Option.some.injEq] at hn; subst hn; simp [AOp.acts] at hk
        · cases hn
      · cases hn
    · cases hn
  · rename_i x y
    split at hn
    · simp only [Option.some.injEq] at hn; subst hn
      simp only [evOp] at he
      split at he
      · rename_i k a k' b hxs hys
        simp only [Option.some.injEq, Prod.mk.injEq] at he
        obtain ⟨rfl, rfl⟩ := he
        have hx := hv x (by simp [Op.operands, Call.operands])
        have hy := hv y (by simp [Op.operands, Call.operands])
        rw [hxs] at hx; rw [hys] at hy
        refine ⟨rfl, _, ?_, .int _ _⟩
        simp only [execOp, resolve, List.map_toArray, List.map_cons, List.map_nil, Sem.run_bind, Sem.run_pure, Result.andThen_ok, invoke, builtin, hx.int_inv, hy.int_inv, Builtin.max_, List.foldlM_cons, List.foldlM_nil, Builtin.max2]
      · cases he
    · cases hn
  · rename_i x y
    split at hn
    · simp only [Option.some.injEq] at hn; subst hn
      simp only [evOp] at he
      split at he
      · rename_i k a k' b hxs hys
        simp only [Option.some.injEq, Prod.mk.injEq] at he
        obtain ⟨rfl, rfl⟩ := he
        have hx := hv x (by simp [Op.operands, Call.operands])
        have hy := hv y (by simp [Op.operands, Call.operands])
        rw [hxs] at hx; rw [hys] at hy
        refine ⟨rfl, _, ?_, .int _ _⟩
        simp only [execOp, resolve, List.map_toArray, List.map_cons, List.map_nil, Sem.run_bind, Sem.run_pure, Result.andThen_ok, invoke, builtin, hx.int_inv, hy.int_inv, Builtin.min_, List.foldlM_cons, List.foldlM_nil, Builtin.min2]
      · cases he
    · cases hn
  · split at hn
    · simp only [Option.some.injEq] at hn; subst hn; simp [AOp.acts] at hk
    · cases hn
  · simp only [Option.some.injEq] at hn; subst hn; simp [AOp.acts] at hk
  · cases hn
theorem zd3 {d : Option TypeDesc} {r : Option Operand} {ao : AOp} (h : za5 d r = some ao) : ao = .mkMap := by
  unfold za5 at h
  split at h <;> first | (cases h; done) | (simp only [Option.some.injEq] at h; exact h.symm)
set_option maxHeartbeats 4000000 in
theorem zul (call : qd) (hm : MR G N σ g w) {h : Heap} (hs : Sub g h) {ρ ρc : Operand → Value} {o : Oper} {ao : AOp} (hn : wv P o.type o.op = some ao) (hk : ao.acts = false) (hk' : ao.makes = false)
    (hv : ∀ x ∈ o.op.operands, VR σ g (ρ x) (ρc x)) (hc : ∀ v, ρ (.const v) = v ∧ ρc (.const v) = v) {v : Value} {h' : Heap} (he : evOp call ρ h ao = some (v, h')) :
    h' = h ∧ zkb P w σ g v (execOp ρc o) := by
  obtain ⟨dst, op, ty, pos, after, guard⟩ := o
  simp only at hn hv
  cases op
  case move x =>
    simp only [wv, Option.some.injEq] at hn; subst hn
    simp only [evOp, Option.some.injEq, Prod.mk.injEq] at he
    obtain ⟨rfl, rfl⟩ := he
    exact ⟨rfl, ρc x, rfl, hv x (by simp [Op.operands])⟩
  case assign x =>
    simp only [wv, Option.some.injEq] at hn; subst hn
    simp only [evOp, Option.some.injEq, Prod.mk.injEq] at he
    obtain ⟨rfl, rfl⟩ := he
    exact ⟨rfl, ρc x, rfl, hv x (by simp [Op.operands])⟩
  case pick c a b =>
    simp only [wv, Option.some.injEq] at hn; subst hn
    have hcv := hv c (by simp [Op.operands])
    have ha := hv a (by simp [Op.operands])
    have hb := hv b (by simp [Op.operands])
    simp only [evOp] at he
    split at he
    · rename_i t ht
      rw [ht] at hcv
      simp only [Option.some.injEq, Prod.mk.injEq] at he
      obtain ⟨rfl, rfl⟩ := he
      refine ⟨rfl, if t then ρc a else ρc b, ?_, ?_⟩
      · simp only [execOp, hcv.bool_inv, asBool, Sem.run_bind, Sem.run_pure, Result.andThen_ok]
      · cases t
        · exact hb
        · exact ha
    · cases he
  case build t ps =>
    simp only [wv] at hn
    cases hz : zfi P t with
    | none => rw [hz] at hn; split at hn <;> simp_all
    | some z =>
      obtain ⟨zv, hzv, hzl⟩ := zee hz
      have hzc := zeb hzl
      have hzp := zgk hzl (zb9 hzv)
      have hz0 : VRs σ g z z := .plain1 hzp
      have hz1 : ∀ x ∈ z, single x = true := fun x hx => kv (List.all_eq_true.1 hzp x hx)
      cases hu : P.underlying t with
      | none => rw [hu] at hn; cases hn
      | some d =>
        rw [hu, hz] at hn
        cases d <;> simp only [reduceCtorEq] at hn
        case struct fs =>
          split at hn
          · rename_i hall
            obtain ⟨qs, hq, rfl⟩ := yo hn
            obtain ⟨hql, hqf⟩ := zj3 (z := z) (ρ := ρ) (ρc := ρc) hq
            simp only [evOp] at he
            obtain ⟨l, hl, hr⟩ := yo he
            simp only [Prod.mk.injEq] at hr
            obtain ⟨rfl, rfl⟩ := hr
            have hsz : ∀ f ∈ fs, (gk P f.type).isSome = true := fun f hf => List.all_eq_true.1 hall f (Array.mem_toList_iff.2 hf)
            obtain ⟨ds, h1, h2, h3, _⟩ := zgv (place := fun i => (fs.map fun f => (f.offset, (gk P f.type).getD 0))[i]?) (qs.map fun p => (p.1, p.2.1, ρ p.2.2)) (ps.map fun (i, x) => (i, ρc x)).toList z z l hz0 hz1
              (by simp [hql]) (fun i p q hp hq' => by
                simp only [List.getElem?_map, Option.map_eq_some_iff] at hp
                obtain ⟨p0, hp0, rfl⟩ := hp
                simp only [Array.toList_map, List.getElem?_map, Option.map_eq_some_iff] at hq'
                obtain ⟨q0, hq0, rfl⟩ := hq'
                obtain ⟨f, hf1, hf2, hf3, hf4⟩ := hqf i p0 q0 hp0 hq0
                refine ⟨by simp [hf1, hf2, hf3], ?_⟩
                simp only [hf4]
                refine hv _ ?_
                have hmem : q0 ∈ ps.toList := List.mem_of_getElem? hq0
                simp only [Op.operands, List.mem_toArray, List.mem_map]
                exact ⟨q0, hmem, rfl⟩) hl
            refine ⟨rfl, .agg ⟨ds⟩, ?_, .agg _ _ h2 h3⟩
            have hpl := zsp (P := P) (w := w) hsz
            simp only [execOp, Instr.build, Sem.run_bind, (zce hzv w).1, Result.andThen_ok, vc hu, hzc]
            rw [hpl]
            simp only [Result.andThen_ok, h1, Sem.run_pure]
          · cases hn
        case array n e =>
          obtain ⟨qs, hq, rfl⟩ := yo hn
          unfold zfn at hq
          obtain ⟨m, hm', rfl⟩ := yo hq
          simp only [evOp] at he
          obtain ⟨l, hl, hr⟩ := yo he
          simp only [Prod.mk.injEq] at hr
          obtain ⟨rfl, rfl⟩ := hr
          obtain ⟨ds, h1, h2, h3, _⟩ := zgv (place := fun i => some (i * m, m)) ((ps.toList.map fun p => (p.1 * m, m, p.2)).map fun p => (p.1, p.2.1, ρ p.2.2)) (ps.map fun (i, x) => (i, ρc x)).toList z z l hz0 hz1
            (by simp) (fun i p q hp hq' => by
              simp only [List.getElem?_map, Option.map_map, Option.map_eq_some_iff] at hp
              obtain ⟨p0, hp0, rfl⟩ := hp
              simp only [Array.toList_map, List.getElem?_map, Option.map_eq_some_iff] at hq'
              obtain ⟨q0, hq0, rfl⟩ := hq'
              rw [hp0] at hq0; cases hq0
              refine ⟨rfl, ?_⟩
              refine hv _ ?_
              have hmem : p0 ∈ ps.toList := List.mem_of_getElem? hp0
              simp only [Op.operands, List.mem_toArray, List.mem_map]
              exact ⟨p0, hmem, rfl⟩) hl
          refine ⟨rfl, .agg ⟨ds⟩, ?_, .agg _ _ h2 h3⟩
          simp only [execOp, Instr.build, Sem.run_bind, (zce hzv w).1, Result.andThen_ok, vc hu, hzc, jg hm', h1, Sem.run_pure]
  case load t a =>
    simp only [wv] at hn
    have ha := hv a (by simp [Op.operands])
    cases hag : aggT P t with
    | none => rw [hag] at hn; cases hn
    | some b =>
      cases hz : gk P t with
      | none => rw [hag, hz] at hn; cases b <;> cases hn
      | some n =>
        rw [hag, hz] at hn
        cases b <;> simp only [Option.some.injEq] at hn <;> subst hn <;> simp only [evOp] at he
        · split at he
          · rename_i p hp
            rw [hp] at ha
            obtain ⟨u, hu, hr⟩ := yo he
            simp only [Prod.mk.injEq] at hr
            obtain ⟨rfl, rfl⟩ := hr
            exact ⟨rfl, jx (zlh hm hs hag ha hu)⟩
          · cases he
        · split at he
          · rename_i p hp
            rw [hp] at ha
            obtain ⟨l, hl, hr⟩ := yo he
            simp only [Prod.mk.injEq] at hr
            obtain ⟨rfl, rfl⟩ := hr
            exact ⟨rfl, jx (zns hm hs hag hz ha hl)⟩
          · cases he
  case nilCheck x =>
    simp only [wv, Option.some.injEq] at hn; subst hn
    have hx := hv x (by simp [Op.operands])
    simp only [evOp] at he
    split at he
    · rename_i p hp
      simp only [Option.some.injEq, Prod.mk.injEq] at he
      obtain ⟨rfl, rfl⟩ := he
      rw [hp] at hx
      obtain ⟨q, hq⟩ := hx.ptr_inv
      refine ⟨rfl, ρc x, ?_, hx⟩
      simp only [execOp, hq, Sem.run_pure]
    · rename_i f a b hp
      simp only [Option.some.injEq, Prod.mk.injEq] at he
      obtain ⟨rfl, rfl⟩ := he
      rw [hp] at hx
      refine ⟨rfl, ρc x, ?_, hx⟩
      obtain ⟨ys, vs, hq⟩ := hx.func_inv
      simp only [execOp, hq, Sem.run_pure]
    · cases he
  case binOp op t x y yt =>
    have hx := hv x (by simp [Op.operands])
    have hy := hv y (by simp [Op.operands])
    have bins : ∀ bop, ao = .bin bop x y → op = bop → h' = h ∧ zkb P w σ g v (execOp ρc ⟨dst, .binOp op t x y yt, ty, pos, after, guard⟩) := by
      rintro bop rfl rfl
      simp only [evOp] at he
      obtain ⟨r, hr, he⟩ := yo he
      simp only [Prod.mk.injEq] at he
      obtain ⟨rfl, rfl⟩ := he
      obtain ⟨h1, h2⟩ := zw6 (P := P) (w := w) (t := t) (x := x) (y := y) hx hy hr
      exact ⟨rfl, jx ⟨r, h1, .plain1 h2⟩⟩
    have eqs : ∀ neg, op = (if neg then .neq else .eql) → zdm P neg t x y = some ao → h' = h ∧ zkb P w σ g v (execOp ρc ⟨dst, .binOp op t x y yt, ty, pos, after, guard⟩) := by
      intro neg hop hne
      unfold zdm at hne
      cases hu : P.underlying t with
      | none => rw [hu] at hne; cases hne
      | some d =>
        rw [hu] at hne
        have fin : ∀ b : Bool, (eqGuard op t x y (ρc x) (ρc y)).run P w = .ok () w → (Op.equal t (ρc x) (ρc y)).run P w = .ok b w → (∀ k a k' a', ¬ (ρc x = .int k a ∧ ρc y = .int k' a')) →
            (∀ s s', ¬ (ρc x = .string s ∧ ρc y = .string s')) → (∀ k a k' a', ¬ (ρc x = .float k a ∧ ρc y = .float k' a')) → (∀ k a c k' a' c', ¬ (ρc x = .complex k a c ∧ ρc y = .complex k' a' c')) →
            zkb P w σ g (.bool (b != neg)) (execOp ρc ⟨dst, .binOp op t x y yt, ty, pos, after, guard⟩) := by
          intro b hg he hni hns hnf hnc
          refine jx ⟨.bool (b != neg), ?_, .bool _⟩
          simp only [Sem.run_bind, hg, Result.andThen_ok]
          subst hop
          have hb : binOp (if neg then .neq else .eql) t (ρc x) (ρc y) = (do pure (.bool ((← Op.equal t (ρc x) (ρc y)) != neg)) : Sem Value) := zzg neg t hni hns hnf hnc
          rw [hb]
          simp only [Sem.run_bind, he, Result.andThen_ok, Sem.run_pure]
        have aggs : (∃ fs, d = .struct fs) ∨ (∃ n e, d = .array n e) → (if P.eqGuardType P.depth t then none else (leaves P 8 t).map fun ks => AOp.eqAgg neg ks x y) = some ao →
            h' = h ∧ zkb P w σ g v (execOp ρc ⟨dst, .binOp op t x y yt, ty, pos, after, guard⟩) := by
          intro hd hao
          split at hao
          · cases hao
          rename_i hng
          obtain ⟨ks, hks, rfl⟩ := yo hao
          simp only [evOp] at he
          split at he
          · rename_i xs ys hxs hys
            split at he
            · rename_i hlen
              obtain ⟨b, hb, he⟩ := yo he
              simp only [Prod.mk.injEq] at he
              obtain ⟨rfl, rfl⟩ := he
              rw [hxs] at hx; rw [hys] at hy
              obtain ⟨cx, hcx, hvx, _⟩ := hx.agg_inv
              obtain ⟨cy, hcy, hvy, _⟩ := hy.agg_inv
              have hlx : xs.toList.length = ks.length := hlen.1
              have hly : ys.toList.length = ks.length := hlen.2
              have same : ∀ (ks : List EqK) (a b ca cb : List Value) (r : Bool), VRs σ g a ca → VRs σ g b cb → zbh ks a b = some r → (∀ k ∈ ks, k = .bool ∨ k = .int ∨ k = .str) → zbh ks ca cb = some r := by
                intro ks
                induction ks with
                | nil => intro a b ca cb r ha hb hr _; cases ha <;> cases hb <;> first | exact hr | cases hr
                | cons k ks ih =>
                  intro a b ca cb r ha hb hr hk
                  cases ha with
                  | nil => cases hr
                  | cons u c us cs hu hus =>
                    cases hb with
                    | nil => cases hr
                    | cons u' c' us' cs' hu' hus' =>
                      simp only [zbh] at hr ⊢
                      have hl : ∀ b, qw k u u' = some b → c = u ∧ c' = u' := by
                        intro b hb
                        rcases hk k (by simp) with rfl | rfl | rfl <;> cases u <;> cases u' <;> simp only [qw, reduceCtorEq] at hb <;> cases hu <;> cases hu' <;> exact ⟨rfl, rfl⟩
                      cases hq : qw k u u' with
                      | none => rw [hq] at hr; cases hr
                      | some b0 =>
                        obtain ⟨rfl, rfl⟩ := hl b0 hq
                        rw [hq] at hr ⊢
                        cases b0 with
                        | false => exact hr
                        | true => exact ih _ _ _ _ _ hus hus' hr fun k hk' => hk k (by simp [hk'])
              have hkinds : ∀ k ∈ ks, k = .bool ∨ k = .int ∨ k = .str := zqo hks
              have hr := same ks _ _ _ _ b hvx hvy hb hkinds
              have hq := zyo (P := P) (w := w) 8 9992 t ks cx cy b hks (by rw [← hvx.length]; exact hlx) (by rw [← hvy.length]; exact hly) hr
              have hvv : ∀ l, zhq P t l = .agg ⟨l⟩ := fun l => by unfold zhq; rw [hu]; rcases hd with ⟨fs, rfl⟩ | ⟨n, e, rfl⟩ <;> rfl
              rw [hvv, hvv, ← hcx, ← hcy] at hq
              refine ⟨rfl, fin b ?_ hq ?_ ?_ ?_ ?_⟩
              · rw [hcx, hcy]
                subst hop
                cases neg <;> simp [eqGuard, hng]
              all_goals (intros; rw [hcx]; simp)
            · cases he
          · cases he
        have lf : ∀ k, eqK1 d = some k → ao = .eqv neg k x y → (k = .iface → zal x = true ∨ zal y = true) → h' = h ∧ zkb P w σ g v (execOp ρc ⟨dst, .binOp op t x y yt, ty, pos, after, guard⟩) := by
          rintro k hkk rfl hif
          simp only [evOp] at he
          obtain ⟨b, hb, he⟩ := yo he
          simp only [Prod.mk.injEq] at he
          obtain ⟨rfl, rfl⟩ := he
          obtain ⟨h1, h2⟩ := zvv (P := P) (w := w) hkk hu hx hy hb (op := op) (x := x) (y := y) hif
          have hkind : k ≠ .int ∧ k ≠ .str := by constructor <;> (rintro rfl; cases d <;> simp [eqK1] at hkk)
          have hno : ∀ u u', VR σ g u (ρc x) → VR σ g u' (ρc y) → qw k u u' = some b → (∀ k a k' a', ¬ (ρc x = .int k a ∧ ρc y = .int k' a')) ∧
              (∀ s s', ¬ (ρc x = .string s ∧ ρc y = .string s')) ∧ (∀ k a k' a', ¬ (ρc x = .float k a ∧ ρc y = .float k' a')) ∧ (∀ k a c k' a' c', ¬ (ρc x = .complex k a c ∧ ρc y = .complex k' a' c')) := by
            intro u u' hu hu' hl
            refine ⟨?_, ?_, ?_, ?_⟩
            all_goals
              intros
              rintro ⟨ha, hb'⟩
              rw [ha] at hu; rw [hb'] at hu'
              cases hu <;> cases hu' <;> (first | (rw [zqh] at hl; cases hl) | (rw [zqc] at hl; cases hl) | (cases k <;> simp_all [qw]))
          obtain ⟨n1, n2, n3, n4⟩ := hno _ _ hx hy hb
          exact ⟨rfl, fin b h1 h2 n1 n2 n3 n4⟩
        cases d
        case int k => simp only [Option.some.injEq] at hne; exact bins _ hne.symm hop
        case string => simp only [Option.some.injEq] at hne; exact bins _ hne.symm hop
        case struct fs => exact aggs (.inl ⟨fs, rfl⟩) hne
        case array n e => exact aggs (.inr ⟨n, e, rfl⟩) hne
        case interface ms =>
          simp only at hne
          split at hne
          · rename_i hni
            simp only [Option.some.injEq] at hne
            exact lf _ rfl hne.symm (fun _ => by simpa [Bool.or_eq_true] using hni)
          · cases hne
        all_goals
          first
            | (simp only [eqK1, Option.map_some, Option.some.injEq, Option.map_none, reduceCtorEq] at hne; exact lf _ rfl hne.symm (by intro h; cases h))
            | (simp [eqK1] at hne; done)
    simp only [wv] at hn
    cases op <;> simp only at hn
    case eql => exact eqs false rfl hn
    case neq => exact eqs true rfl hn
    all_goals
      split at hn
      · simp only [Option.some.injEq] at hn; exact bins _ hn.symm rfl
      · cases hn
  case unOp op t x =>
    simp only [wv, Option.some.injEq] at hn; subst hn
    simp only [evOp] at he
    obtain ⟨r, hr, he⟩ := yo he
    simp only [Prod.mk.injEq] at he
    obtain ⟨rfl, rfl⟩ := he
    obtain ⟨h1, h2⟩ := ybq (P := P) (w := w) (hv x (by simp [Op.operands])) hr
    exact ⟨rfl, jx ⟨r, h1, .plain1 h2⟩⟩
  case convert s d x =>
    have hx := hv x (by simp [Op.operands])
    simp only [wv] at hn
    cases hsu : P.underlying s with
    | none => rw [hsu] at hn; cases hn
    | some ds =>
      cases hdu : P.underlying d with
      | none => rw [hsu, hdu] at hn; cases ds <;> cases hn
      | some dd =>
        rw [hsu, hdu] at hn
        cases ds <;> cases dd <;> simp only [reduceCtorEq, Option.some.injEq] at hn
        · subst hn
          simp only [evOp] at he
          split at he
          · rename_i k n hxv
            simp only [Option.some.injEq, Prod.mk.injEq] at he
            obtain ⟨rfl, rfl⟩ := he
            rw [hxv] at hx
            refine ⟨rfl, jx ⟨_, ?_, .int _ _⟩⟩
            rw [hx.int_inv]
            simp [convert, vc hsu, vc hdu, Conv.intToInt]
          · cases he
        · subst hn
          simp only [evOp] at he
          split at he
          · rename_i n hxv
            simp only [Option.some.injEq, Prod.mk.injEq] at he
            obtain ⟨rfl, rfl⟩ := he
            rw [hxv] at hx
            refine ⟨rfl, jx ⟨_, ?_, .string _⟩⟩
            rw [hx.string_inv]
            simp [convert, vc hsu, vc hdu]
          · cases he
  case makeInterface t x =>
    have hx := hv x (by simp [Op.operands])
    simp only [wv] at hn
    cases hu : P.underlying t with
    | none => rw [hu] at hn; cases hn
    | some d =>
      rw [hu] at hn
      have fin : ao = .iface t x → (∀ ms, d ≠ .interface ms) → h' = h ∧ zkb P w σ g v (execOp ρc ⟨dst, .makeInterface t x, ty, pos, after, guard⟩) := by
        rintro rfl hni
        simp only [evOp, Option.some.injEq, Prod.mk.injEq] at he
        obtain ⟨rfl, rfl⟩ := he
        refine ⟨rfl, jx ⟨.iface t (ρc x), ?_, .iface _ _ _ hx⟩⟩
        simp only [Instr.makeInterface, Sem.run_bind, vc hu, Result.andThen_ok]
        cases d <;> first | rfl | exact absurd rfl (hni _)
      cases d <;> simp only [reduceCtorEq, Option.some.injEq] at hn <;> exact fin hn.symm (fun ms h => by cases h)
  case makeFunc fn a b =>
    cases fn <;> simp only [wv, reduceCtorEq, Option.some.injEq] at hn
    subst hn
    simp only [evOp, Option.some.injEq, Prod.mk.injEq] at he
    obtain ⟨rfl, rfl⟩ := he
    refine ⟨rfl, jx ⟨_, rfl, ?_⟩⟩
    have h1 : VRs σ g (a.toList.map ρ) (a.toList.map ρc) := zof fun x hx => hv x (by simp only [Op.operands, Array.mem_append]; exact .inl (Array.mem_toList_iff.1 hx))
    have h2 : VRs σ g (b.toList.map ρ) (b.toList.map ρc) := zof fun x hx => hv x (by simp only [Op.operands, Array.mem_append]; exact .inr (Array.mem_toList_iff.1 hx))
    have e1 : a.map ρc = ⟨a.toList.map ρc⟩ := by apply Array.ext'; simp
    have e2 : b.map ρc = ⟨b.toList.map ρc⟩ := by apply Array.ext'; simp
    rw [e1, e2]
    exact .func _ _ _ _ _ h1 h2
  case slice t x lo hi mx =>
    cases mx with
    | some y => simp [wv] at hn
    | none =>
      have hx := hv x (by simp [Op.operands])
      have hlo : OptR σ g (lo.map ρ) (lo.map ρc) := zvh fun y hy => hv y (by subst hy; simp [Op.operands])
      have hhi : OptR σ g (hi.map ρ) (hi.map ρc) := zvh fun y hy => hv y (by subst hy; simp [Op.operands])
      simp only [wv] at hn
      cases hu : P.underlying t with
      | none => rw [hu] at hn; cases hn
      | some d =>
        rw [hu] at hn
        cases d <;> simp only [reduceCtorEq] at hn
        case string =>
          simp only [Option.some.injEq] at hn; subst hn
          simp only [evOp] at he
          split at he
          · rename_i s hxs
            split at he
            · rename_i l k hl hk0
              split at he
              · rename_i hlk
                simp only [Option.some.injEq, Prod.mk.injEq] at he
                obtain ⟨rfl, rfl⟩ := he
                rw [hxs] at hx
                refine ⟨rfl, jx ⟨_, ?_, .string _⟩⟩
                rw [hx.string_inv]
                exact zmn hu hlo hhi hl hk0 hlk.1 hlk.2
              · cases he
            · cases he
          · cases he
        case slice e =>
          obtain ⟨m, hm', hn⟩ := Option.bind_eq_some_iff.1 hn
          split at hn
          · simp only [Option.some.injEq] at hn; subst hn
            simp only [evOp] at he
            split at he
            · rename_i p n c hxs
              split at he
              · rename_i l k hl hk0
                split at he
                · rename_i hlk
                  obtain ⟨rfl, hlk, hkn⟩ := hlk
                  simp only [Option.some.injEq, Prod.mk.injEq] at he
                  obtain ⟨rfl, rfl⟩ := he
                  rw [hxs] at hx
                  exact ⟨rfl, jx (ztf hu hm' hx hlo hhi hl hk0 hlk hkn)⟩
                · cases he
              · cases he
            · rename_i n c hxs
              split at he
              · rename_i hl hk0
                simp only [Option.some.injEq, Prod.mk.injEq] at he
                obtain ⟨rfl, rfl⟩ := he
                rw [hxs] at hx
                exact ⟨rfl, jx ⟨_, zmk hu hm' hx hlo hhi hl hk0, .nilSlice⟩⟩
              · cases he
            · cases he
          · cases hn
        case array n e =>
          obtain ⟨m, hm', hn⟩ := Option.bind_eq_some_iff.1 hn
          split at hn
          · simp only [Option.some.injEq] at hn; subst hn
            simp only [evOp] at he
            split at he
            · rename_i p hxs
              split at he
              · rename_i l k hl hk0
                split at he
                · rename_i vals ver ro hob
                  split at he
                  · rename_i hlk
                    obtain ⟨hsp, hroom, hlk, hkn⟩ := hlk
                    simp only [Option.some.injEq, Prod.mk.injEq] at he
                    obtain ⟨rfl, rfl⟩ := he
                    rw [hxs] at hx
                    refine ⟨rfl, jx (zmp hu hm' hx (fun vals' ver' ro' hg' hsp' hro' => ?_) hlo hhi hl hk0 hlk hkn)⟩
                    subst hro'
                    have hob' := hs _ _ hg'
                    rw [hob] at hob'
                    simp only [Option.some.injEq, AObj.cells.injEq] at hob'
                    obtain ⟨rfl, rfl, rfl⟩ := hob'
                    have ho := hm.obj _ _ hg'
                    cases ho with
                    | own _ cs _ el hb h0 hw hsz hvv hl2 h1 => omega
                  · cases he
                · cases he
              · cases he
            · cases he
          · cases hn
  case fieldAddr t x i =>
    have hx := hv x (by simp [Op.operands])
    simp only [wv] at hn
    cases hu : P.underlying t with
    | none => rw [hu] at hn; cases hn
    | some d =>
      rw [hu] at hn
      cases d <;> simp only [reduceCtorEq] at hn
      rename_i fs
      cases hf : fs[i]? with
      | none => rw [hf] at hn; cases hn
      | some f =>
        rw [hf] at hn
        obtain ⟨n, hz, hn⟩ := Option.bind_eq_some_iff.1 hn
        split at hn
        · rename_i hpos
          simp only [Option.some.injEq] at hn; subst hn
          simp only [evOp] at he
          split at he
          · rename_i p hxs
            simp only [Option.some.injEq, Prod.mk.injEq] at he
            obtain ⟨rfl, rfl⟩ := he
            rw [hxs] at hx
            exact ⟨rfl, jx (zw3 hu hf hz hpos hx)⟩
          · cases he
        · cases hn
  case field t x i =>
    have hx := hv x (by simp [Op.operands])
    simp only [wv] at hn
    cases hu : P.underlying t with
    | none => rw [hu] at hn; cases hn
    | some d =>
      rw [hu] at hn
      cases d <;> simp only [reduceCtorEq] at hn
      rename_i fs
      cases hf : fs[i]? with
      | none => rw [hf] at hn; cases hn
      | some f =>
        rw [hf] at hn
        simp only at hn
        cases hag : aggT P f.type with
        | none => rw [hag] at hn; cases hn
        | some b =>
          cases hz : gk P f.type with
          | none => rw [hag, hz] at hn; cases b <;> cases hn
          | some n =>
            rw [hag, hz] at hn
            cases b <;> simp only [Option.some.injEq] at hn <;> subst hn <;> simp only [evOp] at he <;> split at he <;> (try cases he)
            · rename_i cs hxs
              obtain ⟨u, hu', hr⟩ := yo he
              simp only [Prod.mk.injEq] at hr
              obtain ⟨rfl, rfl⟩ := hr
              rw [hxs] at hx
              obtain ⟨ys, hys, hvs, h1⟩ := hx.agg_inv
              obtain ⟨cv, hrun, hvr⟩ := (zjr (P := P) (w := w) hvs h1 (o := f.offset)).2 u hag hu'
              refine ⟨rfl, jx ⟨cv, ?_, hvr⟩⟩
              rw [hys]
              simp only [Instr.field, Sem.run_bind, vc hu, Result.andThen_ok, hf, asAgg, Sem.run_pure, hrun]
            · rename_i cs hxs
              split at he
              · simp only [Option.some.injEq, Prod.mk.injEq] at he
                obtain ⟨rfl, rfl⟩ := he
                rw [hxs] at hx
                obtain ⟨ys, hys, hvs, h1⟩ := hx.agg_inv
                obtain ⟨cv, hrun, hvr⟩ := (zjr (P := P) (w := w) hvs h1 (o := f.offset)).1 n hag hz
                refine ⟨rfl, jx ⟨cv, ?_, hvr⟩⟩
                rw [hys]
                simp only [Instr.field, Sem.run_bind, vc hu, Result.andThen_ok, hf, asAgg, Sem.run_pure, hrun]
              · cases he
  case indexAddr t x i =>
    have hx := hv x (by simp [Op.operands])
    have hi := hv i (by simp [Op.operands])
    simp only [wv] at hn
    cases hu : P.underlying t with
    | none => rw [hu] at hn; cases hn
    | some d =>
      rw [hu] at hn
      cases d <;> simp only [reduceCtorEq] at hn <;> obtain ⟨m, hz, hn⟩ := Option.bind_eq_some_iff.1 hn <;> split at hn <;> (try cases hn) <;> simp only [evOp] at he <;> split at he <;> (try cases he)
      · rename_i p n c k j hxs his
        split at he
        · rename_i hb
          obtain ⟨rfl, h0, h1⟩ := hb
          simp only [Option.some.injEq, Prod.mk.injEq] at he
          obtain ⟨rfl, rfl⟩ := he
          rw [hxs] at hx; rw [his] at hi
          refine ⟨rfl, jx ?_⟩
          rw [hi.int_inv]
          exact zrv hu hz hx h0 h1
        · cases he
      · rename_i p k j hxs his
        split at he
        · rename_i hb
          simp only [Option.some.injEq, Prod.mk.injEq] at he
          obtain ⟨rfl, rfl⟩ := he
          rw [hxs] at hx; rw [his] at hi
          refine ⟨rfl, jx ?_⟩
          rw [hi.int_inv]
          exact zr6 hu hz hx hb.1 hb.2
        · cases he
  case index t x i =>
    have hx := hv x (by simp [Op.operands])
    have hi := hv i (by simp [Op.operands])
    simp only [wv] at hn
    cases hu : P.underlying t with
    | none => rw [hu] at hn; cases hn
    | some d =>
      rw [hu] at hn
      cases d <;> simp only [reduceCtorEq] at hn
      case string =>
        simp only [Option.some.injEq] at hn; subst hn
        simp only [evOp] at he
        split at he
        · rename_i s k j hxs his
          split at he
          · rename_i h0
            obtain ⟨b, hb, hr⟩ := yo he
            simp only [Prod.mk.injEq] at hr
            obtain ⟨rfl, rfl⟩ := hr
            rw [hxs] at hx; rw [his] at hi
            refine ⟨rfl, jx ⟨_, ?_, .int _ _⟩⟩
            rw [hi.int_inv, hx.string_inv]
            exact zra hu h0 hb
          · cases he
        · cases he
      case array n e =>
        cases hag : aggT P e with
        | none => rw [hag] at hn; cases hn
        | some b =>
          cases hz : gk P e with
          | none => rw [hag, hz] at hn; cases b <;> cases hn
          | some m =>
            rw [hag, hz] at hn
            cases b <;> (try cases hn)
            by_cases hm1 : m = 1
            · subst hm1
              simp only [Option.some.injEq] at hn; subst hn
              simp only [evOp] at he
              split at he
              · rename_i cs k j hxs his
                split at he
                · rename_i hb
                  obtain ⟨u, hu', hr⟩ := yo he
                  simp only [Prod.mk.injEq] at hr
                  obtain ⟨rfl, rfl⟩ := hr
                  rw [hxs] at hx; rw [his] at hi
                  obtain ⟨ys, hys, hvs, h1⟩ := hx.agg_inv
                  obtain ⟨cv, hrun, hvr⟩ := (zjr (P := P) (w := w) hvs h1 (o := j.toNat * 1)).2 u hag hu'
                  refine ⟨rfl, jx ⟨cv, ?_, hvr⟩⟩
                  rw [hys, hi.int_inv]
                  simp only [Instr.index, asIntOf, Sem.run_bind, Sem.run_pure, Result.andThen_ok, vc hu, if_pos hb, jg hz, hrun]
                · cases he
              · cases he
            · exfalso
              revert hn
              split <;> simp_all
  case lookup t m k ok =>
    have hmv := hv m (by simp [Op.operands])
    have hkv := hv k (by simp [Op.operands])
    simp only [wv] at hn
    cases hu : P.underlying t with
    | none => rw [hu] at hn; cases hn
    | some d =>
      rw [hu] at hn
      cases d <;> simp only [reduceCtorEq] at hn
      rename_i kt e
      cases hkk : (P.underlying kt).bind eqK with
      | none => rw [hkk] at hn; cases hn
      | some kk =>
        cases hz : zf5 P e with
        | none => rw [hkk, hz] at hn; cases hn
        | some z =>
          rw [hkk, hz] at hn
          simp only [Option.some.injEq] at hn; subst hn
          obtain ⟨dk, hdk, hek⟩ := Option.bind_eq_some_iff.1 hkk
          simp only [evOp] at he
          by_cases hok : zdx kk (ρ k) = true
          · rw [if_pos hok] at he
            have fin : ∀ r, zkk h kk (ρ k) (ρ m) = some r → v = zsv ok z r → h' = h → h' = h ∧ zkb P w σ g v (execOp ρc ⟨dst, .lookup t m k ok, ty, pos, after, guard⟩) := by
              rintro r hr rfl rfl
              exact ⟨rfl, jx (zp4 hm hs hu hdk hek hz hmv hkv hok hr)⟩
            split at he
            · rename_i v0 hr
              simp only [Option.some.injEq, Prod.mk.injEq] at he
              exact fin _ hr he.1.symm he.2.symm
            · rename_i hr
              simp only [Option.some.injEq, Prod.mk.injEq] at he
              exact fin _ hr he.1.symm he.2.symm
            · cases he
          · rw [if_neg hok] at he
            cases he
  case extract x i =>
    have hx := hv x (by simp [Op.operands])
    simp only [wv, Option.some.injEq] at hn; subst hn
    simp only [evOp] at he
    split at he
    · rename_i vs hxs
      obtain ⟨u, hu', hr⟩ := yo he
      simp only [Prod.mk.injEq] at hr
      obtain ⟨rfl, rfl⟩ := hr
      rw [hxs] at hx
      obtain ⟨ys, hys, hvs⟩ := hx.tuple_inv
      obtain ⟨c, hc, hvr⟩ := hvs.get hu'
      refine ⟨rfl, jx ⟨c, ?_, hvr⟩⟩
      rw [hys]
      simp [Instr.extract, hc]
    · cases he
  case call c => exact zwi call hm hs hn hk hv hc he
  case makeMap t r =>
    exfalso
    have hn : za5 (P.underlying t) r = some ao := hn
    rw [zd3 hn] at hk'
    simp [AOp.makes] at hk'
  all_goals
    exfalso
    simp only [wv, reduceCtorEq] at hn
    try (
      repeat' split at hn
      all_goals first
        | (cases hn; done)
        | (simp only [Option.some.injEq] at hn; subst hn; first | (simp [AOp.acts] at hk; done) | (simp [AOp.makes] at hk'; done))
        | (obtain ⟨z, _, rfl⟩ := yo hn; first | (simp [AOp.acts] at hk; done) | (simp [AOp.makes] at hk'; done)))
end Go.Proofs.YtljdbheclfaloaaGreatDoor.AM
