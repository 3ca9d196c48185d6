/-
  AM, part 3: how a function of the program reads as a function of the abstract machine: types resolved, the order of what Go leaves open laid down where it does not matter.
  Conditions: none. Definitions alone.
-/
import Derived.Test.YtjjlbfamfioofaaDoorAm2
namespace Go.Proofs.YtjjlbfamfioofaaDoor.AM
open Go.RowKit

def zeroVal (P : Program) (t : TypeId) : Option Value := ((P.info? t).bind (·.zero)).bind fun v => if plain v then some v else none
def zeroOf (P : Program) (t : TypeId) : Option (List Value) := (zeroVal P t).bind laid
def sizeT (P : Program) (t : TypeId) : Option Nat := (P.info? t).map (·.size)
def bytesT (P : Program) (t : TypeId) : Option Nat := (P.info? t).map (·.bytes)
def aggT (P : Program) (t : TypeId) : Option Bool :=
  match P.underlying t with
  | some (.struct _) | some (.array _ _) => some true
  | some _ => some false
  | none => none
def eqK : TypeDesc → Option EqK
  | .bool => some .bool
  | .int _ => some .int
  | .string => some .str
  | _ => none
def eqK1 : TypeDesc → Option EqK
  | .bool => some .bool
  | .pointer _ => some .ptr
  | .slice _ => some .slice
  | .map _ _ => some .map
  | .func _ _ _ => some .func
  | .interface _ => some .iface
  | _ => none
def repl (n : Nat) (l : List EqK) : List EqK :=
  match n with
  | 0 => []
  | n + 1 => l ++ repl n l
/-- The kinds of a type's cells, if all of them are numbers, bools, strings that are held against each other. -/
def leaves (P : Program) : Nat → TypeId → Option (List EqK)
  | 0, _ => none
  | d + 1, t => match P.underlying t with
    | some (.struct fs) => if P.stoodInHeld t then none else leavesOf (leaves P d) (fun u => (P.info? u).map (·.size)) fs.toList 0
    | some (.array n e) => (leaves P d e).bind fun l => if l.length = ((P.info? e).map (·.size)).getD 0 then some (repl n l) else none
    | some k => (eqK k).map ([·])
    | none => none
where
  leavesOf (go : TypeId → Option (List EqK)) (size : TypeId → Option Nat) : List Field → Nat → Option (List EqK)
    | [], _ => some []
    | f :: r, o => if f.name = "_" ∨ f.offset ≠ o then none else
      match go f.type, size f.type with
      | some l, some n => if l.length = n then (leavesOf go size r (o + n)).map (l ++ ·) else none
      | _, _ => none
def isNilIface : Operand → Bool
  | .const .nilIface => true
  | _ => false
def normEq (P : Program) (neg : Bool) (t : TypeId) (x y : Operand) : Option AOp :=
  match P.underlying t with
  | some (.int _) => some (.bin (if neg then .neq else .eql) x y)
  | some .string => some (.bin (if neg then .neq else .eql) x y)
  | some (.struct _) | some (.array _ _) => if P.eqGuardType P.depth t then none else (leaves P 8 t).map fun ks => .eqAgg neg ks x y
  | some (.interface _) => if isNilIface x || isNilIface y then some (.eqv neg .iface x y) else none
  | some d => (eqK1 d).map fun k => .eqv neg k x y
  | none => none
def numeric (P : Program) (t : TypeId) : Bool :=
  match P.underlying t with
  | some (.int _) => true
  | _ => false
def textual (P : Program) (t : TypeId) : Bool :=
  match P.underlying t with
  | some .string => true
  | _ => false
def normParts (P : Program) (e : TypeId) (ps : Array (Nat × Operand)) : Option (List (Nat × Nat × Operand)) :=
  (sizeT P e).map fun n => ps.toList.map fun p => (p.1 * n, n, p.2)
def normFields (P : Program) (fs : Array Field) : List (Nat × Operand) → Option (List (Nat × Nat × Operand))
  | [] => some []
  | (i, x) :: r => match fs[i]? with
    | some f => match sizeT P f.type, normFields P fs r with
      | some n, some l => some ((f.offset, n, x) :: l)
      | _, _ => none
    | none => none
/-- Does a function have a body that is entered by a call of it? -/
def entered (P : Program) (f : FuncId) : Bool :=
  match P.funcs[f]? with
  | some fn => fn.body.isSome && fn.name != "runtime.NumGoroutine"
  | none => false
def sameOperand : Operand → Operand → Bool
  | .tmp a, .tmp b => a == b
  | .const (.int _ a), .const (.int _ b) => a == b
  | _, _ => false

def normMap : Option TypeDesc → Option Operand → Option AOp
  | some (.map _ _), none => some .mkMap
  | some (.map _ _), some (.const (.int _ _)) => some .mkMap
  | _, _ => none
/-- A call: of a builtin; of a function; of a function's value. -/
def normCall (P : Program) (ty : TypeId) (c : Call) : Option AOp :=
  match c.callee, c.args.toList, c.argTypes.toList with
  | .builtin .len, [x], [t] => match P.underlying t with
    | some .string => some (.lenStr x)
    | some (.slice _) => some (.len x)
    | some (.array n _) => some (.mv (.const (.int .i64 n)))
    | some (.pointer a) => match P.underlying a with
      | some (.array n _) => some (.mv (.const (.int .i64 n)))
      | _ => none
    | some (.map _ _) => some (.lenMap x)
    | _ => none
  | .builtin .append, [x, y], [t, u] => match P.underlying t with
    | some (.slice e) => match sizeT P e, bytesT P e, zeroOf P e with
      | some n, some b, some z => if 0 < n ∧ 0 < b ∧ z.length = n ∧ numeric P u = false ∧ (P.underlying u).isSome = true then some (.append n b x y) else none
      | _, _, _ => none
    | _ => none
  | .builtin .max, [x, y], _ => if numeric P ty then some (.max2 x y) else none
  | .builtin .min, [x, y], _ => if numeric P ty then some (.min2 x y) else none
  | .value (.func f), as, _ => if entered P f then some (.call f as) else none
  | .value (.tmp f), as, _ => some (.callv (.tmp f) as)
  | _, _, _ => none

def normOp (P : Program) (ty : TypeId) : Op → Option AOp
  | .move x | .assign x => some (.mv x)
  | .pick c a b => some (.pick c a b)
  | .alloc t => (zeroOf P t).map .alloc
  | .box t x => (sizeT P t).map fun n => .box n x
  | .build t ps => match P.underlying t, zeroOf P t with
    | some (.struct fs), some z => if fs.toList.all fun f => (sizeT P f.type).isSome then (normFields P fs ps.toList).map (.build z) else none
    | some (.array _ e), some z => (normParts P e ps).map (.build z)
    | _, _ => none
  | .buildSlice t n ps => match P.underlying t with
    | some (.slice e) => match zeroOf P e, sizeT P e, normParts P e ps with
      | some z, some m, some l => if n * m ≤ 16777216 ∧ z.length = m ∧ 0 < m then some (.mkRow z n l) else none
      | _, _, _ => none
    | _ => none
  | .load t a => match aggT P t, sizeT P t with
    | some true, some n => some (.load n a)
    | some false, some _ => some (.load1 a)
    | _, _ => none
  | .store t a x => match aggT P t, sizeT P t with
    | some true, some n => some (.store n a x)
    | some false, some 1 => some (.store1 a x)
    | _, _ => none
  | .nilCheck x => some (.nilCheck x)
  | .binOp op t x y yt => match op with
    | .eql => normEq P false t x y
    | .neq => normEq P true t x y
    | .add => if numeric P t || textual P t then some (.bin .add x y) else none
    | .shl | .shr => if numeric P t && numeric P yt then some (.bin op x y) else none
    | op => if numeric P t then some (.bin op x y) else none
  | .unOp op _ x => some (.un op x)
  | .convert s d x => match P.underlying s, P.underlying d with
    | some (.int _), some (.int k) => some (.conv k x)
    | some .string, some .string => some (.same x)
    | _, _ => none
  | .makeInterface t x => match P.underlying t with
    | some (.interface _) => none
    | some _ => some (.iface t x)
    | none => none
  | .makeFunc (.func f) a b => some (.func f a.toList b.toList)
  | .slice t x lo hi none => match P.underlying t with
    | some .string => some (.sliceStr x lo hi)
    | some (.slice e) => (sizeT P e).bind fun n => if 0 < n then some (.slice n x lo hi) else none
    | some (.array n e) => (sizeT P e).bind fun m => if 0 < m then some (.sliceArr n m x lo hi) else none
    | _ => none
  | .fieldAddr t x i => match P.underlying t with
    | some (.struct fs) => match fs[i]? with
      | some f => (sizeT P f.type).bind fun n => if 0 < n then some (.off f.offset x) else none
      | none => none
    | _ => none
  | .field t x i => match P.underlying t with
    | some (.struct fs) => match fs[i]? with
      | some f => match aggT P f.type, sizeT P f.type with
        | some true, some n => some (.field n f.offset x)
        | some false, some _ => some (.field1 f.offset x)
        | _, _ => none
      | none => none
    | _ => none
  | .indexAddr t x i => match P.underlying t with
    | some (.slice e) => (sizeT P e).bind fun n => if 0 < n then some (.atRow n x i) else none
    | some (.array n e) => (sizeT P e).bind fun m => if 0 < m then some (.atArr n m x i) else none
    | _ => none
  | .index t x i => match P.underlying t with
    | some .string => some (.idxStr x i)
    | some (.array n e) => match aggT P e, sizeT P e with
      | some false, some 1 => some (.idxArr n 1 x i)
      | _, _ => none
    | _ => none
  | .extract x i => some (.extract x i)
  | .makeMap t r => normMap (P.underlying t) r
  | .makeSlice t l c => match P.underlying t with
    | some (.slice e) => match zeroOf P e, sizeT P e, bytesT P e with
      | some z, some m, some b => if sameOperand l c ∧ z.length = m ∧ 0 < m ∧ 0 < b then some (.mkSlice m b z l) else none
      | _, _, _ => none
    | _ => none
  | .lookup t m k ok => match P.underlying t with
    | some (.map kt e) => match (P.underlying kt).bind eqK, zeroVal P e with
      | some kk, some z => some (.lookup kk z m k ok)
      | _, _ => none
    | _ => none
  | .mapUpdate t m k v => match P.underlying t with
    | some (.map kt _) => match (P.underlying kt).bind eqK with
      | some kk => some (.update kk m k v)
      | _ => none
    | _ => none
  | .call c => normCall P ty c
  | _ => none

def normGuard (ops : Array Oper) : Option (Nat × Bool) → Option (Option (Nat × Bool))
  | none => some none
  | some (j, b) => match (ops[j]?).bind (·.dst) with
    | some t => some (some (t, b))
    | none => none
/-- An operand that may stand: the variables of the package below number G alone. -/
def operandOk (G : Nat) : Operand → Bool
  | .const v => plain v
  | .global g => g < G
  | _ => true
def normOper (P : Program) (G : Nat) (ops : Array Oper) (o : Oper) : Option AOper :=
  if o.op.operands.toList.all (operandOk G) then
    match normOp P o.type o.op, normGuard ops o.guard with
    | some a, some g => some ⟨o.dst, a, g⟩
    | _, _ => none
  else none
def normOpers (P : Program) (G : Nat) (ops : Array Oper) : List Oper → Option (List AOper)
  | [] => some []
  | o :: r => match normOper P G ops o, normOpers P G ops r with
    | some a, some l => some (a :: l)
    | _, _ => none

/-- Acts (in a row that is laid down) · makes memory · reads memory. -/
def AOp.acts : AOp → Bool
  | .store1 _ _ | .store _ _ _ | .append _ _ _ _ | .call _ _ | .callv _ _ | .update _ _ _ _ => true
  | _ => false
def AOp.makes : AOp → Bool
  | .alloc _ | .box _ _ | .mkRow _ _ _ | .mkSlice _ _ _ _ | .mkMap => true
  | _ => false
def AOp.reads : AOp → Bool
  | .load1 _ | .load _ _ | .lookup _ _ _ _ _ | .lenMap _ | .sliceArr _ _ _ _ _ => true
  | _ => false
def AOp.againOf (t : Nat) : AOp → Option AOp
  | .load1 a => some (.again1 a t)
  | .load n a => some (.again n a t)
  | _ => none
/-- The places that an operation looks at. -/
def namesOf (o : Oper) (a : AOper) : List Nat :=
  (o.op.operands.toList.filterMap fun | .tmp t => some t | _ => none) ++ (match a.guard with | some (t, _) => [t] | none => [])
def none' : AOper := ⟨none, .mkMap, none⟩
/-- Each place is written once at most; what is looked at is written ahead, or behind, by the edges. -/
def placesOk (ops : List Oper) (as : List AOper) (b : List Nat) : Bool :=
  (List.range as.length).all fun i => (List.range as.length).all fun j =>
    let o := as.getD i none'
    let p := as.getD j none'
    match o.dst with
    | none => true
    | some t =>
      (i == j || p.dst != some t) &&
      (!(namesOf (ops.getD j default) p).contains t || ((b.getD j 0).testBit i) || ((b.getD i 0).testBit j))
def guardsOk (ops : List Oper) (b : List Nat) : Bool :=
  (List.range ops.length).all fun i => match (ops.getD i default).guard with
    | some (j, _) => (b.getD i 0).testBit j
    | none => true
/-- May this order stand for all? Whatever does not hang on an operation that acts comes ahead of it. 'b': what comes ahead of each, by the edges. 'seen': a bit an operation that is laid already. -/
def orderOk (as : List AOper) (b : List Nat) : List Nat → Nat → Bool
  | [], _ => true
  | i :: r, seen =>
    !seen.testBit i && i < as.length && (b.getD i 0 &&& seen) == b.getD i 0 &&
    (!(as.getD i none').op.acts || (List.range as.length).all fun j => seen.testBit j || j == i || (b.getD j 0).testBit i) &&
    orderOk as b r (seen ||| 2 ^ i)
/-- The looks that must be taken again behind an operation that acts: of what has been laid, what does not come ahead of it by the edges. -/
def looks (ops : List Oper) (as : List AOper) (b : List Nat) (bi : Nat) : List Nat → Option (List AOper)
  | [] => some []
  | j :: r =>
    let o := as.getD j none'
    if o.op.reads && !bi.testBit j then
      match o.dst, looks ops as b bi r with
      | some t, some l =>
        if (List.range as.length).all fun k => match (as.getD k none').dst with
          | some u => !(namesOf (ops.getD j default) o).contains u || (b.getD j 0).testBit k
          | none => true
        then (o.op.againOf t).map fun a => ⟨none, a, o.guard⟩ :: l else none
      | _, _ => none
    else looks ops as b bi r
def weave (ops : List Oper) (as : List AOper) (b : List Nat) : List Nat → List Nat → Option (List AOper)
  | [], _ => some []
  | i :: r, done =>
    let o := as.getD i none'
    match (if o.op.acts then looks ops as b (b.getD i 0) done else some []), weave ops as b r (done ++ [i]) with
    | some l, some m => some (o :: (l ++ m))
    | _, _ => none
def normRegion (P : Program) (G : Nat) (ord : Option (List Nat)) (ops : Array Oper) (draw : Bool) : Option (List AOper) :=
  match normOpers P G ops ops.toList with
  | none => none
  | some as =>
    if draw then
      let b := (Region.before ops).toList
      let l := ord.getD (List.range as.length)
      if placesOk ops.toList as b && guardsOk ops.toList b && ((List.range as.length).all fun i => l.contains i) && orderOk as b l 0 then weave ops.toList as b l [] else none
    else some as
/-- The code of a function; 'ords': by region, an order of one's own. -/
def normCode (P : Program) (G : Nat) (ords : List (Nat × List Nat)) : Code → Option ACode
  | .skip => some .skip
  | .region id ops d => (normRegion P G (ords.lookup id) ops d).map .ops
  | .seq a b => match normCode P G ords a, normCode P G ords b with
    | some a, some b => some (.seq a b)
    | _, _ => none
  | .cond c a b => match normCode P G ords a, normCode P G ords b with
    | some a, some b => if operandOk G c then some (.cond c a b) else none
    | _, _ => none
  | .block id b => (normCode P G ords b).map (.block id)
  | .loop b => (normCode P G ords b).map .loop
  | .exit id => some (.exit id)
  | .ret => some .ret
  | _ => none
def normRes (P : Program) : List ResultVar → Option (List ARes)
  | [] => some []
  | .tmp t :: r => (normRes P r).map (.tmp t :: ·)
  | .cell a t :: r => match aggT P t, sizeT P t, normRes P r with
    | some true, some n, some l => some (.cells a n :: l)
    | some false, some _, some l => some (.cell1 a :: l)
    | _, _, _ => none
def normFunc (P : Program) (G : Nat) (ords : List (Nat × List Nat)) (fn : Func) : Option AFunc :=
  match fn.body.bind (normCode P G ords), normRes P fn.results.toList with
  | some b, some r => some ⟨fn.ntmps, r, b⟩
  | _, _ => none
end Go.Proofs.YtjjlbfamfioofaaDoor.AM
