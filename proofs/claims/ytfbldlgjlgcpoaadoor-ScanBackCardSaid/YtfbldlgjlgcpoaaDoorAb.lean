/-
  AM, part 3: how a function of the program reads as a function of the abstract machine: types resolved, the order of what Go leaves open laid down where it does not matter.
    Conditions: none. Definitions alone.
-/
import Derived.Test.YtfbldlgjlgcpoaaDoorAa
import Derived.Laws.StructEq
import Derived.ChangeKeysEq
namespace Go.Proofs.YtfbldlgjlgcpoaaDoor.AM
open Go.RowKit

def zeroVal (P : Program) (t : TypeId) : Option Value := ((P.info? t).bind (·.zero)).bind fun v => if plain v then some v else none
def zeroOf (P : Program) (t : TypeId) : Option (List Value) := (zeroVal P t).bind laid
def sizeT (P : Program) (t : TypeId) : Option Nat := (P.info? t).map (·.size)
def bytesT (P : Program) (t : TypeId) : Option Nat := (P.info? t).map (·.bytes)
def aggT (P : Program) (t : TypeId) : Option Bool :=
  match P.underlying t with
  | some (.struct _) | some (.array _ _) => some true
  | some _ => some false
  | none => none
def eqK : TypeDesc → Option EqK
  | .bool => some .bool
  | .int _ => some .int
  | .string => some .str
  | _ => none
def eqK1 : TypeDesc → Option EqK
  | .bool => some .bool
  | .pointer _ => some .ptr
  | .slice _ => some .slice
  | .map _ _ => some .map
  | .func _ _ _ => some .func
  | .interface _ => some .iface
  | _ => none
def repl (n : Nat) (l : List EqK) : List EqK :=
  match n with
  | 0 => []
  | n + 1 => l ++ repl n l
/-- The kinds of a type's cells, if all of them are numbers, bools, strings that are held against each other. -/
def leaves (P : Program) : Nat → TypeId → Option (List EqK)
  | 0, _ => none
  | d + 1, t => match P.underlying t with
    | some (.struct fs) => if P.stoodInHeld t then none else leavesOf (leaves P d) (fun u => (P.info? u).map (·.size)) fs.toList 0
    | some (.array n e) => (leaves P d e).bind fun l => if l.length = ((P.info? e).map (·.size)).getD 0 then some (repl n l) else none
    | some k => (eqK k).map ([·])
    | none => none
where
  leavesOf (go : TypeId → Option (List EqK)) (size : TypeId → Option Nat) : List Field → Nat → Option (List EqK)
    | [], _ => some []
    | f :: r, o => if f.name = "_" ∨ f.offset ≠ o then none else
      match go f.type, size f.type with
      | some l, some n => if l.length = n then (leavesOf go size r (o + n)).map (l ++ ·) else none
      | _, _ => none
def isNilIface : Operand → Bool
  | .const .nilIface => true
  | _ => false
def normEq (P : Program) (neg : Bool) (t : TypeId) (x y : Operand) : Option AOp :=
  match P.underlying t with
  | some (.int _) => some (.bin (if neg then .neq else .eql) x y)
  | some .string => some (.bin (if neg then .neq else .eql) x y)
  | some (.struct _) | some (.array _ _) => if P.eqGuardType P.depth t then none else (leaves P 8 t).map fun ks => .eqAgg neg ks x y
  | some (.interface _) => if isNilIface x || isNilIface y then some (.eqv neg .iface x y) else none
  | some d => (eqK1 d).map fun k => .eqv neg k x y
  | none => none
def numeric (P : Program) (t : TypeId) : Bool :=
  match P.underlying t with
  | some (.int _) => true
  | _ => false
def textual (P : Program) (t : TypeId) : Bool :=
  match P.underlying t with
  | some .string => true
  | _ => false
def normParts (P : Program) (e : TypeId) (ps : Array (Nat × Operand)) : Option (List (Nat × Nat × Operand)) :=
  (sizeT P e).map fun n => ps.toList.map fun p => (p.1 * n, n, p.2)
def normFields (P : Program) (fs : Array Field) : List (Nat × Operand) → Option (List (Nat × Nat × Operand))
  | [] => some []
  | (i, x) :: r => match fs[i]? with
    | some f => match sizeT P f.type, normFields P fs r with
      | some n, some l => some ((f.offset, n, x) :: l)
      | _, _ => none
    | none => none
/-- Does a function have a body that is entered by a call of it? -/
def entered (P : Program) (f : FuncId) : Bool :=
  match P.funcs[f]? with
  | some fn => fn.body.isSome && fn.name != "runtime.NumGoroutine"
  | none => false
def sameOperand : Operand → Operand → Bool
  | .tmp a, .tmp b => a == b
  | .const (.int _ a), .const (.int _ b) => a == b
  | _, _ => false

def normMap : Option TypeDesc → Option Operand → Option AOp
  | some (.map _ _), none => some .mkMap
  | some (.map _ _), some (.const (.int _ _)) => some .mkMap
  | _, _ => none
/-- A call: of a builtin; of a function; of a function's value. -/
def normCall (P : Program) (ty : TypeId) (c : Call) : Option AOp :=
  match c.callee, c.args.toList, c.argTypes.toList with
  | .builtin .len, [x], [t] => match P.underlying t with
    | some .string => some (.lenStr x)
    | some (.slice _) => some (.len x)
    | some (.array n _) => some (.mv (.const (.int .i64 n)))
    | some (.pointer a) => match P.underlying a with
      | some (.array n _) => some (.mv (.const (.int .i64 n)))
      | _ => none
    | some (.map _ _) => some (.lenMap x)
    | _ => none
  | .builtin .append, [x, y], [t, u] => match P.underlying t with
    | some (.slice e) => match sizeT P e, bytesT P e, zeroOf P e with
      | some n, some b, some z => if 0 < n ∧ 0 < b ∧ z.length = n ∧ numeric P u = false ∧ (P.underlying u).isSome = true then some (.append n b x y) else none
      | _, _, _ => none
    | _ => none
  | .builtin .max, [x, y], _ => if numeric P ty then some (.max2 x y) else none
  | .builtin .min, [x, y], _ => if numeric P ty then some (.min2 x y) else none
  | .value (.func f), as, _ => if entered P f then some (.call f as) else none
  | .value (.tmp f), as, _ => some (.callv (.tmp f) as)
  | _, _, _ => none

def normOp (P : Program) (ty : TypeId) : Op → Option AOp
  | .move x | .assign x => some (.mv x)
  | .pick c a b => some (.pick c a b)
  | .alloc t => (zeroOf P t).map .alloc
  | .box t x => (sizeT P t).map fun n => .box n x
  | .build t ps => match P.underlying t, zeroOf P t with
    | some (.struct fs), some z => if fs.toList.all fun f => (sizeT P f.type).isSome then (normFields P fs ps.toList).map (.build z) else none
    | some (.array _ e), some z => (normParts P e ps).map (.build z)
    | _, _ => none
  | .buildSlice t n ps => match P.underlying t with
    | some (.slice e) => match zeroOf P e, sizeT P e, normParts P e ps with
      | some z, some m, some l => if n * m ≤ 16777216 ∧ z.length = m ∧ 0 < m then some (.mkRow z n l) else none
      | _, _, _ => none
    | _ => none
  | .load t a => match aggT P t, sizeT P t with
    | some true, some n => some (.load n a)
    | some false, some _ => some (.load1 a)
    | _, _ => none
  | .store t a x => match aggT P t, sizeT P t with
    | some true, some n => some (.store n a x)
    | some false, some 1 => some (.store1 a x)
    | _, _ => none
  | .nilCheck x => some (.nilCheck x)
  | .binOp op t x y yt => match op with
    | .eql => normEq P false t x y
    | .neq => normEq P true t x y
    | .add => if numeric P t || textual P t then some (.bin .add x y) else none
    | .shl | .shr => if numeric P t && numeric P yt then some (.bin op x y) else none
    | op => if numeric P t then some (.bin op x y) else none
  | .unOp op _ x => some (.un op x)
  | .convert s d x => match P.underlying s, P.underlying d with
    | some (.int _), some (.int k) => some (.conv k x)
    | some .string, some .string => some (.same x)
    | _, _ => none
  | .makeInterface t x => match P.underlying t with
    | some (.interface _) => none
    | some _ => some (.iface t x)
    | none => none
  | .makeFunc (.func f) a b => some (.func f a.toList b.toList)
  | .slice t x lo hi none => match P.underlying t with
    | some .string => some (.sliceStr x lo hi)
    | some (.slice e) => (sizeT P e).bind fun n => if 0 < n then some (.slice n x lo hi) else none
    | some (.array n e) => (sizeT P e).bind fun m => if 0 < m then some (.sliceArr n m x lo hi) else none
    | _ => none
  | .fieldAddr t x i => match P.underlying t with
    | some (.struct fs) => match fs[i]? with
      | some f => (sizeT P f.type).bind fun n => if 0 < n then some (.off f.offset x) else none
      | none => none
    | _ => none
  | .field t x i => match P.underlying t with
    | some (.struct fs) => match fs[i]? with
      | some f => match aggT P f.type, sizeT P f.type with
        | some true, some n => some (.field n f.offset x)
        | some false, some _ => some (.field1 f.offset x)
        | _, _ => none
      | none => none
    | _ => none
  | .indexAddr t x i => match P.underlying t with
    | some (.slice e) => (sizeT P e).bind fun n => if 0 < n then some (.atRow n x i) else none
    | some (.array n e) => (sizeT P e).bind fun m => if 0 < m then some (.atArr n m x i) else none
    | _ => none
  | .index t x i => match P.underlying t with
    | some .string => some (.idxStr x i)
    | some (.array n e) => match aggT P e, sizeT P e with
      | some false, some 1 => some (.idxArr n 1 x i)
      | _, _ => none
    | _ => none
  | .extract x i => some (.extract x i)
  | .makeMap t r => normMap (P.underlying t) r
  | .makeSlice t l c => match P.underlying t with
    | some (.slice e) => match zeroOf P e, sizeT P e, bytesT P e with
      | some z, some m, some b => if sameOperand l c ∧ z.length = m ∧ 0 < m ∧ 0 < b then some (.mkSlice m b z l) else none
      | _, _, _ => none
    | _ => none
  | .lookup t m k ok => match P.underlying t with
    | some (.map kt e) => match (P.underlying kt).bind eqK, zeroVal P e with
      | some kk, some z => some (.lookup kk z m k ok)
      | _, _ => none
    | _ => none
  | .mapUpdate t m k v => match P.underlying t with
    | some (.map kt _) => match (P.underlying kt).bind eqK with
      | some kk => some (.update kk m k v)
      | _ => none
    | _ => none
  | .call c => normCall P ty c
  | _ => none

def normGuard (ops : Array Oper) : Option (Nat × Bool) → Option (Option (Nat × Bool))
  | none => some none
  | some (j, b) => match (ops[j]?).bind (·.dst) with
    | some t => some (some (t, b))
    | none => none
/-- An operand that may stand: the variables of the package below number G alone. -/
def operandOk (G : Nat) : Operand → Bool
  | .const v => plain v
  | .global g => g < G
  | _ => true
def normOper (P : Program) (G : Nat) (ops : Array Oper) (o : Oper) : Option AOper :=
  if o.op.operands.toList.all (operandOk G) then
    match normOp P o.type o.op, normGuard ops o.guard with
    | some a, some g => some ⟨o.dst, a, g⟩
    | _, _ => none
  else none
def normOpers (P : Program) (G : Nat) (ops : Array Oper) : List Oper → Option (List AOper)
  | [] => some []
  | o :: r => match normOper P G ops o, normOpers P G ops r with
    | some a, some l => some (a :: l)
    | _, _ => none

/-- Acts (in a row that is laid down) · makes memory · reads memory. -/
def AOp.acts : AOp → Bool
  | .store1 _ _ | .store _ _ _ | .append _ _ _ _ | .call _ _ | .callv _ _ | .update _ _ _ _ => true
  | _ => false
def AOp.makes : AOp → Bool
  | .alloc _ | .box _ _ | .mkRow _ _ _ | .mkSlice _ _ _ _ | .mkMap => true
  | _ => false
def AOp.reads : AOp → Bool
  | .load1 _ | .load _ _ | .lookup _ _ _ _ _ | .lenMap _ | .sliceArr _ _ _ _ _ => true
  | _ => false
def AOp.againOf (t : Nat) : AOp → Option AOp
  | .load1 a => some (.again1 a t)
  | .load n a => some (.again n a t)
  | _ => none
/-- The places that an operation looks at. -/
def namesOf (o : Oper) (a : AOper) : List Nat :=
  (o.op.operands.toList.filterMap fun | .tmp t => some t | _ => none) ++ (match a.guard with | some (t, _) => [t] | none => [])
def none' : AOper := ⟨none, .mkMap, none⟩
/-- Each place is written once at most; what is looked at is written ahead, or behind, by the edges. -/
def placesOk (ops : List Oper) (as : List AOper) (b : List Nat) : Bool :=
  (List.range as.length).all fun i => (List.range as.length).all fun j =>
    let o := as.getD i none'
    let p := as.getD j none'
    match o.dst with
    | none => true
    | some t =>
      (i == j || p.dst != some t) &&
      (!(namesOf (ops.getD j default) p).contains t || ((b.getD j 0).testBit i) || ((b.getD i 0).testBit j))
def guardsOk (ops : List Oper) (b : List Nat) : Bool :=
  (List.range ops.length).all fun i => match (ops.getD i default).guard with
    | some (j, _) => (b.getD i 0).testBit j
    | none => true
/-- May this order stand for all? Whatever does not hang on an operation that acts comes ahead of it. 'b': what comes ahead of each, by the edges. 'seen': a bit an operation that is laid already. -/
def orderOk (as : List AOper) (b : List Nat) : List Nat → Nat → Bool
  | [], _ => true
  | i :: r, seen =>
    !seen.testBit i && i < as.length && (b.getD i 0 &&& seen) == b.getD i 0 &&
    (!(as.getD i none').op.acts || (List.range as.length).all fun j => seen.testBit j || j == i || (b.getD j 0).testBit i) &&
    orderOk as b r (seen ||| 2 ^ i)
/-- The looks that must be taken again behind an operation that acts: of what has been laid, what does not come ahead of it by the edges. -/
def looks (ops : List Oper) (as : List AOper) (b : List Nat) (bi : Nat) : List Nat → Option (List AOper)
  | [] => some []
  | j :: r =>
    let o := as.getD j none'
    if o.op.reads && !bi.testBit j then
      match o.dst, looks ops as b bi r with
      | some t, some l =>
        if (List.range as.length).all fun k => match (as.getD k none').dst with
          | some u => !(namesOf (ops.getD j default) o).contains u || (b.getD j 0).testBit k
          | none => true
        then (o.op.againOf t).map fun a => ⟨none, a, o.guard⟩ :: l else none
      | _, _ => none
    else looks ops as b bi r
def weave (ops : List Oper) (as : List AOper) (b : List Nat) : List Nat → List Nat → Option (List AOper)
  | [], _ => some []
  | i :: r, done =>
    let o := as.getD i none'
    match (if o.op.acts then looks ops as b (b.getD i 0) done else some []), weave ops as b r (done ++ [i]) with
    | some l, some m => some (o :: (l ++ m))
    | _, _ => none
def normRegion (P : Program) (G : Nat) (ord : Option (List Nat)) (ops : Array Oper) (draw : Bool) : Option (List AOper) :=
  match normOpers P G ops ops.toList with
  | none => none
  | some as =>
    if draw then
      let b := (Region.before ops).toList
      let l := ord.getD (List.range as.length)
      if placesOk ops.toList as b && guardsOk ops.toList b && ((List.range as.length).all fun i => l.contains i) && orderOk as b l 0 then weave ops.toList as b l [] else none
    else some as
/-- The code of a function; 'ords': by region, an order of one's own. -/
def normCode (P : Program) (G : Nat) (ords : List (Nat × List Nat)) : Code → Option ACode
  | .skip => some .skip
  | .region id ops d => (normRegion P G (ords.lookup id) ops d).map .ops
  | .seq a b => match normCode P G ords a, normCode P G ords b with
    | some a, some b => some (.seq a b)
    | _, _ => none
  | .cond c a b => match normCode P G ords a, normCode P G ords b with
    | some a, some b => if operandOk G c then some (.cond c a b) else none
    | _, _ => none
  | .block id b => (normCode P G ords b).map (.block id)
  | .loop b => (normCode P G ords b).map .loop
  | .exit id => some (.exit id)
  | .ret => some .ret
  | _ => none
def normRes (P : Program) : List ResultVar → Option (List ARes)
  | [] => some []
  | .tmp t :: r => (normRes P r).map (.tmp t :: ·)
  | .cell a t :: r => match aggT P t, sizeT P t, normRes P r with
    | some true, some n, some l => some (.cells a n :: l)
    | some false, some _, some l => some (.cell1 a :: l)
    | _, _, _ => none
def normFunc (P : Program) (G : Nat) (ords : List (Nat × List Nat)) (fn : Func) : Option AFunc :=
  match fn.body.bind (normCode P G ords), normRes P fn.results.toList with
  | some b, some r => some ⟨fn.ntmps, r, b⟩
  | _, _ => none
end Go.Proofs.YtfbldlgjlgcpoaaDoor.AM

namespace Go.Proofs.YtfbldlgjlgcpoaaDoor.AM
open Go.RowKit

/-- Where an object lies: block, first place, cells of the block. -/
structure Seat where
  blk : Nat
  base : Nat
  size : Nat
abbrev Emb := Nat → Seat
/-- A memory that may have holes. -/
abbrev Mem := Nat → Option AObj

/-- What lies in one cell. -/
def single : Value → Bool
  | .agg _ | .tuple _ => false
  | _ => true

mutual
/-- The abstract value u reads as the model's value c. -/
inductive VR (σ : Emb) (g : Mem) : Value → Value → Prop
  | bool (b : Bool) : VR σ g (.bool b) (.bool b)
  | int (k : IntKind) (n : Int) : VR σ g (.int k n) (.int k n)
  | float (k : FloatKind) (n : Nat) : VR σ g (.float k n) (.float k n)
  | complex (k : FloatKind) (n m : Nat) : VR σ g (.complex k n m) (.complex k n m)
  | string (s : ByteArray) : VR σ g (.string s) (.string s)
  | nilPtr : VR σ g (.pointer none) (.pointer none)
  | ptr (p q : Addr) (v : Nat) (vals : List Value) (ver : Nat) (ro : Bool) (hv : p.spot = some v) (hg : g p.block = some (.cells vals ver ro)) (hle : v ≤ ver)
      (hq : v = ver → q = ⟨(σ p.block).blk, (σ p.block).base + p.off, none⟩) : VR σ g (.pointer (some p)) (.pointer (some q))
  | nilSlice : VR σ g (.slice none 0 0) (.slice none 0 0)
  | slice (p q : Addr) (n c cap : Nat) (v : Nat) (vals : List Value) (ver : Nat) (ro : Bool) (hv : p.spot = some v) (hg : g p.block = some (.cells vals ver ro)) (hle : v ≤ ver) (hn : n ≤ cap)
      (hq : v = ver → (q = ⟨(σ p.block).blk, (σ p.block).base + p.off, none⟩ ∧ (ro = false → (σ p.block).base + p.off + cap * c ≤ (σ p.block).size)) ∨ (n = 0 ∧ cap = 0)) :
      VR σ g (.slice (some p) n c) (.slice (some q) n cap)
  | nilMap : VR σ g (.map none) (.map none)
  | map (r s : Nat) (es : List (Value × Value)) (hg : g r = some (.map es)) (hs : s = (σ r).blk) : VR σ g (.map (some r)) (.map (some s))
  | nilChan : VR σ g (.chan none) (.chan none)
  | any (k : Nat) (q : Option Addr) : VR σ g (.chan (some k)) (.pointer q)
  | func (fn : Fn) (xs ys us vs : List Value) (h : VRs σ g xs ys) (h' : VRs σ g us vs) : VR σ g (.func fn ⟨xs⟩ ⟨us⟩) (.func fn ⟨ys⟩ ⟨vs⟩)
  | nilFunc : VR σ g .nilFunc .nilFunc
  | iface (t : TypeId) (u c : Value) (h : VR σ g u c) : VR σ g (.iface t u) (.iface t c)
  | nilIface : VR σ g .nilIface .nilIface
  | agg (xs ys : List Value) (h : VRs σ g xs ys) (h1 : ∀ x ∈ xs, single x = true) : VR σ g (.agg ⟨xs⟩) (.agg ⟨ys⟩)
  | tuple (xs ys : List Value) (h : VRs σ g xs ys) : VR σ g (.tuple ⟨xs⟩) (.tuple ⟨ys⟩)
inductive VRs (σ : Emb) (g : Mem) : List Value → List Value → Prop
  | nil : VRs σ g [] []
  | cons (u c : Value) (us cs : List Value) (h : VR σ g u c) (hs : VRs σ g us cs) : VRs σ g (u :: us) (c :: cs)
end

variable {σ σ' : Emb} {g g' : Mem}

theorem VRs.length {us cs : List Value} : VRs σ g us cs → us.length = cs.length
  | .nil => rfl
  | .cons _ _ _ _ _ hs => by simp [VRs.length hs]
theorem VRs.get {us cs : List Value} : VRs σ g us cs → ∀ {i : Nat} {u : Value}, us[i]? = some u → ∃ c, cs[i]? = some c ∧ VR σ g u c
  | .nil, _, _, h => by simp at h
  | .cons u c us cs h hs, i, x, hi => by
    cases i with
    | zero => simp at hi; subst hi; exact ⟨c, by simp, h⟩
    | succ i => simp only [List.getElem?_cons_succ] at hi ⊢; exact VRs.get hs hi
theorem VRs.get' {us cs : List Value} : VRs σ g us cs → ∀ {i : Nat} {c : Value}, cs[i]? = some c → ∃ u, us[i]? = some u ∧ VR σ g u c
  | .nil, _, _, h => by simp at h
  | .cons u c us cs h hs, i, x, hi => by
    cases i with
    | zero => simp at hi; subst hi; exact ⟨u, by simp, h⟩
    | succ i => simp only [List.getElem?_cons_succ] at hi ⊢; exact VRs.get' hs hi
theorem VRs.of_get : ∀ {us cs : List Value}, us.length = cs.length → (∀ (i : Nat) (u c : Value), us[i]? = some u → cs[i]? = some c → VR σ g u c) → VRs σ g us cs
  | [], [], _, _ => .nil
  | u :: us, c :: cs, hl, h => .cons _ _ _ _ (h 0 u c (by simp) (by simp)) (VRs.of_get (by simpa using hl) fun i x y hx hy => h (i + 1) x y (by simpa using hx) (by simpa using hy))
  | [], c :: cs, hl, _ => by simp at hl
  | u :: us, [], hl, _ => by simp at hl
theorem VRs.append {us cs us' cs' : List Value} : VRs σ g us cs → VRs σ g us' cs' → VRs σ g (us ++ us') (cs ++ cs')
  | .nil, h => h
  | .cons _ _ _ _ h hs, h' => .cons _ _ _ _ h (hs.append h')
theorem VRs.drop {us cs : List Value} (h : VRs σ g us cs) (n : Nat) : VRs σ g (us.drop n) (cs.drop n) :=
  .of_get (by simp [h.length]) fun i u c hu hc => by
    rw [List.getElem?_drop] at hu hc
    obtain ⟨c', hc', hv⟩ := h.get hu
    rw [hc] at hc'; cases hc'; exact hv
theorem VRs.take {us cs : List Value} (h : VRs σ g us cs) (n : Nat) : VRs σ g (us.take n) (cs.take n) :=
  .of_get (by simp [h.length]) fun i u c hu hc => by
    rw [List.getElem?_take] at hu hc
    split at hu
    · rename_i hi
      rw [if_pos hi] at hc
      obtain ⟨c', hc', hv⟩ := h.get hu
      rw [hc] at hc'; cases hc'; exact hv
    · cases hu
theorem VRs.set {us cs : List Value} (h : VRs σ g us cs) (i : Nat) {u c : Value} (hv : VR σ g u c) : VRs σ g (us.set i u) (cs.set i c) :=
  .of_get (by simp [h.length]) fun j x y hx hy => by
    rw [List.getElem?_set] at hx hy
    by_cases hij : i = j
    · subst hij
      have hl := h.length
      by_cases hlt : i < us.length
      · rw [if_pos rfl, if_pos hlt] at hx; rw [if_pos rfl, if_pos (by omega)] at hy
        cases hx; cases hy; exact hv
      · rw [if_pos rfl, if_neg hlt] at hx; cases hx
    · rw [if_neg hij] at hx hy
      obtain ⟨c', hc', hv⟩ := h.get hx
      rw [hy] at hc'; cases hc'; exact hv
theorem VRs.getD {us cs : List Value} (h : VRs σ g us cs) (i : Nat) : VR σ g (us.getD i undef) (cs.getD i undef) := by
  cases hu : us[i]? with
  | none =>
    have : cs[i]? = none := by
      rw [List.getElem?_eq_none_iff] at hu ⊢; rw [← h.length]; exact hu
    rw [List.getD_eq_getElem?_getD, List.getD_eq_getElem?_getD, hu, this]
    exact .tuple [] [] .nil
  | some u =>
    obtain ⟨c, hc, hv⟩ := h.get hu
    rw [List.getD_eq_getElem?_getD, List.getD_eq_getElem?_getD, hu, hc]; exact hv
theorem VRs.replicate {u c : Value} (h : VR σ g u c) : ∀ n : Nat, VRs σ g (List.replicate n u) (List.replicate n c)
  | 0 => .nil
  | n + 1 => .cons _ _ _ _ h (VRs.replicate h n)
theorem VRs.map {α : Type} {f f' : α → Value} : ∀ (l : List α), (∀ x ∈ l, VR σ g (f x) (f' x)) → VRs σ g (l.map f) (l.map f')
  | [], _ => .nil
  | x :: l, h => .cons _ _ _ _ (h x (by simp)) (VRs.map l fun y hy => h y (by simp [hy]))

theorem leafEq_chan1 (k : EqK) (x : Option Nat) (u : Value) : leafEq k (.chan x) u = none := by cases k <;> cases u <;> rfl
theorem leafEq_chan2 (k : EqK) (x : Option Nat) (u : Value) : leafEq k u (.chan x) = none := by
  cases k <;> cases u <;> first | rfl | (rename_i p; cases p <;> rfl) | (rename_i p _ _; cases p <;> rfl)
theorem VR.single {u c : Value} (h : VR σ g u c) : single c = single u := by cases h <;> rfl
theorem VR.plain1 {u : Value} (h : plain1 u = true) : VR σ g u u := by
  unfold AM.plain1 at h
  split at h <;> first | (constructor; done) | cases h
theorem single_of_plain1 {u : Value} (h : AM.plain1 u = true) : AM.single u = true := by
  unfold AM.plain1 at h
  split at h <;> first | rfl | cases h
theorem VRs.plain1 : ∀ {us : List Value}, us.all AM.plain1 = true → VRs σ g us us
  | [], _ => .nil
  | u :: us, h => by
    simp only [List.all_cons, Bool.and_eq_true] at h
    exact .cons _ _ _ _ (.plain1 h.1) (VRs.plain1 h.2)
theorem VR.plain {u : Value} (h : plain u = true) : VR σ g u u := by
  unfold AM.plain at h
  split at h
  · rename_i cs
    obtain ⟨l⟩ := cs
    refine .agg l l (.plain1 h) fun x hx => single_of_plain1 (List.all_eq_true.1 h x hx)
  · exact .plain1 h
theorem VRs.plain : ∀ {us : List Value}, us.all AM.plain = true → VRs σ g us us
  | [], _ => .nil
  | u :: us, h => by
    simp only [List.all_cons, Bool.and_eq_true] at h
    exact .cons _ _ _ _ (.plain h.1) (VRs.plain h.2)
theorem VR.flat {u : Value} (h : flat u = true) : VR σ g u u := by
  unfold AM.flat at h
  split at h
  · rename_i cs
    obtain ⟨l⟩ := cs
    exact .tuple l l (.plain h)
  · exact .plain h

/-- What was there goes on: no object is lost; one that was not moved lies where it lay. -/
structure Ext (σ : Emb) (g : Mem) (σ' : Emb) (g' : Mem) : Prop where
  cells : ∀ i vals ver ro, g i = some (.cells vals ver ro) → ∃ vals' ver', g' i = some (.cells vals' ver' ro) ∧ ver ≤ ver' ∧ (ver = ver' → σ' i = σ i)
  map : ∀ i es, g i = some (.map es) → ∃ es', g' i = some (.map es') ∧ σ' i = σ i
theorem Ext.refl (σ : Emb) (g : Mem) : Ext σ g σ g := ⟨fun _ vals ver _ h => ⟨vals, ver, h, Nat.le_refl _, fun _ => rfl⟩, fun _ es h => ⟨es, h, rfl⟩⟩
theorem Ext.trans {σ₁ σ₂ σ₃ : Emb} {g₁ g₂ g₃ : Mem} (h : Ext σ₁ g₁ σ₂ g₂) (h' : Ext σ₂ g₂ σ₃ g₃) : Ext σ₁ g₁ σ₃ g₃ := by
  constructor
  · intro i vals ver ro hi
    obtain ⟨vals', ver', h1, h2, h3⟩ := h.cells i vals ver ro hi
    obtain ⟨vals'', ver'', h1', h2', h3'⟩ := h'.cells i vals' ver' ro h1
    exact ⟨vals'', ver'', h1', Nat.le_trans h2 h2', fun e => by rw [h3' (by omega), h3 (by omega)]⟩
  · intro i es hi
    obtain ⟨es', h1, h2⟩ := h.map i es hi
    obtain ⟨es'', h1', h2'⟩ := h'.map i es' h1
    exact ⟨es'', h1', by rw [h2', h2]⟩

mutual
theorem VR.ext (he : Ext σ g σ' g') {u c : Value} : VR σ g u c → VR σ' g' u c
  | .bool b => .bool b
  | .int k n => .int k n
  | .float k n => .float k n
  | .complex k n m => .complex k n m
  | .string s => .string s
  | .nilPtr => .nilPtr
  | .ptr p q v vals ver ro hv hg hle hq => by
    obtain ⟨vals', ver', h1, h2, h3⟩ := he.cells _ _ _ _ hg
    refine .ptr p q v vals' ver' ro hv h1 (Nat.le_trans hle h2) fun e => ?_
    rw [h3 (by omega)]; exact hq (by omega)
  | .nilSlice => .nilSlice
  | .slice p q n c cap v vals ver ro hv hg hle hn hq => by
    obtain ⟨vals', ver', h1, h2, h3⟩ := he.cells _ _ _ _ hg
    refine .slice p q n c cap v vals' ver' ro hv h1 (Nat.le_trans hle h2) hn fun e => ?_
    rw [h3 (by omega)]; exact hq (by omega)
  | .nilMap => .nilMap
  | .map r s es hg hs => by
    obtain ⟨es', h1, h2⟩ := he.map _ _ hg
    exact .map r s es' h1 (by rw [h2]; exact hs)
  | .nilChan => .nilChan
  | .any k q => .any k q
  | .func fn xs ys us vs h h' => .func fn xs ys us vs (VRs.ext he h) (VRs.ext he h')
  | .nilFunc => .nilFunc
  | .iface t u c h => .iface t u c (VR.ext he h)
  | .nilIface => .nilIface
  | .agg xs ys h h1 => .agg xs ys (VRs.ext he h) h1
  | .tuple xs ys h => .tuple xs ys (VRs.ext he h)
theorem VRs.ext (he : Ext σ g σ' g') {us cs : List Value} : VRs σ g us cs → VRs σ' g' us cs
  | .nil => .nil
  | .cons u c us cs h hs => .cons u c us cs (VR.ext he h) (VRs.ext he hs)
end

/-- A key of a map, and what it stands for. -/
structure EntryR (σ : Emb) (g : Mem) (e : Value × Value) (m : MapEntry) : Prop where
  key : m.key = e.1
  plain : plain1 e.1 = true
  val : VR σ g e.2 m.val
inductive EntriesR (σ : Emb) (g : Mem) : List (Value × Value) → List MapEntry → Prop
  | nil : EntriesR σ g [] []
  | cons (e : Value × Value) (m : MapEntry) (es : List (Value × Value)) (ms : List MapEntry) (h : EntryR σ g e m) (hs : EntriesR σ g es ms) : EntriesR σ g (e :: es) (m :: ms)
theorem EntriesR.ext (he : Ext σ g σ' g') {es : List (Value × Value)} {ms : List MapEntry} (h : EntriesR σ g es ms) : EntriesR σ' g' es ms := by
  induction h with
  | nil => exact .nil
  | cons e m es ms h _ ih => exact .cons _ _ _ _ ⟨h.key, h.plain, h.val.ext he⟩ ih

/-- One object, and where it lies. N: the blocks from there on are the run's own. -/
inductive ObjR (N : Nat) (σ : Emb) (g : Mem) (w : World) (s : Seat) : AObj → Prop
  | own (vals cs : List Value) (ver : Nat) (el : TypeId) (hb : N ≤ s.blk) (h0 : s.base = 0) (hw : w.heap[s.blk]? = some (.cells ⟨cs⟩ el (0, 0))) (hs : s.size = cs.length)
      (hv : VRs σ g vals (cs.take vals.length)) (hl : vals.length ≤ cs.length) (h1 : ∀ x ∈ vals, single x = true) : ObjR N σ g w s (.cells vals ver false)
  | ro (vals : List Value) (hb : s.blk < N)
      (hv : ∀ i u, vals[i]? = some u → ∃ c, w.cell? ⟨s.blk, s.base + i, none⟩ = some c ∧ VR σ g u c) (h1 : ∀ x ∈ vals, single x = true) : ObjR N σ g w s (.cells vals 0 true)
  | map (es : List (Value × Value)) (ms : List MapEntry) (clock : Nat) (hb : N ≤ s.blk) (hw : w.heap[s.blk]? = some (.map ⟨ms⟩ clock)) (he : EntriesR σ g es ms) : ObjR N σ g w s (.map es)

def owns : AObj → Bool
  | .cells _ _ ro => !ro
  | .map _ => true
  | .gone => false
/-- The block is one of the memory's own. -/
def Owned (σ : Emb) (g : Mem) (b : Nat) : Prop := ∃ i o, g i = some o ∧ owns o = true ∧ (σ i).blk = b
/-- The abstract memory g and the model's world, below G the package's variables. -/
structure MR (G N : Nat) (σ : Emb) (g : Mem) (w : World) : Prop where
  obj : ∀ i o, g i = some o → ObjR N σ g w (σ i) o
  inj : ∀ i j o p, g i = some o → g j = some p → owns o = true → owns p = true → (σ i).blk = (σ j).blk → i = j
  glob : ∀ i, i < G → ∃ vals, g i = some (.cells vals 0 true) ∧ (σ i).blk = i ∧ (σ i).base = 0
  size : N ≤ w.heap.size
/-- A step of both: what was there goes on, what isn't owned is as it was. -/
structure Go (N : Nat) (σ : Emb) (g : Mem) (w : World) (σ' : Emb) (g' : Mem) (w' : World) : Prop where
  ext : Ext σ g σ' g'
  size : w.heap.size ≤ w'.heap.size
  os : w'.os = w.os
  tape : w'.tape = w.tape
  output : w'.output = w.output
  rest : ∀ b, b < w.heap.size → ¬ Owned σ g b → w'.heap[b]? = w.heap[b]?
  own : ∀ b, Owned σ' g' b → Owned σ g b ∨ w.heap.size ≤ b
theorem Go.refl (N : Nat) (σ : Emb) (g : Mem) (w : World) : Go N σ g w σ g w := ⟨.refl _ _, Nat.le_refl _, rfl, rfl, rfl, fun _ _ _ => rfl, fun _ h => .inl h⟩
theorem Go.trans {N : Nat} {σ₁ σ₂ σ₃ : Emb} {g₁ g₂ g₃ : Mem} {w₁ w₂ w₃ : World} (h : Go N σ₁ g₁ w₁ σ₂ g₂ w₂) (h' : Go N σ₂ g₂ w₂ σ₃ g₃ w₃) : Go N σ₁ g₁ w₁ σ₃ g₃ w₃ := by
  refine ⟨h.ext.trans h'.ext, Nat.le_trans h.size h'.size, h'.os.trans h.os, h'.tape.trans h.tape, h'.output.trans h.output, fun b hb hn => ?_, fun b hb => ?_⟩
  · rw [h'.rest b (Nat.lt_of_lt_of_le hb h.size) (fun ho => (h.own b ho).elim hn (fun hge => by omega)), h.rest b hb hn]
  · rcases h'.own b hb with ho | hge
    · exact h.own b ho
    · exact .inr (Nat.le_trans h.size hge)
end Go.Proofs.YtfbldlgjlgcpoaaDoor.AM

namespace Go.Proofs.YtfbldlgjlgcpoaaDoor.AM
open Go.RowKit

variable {P : Program} {G N : Nat} {σ : Emb} {g : Mem} {w : World}

/-- What is there is there as in h. -/
def Sub (g : Mem) (h : Heap) : Prop := ∀ i o, g i = some o → h[i]? = some o

theorem addr_add (b o n : Nat) : Addr.add ⟨b, o, none⟩ n = ⟨b, o + n, none⟩ := by
  unfold Addr.add; split
  · subst_vars; rfl
  · rfl

theorem MR.cell (hm : MR G N σ g w) {b : Nat} {vals : List Value} {ver : Nat} {ro : Bool} (hg : g b = some (.cells vals ver ro)) {i : Nat} {u : Value} (hi : vals[i]? = some u) :
    ∃ c, w.cell? ⟨(σ b).blk, (σ b).base + i, none⟩ = some c ∧ VR σ g u c := by
  have ho := hm.obj _ _ hg
  cases ho with
  | own _ cs _ el hb h0 hw hs hv hl h1 =>
    obtain ⟨c, hc, hvr⟩ := hv.get hi
    rw [List.getElem?_take] at hc
    split at hc
    · refine ⟨c, ?_, hvr⟩
      simp only [World.cell?, hw, h0, Nat.zero_add]
      simpa using hc
    · cases hc
  | ro _ hb hv h1 => exact hv i u hi
theorem MR.singles (hm : MR G N σ g w) {b : Nat} {vals : List Value} {ver : Nat} {ro : Bool} (hg : g b = some (.cells vals ver ro)) : ∀ x ∈ vals, single x = true := by
  have ho := hm.obj _ _ hg
  cases ho <;> assumption

theorem loadCellsFrom_run (b o : Nat) (n : Nat) : ∀ (i : Nat) (acc : Array Value) (cs : List Value), cs.length = n →
    (∀ j c, cs[j]? = some c → w.cell? ⟨b, o + (i + j), none⟩ = some c) → (loadCellsFrom ⟨b, o, none⟩ i n acc).run P w = .ok (acc ++ ⟨cs⟩) w := by
  induction n with
  | zero =>
    intro i acc cs hl _
    obtain rfl : cs = [] := List.length_eq_zero_iff.1 hl
    simp [loadCellsFrom]
  | succ n ih =>
    intro i acc cs hl hc
    obtain ⟨c, cs, rfl⟩ : ∃ c r, cs = c :: r := by cases cs with | nil => simp at hl | cons c r => exact ⟨c, r, rfl⟩
    have h0 := hc 0 c (by simp)
    simp only [loadCellsFrom, Sem.run_bind, run_load, addr_add]
    rw [show o + i = o + (i + 0) from rfl, h0]
    simp only [Result.andThen_ok]
    rw [ih (i + 1) (acc.push c) cs (by simpa using hl) (fun j x hx => by
      have := hc (j + 1) x (by simpa using hx)
      rw [show i + 1 + j = i + (j + 1) from by omega]; exact this)]
    congr 1
    apply Array.ext'
    simp
theorem loadCells_run {b o n : Nat} {cs : List Value} (hl : cs.length = n) (hc : ∀ (j : Nat) c, cs[j]? = some c → w.cell? ⟨b, o + j, none⟩ = some c) :
    (loadCells ⟨b, o, none⟩ n).run P w = .ok ⟨cs⟩ w := by
  unfold loadCells
  rw [loadCellsFrom_run b o n 0 #[] cs hl (fun j c h => by rw [Nat.zero_add]; exact hc j c h)]
  simp

/-- A run of cells that may be read. -/
theorem MR.read (hm : MR G N σ g w) {h : Heap} (hs : Sub g h) {p q : Addr} {n : Nat} {l : List Value} (hp : VR σ g (.pointer (some p)) (.pointer (some q))) (hr : h.read p n = some l) :
    ∃ cs, q.spot = none ∧ (loadCells q n).run P w = .ok ⟨cs⟩ w ∧ VRs σ g l cs ∧ l.length = n ∧ ∀ x ∈ l, single x = true := by
  cases hp with
  | ptr _ _ v vals ver ro hv hg hle hq =>
    unfold Heap.read at hr
    rw [hs _ _ hg] at hr
    simp only at hr
    split at hr
    · rename_i hc
      obtain ⟨hsp, hlen⟩ := hc
      rw [hv] at hsp
      cases hsp
      have hq := hq rfl
      subst hq
      cases hr
      have hex : ∀ i, i < n → ∃ c, w.cell? ⟨(σ p.block).blk, (σ p.block).base + p.off + i, none⟩ = some c ∧ ∃ u, vals[p.off + i]? = some u ∧ VR σ g u c := by
        intro i hi
        have hlt : p.off + i < vals.length := by omega
        obtain ⟨c, hc, hvr⟩ := hm.cell hg (List.getElem?_eq_getElem hlt)
        exact ⟨c, by rw [Nat.add_assoc]; exact hc, _, List.getElem?_eq_getElem hlt, hvr⟩
      let cs : List Value := (List.range n).map fun i => (w.cell? ⟨(σ p.block).blk, (σ p.block).base + p.off + i, none⟩).getD undef
      have hcl : cs.length = n := by simp [cs]
      refine ⟨cs, rfl, loadCells_run hcl fun j c hj => ?_, VRs.of_get ?_ fun i u c hu hc => ?_, ?_, fun x hx => ?_⟩
      · have hjn : j < n := by
          have := (List.getElem?_eq_some_iff.1 hj).1; omega
        obtain ⟨c', hc', _⟩ := hex j hjn
        simp only [cs, List.getElem?_map, List.getElem?_range hjn, Option.map_some, hc', Option.getD_some, Option.some.injEq] at hj
        rw [hc', hj]
      · rw [hcl, List.length_take, List.length_drop]; omega
      · have hin : i < n := by
          have := (List.getElem?_eq_some_iff.1 hc).1; omega
        obtain ⟨c', hc', u', hu', hvr⟩ := hex i hin
        simp only [cs, List.getElem?_map, List.getElem?_range hin, Option.map_some, hc', Option.getD_some, Option.some.injEq] at hc
        rw [List.getElem?_take, if_pos hin, List.getElem?_drop, hu'] at hu
        cases hu; rw [← hc]; exact hvr
      · rw [List.length_take, List.length_drop]; omega
      · exact hm.singles hg x (List.mem_of_mem_drop (List.mem_of_mem_take hx))
    · cases hr
theorem MR.read1 (hm : MR G N σ g w) {h : Heap} (hs : Sub g h) {p q : Addr} {u : Value} (hp : VR σ g (.pointer (some p)) (.pointer (some q))) (hr : h.read1 p = some u) :
    ∃ c, q.spot = none ∧ w.cell? q = some c ∧ VR σ g u c ∧ single u = true := by
  cases hp with
  | ptr _ _ v vals ver ro hv hg hle hq =>
    unfold Heap.read1 at hr
    rw [hs _ _ hg] at hr
    simp only at hr
    split at hr
    · rename_i hsp
      rw [hv] at hsp
      cases hsp
      have hq := hq rfl
      subst hq
      obtain ⟨c, hc, hvr⟩ := hm.cell hg hr
      exact ⟨c, rfl, hc, hvr, hm.singles hg _ (List.mem_of_getElem? hr)⟩
    · cases hr

theorem run_und {t : TypeId} {d : TypeDesc} (h : P.underlying t = some d) (w : World) : (underlying t).run P w = .ok d w := by simp [underlying, h]
theorem run_sizeOf {t : TypeId} {n : Nat} (h : sizeT P t = some n) (w : World) : (sizeOf t).run P w = .ok n w := by
  unfold sizeT at h
  cases hi : P.info? t with
  | none => rw [hi] at h; cases h
  | some i => rw [hi] at h; cases h; simp [sizeOf, typeInfo, hi]
theorem run_isAgg {t : TypeId} {b : Bool} (h : aggT P t = some b) (w : World) : (isAgg t).run P w = .ok b w := by
  unfold aggT at h
  cases hu : P.underlying t with
  | none => rw [hu] at h; cases h
  | some d =>
    rw [hu] at h
    simp only [isAgg, Sem.run_bind, run_und hu, Result.andThen_ok]
    cases d <;> simp_all
theorem run_zero {t : TypeId} {v : Value} (h : zeroVal P t = some v) (w : World) : (zeroValue t).run P w = .ok v w ∧ plain v = true := by
  unfold zeroVal at h
  cases hi : P.info? t with
  | none => rw [hi] at h; cases h
  | some i =>
    rw [hi] at h
    simp only [Option.bind_some] at h
    cases hz : i.zero with
    | none => rw [hz] at h; cases h
    | some z =>
      rw [hz] at h
      simp only [Option.bind_some] at h
      split at h
      · cases h; rename_i hp; exact ⟨by simp [zeroValue, typeInfo, hi, hz], hp⟩
      · cases h

theorem load_sound (hm : MR G N σ g w) {h : Heap} (hs : Sub g h) {t : TypeId} {n : Nat} (ht : aggT P t = some true) (hz : sizeT P t = some n) {p : Addr} {c : Value} {l : List Value}
    (hp : VR σ g (.pointer (some p)) c) (hr : h.read p n = some l) : ∃ cv, (Instr.loadAt t c).run P w = .ok cv w ∧ VR σ g (agg l) cv := by
  obtain ⟨q, rfl⟩ : ∃ q, c = .pointer (some q) := by cases hp; exact ⟨_, rfl⟩
  obtain ⟨cs, _, hrun, hv, _, h1⟩ := hm.read (P := P) hs hp hr
  refine ⟨.agg ⟨cs⟩, ?_, .agg _ _ hv h1⟩
  simp [Instr.loadAt, Instr.sureAddr, loadVar, run_isAgg ht, run_sizeOf hz, hrun]
theorem load1_sound (hm : MR G N σ g w) {h : Heap} (hs : Sub g h) {t : TypeId} (ht : aggT P t = some false) {p : Addr} {c : Value} {u : Value}
    (hp : VR σ g (.pointer (some p)) c) (hr : h.read1 p = some u) : ∃ cv, (Instr.loadAt t c).run P w = .ok cv w ∧ VR σ g u cv := by
  obtain ⟨q, rfl⟩ : ∃ q, c = .pointer (some q) := by cases hp; exact ⟨_, rfl⟩
  obtain ⟨c, _, hc, hv, _⟩ := hm.read1 hs hp hr
  exact ⟨c, by simp [Instr.loadAt, Instr.sureAddr, loadVar, run_isAgg ht, hc], hv⟩

theorem VR.int_inv {k : IntKind} {n : Int} {c : Value} (h : VR σ g (.int k n) c) : c = .int k n := by cases h; rfl
theorem VR.bool_inv {b : Bool} {c : Value} (h : VR σ g (.bool b) c) : c = .bool b := by cases h; rfl
theorem VR.string_inv {s : ByteArray} {c : Value} (h : VR σ g (.string s) c) : c = .string s := by cases h; rfl
theorem VR.ptr_inv {p : Addr} {c : Value} (h : VR σ g (.pointer (some p)) c) : ∃ q, c = .pointer (some q) := by cases h; exact ⟨_, rfl⟩
theorem VR.agg_inv {xs : Array Value} {c : Value} (h : VR σ g (.agg xs) c) : ∃ ys, c = .agg ⟨ys⟩ ∧ VRs σ g xs.toList ys ∧ ∀ x ∈ xs.toList, AM.single x = true := by
  cases h with | agg xs ys h h1 => exact ⟨ys, rfl, h, h1⟩
theorem VR.tuple_inv {xs : Array Value} {c : Value} (h : VR σ g (.tuple xs) c) : ∃ ys, c = .tuple ⟨ys⟩ ∧ VRs σ g xs.toList ys := by
  cases h with | tuple xs ys h => exact ⟨ys, rfl, h⟩

/-- An address within an object. -/
theorem VR.off {p : Addr} {c : Value} (h : VR σ g (.pointer (some p)) c) (n : Nat) : ∃ q, c = .pointer (some q) ∧ VR σ g (.pointer (some { p with off := p.off + n })) (.pointer (some (q.add n))) := by
  cases h with
  | ptr _ q v vals ver ro hv hg hle hq =>
    refine ⟨q, rfl, .ptr _ _ v vals ver ro hv hg hle fun e => ?_⟩
    rw [hq e, addr_add, Nat.add_assoc]
theorem off_sound {t : TypeId} {fs : Array Field} {f : Field} {i n : Nat} (ht : P.underlying t = some (.struct fs)) (hf : fs[i]? = some f) (hz : sizeT P f.type = some n) (hn : 0 < n) {p : Addr} {c : Value}
    (h : VR σ g (.pointer (some p)) c) : ∃ cv, (Instr.fieldAt t c i).run P w = .ok cv w ∧ VR σ g (.pointer (some { p with off := p.off + f.offset })) cv := by
  obtain ⟨q, rfl, hv⟩ := h.off f.offset
  refine ⟨_, ?_, hv⟩
  simp [Instr.fieldAt, run_und ht, hf, Instr.sureAddr, fieldPlace, run_sizeOf hz, Nat.ne_of_gt hn]
theorem atArr_sound {t e : TypeId} {len m : Nat} (ht : P.underlying t = some (.array len e)) (hz : sizeT P e = some m) {p : Addr} {c : Value} {k : IntKind} {i : Int}
    (h : VR σ g (.pointer (some p)) c) (h0 : 0 ≤ i) (h1 : i < len) : ∃ cv, (Instr.indexAt t c (.int k i)).run P w = .ok cv w ∧ VR σ g (.pointer (some { p with off := p.off + i.toNat * m })) cv := by
  obtain ⟨q, rfl, hv⟩ := h.off (i.toNat * m)
  refine ⟨_, ?_, hv⟩
  simp [Instr.indexAt, asIntOf, run_und ht, Instr.sureAddr, run_sizeOf hz, h0, h1]
theorem atRow_sound {t e : TypeId} {m n : Nat} (ht : P.underlying t = some (.slice e)) (hz : sizeT P e = some m) {p : Addr} {c : Value} {k : IntKind} {i : Int}
    (h : VR σ g (.slice (some p) n m) c) (h0 : 0 ≤ i) (h1 : i < n) : ∃ cv, (Instr.indexAt t c (.int k i)).run P w = .ok cv w ∧ VR σ g (.pointer (some { p with off := p.off + i.toNat * m })) cv := by
  cases h with
  | slice _ q _ _ cap v vals ver ro hv hg hle hn hq =>
    refine ⟨.pointer (some (q.add (i.toNat * m))), ?_, .ptr _ _ v vals ver ro hv hg hle fun e => ?_⟩
    · simp [Instr.indexAt, asIntOf, run_und ht, run_sizeOf hz, h0, h1]
    · rcases hq e with ⟨hq, _⟩ | ⟨hz, _⟩
      · rw [hq, addr_add, Nat.add_assoc]
      · omega
theorem idxStr_sound {t : TypeId} (ht : P.underlying t = some .string) {s : ByteArray} {k : IntKind} {i : Int} {b : UInt8} (h0 : 0 ≤ i) (hb : s.data.toList[i.toNat]? = some b) :
    (Instr.index t (.string s) (.int k i)).run P w = .ok (.int .u8 b.toNat) w := by
  have : s[i.toNat]? = some b := by
    have hlt : i.toNat < s.size := by
      have := (List.getElem?_eq_some_iff.1 hb).1; simpa using this
    rw [getElem?_pos s i.toNat hlt]
    have h2 := (List.getElem?_eq_some_iff.1 hb).2
    rw [← h2]; rfl
  simp [Instr.index, asIntOf, run_und ht, h0, this]
theorem part_sound {e : TypeId} {l cs : List Value} (hv : VRs σ g l cs) (h1 : ∀ x ∈ l, single x = true) {o : Nat} :
    (∀ n, aggT P e = some true → sizeT P e = some n → ∃ cv, (part e ⟨cs⟩ o).run P w = .ok cv w ∧ VR σ g (agg ((l.drop o).take n)) cv) ∧
    (∀ u, aggT P e = some false → l[o]? = some u → ∃ cv, (part e ⟨cs⟩ o).run P w = .ok cv w ∧ VR σ g u cv) := by
  constructor
  · intro n ha hz
    refine ⟨.agg ⟨(cs.drop o).take n⟩, ?_, .agg _ _ ((hv.drop o).take n) fun x hx => h1 x (List.mem_of_mem_drop (List.mem_of_mem_take hx))⟩
    simp [part, run_isAgg ha, run_sizeOf hz, List.extract_toArray, List.extract_eq_take_drop]
  · intro u ha hu
    obtain ⟨c, hc, hvr⟩ := hv.get hu
    refine ⟨c, ?_, hvr⟩
    simp [part, run_isAgg ha, hc]
end Go.Proofs.YtfbldlgjlgcpoaaDoor.AM

namespace Go.Proofs.YtfbldlgjlgcpoaaDoor.AM
open Go.RowKit

variable {P : Program} {w : World}

theorem rowEq_append : ∀ (k1 k2 : List EqK) (xs ys : List Value), k1.length ≤ xs.length → k1.length ≤ ys.length →
    rowEq (k1 ++ k2) xs ys = match rowEq k1 (xs.take k1.length) (ys.take k1.length) with
      | some true => rowEq k2 (xs.drop k1.length) (ys.drop k1.length)
      | some false => some false
      | none => none
  | [], k2, xs, ys, _, _ => by simp [rowEq]
  | k :: k1, k2, [], ys, h, _ => by simp at h
  | k :: k1, k2, x :: xs, [], _, h => by simp at h
  | k :: k1, k2, x :: xs, y :: ys, h, h' => by
    have ih := rowEq_append k1 k2 xs ys (by simpa using h) (by simpa using h')
    simp only [List.cons_append, rowEq, List.length_cons, List.take_succ_cons, List.drop_succ_cons]
    cases leafEq k x y with
    | none => rfl
    | some b => cases b with
      | false => rfl
      | true => exact ih

/-- The value of a type whose cells are these. -/
def valOf (P : Program) (t : TypeId) (l : List Value) : Value :=
  match P.underlying t with
  | some (.struct _) | some (.array _ _) => .agg ⟨l⟩
  | _ => l.getD 0 undef

theorem run_partOf {e : TypeId} {l : List Value} {o n : Nat} (hz : sizeT P e = some n) (h : o + n ≤ l.length) (hp : ∀ d, P.underlying e = some d → (eqK d).isSome = true → n = 1)
    (hu : ∃ d, P.underlying e = some d ∧ ((eqK d).isSome = true ∨ (∃ fs, d = .struct fs) ∨ ∃ m u, d = .array m u)) :
    (part e ⟨l⟩ o).run P w = .ok (valOf P e ((l.drop o).take n)) w := by
  obtain ⟨d, hd, hc⟩ := hu
  have hag : (∃ fs, d = .struct fs) ∨ (∃ m u, d = .array m u) → (part e ⟨l⟩ o).run P w = .ok (valOf P e ((l.drop o).take n)) w := by
    intro hc
    have ha : aggT P e = some true := by unfold aggT; rw [hd]; rcases hc with ⟨fs, rfl⟩ | ⟨m, u, rfl⟩ <;> rfl
    have hv : valOf P e ((l.drop o).take n) = .agg ⟨(l.drop o).take n⟩ := by unfold valOf; rw [hd]; rcases hc with ⟨fs, rfl⟩ | ⟨m, u, rfl⟩ <;> rfl
    rw [hv]
    simp [part, run_isAgg ha, run_sizeOf hz, List.extract_toArray, List.extract_eq_take_drop]
  rcases hc with hk | hc
  · obtain rfl := hp d hd hk
    have ha : aggT P e = some false := by unfold aggT; rw [hd]; cases d <;> first | rfl | simp [eqK] at hk
    have hv : valOf P e ((l.drop o).take 1) = ((l.drop o).take 1).getD 0 undef := by unfold valOf; rw [hd]; cases d <;> first | rfl | simp [eqK] at hk
    rw [hv]
    have hlt : o < l.length := by omega
    simp [part, run_isAgg ha, List.getElem?_eq_getElem hlt, List.getD_eq_getElem?_getD]
  · exact hag hc

theorem eqK_leaf {d : TypeDesc} {k : EqK} (hd : eqK d = some k) {t : TypeId} (hu : P.underlying t = some d) {x y : Value} {b : Bool} (he : leafEq k x y = some b) (m : Nat) :
    (Op.equalIn (m + 1) t x y).run P w = .ok b w := by
  cases d <;> simp only [eqK, Option.some.injEq, reduceCtorEq] at hd <;> subst hd
  · cases x <;> cases y <;> simp [leafEq] at he
    subst he; simp [Op.equalIn, run_und hu]
  · cases x <;> cases y <;> simp [leafEq] at he
    obtain ⟨rfl, rfl⟩ := he; simp [Op.equalIn, run_und hu]
  · cases x <;> cases y <;> simp [leafEq] at he
    subst he; simp [Op.equalIn, run_und hu]

/-- What leaves says of a type. -/
theorem leaves_kind {d : Nat} {t : TypeId} {ks : List EqK} (h : leaves P d t = some ks) :
    ∃ k, P.underlying t = some k ∧ ((eqK k).isSome = true ∨ (∃ fs, k = .struct fs) ∨ ∃ m u, k = .array m u) ∧ ((eqK k).isSome = true → ks.length = 1) := by
  cases d with
  | zero => simp [leaves] at h
  | succ d =>
    unfold leaves at h
    cases hu : P.underlying t with
    | none => rw [hu] at h; cases h
    | some k =>
      rw [hu] at h
      refine ⟨k, rfl, ?_⟩
      cases k <;> simp [eqK] at h ⊢ <;> (try (subst h; rfl))

theorem eq_leaves (d : Nat) : ∀ (m : Nat) (t : TypeId) (ks : List EqK) (xs ys : List Value) (b : Bool), leaves P d t = some ks → xs.length = ks.length → ys.length = ks.length →
    rowEq ks xs ys = some b → (Op.equalIn (d + m) t (valOf P t xs) (valOf P t ys)).run P w = .ok b w := by
  induction d with
  | zero => intro m t ks xs ys b h; simp [leaves] at h
  | succ d ih =>
    intro m t ks xs ys b h hx hy he
    have step : ∀ (e : TypeId) (l : List EqK) (n o : Nat) (xs ys : List Value) (c : Bool), leaves P d e = some l → sizeT P e = some n → l.length = n → o + n ≤ xs.length → o + n ≤ ys.length →
        rowEq l ((xs.drop o).take n) ((ys.drop o).take n) = some c →
        ∃ u v, (part e ⟨xs⟩ o).run P w = .ok u w ∧ (part e ⟨ys⟩ o).run P w = .ok v w ∧ (Op.equalIn (d + m) e u v).run P w = .ok c w := by
      intro e l n o xs ys c hl hz hn h1 h2 hr
      obtain ⟨k, hk, hkind, hone⟩ := leaves_kind hl
      have hp : ∀ d, P.underlying e = some d → (eqK d).isSome = true → n = 1 := fun d hd hs => by rw [hk] at hd; cases hd; rw [← hn]; exact hone hs
      exact ⟨_, _, run_partOf hz h1 hp ⟨k, hk, hkind⟩, run_partOf hz h2 hp ⟨k, hk, hkind⟩,
        ih m e l _ _ c hl (by rw [List.length_take, List.length_drop]; omega) (by rw [List.length_take, List.length_drop]; omega) hr⟩
    rw [show d + 1 + m = (d + m) + 1 from by omega]
    unfold leaves at h
    cases hu : P.underlying t with
    | none => rw [hu] at h; cases h
    | some k =>
      rw [hu] at h
      cases k
      case struct fs =>
        simp only at h
        split at h
        · cases h
        rename_i hst
        have hv : ∀ l, valOf P t l = .agg ⟨l⟩ := fun l => by unfold valOf; rw [hu]
        have hf : P.fieldsOf t = fs := by simp [Program.fieldsOf, hu]
        rw [hv, hv, run_equalIn_struct (P := P) w (d + m) t ⟨xs⟩ ⟨ys⟩ (by rw [hf]; exact hu) (by simpa using hst), hf]
        have key : ∀ (l : List Field) (o : Nat) (ks : List EqK) (b : Bool), leaves.leavesOf (leaves P d) (fun u => (P.info? u).map (·.size)) l o = some ks →
            xs.length = o + ks.length → ys.length = o + ks.length → rowEq ks (xs.drop o) (ys.drop o) = some b → (Op.eqFields (d + m) ⟨xs⟩ ⟨ys⟩ l).run P w = .ok b w := by
          intro l
          induction l with
          | nil =>
            intro o ks b h hx hy he
            simp only [leaves.leavesOf, Option.some.injEq] at h
            subst h
            rw [List.drop_eq_nil_of_le (by simp at hx; omega), List.drop_eq_nil_of_le (by simp at hy; omega)] at he
            simp only [rowEq, Option.some.injEq] at he
            subst he
            simp [Op.eqFields]
          | cons f l ihl =>
            intro o ks b h hx hy he
            unfold leaves.leavesOf at h
            split at h
            · cases h
            rename_i hno
            have hname : f.name ≠ "_" := fun e => hno (.inl e)
            have hoff : f.offset = o := Decidable.byContradiction fun e => hno (.inr e)
            cases hl : leaves P d f.type with
            | none => rw [hl] at h; cases h
            | some l1 =>
              cases hz : (P.info? f.type).map (·.size) with
              | none => rw [hl, hz] at h; cases h
              | some n =>
                rw [hl, hz] at h
                simp only at h
                split at h
                · rename_i hn
                  cases hr : leaves.leavesOf (leaves P d) (fun u => (P.info? u).map (·.size)) l (o + n) with
                  | none => rw [hr] at h; cases h
                  | some k2 =>
                    rw [hr] at h
                    simp only [Option.map_some, Option.some.injEq] at h
                    subst h
                    simp only [List.length_append] at hx hy
                    rw [rowEq_append l1 k2 _ _ (by rw [List.length_drop]; omega) (by rw [List.length_drop]; omega), hn] at he
                    simp only [Op.eqFields, if_pos hname, Sem.run_bind]
                    cases hc : rowEq l1 ((xs.drop o).take n) ((ys.drop o).take n) with
                    | none => rw [hc] at he; cases he
                    | some c =>
                      obtain ⟨u, v, h1, h2, h3⟩ := step f.type l1 n o xs ys c hl hz hn (by omega) (by omega) hc
                      rw [hoff, h1]; simp only [Result.andThen_ok]
                      rw [h2]; simp only [Result.andThen_ok]
                      rw [h3]; simp only [Result.andThen_ok]
                      rw [hc] at he
                      cases c with
                      | false => simp only [Option.some.injEq] at he; subst he; simp
                      | true =>
                        simp only [List.drop_drop] at he
                        simpa using ihl (o + n) k2 b hr (by omega) (by omega) he
                · cases h
        exact key fs.toList 0 ks b h (by simpa using hx) (by simpa using hy) (by simpa using he)
      case array n e =>
        simp only [Option.bind_eq_some_iff] at h
        obtain ⟨l, hl, h⟩ := h
        split at h
        · rename_i hn
          cases h
          have hv : ∀ l, valOf P t l = .agg ⟨l⟩ := fun l => by unfold valOf; rw [hu]
          obtain ⟨ke, hke, _⟩ := leaves_kind hl
          obtain ⟨i, hi⟩ : ∃ i, P.info? e = some i := by
            cases hi : P.info? e with
            | none => simp [Program.underlying, hi] at hke
            | some i => exact ⟨i, rfl⟩
          have hz : sizeT P e = some l.length := by unfold sizeT; rw [hi]; rw [hn, hi]; rfl
          have hc : P.cellsOf e = l.length := by unfold Program.cellsOf; rw [hn]
          rw [hv, hv, run_equalIn_array w (d + m) ⟨xs⟩ ⟨ys⟩ hu hi, hc]
          have key : ∀ (q o : Nat) (b : Bool), xs.length = o * l.length + (repl q l).length → ys.length = o * l.length + (repl q l).length →
              rowEq (repl q l) (xs.drop (o * l.length)) (ys.drop (o * l.length)) = some b → (Op.eqItems (d + m) e l.length ⟨xs⟩ ⟨ys⟩ (List.range' o q)).run P w = .ok b w := by
            intro q
            induction q with
            | zero =>
              intro o b hx hy he
              simp only [repl, List.length_nil, Nat.add_zero] at hx hy he
              rw [List.drop_eq_nil_of_le (by omega), List.drop_eq_nil_of_le (by omega)] at he
              simp only [rowEq, Option.some.injEq] at he
              subst he
              simp [Op.eqItems]
            | succ q ihq =>
              intro o b hx hy he
              simp only [repl, List.length_append] at hx hy
              rw [show repl (q + 1) l = l ++ repl q l from rfl, rowEq_append l _ _ _ (by rw [List.length_drop]; omega) (by rw [List.length_drop]; omega)] at he
              simp only [List.range'_succ, Op.eqItems, Sem.run_bind]
              cases hc : rowEq l ((xs.drop (o * l.length)).take l.length) ((ys.drop (o * l.length)).take l.length) with
              | none => rw [hc] at he; cases he
              | some c =>
                obtain ⟨u, v, h1, h2, h3⟩ := step e l l.length (o * l.length) xs ys c hl hz rfl (by omega) (by omega) hc
                rw [h1]; simp only [Result.andThen_ok]
                rw [h2]; simp only [Result.andThen_ok]
                rw [h3]; simp only [Result.andThen_ok]
                rw [hc] at he
                cases c with
                | false => simp only [Option.some.injEq] at he; subst he; simp
                | true =>
                  simp only [List.drop_drop] at he
                  have e1 : o * l.length + l.length = (o + 1) * l.length := by rw [Nat.add_mul, Nat.one_mul]
                  rw [e1] at he
                  simpa using ihq (o + 1) b (by rw [← e1]; omega) (by rw [← e1]; omega) he
          rw [List.range_eq_range']
          exact key n 0 b (by simpa using hx) (by simpa using hy) (by simpa using he)
        · cases h
      all_goals
        simp only [Option.map_eq_some_iff] at h
        obtain ⟨k, hk, rfl⟩ := h
        obtain ⟨x, rfl⟩ : ∃ x, xs = [x] := List.length_eq_one_iff.1 hx
        obtain ⟨y, rfl⟩ : ∃ y, ys = [y] := List.length_eq_one_iff.1 hy
        have hl : leafEq k x y = some b := by
          simp only [rowEq] at he
          cases hq : leafEq k x y with
          | none => rw [hq] at he; cases he
          | some c => rw [hq] at he; cases c <;> simp_all
        have := eqK_leaf (w := w) hk hu hl (d + m)
        unfold valOf; rw [hu]; exact this
end Go.Proofs.YtfbldlgjlgcpoaaDoor.AM

namespace Go.Proofs.YtfbldlgjlgcpoaaDoor.AM
open Go.RowKit

set_option linter.unusedSimpArgs false
variable {P : Program} {G N : Nat} {σ : Emb} {g : Mem} {w : World}

/-- The operation comes to a value and leaves the world. -/
def Still (P : Program) (w : World) (σ : Emb) (g : Mem) (v : Value) (s : Sem Next) : Prop := ∃ cv, s.run P w = .ok (.value cv) w ∧ VR σ g v cv

theorem still_of {s : Sem Value} {v : Value} (h : ∃ cv, s.run P w = .ok cv w ∧ VR σ g v cv) : Still P w σ g v (do pure (.value (← s))) := by
  obtain ⟨cv, h1, h2⟩ := h
  exact ⟨cv, by simp [h1], h2⟩

theorem bin_sound {op : BinOp} {t : TypeId} {x y : Operand} {u v r cu cv : Value} (hu : VR σ g u cu) (hv : VR σ g v cv) (h : binVal op u v = some r) :
    ((do eqGuard op t x y cu cv; binOp op t cu cv : Sem Value)).run P w = .ok r w ∧ plain1 r = true := by
  have ints : ∀ (k k' : IntKind) (a b : Int), u = .int k a → v = .int k' b → ((do eqGuard op t x y cu cv; binOp op t cu cv : Sem Value)).run P w = .ok r w ∧ plain1 r = true := by
    rintro k k' a b rfl rfl
    rw [hu.int_inv, hv.int_inv]
    cases op <;> simp only [binVal] at h
    case shl | shr =>
      split at h
      · cases h
      · rename_i hb
        cases h
        exact ⟨by simp [eqGuard_at_int, binOp, Op.shift, hb, shl, shr], rfl⟩
    all_goals
      split at h
      · rename_i hk
        subst hk
        simp only [binInt] at h
        first
          | (cases h; refine ⟨?_, rfl⟩; simp [eqGuard_at_int, binOp, Op.intArith, Op.intBits, Op.intCmp, Go.bits]; done)
          | (split at h
             · cases h
             · rename_i hb; cases h; refine ⟨?_, rfl⟩; simp [eqGuard_at_int, binOp, Op.intDiv, hb])
      · cases h
  cases hu' : u with
  | int k a =>
    cases hv' : v with
    | int k' b => exact ints k k' a b hu' hv'
    | _ => subst hu'; subst hv'; cases op <;> simp [binVal] at h
  | string a =>
    cases hv' : v with
    | string b =>
      subst hu'; subst hv'
      rw [hu.string_inv, hv.string_inv]
      cases op <;> simp only [binVal, reduceCtorEq] at h
      case add =>
        split at h
        · rename_i hle
          cases h; refine ⟨?_, rfl⟩
          have hno : ¬ (((a.size + b.size : Nat) : Int) > IntKind.i64.max) := by rw [IntKind.max_i64]; omega
          rw [eqGuard_at_string]
          show (Op.stringOp .add a b).run P w = _
          unfold Op.stringOp
          simp only [if_neg hno, Sem.run_pure]
        · cases h
      case eql => cases h; refine ⟨?_, rfl⟩; simp [eqGuard_at_string, binOp, Op.stringOp, beq_toListBytes]
      case neq => cases h; refine ⟨?_, rfl⟩; simp [eqGuard_at_string, binOp, Op.stringOp, bne, beq_toListBytes]
    | _ => subst hu'; subst hv'; cases op <;> simp [binVal] at h
  | _ => subst hu'; cases op <;> simp [binVal] at h

theorem un_sound {op : UnOp} {u r cu : Value} (hu : VR σ g u cu) (h : unVal op u = some r) : (Op.unary op cu).run P w = .ok r w ∧ plain1 r = true := by
  cases u <;> cases op <;> simp only [unVal, reduceCtorEq, Option.some.injEq] at h
  all_goals first
    | (rw [hu.int_inv]; subst h; refine ⟨?_, rfl⟩; simp [Op.unary, Op.intArith, Op.intBits, Go.bits]; done)
    | (rw [hu.bool_inv]; subst h; refine ⟨?_, rfl⟩; simp [Op.unary]; done)

set_option maxHeartbeats 4000000 in
theorem leafEq_eqv {k : EqK} {d : TypeDesc} (hd : eqK1 d = some k) {t : TypeId} (ht : P.underlying t = some d) {u v cu cv : Value} (hu : VR σ g u cu) (hv : VR σ g v cv) {b : Bool}
    (h : leafEq k u v = some b) {op : BinOp} {x y : Operand} (hi : k = .iface → isNilIface x = true ∨ isNilIface y = true) :
    (eqGuard op t x y cu cv).run P w = .ok () w ∧ (Op.equal t cu cv).run P w = .ok b w := by
  have hm : Op.maxDepth = 9999 + 1 := rfl
  unfold Op.equal
  rw [hm]
  generalize 9999 = n
  cases d <;> simp only [eqK1, Option.some.injEq, reduceCtorEq] at hd <;> subst hd <;> cases hu <;> cases hv <;> simp only [leafEq, Option.some.injEq, reduceCtorEq] at h <;> (try subst h)
  all_goals first
    | (constructor
       · first | simp [eqGuard_at_bool, eqGuard_at_pointer, eqGuard_at_slice, eqGuard_at_map, eqGuard_at_func, eqGuard_at_nilFunc, eqGuard_at_iface, eqGuard_nil_iface]
       · simp [Op.equalIn, run_und ht]
       done)
    | skip
  · constructor
    · rcases hi rfl with hx | hx
      · cases x <;> simp only [isNilIface, Bool.false_eq_true] at hx
        rw [eqGuard_nil_constL]; rfl
      · cases y <;> simp only [isNilIface, Bool.false_eq_true] at hx
        rw [eqGuard_nil_constR]; rfl
    · simp [Op.equalIn, run_und ht]
end Go.Proofs.YtfbldlgjlgcpoaaDoor.AM

namespace Go.Proofs.YtfbldlgjlgcpoaaDoor.AM
open Go.RowKit

set_option linter.unusedSimpArgs false
variable {P : Program} {G N : Nat} {σ : Emb} {g : Mem} {w : World}

theorem splice_length {l c : List Value} {i : Nat} (h : i + c.length ≤ l.length) : (splice l i c).length = l.length := by
  unfold splice; simp only [List.length_append, List.length_take, List.length_drop]; omega
theorem VRs.splice {l cs c ds : List Value} (h : VRs σ g l cs) (h' : VRs σ g c ds) (i : Nat) : VRs σ g (AM.splice l i c) (AM.splice cs i ds) := by
  unfold AM.splice
  rw [h'.length]
  exact ((h.take i).append h').append (h.drop _)
theorem singles_splice {l c : List Value} (h : ∀ x ∈ l, single x = true) (h' : ∀ x ∈ c, single x = true) (i : Nat) : ∀ x ∈ splice l i c, single x = true := by
  intro x hx
  unfold splice at hx
  simp only [List.mem_append] at hx
  rcases hx with (hx | hx) | hx
  · exact h x (List.mem_of_mem_take hx)
  · exact h' x hx
  · exact h x (List.mem_of_mem_drop hx)

theorem foldl_splice : ∀ (c : List Value) (k off : Nat) (l : List Value), off + k + c.length ≤ l.length →
    (c.zipIdx k).foldl (fun (cs : Array Value) (x : Value × Nat) => cs.setIfInBounds (off + x.2) x.1) ⟨l⟩ = ⟨splice l (off + k) c⟩
  | [], k, off, l, h => by simp [splice]
  | x :: c, k, off, l, h => by
    simp only [List.zipIdx_cons, List.foldl_cons, List.setIfInBounds_toArray]
    simp only [List.length_cons] at h
    rw [foldl_splice c (k + 1) off (l.set (off + k) x) (by rw [List.length_set]; omega)]
    congr 1
    have hle : off + k < l.length := by omega
    have ht : (l.take (off + k)).length = off + k := by rw [List.length_take]; omega
    have hs : l.set (off + k) x = l.take (off + k) ++ x :: l.drop (off + k + 1) := by rw [List.set_eq_take_append_cons_drop, if_pos hle]
    unfold splice
    rw [hs, List.take_append, List.drop_append, ht, List.take_of_length_le (show (l.take (off + k)).length ≤ off + (k + 1) by omega),
      List.drop_eq_nil_of_le (show (l.take (off + k)).length ≤ off + (k + 1) + c.length by omega)]
    rw [show off + (k + 1) - (off + k) = 1 from by omega, show off + (k + 1) + c.length - (off + k) = c.length + 1 from by omega]
    simp only [List.take_succ_cons, List.take_zero, List.drop_succ_cons, List.drop_drop, List.nil_append, List.append_assoc, List.cons_append, List.length_cons]
    rw [show off + k + 1 + c.length = off + k + (c.length + 1) from by omega]

/-- The cells of a value, on both sides. -/
theorem laid_sound {u cu : Value} {l : List Value} (h : VR σ g u cu) (hl : laid u = some l) : ∃ cs, cu.cells = ⟨cs⟩ ∧ VRs σ g l cs ∧ (∀ x ∈ l, single x = true) := by
  cases h <;> simp only [laid, Option.some.injEq, reduceCtorEq] at hl <;> subst hl
  case agg xs ys h h1 => exact ⟨ys, rfl, h, h1⟩
  all_goals refine ⟨_, rfl, .cons _ _ _ _ ?_ .nil, by simp [single]⟩ <;> constructor <;> assumption
theorem fill_sound {place : Nat → Option (Nat × Nat)} : ∀ (ps : List (Nat × Nat × Value)) (qs : List (Nat × Value)) (l cs r : List Value), VRs σ g l cs → (∀ x ∈ l, single x = true) →
    ps.length = qs.length → (∀ (i : Nat) p q, ps[i]? = some p → qs[i]? = some q → place q.1 = some (p.1, p.2.1) ∧ VR σ g p.2.2 q.2) → fillRow l ps = some r →
    ∃ ds, Instr.fill place ⟨cs⟩ qs = some ⟨ds⟩ ∧ VRs σ g r ds ∧ (∀ x ∈ r, single x = true) ∧ r.length = l.length
  | [], qs, l, cs, r, hl, h1, hlen, _, h => by
    obtain rfl : qs = [] := List.length_eq_zero_iff.1 hlen.symm
    simp only [fillRow, Option.some.injEq] at h
    subst h
    exact ⟨cs, rfl, hl, h1, rfl⟩
  | (i, n, v) :: ps, [], l, cs, r, _, _, hlen, _, _ => by simp at hlen
  | (i, n, v) :: ps, (j, c) :: qs, l, cs, r, hl, h1, hlen, hp, h => by
    obtain ⟨hpl, hvr⟩ := hp 0 (i, n, v) (j, c) rfl rfl
    simp only at hpl hvr
    unfold fillRow at h
    split at h
    · rename_i lv hlv
      split at h
      · rename_i hc
        obtain ⟨hn, hle⟩ := hc
        obtain ⟨cv, hcells, hvs, hs⟩ := laid_sound hvr hlv
        have hlc := hl.length
        have hvl := hvs.length
        have ih := fill_sound ps qs (splice l i lv) (splice cs i cv) r (hl.splice hvs i) (singles_splice h1 hs i) (by simpa using hlen)
          (fun k p q hk hq => hp (k + 1) p q (by simpa using hk) (by simpa using hq)) h
        obtain ⟨ds, h2, h3, h4, h5⟩ := ih
        refine ⟨ds, ?_, h3, h4, by rw [h5, splice_length (by omega)]⟩
        unfold Instr.fill
        simp only [hpl, hcells]
        have hsz : (⟨cv⟩ : Array Value).size = cv.length := rfl
        have hsz' : (⟨cs⟩ : Array Value).size = cs.length := rfl
        rw [if_neg (by simp only [hsz, hsz']; simp; omega)]
        have := foldl_splice cv 0 i cs (by omega)
        simp only [Nat.add_zero] at this
        have hz : (⟨cv⟩ : Array Value).zipIdx = ⟨cv.zipIdx⟩ := by simp
        rw [hz, ← Array.foldl_toList, this]
        exact h2
      · cases h
    · cases h

theorem VR.slice_inv {p : Addr} {n c : Nat} {cv : Value} (h : VR σ g (.slice (some p) n c) cv) : ∃ q cap, cv = .slice (some q) n cap ∧ n ≤ cap := by cases h; exact ⟨_, _, rfl, by assumption⟩
theorem VR.nilSlice_inv {n c : Nat} {cv : Value} (h : VR σ g (.slice none n c) cv) : n = 0 ∧ c = 0 ∧ cv = .slice none 0 0 := by cases h; exact ⟨rfl, rfl, rfl⟩

theorem bound_run {x : Value} {cx : Value} (hv : VR σ g x cx) {d k y : Nat} {code : BoundsCode} (hb : bound (some x) d = some k) (hk : k ≤ y) : (Instr.sliceBound cx y code).run P w = .ok k w := by
  cases x <;> simp only [bound, reduceCtorEq] at hb
  rename_i kd n
  split at hb
  · rename_i h0
    simp only [Option.some.injEq] at hb
    have h1 : n ≤ (y : Int) := by omega
    rw [hv.int_inv]
    simp only [Instr.sliceBound, asIntOf, Sem.run_bind, Sem.run_pure, Result.andThen_ok]
    rw [if_pos ⟨h0, h1⟩, Sem.run_pure, hb]
  · cases hb
/-- An operand that may be missing. -/
inductive OptR (σ : Emb) (g : Mem) : Option Value → Option Value → Prop
  | none : OptR σ g none none
  | some (u c : Value) (h : VR σ g u c) : OptR σ g (some u) (some c)

/-- The bounds of a slice, where they lie within what is known of it. -/
theorem bounds_run {lo hi : Option Value} {clo chi : Option Value} (hlo : OptR σ g lo clo) (hhi : OptR σ g hi chi) {n cap l k : Nat} (hn : n ≤ cap) (hl : bound lo 0 = some l) (hk : bound hi n = some k) (hlk : l ≤ k) (hkn : k ≤ n) (s : Bool) :
    (Instr.sliceBounds s n cap clo chi none).run P w = .ok (l, k, cap) w := by
  unfold Instr.sliceBounds
  cases hlo with
  | none =>
    simp only [bound, Option.some.injEq] at hl; subst hl
    cases hhi with
    | none => simp only [bound, Option.some.injEq] at hk; subst hk; rfl
    | some u c h =>
      have := bound_run (P := P) (w := w) h hk (show k ≤ cap by omega) (code := if s then .sliceAcap else .sliceAlen)
      simp only [Sem.run_bind, Sem.run_pure, Result.andThen_ok]
      rw [this]; rfl
  | some u c h =>
    have hlr := bound_run (P := P) (w := w) h hl hlk (code := .sliceB)
    cases hhi with
    | none =>
      simp only [bound, Option.some.injEq] at hk; subst hk
      simp only [Sem.run_bind, Sem.run_pure, Result.andThen_ok, Option.isSome_none, Bool.false_eq_true, if_false]
      rw [hlr]; rfl
    | some u' c' h' =>
      have := bound_run (P := P) (w := w) h' hk (show k ≤ cap by omega) (code := if s then .sliceAcap else .sliceAlen)
      simp only [Sem.run_bind, Sem.run_pure, Result.andThen_ok, Option.isSome_none, Bool.false_eq_true, if_false]
      rw [this]; simp only [Result.andThen_ok]
      rw [hlr]; rfl
end Go.Proofs.YtfbldlgjlgcpoaaDoor.AM

namespace Go.Proofs.YtfbldlgjlgcpoaaDoor.AM
open Go.RowKit

set_option linter.unusedSimpArgs false
variable {P : Program} {G N : Nat} {σ : Emb} {g : Mem} {w : World}

theorem sameNow_sound {kk : EqK} {d : TypeDesc} (hd : eqK d = some kk) {k j : Value} {b : Bool} (h : leafEq kk k j = some b) : Instr.sameNow d k j = some b := by
  cases d <;> simp only [eqK, Option.some.injEq, reduceCtorEq] at hd <;> subst hd
  · cases k <;> cases j <;> simp [leafEq] at h
    subst h; rfl
  · cases k <;> cases j <;> simp [leafEq] at h
    obtain ⟨rfl, rfl⟩ := h; simp [Instr.sameNow]
  · cases k <;> cases j <;> simp [leafEq] at h
    subst h; rfl
theorem findNow_sound {kk : EqK} {d : TypeDesc} (hd : eqK d = some kk) {k : Value} : ∀ {es : List (Value × Value)} {ms : List MapEntry} (_ : EntriesR σ g es ms) (i : Nat) {r : Option Value}, findKey kk k es = some r →
    (r = none → Instr.findNow d k ms i = some none) ∧ (∀ v, r = some v → ∃ j c, Instr.findNow d k ms i = some (some (j, c)) ∧ VR σ g v c)
  | _, _, .nil, i, r, h => by
    simp only [findKey, Option.some.injEq] at h; subst h
    exact ⟨fun _ => rfl, (fun v h => by cases h)⟩
  | _, _, .cons e m es ms he hs, i, r, h => by
    obtain ⟨kj, v⟩ := e
    unfold findKey at h
    have hkey : m.key = kj := he.key
    cases hq : leafEq kk k kj with
    | none => rw [hq] at h; cases h
    | some b =>
      rw [hq] at h
      have hn := sameNow_sound hd hq
      rw [← hkey] at hn
      cases b with
      | true =>
        simp only [Option.some.injEq] at h; subst h
        refine ⟨(fun h => by cases h), fun u hu => ?_⟩
        cases hu
        exact ⟨i, m.val, by unfold Instr.findNow; rw [hn], he.val⟩
      | false =>
        obtain ⟨h1, h2⟩ := findNow_sound hd hs (i + 1) h
        refine ⟨fun hr => ?_, fun u hu => ?_⟩
        · unfold Instr.findNow; rw [hn]; exact h1 hr
        · obtain ⟨j, c, h3, h4⟩ := h2 u hu
          exact ⟨j, c, by unfold Instr.findNow; rw [hn]; exact h3, h4⟩
theorem checkKey_run {kk : EqK} {d : TypeDesc} (hd : eqK d = some kk) {t : TypeId} (ht : P.underlying t = some d) {k : Value} (hk : keyOk kk k = true) (e : Bool) (n : Nat) : (Instr.checkKey e (n + 1) t k).run P w = .ok () w := by
  cases d <;> simp only [eqK, Option.some.injEq, reduceCtorEq] at hd <;> subst hd <;> cases k <;> simp only [keyOk, Bool.false_eq_true] at hk <;> simp [Instr.checkKey, run_und ht]
theorem keyOk_inv {kk : EqK} {k ck : Value} (hk : keyOk kk k = true) (h : VR σ g k ck) : ck = k := by
  cases kk <;> cases k <;> simp only [keyOk, Bool.false_eq_true] at hk <;> cases h <;> rfl

/-- What a look into a map answers. -/
def lookRes (ok : Bool) (z : Value) : Option Value → Value
  | some v => if ok then tup [v, .bool true] else v
  | none => if ok then tup [z, .bool false] else z
/-- What is looked up in a map. -/
theorem lookup_sound (hm : MR G N σ g w) {h : Heap} (hs : Sub g h) {t kt e : TypeId} {d : TypeDesc} {kk : EqK} (ht : P.underlying t = some (.map kt e)) (hk : P.underlying kt = some d) (hd : eqK d = some kk)
    {z : Value} (hz : zeroVal P e = some z) {m cm k ck : Value} (hvm : VR σ g m cm) (hvk : VR σ g k ck) (hok : keyOk kk k = true) {r : Option Value} {ok : Bool}
    (hr : mapAt h kk k m = some r) :
    ∃ cv, (Instr.lookup t cm ck ok).run P w = .ok cv w ∧ VR σ g (lookRes ok z r) cv := by
  have hck := keyOk_inv hok hvk
  subst hck
  have hzr := fun w => (run_zero hz w).1
  have hzp := (run_zero hz w).2
  have e0 : (10000 : Nat) = 9999 + 1 := rfl
  have fin : ∀ (es : Array MapEntry) (r : Option Value), (r = none → Instr.findNow d ck es.toList 0 = some none) → (∀ v, r = some v → ∃ j c, Instr.findNow d ck es.toList 0 = some (some (j, c)) ∧ VR σ g v c) →
      ∃ cv, (do
        Instr.checkKey es.isEmpty 10000 kt ck
        let (v, ok') ← match ← Instr.findKey kt ck es.toList with
          | some (_, v) => pure (v, true)
          | none => pure (← zeroValue e, false)
        pure (if ok then .tuple #[v, .bool ok'] else v) : Sem Value).run P w = .ok cv w ∧ VR σ g (lookRes ok z r) cv := by
    intro es r h1 h2
    have hc := checkKey_run (w := w) hd hk hok es.isEmpty 9999
    rw [e0]
    simp only [Sem.run_bind, hc, Result.andThen_ok]
    cases r with
    | none =>
      have hf : (Instr.findKey kt ck es.toList).run P w = .ok none w := by
        simp [Instr.findKey, run_und hk, h1 rfl]
      rw [hf]
      simp only [Result.andThen_ok, Sem.run_bind, hzr, Sem.run_pure]
      refine ⟨_, rfl, ?_⟩
      cases ok
      · exact .plain hzp
      · exact .tuple [z, .bool false] [z, .bool false] (.cons _ _ _ _ (.plain hzp) (.cons _ _ _ _ (.bool _) .nil))
    | some v =>
      obtain ⟨j, c, h3, h4⟩ := h2 v rfl
      have hf : (Instr.findKey kt ck es.toList).run P w = .ok (some (j, c)) w := by
        simp [Instr.findKey, run_und hk, h3]
      rw [hf]
      simp only [Result.andThen_ok, Sem.run_pure]
      refine ⟨_, rfl, ?_⟩
      cases ok
      · exact h4
      · exact .tuple [v, .bool true] [c, .bool true] (.cons _ _ _ _ h4 (.cons _ _ _ _ (.bool _) .nil))
  unfold Instr.lookup
  simp only [Sem.run_bind, run_und ht, Result.andThen_ok]
  cases hvm with
  | nilMap =>
    simp only [mapAt, Option.some.injEq] at hr
    subst hr
    have := fin #[] none (fun _ => rfl) (fun v h => by cases h)
    simp only [Sem.run_bind] at this
    simp only [Sem.run_bind, Sem.run_pure, Result.andThen_ok]
    exact this
  | map b s es hg hsb =>
    simp only [mapAt, hs _ _ hg] at hr
    have ho := hm.obj _ _ hg
    cases ho with
    | map _ ms clock hb hw he =>
      rw [← hsb] at hw
      have hgo : (getObj s).run P w = .ok (.map ⟨ms⟩ clock) w := by simp [getObj, Sem.run, hw]
      simp only [Sem.run_bind, hgo, Result.andThen_ok, Sem.run_pure]
      have hf := findNow_sound hd he 0 hr
      have := fin ⟨ms⟩ r hf.1 hf.2
      simp only [Sem.run_bind] at this
      exact this
  | _ => simp [mapAt] at hr
end Go.Proofs.YtfbldlgjlgcpoaaDoor.AM

namespace Go.Proofs.YtfbldlgjlgcpoaaDoor.AM
open Go.RowKit

set_option linter.unusedSimpArgs false
variable {P : Program} {G N : Nat} {σ : Emb} {g : Mem} {w : World}

theorem opt_map_some {α β : Type} {f : α → β} {o : Option α} {r : β} (h : o.map f = some r) : ∃ a, o = some a ∧ f a = r := Option.map_eq_some_iff.1 h
theorem VRs_map {ρ ρc : Operand → Value} {l : List Operand} (h : ∀ x ∈ l, VR σ g (ρ x) (ρc x)) : VRs σ g (l.map ρ) (l.map ρc) := VRs.map l h
theorem OptR_map {ρ ρc : Operand → Value} {o : Option Operand} (h : ∀ x, o = some x → VR σ g (ρ x) (ρc x)) : OptR σ g (o.map ρ) (o.map ρc) := by
  cases o with
  | none => exact .none
  | some x => exact .some _ _ (h x rfl)

/-- The slice of a slice. -/
theorem slice_sound {t e : TypeId} {m : Nat} (ht : P.underlying t = some (.slice e)) (hz : sizeT P e = some m) {p : Addr} {n : Nat} {cv : Value} (hv : VR σ g (.slice (some p) n m) cv) {lo hi clo chi : Option Value}
    (hlo : OptR σ g lo clo) (hhi : OptR σ g hi chi) {l k : Nat} (hl : bound lo 0 = some l) (hk : bound hi n = some k) (hlk : l ≤ k) (hkn : k ≤ n) :
    ∃ r, (Instr.sliceAt t cv clo chi none).run P w = .ok r w ∧ VR σ g (.slice (some { p with off := p.off + l * m }) (k - l) m) r := by
  cases hv with
  | slice _ q _ _ cap v vals ver ro hv hg hle hn hq =>
    have hb := fun w => bounds_run (P := P) (w := w) hlo hhi hn hl hk hlk hkn true
    refine ⟨.slice (some (if cap = l then q else q.add (l * m))) (k - l) (cap - l), ?_, .slice _ _ _ _ _ v vals ver ro hv hg hle (by omega) fun e => ?_⟩
    · simp only [Instr.sliceAt, Sem.run_bind, run_und ht, Result.andThen_ok, Instr.slice, hb, run_sizeOf hz, Sem.run_pure]
      congr 2
      split <;> simp
    · rcases hq e with ⟨hq, hsz⟩ | ⟨h0, hc0⟩
      · by_cases hcl : cap = l
        · exact .inr ⟨by omega, by omega⟩
        · left
          rw [if_neg hcl, hq, addr_add, Nat.add_assoc]
          refine ⟨rfl, fun hro => ?_⟩
          have := hsz hro
          simp only
          have e1 : cap * m = l * m + (cap - l) * m := by rw [← Nat.add_mul]; congr 1; omega
          omega
      · exact .inr ⟨by omega, by omega⟩
theorem sliceNil_sound {t e : TypeId} {m : Nat} (ht : P.underlying t = some (.slice e)) (hz : sizeT P e = some m) {n c : Nat} {cv : Value} (hv : VR σ g (.slice none n c) cv) {lo hi clo chi : Option Value}
    (hlo : OptR σ g lo clo) (hhi : OptR σ g hi chi) (hl : bound lo 0 = some 0) (hk : bound hi 0 = some 0) :
    (Instr.sliceAt t cv clo chi none).run P w = .ok nils w := by
  obtain ⟨_, _, rfl⟩ := hv.nilSlice_inv
  have hb := fun w => bounds_run (P := P) (w := w) hlo hhi (Nat.le_refl 0) hl hk (Nat.le_refl 0) (Nat.le_refl 0) true
  simp only [Instr.sliceAt, Sem.run_bind, run_und ht, Result.andThen_ok, Instr.slice, hb, run_sizeOf hz, Sem.run_pure]
  rfl
theorem sliceStr_sound {t : TypeId} (ht : P.underlying t = some .string) {s : ByteArray} {lo hi clo chi : Option Value}
    (hlo : OptR σ g lo clo) (hhi : OptR σ g hi chi) {l k : Nat} (hl : bound lo 0 = some l) (hk : bound hi s.size = some k) (hlk : l ≤ k) (hkn : k ≤ s.size) :
    (Instr.sliceAt t (.string s) clo chi none).run P w = .ok (.string (s.extract l k)) w := by
  have hb := fun w => bounds_run (P := P) (w := w) hlo hhi (Nat.le_refl s.size) hl hk hlk hkn false
  simp only [Instr.sliceAt, Sem.run_bind, run_und ht, Result.andThen_ok, Instr.slice, hb, Option.isSome_none, Bool.false_eq_true, if_false, Sem.run_pure]
theorem sliceArr_sound {t e : TypeId} {m n : Nat} (ht : P.underlying t = some (.array n e)) (hz : sizeT P e = some m) {p : Addr} {cv : Value} (hv : VR σ g (.pointer (some p)) cv)
    (hroom : ∀ vals ver ro, g p.block = some (.cells vals ver ro) → p.spot = some ver → ro = false → (σ p.block).base + p.off + n * m ≤ (σ p.block).size) {lo hi clo chi : Option Value}
    (hlo : OptR σ g lo clo) (hhi : OptR σ g hi chi) {l k : Nat} (hl : bound lo 0 = some l) (hk : bound hi n = some k) (hlk : l ≤ k) (hkn : k ≤ n) :
    ∃ r, (Instr.sliceAt t cv clo chi none).run P w = .ok r w ∧ VR σ g (.slice (some { p with off := p.off + l * m }) (k - l) m) r := by
  cases hv with
  | ptr _ q v vals ver ro hv hg hle hq =>
    have hb := fun w => bounds_run (P := P) (w := w) hlo hhi (Nat.le_refl n) hl hk hlk hkn false
    refine ⟨.slice (some (if n = l then q else q.add (l * m))) (k - l) (n - l), ?_, .slice _ _ _ _ _ v vals ver ro hv hg hle (by omega) fun e => ?_⟩
    · simp only [Instr.sliceAt, Sem.run_bind, run_und ht, Result.andThen_ok, hb, run_sizeOf hz, Sem.run_pure, Instr.sureAddr]
    · by_cases hcl : n = l
      · exact .inr ⟨by omega, by omega⟩
      · left
        rw [if_neg hcl, hq e, addr_add, Nat.add_assoc]
        refine ⟨rfl, fun hro => ?_⟩
        have := hroom vals ver ro hg (by rw [hv, e]) hro
        simp only
        have e1 : n * m = l * m + (n - l) * m := by rw [← Nat.add_mul]; congr 1; omega
        omega

/-- The parts of a literal. -/
theorem fields_sound {fs : Array Field} {z : List Value} {ρ ρc : Operand → Value} : ∀ {ps : List (Nat × Operand)} {qs : List (Nat × Nat × Operand)}, normFields P fs ps = some qs →
    qs.length = ps.length ∧ ∀ (i : Nat) q p, qs[i]? = some q → ps[i]? = some p → ∃ f, fs[p.1]? = some f ∧ q.1 = f.offset ∧ sizeT P f.type = some q.2.1 ∧ q.2.2 = p.2
  | [], qs, h => by
    simp only [normFields, Option.some.injEq] at h; subst h
    exact ⟨rfl, fun i q p hq => by simp at hq⟩
  | (i, x) :: r, qs, h => by
    unfold normFields at h
    cases hf : fs[i]? with
    | none => rw [hf] at h; cases h
    | some f =>
      rw [hf] at h
      simp only at h
      cases hz : sizeT P f.type with
      | none => rw [hz] at h; cases h
      | some n =>
        cases hr : normFields P fs r with
        | none => rw [hz, hr] at h; cases h
        | some l =>
          rw [hz, hr] at h
          simp only [Option.some.injEq] at h
          subst h
          obtain ⟨h1, h2⟩ := fields_sound (z := z) (ρ := ρ) (ρc := ρc) hr
          refine ⟨by simp [h1], fun j q p hq hp => ?_⟩
          cases j with
          | zero => simp at hq hp; subst hq; subst hp; exact ⟨f, hf, rfl, hz, rfl⟩
          | succ j => exact h2 j q p (by simpa using hq) (by simpa using hp)

theorem zeroVal_plain {t : TypeId} {v : Value} (h : zeroVal P t = some v) : plain v = true := (run_zero h default).2
theorem zeroOf_inv {t : TypeId} {l : List Value} (h : zeroOf P t = some l) : ∃ v, zeroVal P t = some v ∧ laid v = some l := by
  unfold zeroOf at h; exact Option.bind_eq_some_iff.1 h
theorem laid_cells {v : Value} {l : List Value} (h : laid v = some l) : v.cells = ⟨l⟩ := by
  cases v <;> simp only [laid, Option.some.injEq, reduceCtorEq] at h <;> subst h <;> rfl
theorem laid_plain {v : Value} {l : List Value} (h : laid v = some l) (hp : plain v = true) : l.all plain1 = true := by
  unfold plain at hp
  cases v <;> simp only [laid, Option.some.injEq, reduceCtorEq] at h <;> subst h <;> simp_all

/-- The places of a struct's fields, as the model gathers them. -/
theorem mapM_places {fs : Array Field} (h : ∀ f ∈ fs, (sizeT P f.type).isSome = true) :
    (fs.mapM fun f => do pure (f.offset, ← sizeOf f.type) : Sem (Array (Nat × Nat))).run P w = .ok (fs.map fun f => (f.offset, (sizeT P f.type).getD 0)) w := by
  rw [Array.mapM_eq_mapM_toList]
  have key : ∀ l : List Field, (∀ f ∈ l, (sizeT P f.type).isSome = true) → (l.mapM fun f => do pure (f.offset, ← sizeOf f.type) : Sem (List (Nat × Nat))).run P w = .ok (l.map fun f => (f.offset, (sizeT P f.type).getD 0)) w := by
    intro l
    induction l with
    | nil => intro _; rfl
    | cons f l ih =>
      intro h
      obtain ⟨n, hn⟩ := Option.isSome_iff_exists.1 (h f (by simp))
      rw [List.mapM_cons]
      simp only [Sem.run_bind, run_sizeOf hn, Result.andThen_ok, Sem.run_pure, ih fun g hg => h g (by simp [hg]), List.map_cons, hn, Option.getD_some]
  simp only [Sem.run_map, key fs.toList (fun f hf => h f (Array.mem_toList_iff.1 hf)), Result.andThen_ok]
  congr 1
  apply Array.ext'
  simp
end Go.Proofs.YtfbldlgjlgcpoaaDoor.AM

namespace Go.Proofs.YtfbldlgjlgcpoaaDoor.AM
open Go.RowKit

set_option linter.unusedSimpArgs false
variable {P : Program} {G N : Nat} {σ : Emb} {g : Mem} {w : World}

theorem len_arr_run {t ty : TypeId} {x : Value} {n : Nat} {e : TypeId} (h : P.underlying t = some (.array n e) ∨ ∃ a, P.underlying t = some (.pointer a) ∧ P.underlying a = some (.array n e)) :
    (Builtin.len_ #[t] ty #[x]).run P w = .ok (.int .i64 n) w := by
  rcases h with h | ⟨a, h, h'⟩
  · unfold Builtin.len_
    cases x <;> simp [run_und h, goInt]
  · unfold Builtin.len_
    cases x <;> simp [run_und h, run_und h', goInt]

theorem VR.func_inv {f : Fn} {a b : Array Value} {c : Value} (h : VR σ g (.func f a b) c) : ∃ ys vs, c = .func f ⟨ys⟩ ⟨vs⟩ := by cases h; exact ⟨_, _, rfl⟩
theorem binOp_eqs (neg : Bool) (t : TypeId) {u v : Value} (hni : ∀ k a k' a', ¬ (u = .int k a ∧ v = .int k' a')) (hns : ∀ s s', ¬ (u = .string s ∧ v = .string s'))
    (hnf : ∀ k a k' a', ¬ (u = .float k a ∧ v = .float k' a')) (hnc : ∀ k a c k' a' c', ¬ (u = .complex k a c ∧ v = .complex k' a' c')) :
    binOp (if neg then .neq else .eql) t u v = (do pure (.bool ((← Op.equal t u v) != neg)) : Sem Value) := by
  cases neg
  · simp only [Bool.false_eq_true, if_false, Bool.bne_false]
    cases u <;> cases v <;> first | rfl | exact absurd ⟨rfl, rfl⟩ (hni _ _ _ _) | exact absurd ⟨rfl, rfl⟩ (hns _ _) | exact absurd ⟨rfl, rfl⟩ (hnf _ _ _ _) | exact absurd ⟨rfl, rfl⟩ (hnc _ _ _ _ _ _)
  · simp only [if_true, Bool.bne_true]
    cases u <;> cases v <;> first | rfl | exact absurd ⟨rfl, rfl⟩ (hni _ _ _ _) | exact absurd ⟨rfl, rfl⟩ (hns _ _) | exact absurd ⟨rfl, rfl⟩ (hnf _ _ _ _) | exact absurd ⟨rfl, rfl⟩ (hnc _ _ _ _ _ _)
theorem leaves_kinds {d : Nat} : ∀ {t : TypeId} {ks : List EqK}, leaves P d t = some ks → ∀ k ∈ ks, k = .bool ∨ k = .int ∨ k = .str := by
  induction d with
  | zero => intro t ks h; simp [leaves] at h
  | succ d ih =>
    intro t ks h
    unfold leaves at h
    cases hu : P.underlying t with
    | none => rw [hu] at h; cases h
    | some q =>
      rw [hu] at h
      cases q
      case struct fs =>
        simp only at h
        split at h
        · cases h
        have key : ∀ (l : List Field) (o : Nat) (ks : List EqK), leaves.leavesOf (leaves P d) (fun u => (P.info? u).map (·.size)) l o = some ks → ∀ k ∈ ks, k = .bool ∨ k = .int ∨ k = .str := by
          intro l
          induction l with
          | nil => intro o ks h k hk; simp only [leaves.leavesOf, Option.some.injEq] at h; subst h; simp at hk
          | cons f l ihl =>
            intro o ks h k hk
            unfold leaves.leavesOf at h
            split at h
            · cases h
            cases hl : leaves P d f.type with
            | none => rw [hl] at h; cases h
            | some l1 =>
              cases hz : (P.info? f.type).map (·.size) with
              | none => rw [hl, hz] at h; cases h
              | some n =>
                rw [hl, hz] at h
                simp only at h
                split at h
                · obtain ⟨k2, hk2, rfl⟩ := opt_map_some h
                  rcases List.mem_append.1 hk with hk | hk
                  · exact ih hl k hk
                  · exact ihl _ _ hk2 k hk
                · cases h
        exact key _ _ _ h
      case array n e =>
        simp only [Option.bind_eq_some_iff] at h
        obtain ⟨l, hl, h⟩ := h
        split at h
        · cases h
          intro k hk
          have : ∀ n, k ∈ repl n l → k ∈ l := by
            intro n
            induction n with
            | zero => intro h; simp [repl] at h
            | succ n ihn => intro h; rcases List.mem_append.1 h with h | h; exact h; exact ihn h
          exact ih hl k (this _ hk)
        · cases h
      all_goals
        simp only [Option.map_eq_some_iff] at h
        obtain ⟨k0, hk0, rfl⟩ := h
        intro k hk
        simp only [List.mem_singleton] at hk
        subst hk
        simp only [eqK, Option.some.injEq, reduceCtorEq] at hk0
        try (subst hk0; simp)

theorem EntriesR.length {es : List (Value × Value)} {ms : List MapEntry} (h : EntriesR σ g es ms) : es.length = ms.length := by
  induction h with
  | nil => rfl
  | cons _ _ _ _ _ _ ih => simp [ih]
set_option maxHeartbeats 1000000 in
theorem still_call (call : Caller) (hm : MR G N σ g w) {h : Heap} (hs : Sub g h) {ρ ρc : Operand → Value} {dst : Option Tmp} {c : Call} {ty : TypeId} {pos : String} {after : Array Edge} {guard : Option (Nat × Bool)} {ao : AOp}
    (hn : normOp P ty (.call c) = some ao) (hk : ao.acts = false)
    (hv : ∀ x ∈ (Op.call c).operands, VR σ g (ρ x) (ρc x)) (hc : ∀ v, ρ (.const v) = v ∧ ρc (.const v) = v) {v : Value} {h' : Heap} (he : evOp call ρ h ao = some (v, h')) :
    h' = h ∧ Still P w σ g v (execOp ρc ⟨dst, .call c, ty, pos, after, guard⟩) := by
  obtain ⟨callee, ⟨as⟩, ⟨ts⟩⟩ := c
  simp only [normOp, normCall] at hn
  split at hn
  · rename_i x t
    have hx := hv x (by simp [Op.operands, Call.operands])
    have hrun : ∀ r, (Builtin.len_ #[t] ty #[ρc x]).run P w = .ok r w → VR σ g v r → Still P w σ g v (execOp ρc ⟨dst, .call ⟨.builtin .len, ⟨[x]⟩, ⟨[t]⟩⟩, ty, pos, after, guard⟩) := by
      intro r hr hvr
      refine ⟨r, ?_, hvr⟩
      simp only [execOp, resolve, List.map_toArray, List.map_cons, List.map_nil, Sem.run_bind, Sem.run_pure, Result.andThen_ok, invoke, builtin]
      rw [hr]
      rfl
    have consts : ∀ (n : Nat) e, ao = .mv (.const (.int .i64 n)) → (P.underlying t = some (.array n e) ∨ ∃ a, P.underlying t = some (.pointer a) ∧ P.underlying a = some (.array n e)) →
        h' = h ∧ Still P w σ g v (execOp ρc ⟨dst, .call ⟨.builtin .len, ⟨[x]⟩, ⟨[t]⟩⟩, ty, pos, after, guard⟩) := by
      rintro n e rfl ht
      simp only [evOp, (hc _).1, Option.some.injEq, Prod.mk.injEq] at he
      obtain ⟨rfl, rfl⟩ := he
      exact ⟨rfl, hrun _ (len_arr_run ht) (.int _ _)⟩
    cases hu : P.underlying t with
    | none => rw [hu] at hn; cases hn
    | some d =>
      rw [hu] at hn
      cases d <;> simp only [reduceCtorEq] at hn
      case string =>
        simp only [Option.some.injEq] at hn; subst hn
        simp only [evOp] at he
        split at he
        · rename_i s hxs
          simp only [Option.some.injEq, Prod.mk.injEq] at he
          obtain ⟨rfl, rfl⟩ := he
          rw [hxs] at hx
          refine ⟨rfl, hrun _ ?_ (.int _ _)⟩
          rw [hx.string_inv]
          simp [Builtin.len_, run_und hu, goInt]
        · cases he
      case slice e =>
        simp only [Option.some.injEq] at hn; subst hn
        simp only [evOp] at he
        split at he
        · rename_i a n c hxs
          simp only [Option.some.injEq, Prod.mk.injEq] at he
          obtain ⟨rfl, rfl⟩ := he
          rw [hxs] at hx
          refine ⟨rfl, hrun _ ?_ (.int _ _)⟩
          generalize ρc x = cx at hx ⊢
          cases hx <;> simp [Builtin.len_, run_und hu, goInt]
        · cases he
      case array n e =>
        simp only [Option.some.injEq] at hn
        exact consts n e hn.symm (.inl hu)
      case pointer a =>
        cases hua : P.underlying a with
        | none => rw [hua] at hn; cases hn
        | some d2 =>
          rw [hua] at hn
          cases d2 <;> simp only [reduceCtorEq, Option.some.injEq] at hn
          exact consts _ _ hn.symm (.inr ⟨a, hu, hua⟩)
      case map k e =>
        simp only [Option.some.injEq] at hn; subst hn
        simp only [evOp] at he
        split at he
        · rename_i hxs
          simp only [Option.some.injEq, Prod.mk.injEq] at he
          obtain ⟨rfl, rfl⟩ := he
          rw [hxs] at hx
          refine ⟨rfl, hrun _ ?_ (.int _ _)⟩
          generalize ρc x = cx at hx ⊢
          cases hx
          simp [Builtin.len_, run_und hu, goInt]
        · rename_i b hxs
          split at he
          · rename_i es hb
            simp only [Option.some.injEq, Prod.mk.injEq] at he
            obtain ⟨rfl, rfl⟩ := he
            rw [hxs] at hx
            refine ⟨rfl, hrun _ ?_ (.int _ _)⟩
            generalize ρc x = cx at hx ⊢
            cases hx with
            | map _ s es' hg hsb =>
              have := hs _ _ hg
              rw [hb] at this
              cases this
              have ho := hm.obj _ _ hg
              cases ho with
              | map _ ms clock hbn hw hent =>
                rw [← hsb] at hw
                have hgo : (getObj s).run P w = .ok (.map ⟨ms⟩ clock) w := by simp [getObj, Sem.run, hw]
                simp [Builtin.len_, run_und hu, goInt, hgo, hent.length]
          · cases he
        · cases he
  · rename_i x y t u
    exfalso
    split at hn
    · split at hn
      · split at hn
        · simp only [Option.some.injEq] at hn; subst hn; simp [AOp.acts] at hk
        · cases hn
      · cases hn
    · cases hn
  · rename_i x y
    split at hn
    · simp only [Option.some.injEq] at hn; subst hn
      simp only [evOp] at he
      split at he
      · rename_i k a k' b hxs hys
        simp only [Option.some.injEq, Prod.mk.injEq] at he
        obtain ⟨rfl, rfl⟩ := he
        have hx := hv x (by simp [Op.operands, Call.operands])
        have hy := hv y (by simp [Op.operands, Call.operands])
        rw [hxs] at hx; rw [hys] at hy
        refine ⟨rfl, _, ?_, .int _ _⟩
        simp only [execOp, resolve, List.map_toArray, List.map_cons, List.map_nil, Sem.run_bind, Sem.run_pure, Result.andThen_ok, invoke, builtin, hx.int_inv, hy.int_inv, Builtin.max_, List.foldlM_cons, List.foldlM_nil, Builtin.max2]
      · cases he
    · cases hn
  · rename_i x y
    split at hn
    · simp only [Option.some.injEq] at hn; subst hn
      simp only [evOp] at he
      split at he
      · rename_i k a k' b hxs hys
        simp only [Option.some.injEq, Prod.mk.injEq] at he
        obtain ⟨rfl, rfl⟩ := he
        have hx := hv x (by simp [Op.operands, Call.operands])
        have hy := hv y (by simp [Op.operands, Call.operands])
        rw [hxs] at hx; rw [hys] at hy
        refine ⟨rfl, _, ?_, .int _ _⟩
        simp only [execOp, resolve, List.map_toArray, List.map_cons, List.map_nil, Sem.run_bind, Sem.run_pure, Result.andThen_ok, invoke, builtin, hx.int_inv, hy.int_inv, Builtin.min_, List.foldlM_cons, List.foldlM_nil, Builtin.min2]
      · cases he
    · cases hn
  · split at hn
    · simp only [Option.some.injEq] at hn; subst hn; simp [AOp.acts] at hk
    · cases hn
  · simp only [Option.some.injEq] at hn; subst hn; simp [AOp.acts] at hk
  · cases hn

theorem normMap_mk {d : Option TypeDesc} {r : Option Operand} {ao : AOp} (h : normMap d r = some ao) : ao = .mkMap := by
  unfold normMap at h
  split at h <;> first | (cases h; done) | (simp only [Option.some.injEq] at h; exact h.symm)
set_option maxHeartbeats 4000000 in
theorem still_op (call : Caller) (hm : MR G N σ g w) {h : Heap} (hs : Sub g h) {ρ ρc : Operand → Value} {o : Oper} {ao : AOp} (hn : normOp P o.type o.op = some ao) (hk : ao.acts = false) (hk' : ao.makes = false)
    (hv : ∀ x ∈ o.op.operands, VR σ g (ρ x) (ρc x)) (hc : ∀ v, ρ (.const v) = v ∧ ρc (.const v) = v) {v : Value} {h' : Heap} (he : evOp call ρ h ao = some (v, h')) :
    h' = h ∧ Still P w σ g v (execOp ρc o) := by
  obtain ⟨dst, op, ty, pos, after, guard⟩ := o
  simp only at hn hv
  cases op
  case move x =>
    simp only [normOp, Option.some.injEq] at hn; subst hn
    simp only [evOp, Option.some.injEq, Prod.mk.injEq] at he
    obtain ⟨rfl, rfl⟩ := he
    exact ⟨rfl, ρc x, rfl, hv x (by simp [Op.operands])⟩
  case assign x =>
    simp only [normOp, Option.some.injEq] at hn; subst hn
    simp only [evOp, Option.some.injEq, Prod.mk.injEq] at he
    obtain ⟨rfl, rfl⟩ := he
    exact ⟨rfl, ρc x, rfl, hv x (by simp [Op.operands])⟩
  case pick c a b =>
    simp only [normOp, Option.some.injEq] at hn; subst hn
    have hcv := hv c (by simp [Op.operands])
    have ha := hv a (by simp [Op.operands])
    have hb := hv b (by simp [Op.operands])
    simp only [evOp] at he
    split at he
    · rename_i t ht
      rw [ht] at hcv
      simp only [Option.some.injEq, Prod.mk.injEq] at he
      obtain ⟨rfl, rfl⟩ := he
      refine ⟨rfl, if t then ρc a else ρc b, ?_, ?_⟩
      · simp only [execOp, hcv.bool_inv, asBool, Sem.run_bind, Sem.run_pure, Result.andThen_ok]
      · cases t
        · exact hb
        · exact ha
    · cases he
  case build t ps =>
    simp only [normOp] at hn
    cases hz : zeroOf P t with
    | none => rw [hz] at hn; split at hn <;> simp_all
    | some z =>
      obtain ⟨zv, hzv, hzl⟩ := zeroOf_inv hz
      have hzc := laid_cells hzl
      have hzp := laid_plain hzl (zeroVal_plain hzv)
      have hz0 : VRs σ g z z := .plain1 hzp
      have hz1 : ∀ x ∈ z, single x = true := fun x hx => single_of_plain1 (List.all_eq_true.1 hzp x hx)
      cases hu : P.underlying t with
      | none => rw [hu] at hn; cases hn
      | some d =>
        rw [hu, hz] at hn
        cases d <;> simp only [reduceCtorEq] at hn
        case struct fs =>
          split at hn
          · rename_i hall
            obtain ⟨qs, hq, rfl⟩ := opt_map_some hn
            obtain ⟨hql, hqf⟩ := fields_sound (z := z) (ρ := ρ) (ρc := ρc) hq
            simp only [evOp] at he
            obtain ⟨l, hl, hr⟩ := opt_map_some he
            simp only [Prod.mk.injEq] at hr
            obtain ⟨rfl, rfl⟩ := hr
            have hsz : ∀ f ∈ fs, (sizeT P f.type).isSome = true := fun f hf => List.all_eq_true.1 hall f (Array.mem_toList_iff.2 hf)
            obtain ⟨ds, h1, h2, h3, _⟩ := fill_sound (place := fun i => (fs.map fun f => (f.offset, (sizeT P f.type).getD 0))[i]?) (qs.map fun p => (p.1, p.2.1, ρ p.2.2)) (ps.map fun (i, x) => (i, ρc x)).toList z z l hz0 hz1
              (by simp [hql]) (fun i p q hp hq' => by
                simp only [List.getElem?_map, Option.map_eq_some_iff] at hp
                obtain ⟨p0, hp0, rfl⟩ := hp
                simp only [Array.toList_map, List.getElem?_map, Option.map_eq_some_iff] at hq'
                obtain ⟨q0, hq0, rfl⟩ := hq'
                obtain ⟨f, hf1, hf2, hf3, hf4⟩ := hqf i p0 q0 hp0 hq0
                refine ⟨by simp [hf1, hf2, hf3], ?_⟩
                simp only [hf4]
                refine hv _ ?_
                have hmem : q0 ∈ ps.toList := List.mem_of_getElem? hq0
                simp only [Op.operands, List.mem_toArray, List.mem_map]
                exact ⟨q0, hmem, rfl⟩) hl
            refine ⟨rfl, .agg ⟨ds⟩, ?_, .agg _ _ h2 h3⟩
            have hpl := mapM_places (P := P) (w := w) hsz
            simp only [execOp, Instr.build, Sem.run_bind, (run_zero hzv w).1, Result.andThen_ok, run_und hu, hzc]
            rw [hpl]
            simp only [Result.andThen_ok, h1, Sem.run_pure]
          · cases hn
        case array n e =>
          obtain ⟨qs, hq, rfl⟩ := opt_map_some hn
          unfold normParts at hq
          obtain ⟨m, hm', rfl⟩ := opt_map_some hq
          simp only [evOp] at he
          obtain ⟨l, hl, hr⟩ := opt_map_some he
          simp only [Prod.mk.injEq] at hr
          obtain ⟨rfl, rfl⟩ := hr
          obtain ⟨ds, h1, h2, h3, _⟩ := fill_sound (place := fun i => some (i * m, m)) ((ps.toList.map fun p => (p.1 * m, m, p.2)).map fun p => (p.1, p.2.1, ρ p.2.2)) (ps.map fun (i, x) => (i, ρc x)).toList z z l hz0 hz1
            (by simp) (fun i p q hp hq' => by
              simp only [List.getElem?_map, Option.map_map, Option.map_eq_some_iff] at hp
              obtain ⟨p0, hp0, rfl⟩ := hp
              simp only [Array.toList_map, List.getElem?_map, Option.map_eq_some_iff] at hq'
              obtain ⟨q0, hq0, rfl⟩ := hq'
              rw [hp0] at hq0; cases hq0
              refine ⟨rfl, ?_⟩
              refine hv _ ?_
              have hmem : p0 ∈ ps.toList := List.mem_of_getElem? hp0
              simp only [Op.operands, List.mem_toArray, List.mem_map]
              exact ⟨p0, hmem, rfl⟩) hl
          refine ⟨rfl, .agg ⟨ds⟩, ?_, .agg _ _ h2 h3⟩
          simp only [execOp, Instr.build, Sem.run_bind, (run_zero hzv w).1, Result.andThen_ok, run_und hu, hzc, run_sizeOf hm', h1, Sem.run_pure]
  case load t a =>
    simp only [normOp] at hn
    have ha := hv a (by simp [Op.operands])
    cases hag : aggT P t with
    | none => rw [hag] at hn; cases hn
    | some b =>
      cases hz : sizeT P t with
      | none => rw [hag, hz] at hn; cases b <;> cases hn
      | some n =>
        rw [hag, hz] at hn
        cases b <;> simp only [Option.some.injEq] at hn <;> subst hn <;> simp only [evOp] at he
        · split at he
          · rename_i p hp
            rw [hp] at ha
            obtain ⟨u, hu, hr⟩ := opt_map_some he
            simp only [Prod.mk.injEq] at hr
            obtain ⟨rfl, rfl⟩ := hr
            exact ⟨rfl, still_of (load1_sound hm hs hag ha hu)⟩
          · cases he
        · split at he
          · rename_i p hp
            rw [hp] at ha
            obtain ⟨l, hl, hr⟩ := opt_map_some he
            simp only [Prod.mk.injEq] at hr
            obtain ⟨rfl, rfl⟩ := hr
            exact ⟨rfl, still_of (load_sound hm hs hag hz ha hl)⟩
          · cases he
  case nilCheck x =>
    simp only [normOp, Option.some.injEq] at hn; subst hn
    have hx := hv x (by simp [Op.operands])
    simp only [evOp] at he
    split at he
    · rename_i p hp
      simp only [Option.some.injEq, Prod.mk.injEq] at he
      obtain ⟨rfl, rfl⟩ := he
      rw [hp] at hx
      obtain ⟨q, hq⟩ := hx.ptr_inv
      refine ⟨rfl, ρc x, ?_, hx⟩
      simp only [execOp, hq, Sem.run_pure]
    · rename_i f a b hp
      simp only [Option.some.injEq, Prod.mk.injEq] at he
      obtain ⟨rfl, rfl⟩ := he
      rw [hp] at hx
      refine ⟨rfl, ρc x, ?_, hx⟩
      obtain ⟨ys, vs, hq⟩ := hx.func_inv
      simp only [execOp, hq, Sem.run_pure]
    · cases he
  case binOp op t x y yt =>
    have hx := hv x (by simp [Op.operands])
    have hy := hv y (by simp [Op.operands])
    have bins : ∀ bop, ao = .bin bop x y → op = bop → h' = h ∧ Still P w σ g v (execOp ρc ⟨dst, .binOp op t x y yt, ty, pos, after, guard⟩) := by
      rintro bop rfl rfl
      simp only [evOp] at he
      obtain ⟨r, hr, he⟩ := opt_map_some he
      simp only [Prod.mk.injEq] at he
      obtain ⟨rfl, rfl⟩ := he
      obtain ⟨h1, h2⟩ := bin_sound (P := P) (w := w) (t := t) (x := x) (y := y) hx hy hr
      exact ⟨rfl, still_of ⟨r, h1, .plain1 h2⟩⟩
    have eqs : ∀ neg, op = (if neg then .neq else .eql) → normEq P neg t x y = some ao → h' = h ∧ Still P w σ g v (execOp ρc ⟨dst, .binOp op t x y yt, ty, pos, after, guard⟩) := by
      intro neg hop hne
      unfold normEq at hne
      cases hu : P.underlying t with
      | none => rw [hu] at hne; cases hne
      | some d =>
        rw [hu] at hne
        have fin : ∀ b : Bool, (eqGuard op t x y (ρc x) (ρc y)).run P w = .ok () w → (Op.equal t (ρc x) (ρc y)).run P w = .ok b w → (∀ k a k' a', ¬ (ρc x = .int k a ∧ ρc y = .int k' a')) →
            (∀ s s', ¬ (ρc x = .string s ∧ ρc y = .string s')) → (∀ k a k' a', ¬ (ρc x = .float k a ∧ ρc y = .float k' a')) → (∀ k a c k' a' c', ¬ (ρc x = .complex k a c ∧ ρc y = .complex k' a' c')) →
            Still P w σ g (.bool (b != neg)) (execOp ρc ⟨dst, .binOp op t x y yt, ty, pos, after, guard⟩) := by
          intro b hg he hni hns hnf hnc
          refine still_of ⟨.bool (b != neg), ?_, .bool _⟩
          simp only [Sem.run_bind, hg, Result.andThen_ok]
          subst hop
          have hb : binOp (if neg then .neq else .eql) t (ρc x) (ρc y) = (do pure (.bool ((← Op.equal t (ρc x) (ρc y)) != neg)) : Sem Value) := binOp_eqs neg t hni hns hnf hnc
          rw [hb]
          simp only [Sem.run_bind, he, Result.andThen_ok, Sem.run_pure]
        have aggs : (∃ fs, d = .struct fs) ∨ (∃ n e, d = .array n e) → (if P.eqGuardType P.depth t then none else (leaves P 8 t).map fun ks => AOp.eqAgg neg ks x y) = some ao →
            h' = h ∧ Still P w σ g v (execOp ρc ⟨dst, .binOp op t x y yt, ty, pos, after, guard⟩) := by
          intro hd hao
          split at hao
          · cases hao
          rename_i hng
          obtain ⟨ks, hks, rfl⟩ := opt_map_some hao
          simp only [evOp] at he
          split at he
          · rename_i xs ys hxs hys
            split at he
            · rename_i hlen
              obtain ⟨b, hb, he⟩ := opt_map_some he
              simp only [Prod.mk.injEq] at he
              obtain ⟨rfl, rfl⟩ := he
              rw [hxs] at hx; rw [hys] at hy
              obtain ⟨cx, hcx, hvx, _⟩ := hx.agg_inv
              obtain ⟨cy, hcy, hvy, _⟩ := hy.agg_inv
              have hlx : xs.toList.length = ks.length := hlen.1
              have hly : ys.toList.length = ks.length := hlen.2
              have same : ∀ (ks : List EqK) (a b ca cb : List Value) (r : Bool), VRs σ g a ca → VRs σ g b cb → rowEq ks a b = some r → (∀ k ∈ ks, k = .bool ∨ k = .int ∨ k = .str) → rowEq ks ca cb = some r := by
                intro ks
                induction ks with
                | nil => intro a b ca cb r ha hb hr _; cases ha <;> cases hb <;> first | exact hr | cases hr
                | cons k ks ih =>
                  intro a b ca cb r ha hb hr hk
                  cases ha with
                  | nil => cases hr
                  | cons u c us cs hu hus =>
                    cases hb with
                    | nil => cases hr
                    | cons u' c' us' cs' hu' hus' =>
                      simp only [rowEq] at hr ⊢
                      have hl : ∀ b, leafEq k u u' = some b → c = u ∧ c' = u' := by
                        intro b hb
                        rcases hk k (by simp) with rfl | rfl | rfl <;> cases u <;> cases u' <;> simp only [leafEq, reduceCtorEq] at hb <;> cases hu <;> cases hu' <;> exact ⟨rfl, rfl⟩
                      cases hq : leafEq k u u' with
                      | none => rw [hq] at hr; cases hr
                      | some b0 =>
                        obtain ⟨rfl, rfl⟩ := hl b0 hq
                        rw [hq] at hr ⊢
                        cases b0 with
                        | false => exact hr
                        | true => exact ih _ _ _ _ _ hus hus' hr fun k hk' => hk k (by simp [hk'])
              have hkinds : ∀ k ∈ ks, k = .bool ∨ k = .int ∨ k = .str := leaves_kinds hks
              have hr := same ks _ _ _ _ b hvx hvy hb hkinds
              have hq := eq_leaves (P := P) (w := w) 8 9992 t ks cx cy b hks (by rw [← hvx.length]; exact hlx) (by rw [← hvy.length]; exact hly) hr
              have hvv : ∀ l, valOf P t l = .agg ⟨l⟩ := fun l => by unfold valOf; rw [hu]; rcases hd with ⟨fs, rfl⟩ | ⟨n, e, rfl⟩ <;> rfl
              rw [hvv, hvv, ← hcx, ← hcy] at hq
              refine ⟨rfl, fin b ?_ hq ?_ ?_ ?_ ?_⟩
              · rw [hcx, hcy]
                subst hop
                cases neg <;> simp [eqGuard, hng]
              all_goals (intros; rw [hcx]; simp)
            · cases he
          · cases he
        have lf : ∀ k, eqK1 d = some k → ao = .eqv neg k x y → (k = .iface → isNilIface x = true ∨ isNilIface y = true) → h' = h ∧ Still P w σ g v (execOp ρc ⟨dst, .binOp op t x y yt, ty, pos, after, guard⟩) := by
          rintro k hkk rfl hif
          simp only [evOp] at he
          obtain ⟨b, hb, he⟩ := opt_map_some he
          simp only [Prod.mk.injEq] at he
          obtain ⟨rfl, rfl⟩ := he
          obtain ⟨h1, h2⟩ := leafEq_eqv (P := P) (w := w) hkk hu hx hy hb (op := op) (x := x) (y := y) hif
          have hkind : k ≠ .int ∧ k ≠ .str := by constructor <;> (rintro rfl; cases d <;> simp [eqK1] at hkk)
          have hno : ∀ u u', VR σ g u (ρc x) → VR σ g u' (ρc y) → leafEq k u u' = some b → (∀ k a k' a', ¬ (ρc x = .int k a ∧ ρc y = .int k' a')) ∧
              (∀ s s', ¬ (ρc x = .string s ∧ ρc y = .string s')) ∧ (∀ k a k' a', ¬ (ρc x = .float k a ∧ ρc y = .float k' a')) ∧ (∀ k a c k' a' c', ¬ (ρc x = .complex k a c ∧ ρc y = .complex k' a' c')) := by
            intro u u' hu hu' hl
            refine ⟨?_, ?_, ?_, ?_⟩
            all_goals
              intros
              rintro ⟨ha, hb'⟩
              rw [ha] at hu; rw [hb'] at hu'
              cases hu <;> cases hu' <;> (first | (rw [leafEq_chan1] at hl; cases hl) | (rw [leafEq_chan2] at hl; cases hl) | (cases k <;> simp_all [leafEq]))
          obtain ⟨n1, n2, n3, n4⟩ := hno _ _ hx hy hb
          exact ⟨rfl, fin b h1 h2 n1 n2 n3 n4⟩
        cases d
        case int k => simp only [Option.some.injEq] at hne; exact bins _ hne.symm hop
        case string => simp only [Option.some.injEq] at hne; exact bins _ hne.symm hop
        case struct fs => exact aggs (.inl ⟨fs, rfl⟩) hne
        case array n e => exact aggs (.inr ⟨n, e, rfl⟩) hne
        case interface ms =>
          simp only at hne
          split at hne
          · rename_i hni
            simp only [Option.some.injEq] at hne
            exact lf _ rfl hne.symm (fun _ => by simpa [Bool.or_eq_true] using hni)
          · cases hne
        all_goals
          first
            | (simp only [eqK1, Option.map_some, Option.some.injEq, Option.map_none, reduceCtorEq] at hne; exact lf _ rfl hne.symm (by intro h; cases h))
            | (simp [eqK1] at hne; done)
    simp only [normOp] at hn
    cases op <;> simp only at hn
    case eql => exact eqs false rfl hn
    case neq => exact eqs true rfl hn
    all_goals
      split at hn
      · simp only [Option.some.injEq] at hn; exact bins _ hn.symm rfl
      · cases hn
  case unOp op t x =>
    simp only [normOp, Option.some.injEq] at hn; subst hn
    simp only [evOp] at he
    obtain ⟨r, hr, he⟩ := opt_map_some he
    simp only [Prod.mk.injEq] at he
    obtain ⟨rfl, rfl⟩ := he
    obtain ⟨h1, h2⟩ := un_sound (P := P) (w := w) (hv x (by simp [Op.operands])) hr
    exact ⟨rfl, still_of ⟨r, h1, .plain1 h2⟩⟩
  case convert s d x =>
    have hx := hv x (by simp [Op.operands])
    simp only [normOp] at hn
    cases hsu : P.underlying s with
    | none => rw [hsu] at hn; cases hn
    | some ds =>
      cases hdu : P.underlying d with
      | none => rw [hsu, hdu] at hn; cases ds <;> cases hn
      | some dd =>
        rw [hsu, hdu] at hn
        cases ds <;> cases dd <;> simp only [reduceCtorEq, Option.some.injEq] at hn
        · subst hn
          simp only [evOp] at he
          split at he
          · rename_i k n hxv
            simp only [Option.some.injEq, Prod.mk.injEq] at he
            obtain ⟨rfl, rfl⟩ := he
            rw [hxv] at hx
            refine ⟨rfl, still_of ⟨_, ?_, .int _ _⟩⟩
            rw [hx.int_inv]
            simp [convert, run_und hsu, run_und hdu, Conv.intToInt]
          · cases he
        · subst hn
          simp only [evOp] at he
          split at he
          · rename_i n hxv
            simp only [Option.some.injEq, Prod.mk.injEq] at he
            obtain ⟨rfl, rfl⟩ := he
            rw [hxv] at hx
            refine ⟨rfl, still_of ⟨_, ?_, .string _⟩⟩
            rw [hx.string_inv]
            simp [convert, run_und hsu, run_und hdu]
          · cases he
  case makeInterface t x =>
    have hx := hv x (by simp [Op.operands])
    simp only [normOp] at hn
    cases hu : P.underlying t with
    | none => rw [hu] at hn; cases hn
    | some d =>
      rw [hu] at hn
      have fin : ao = .iface t x → (∀ ms, d ≠ .interface ms) → h' = h ∧ Still P w σ g v (execOp ρc ⟨dst, .makeInterface t x, ty, pos, after, guard⟩) := by
        rintro rfl hni
        simp only [evOp, Option.some.injEq, Prod.mk.injEq] at he
        obtain ⟨rfl, rfl⟩ := he
        refine ⟨rfl, still_of ⟨.iface t (ρc x), ?_, .iface _ _ _ hx⟩⟩
        simp only [Instr.makeInterface, Sem.run_bind, run_und hu, Result.andThen_ok]
        cases d <;> first | rfl | exact absurd rfl (hni _)
      cases d <;> simp only [reduceCtorEq, Option.some.injEq] at hn <;> exact fin hn.symm (fun ms h => by cases h)
  case makeFunc fn a b =>
    cases fn <;> simp only [normOp, reduceCtorEq, Option.some.injEq] at hn
    subst hn
    simp only [evOp, Option.some.injEq, Prod.mk.injEq] at he
    obtain ⟨rfl, rfl⟩ := he
    refine ⟨rfl, still_of ⟨_, rfl, ?_⟩⟩
    have h1 : VRs σ g (a.toList.map ρ) (a.toList.map ρc) := VRs_map fun x hx => hv x (by simp only [Op.operands, Array.mem_append]; exact .inl (Array.mem_toList_iff.1 hx))
    have h2 : VRs σ g (b.toList.map ρ) (b.toList.map ρc) := VRs_map fun x hx => hv x (by simp only [Op.operands, Array.mem_append]; exact .inr (Array.mem_toList_iff.1 hx))
    have e1 : a.map ρc = ⟨a.toList.map ρc⟩ := by apply Array.ext'; simp
    have e2 : b.map ρc = ⟨b.toList.map ρc⟩ := by apply Array.ext'; simp
    rw [e1, e2]
    exact .func _ _ _ _ _ h1 h2
  case slice t x lo hi mx =>
    cases mx with
    | some y => simp [normOp] at hn
    | none =>
      have hx := hv x (by simp [Op.operands])
      have hlo : OptR σ g (lo.map ρ) (lo.map ρc) := OptR_map fun y hy => hv y (by subst hy; simp [Op.operands])
      have hhi : OptR σ g (hi.map ρ) (hi.map ρc) := OptR_map fun y hy => hv y (by subst hy; simp [Op.operands])
      simp only [normOp] at hn
      cases hu : P.underlying t with
      | none => rw [hu] at hn; cases hn
      | some d =>
        rw [hu] at hn
        cases d <;> simp only [reduceCtorEq] at hn
        case string =>
          simp only [Option.some.injEq] at hn; subst hn
          simp only [evOp] at he
          split at he
          · rename_i s hxs
            split at he
            · rename_i l k hl hk0
              split at he
              · rename_i hlk
                simp only [Option.some.injEq, Prod.mk.injEq] at he
                obtain ⟨rfl, rfl⟩ := he
                rw [hxs] at hx
                refine ⟨rfl, still_of ⟨_, ?_, .string _⟩⟩
                rw [hx.string_inv]
                exact sliceStr_sound hu hlo hhi hl hk0 hlk.1 hlk.2
              · cases he
            · cases he
          · cases he
        case slice e =>
          obtain ⟨m, hm', hn⟩ := Option.bind_eq_some_iff.1 hn
          split at hn
          · simp only [Option.some.injEq] at hn; subst hn
            simp only [evOp] at he
            split at he
            · rename_i p n c hxs
              split at he
              · rename_i l k hl hk0
                split at he
                · rename_i hlk
                  obtain ⟨rfl, hlk, hkn⟩ := hlk
                  simp only [Option.some.injEq, Prod.mk.injEq] at he
                  obtain ⟨rfl, rfl⟩ := he
                  rw [hxs] at hx
                  exact ⟨rfl, still_of (slice_sound hu hm' hx hlo hhi hl hk0 hlk hkn)⟩
                · cases he
              · cases he
            · rename_i n c hxs
              split at he
              · rename_i hl hk0
                simp only [Option.some.injEq, Prod.mk.injEq] at he
                obtain ⟨rfl, rfl⟩ := he
                rw [hxs] at hx
                exact ⟨rfl, still_of ⟨_, sliceNil_sound hu hm' hx hlo hhi hl hk0, .nilSlice⟩⟩
              · cases he
            · cases he
          · cases hn
        case array n e =>
          obtain ⟨m, hm', hn⟩ := Option.bind_eq_some_iff.1 hn
          split at hn
          · simp only [Option.some.injEq] at hn; subst hn
            simp only [evOp] at he
            split at he
            · rename_i p hxs
              split at he
              · rename_i l k hl hk0
                split at he
                · rename_i vals ver ro hob
                  split at he
                  · rename_i hlk
                    obtain ⟨hsp, hroom, hlk, hkn⟩ := hlk
                    simp only [Option.some.injEq, Prod.mk.injEq] at he
                    obtain ⟨rfl, rfl⟩ := he
                    rw [hxs] at hx
                    refine ⟨rfl, still_of (sliceArr_sound hu hm' hx (fun vals' ver' ro' hg' hsp' hro' => ?_) hlo hhi hl hk0 hlk hkn)⟩
                    subst hro'
                    have hob' := hs _ _ hg'
                    rw [hob] at hob'
                    simp only [Option.some.injEq, AObj.cells.injEq] at hob'
                    obtain ⟨rfl, rfl, rfl⟩ := hob'
                    have ho := hm.obj _ _ hg'
                    cases ho with
                    | own _ cs _ el hb h0 hw hsz hvv hl2 h1 => omega
                  · cases he
                · cases he
              · cases he
            · cases he
          · cases hn
  case fieldAddr t x i =>
    have hx := hv x (by simp [Op.operands])
    simp only [normOp] at hn
    cases hu : P.underlying t with
    | none => rw [hu] at hn; cases hn
    | some d =>
      rw [hu] at hn
      cases d <;> simp only [reduceCtorEq] at hn
      rename_i fs
      cases hf : fs[i]? with
      | none => rw [hf] at hn; cases hn
      | some f =>
        rw [hf] at hn
        obtain ⟨n, hz, hn⟩ := Option.bind_eq_some_iff.1 hn
        split at hn
        · rename_i hpos
          simp only [Option.some.injEq] at hn; subst hn
          simp only [evOp] at he
          split at he
          · rename_i p hxs
            simp only [Option.some.injEq, Prod.mk.injEq] at he
            obtain ⟨rfl, rfl⟩ := he
            rw [hxs] at hx
            exact ⟨rfl, still_of (off_sound hu hf hz hpos hx)⟩
          · cases he
        · cases hn
  case field t x i =>
    have hx := hv x (by simp [Op.operands])
    simp only [normOp] at hn
    cases hu : P.underlying t with
    | none => rw [hu] at hn; cases hn
    | some d =>
      rw [hu] at hn
      cases d <;> simp only [reduceCtorEq] at hn
      rename_i fs
      cases hf : fs[i]? with
      | none => rw [hf] at hn; cases hn
      | some f =>
        rw [hf] at hn
        simp only at hn
        cases hag : aggT P f.type with
        | none => rw [hag] at hn; cases hn
        | some b =>
          cases hz : sizeT P f.type with
          | none => rw [hag, hz] at hn; cases b <;> cases hn
          | some n =>
            rw [hag, hz] at hn
            cases b <;> simp only [Option.some.injEq] at hn <;> subst hn <;> simp only [evOp] at he <;> split at he <;> (try cases he)
            · rename_i cs hxs
              obtain ⟨u, hu', hr⟩ := opt_map_some he
              simp only [Prod.mk.injEq] at hr
              obtain ⟨rfl, rfl⟩ := hr
              rw [hxs] at hx
              obtain ⟨ys, hys, hvs, h1⟩ := hx.agg_inv
              obtain ⟨cv, hrun, hvr⟩ := (part_sound (P := P) (w := w) hvs h1 (o := f.offset)).2 u hag hu'
              refine ⟨rfl, still_of ⟨cv, ?_, hvr⟩⟩
              rw [hys]
              simp only [Instr.field, Sem.run_bind, run_und hu, Result.andThen_ok, hf, asAgg, Sem.run_pure, hrun]
            · rename_i cs hxs
              split at he
              · simp only [Option.some.injEq, Prod.mk.injEq] at he
                obtain ⟨rfl, rfl⟩ := he
                rw [hxs] at hx
                obtain ⟨ys, hys, hvs, h1⟩ := hx.agg_inv
                obtain ⟨cv, hrun, hvr⟩ := (part_sound (P := P) (w := w) hvs h1 (o := f.offset)).1 n hag hz
                refine ⟨rfl, still_of ⟨cv, ?_, hvr⟩⟩
                rw [hys]
                simp only [Instr.field, Sem.run_bind, run_und hu, Result.andThen_ok, hf, asAgg, Sem.run_pure, hrun]
              · cases he
  case indexAddr t x i =>
    have hx := hv x (by simp [Op.operands])
    have hi := hv i (by simp [Op.operands])
    simp only [normOp] at hn
    cases hu : P.underlying t with
    | none => rw [hu] at hn; cases hn
    | some d =>
      rw [hu] at hn
      cases d <;> simp only [reduceCtorEq] at hn <;> obtain ⟨m, hz, hn⟩ := Option.bind_eq_some_iff.1 hn <;> split at hn <;> (try cases hn) <;> simp only [evOp] at he <;> split at he <;> (try cases he)
      · rename_i p n c k j hxs his
        split at he
        · rename_i hb
          obtain ⟨rfl, h0, h1⟩ := hb
          simp only [Option.some.injEq, Prod.mk.injEq] at he
          obtain ⟨rfl, rfl⟩ := he
          rw [hxs] at hx; rw [his] at hi
          refine ⟨rfl, still_of ?_⟩
          rw [hi.int_inv]
          exact atRow_sound hu hz hx h0 h1
        · cases he
      · rename_i p k j hxs his
        split at he
        · rename_i hb
          simp only [Option.some.injEq, Prod.mk.injEq] at he
          obtain ⟨rfl, rfl⟩ := he
          rw [hxs] at hx; rw [his] at hi
          refine ⟨rfl, still_of ?_⟩
          rw [hi.int_inv]
          exact atArr_sound hu hz hx hb.1 hb.2
        · cases he
  case index t x i =>
    have hx := hv x (by simp [Op.operands])
    have hi := hv i (by simp [Op.operands])
    simp only [normOp] at hn
    cases hu : P.underlying t with
    | none => rw [hu] at hn; cases hn
    | some d =>
      rw [hu] at hn
      cases d <;> simp only [reduceCtorEq] at hn
      case string =>
        simp only [Option.some.injEq] at hn; subst hn
        simp only [evOp] at he
        split at he
        · rename_i s k j hxs his
          split at he
          · rename_i h0
            obtain ⟨b, hb, hr⟩ := opt_map_some he
            simp only [Prod.mk.injEq] at hr
            obtain ⟨rfl, rfl⟩ := hr
            rw [hxs] at hx; rw [his] at hi
            refine ⟨rfl, still_of ⟨_, ?_, .int _ _⟩⟩
            rw [hi.int_inv, hx.string_inv]
            exact idxStr_sound hu h0 hb
          · cases he
        · cases he
      case array n e =>
        cases hag : aggT P e with
        | none => rw [hag] at hn; cases hn
        | some b =>
          cases hz : sizeT P e with
          | none => rw [hag, hz] at hn; cases b <;> cases hn
          | some m =>
            rw [hag, hz] at hn
            cases b <;> (try cases hn)
            by_cases hm1 : m = 1
            · subst hm1
              simp only [Option.some.injEq] at hn; subst hn
              simp only [evOp] at he
              split at he
              · rename_i cs k j hxs his
                split at he
                · rename_i hb
                  obtain ⟨u, hu', hr⟩ := opt_map_some he
                  simp only [Prod.mk.injEq] at hr
                  obtain ⟨rfl, rfl⟩ := hr
                  rw [hxs] at hx; rw [his] at hi
                  obtain ⟨ys, hys, hvs, h1⟩ := hx.agg_inv
                  obtain ⟨cv, hrun, hvr⟩ := (part_sound (P := P) (w := w) hvs h1 (o := j.toNat * 1)).2 u hag hu'
                  refine ⟨rfl, still_of ⟨cv, ?_, hvr⟩⟩
                  rw [hys, hi.int_inv]
                  simp only [Instr.index, asIntOf, Sem.run_bind, Sem.run_pure, Result.andThen_ok, run_und hu, if_pos hb, run_sizeOf hz, hrun]
                · cases he
              · cases he
            · exfalso
              revert hn
              split <;> simp_all
  case lookup t m k ok =>
    have hmv := hv m (by simp [Op.operands])
    have hkv := hv k (by simp [Op.operands])
    simp only [normOp] at hn
    cases hu : P.underlying t with
    | none => rw [hu] at hn; cases hn
    | some d =>
      rw [hu] at hn
      cases d <;> simp only [reduceCtorEq] at hn
      rename_i kt e
      cases hkk : (P.underlying kt).bind eqK with
      | none => rw [hkk] at hn; cases hn
      | some kk =>
        cases hz : zeroVal P e with
        | none => rw [hkk, hz] at hn; cases hn
        | some z =>
          rw [hkk, hz] at hn
          simp only [Option.some.injEq] at hn; subst hn
          obtain ⟨dk, hdk, hek⟩ := Option.bind_eq_some_iff.1 hkk
          simp only [evOp] at he
          by_cases hok : keyOk kk (ρ k) = true
          · rw [if_pos hok] at he
            have fin : ∀ r, mapAt h kk (ρ k) (ρ m) = some r → v = lookRes ok z r → h' = h → h' = h ∧ Still P w σ g v (execOp ρc ⟨dst, .lookup t m k ok, ty, pos, after, guard⟩) := by
              rintro r hr rfl rfl
              exact ⟨rfl, still_of (lookup_sound hm hs hu hdk hek hz hmv hkv hok hr)⟩
            split at he
            · rename_i v0 hr
              simp only [Option.some.injEq, Prod.mk.injEq] at he
              exact fin _ hr he.1.symm he.2.symm
            · rename_i hr
              simp only [Option.some.injEq, Prod.mk.injEq] at he
              exact fin _ hr he.1.symm he.2.symm
            · cases he
          · rw [if_neg hok] at he
            cases he
  case extract x i =>
    have hx := hv x (by simp [Op.operands])
    simp only [normOp, Option.some.injEq] at hn; subst hn
    simp only [evOp] at he
    split at he
    · rename_i vs hxs
      obtain ⟨u, hu', hr⟩ := opt_map_some he
      simp only [Prod.mk.injEq] at hr
      obtain ⟨rfl, rfl⟩ := hr
      rw [hxs] at hx
      obtain ⟨ys, hys, hvs⟩ := hx.tuple_inv
      obtain ⟨c, hc, hvr⟩ := hvs.get hu'
      refine ⟨rfl, still_of ⟨c, ?_, hvr⟩⟩
      rw [hys]
      simp [Instr.extract, hc]
    · cases he
  case call c => exact still_call call hm hs hn hk hv hc he
  case makeMap t r =>
    exfalso
    have hn : normMap (P.underlying t) r = some ao := hn
    rw [normMap_mk hn] at hk'
    simp [AOp.makes] at hk'
  all_goals
    exfalso
    simp only [normOp, reduceCtorEq] at hn
    try (
      repeat' split at hn
      all_goals first
        | (cases hn; done)
        | (simp only [Option.some.injEq] at hn; subst hn; first | (simp [AOp.acts] at hk; done) | (simp [AOp.makes] at hk'; done))
        | (obtain ⟨z, _, rfl⟩ := opt_map_some hn; first | (simp [AOp.acts] at hk; done) | (simp [AOp.makes] at hk'; done)))
end Go.Proofs.YtfbldlgjlgcpoaaDoor.AM
