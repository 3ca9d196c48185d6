/-
  Part 1.
  Conditions: as each says.
-/
import Derived.WalkKit
import Derived.Laws.StructEq
import Derived.ChangeKeysEq
import Derived.Orders
open List renaming getElem?_eq_some_iff→yoq,getElem?_set_ne→you,getElem?_eq_getElem→yow,length_set→yo3,drop_eq_nil_of_le→yo5,length_append→yo8,getElem?_append_left→yo9,length_cons→ypb,length_map→ypd,mem_append→ype,length_drop→ypf,getD_eq_getElem?_getD→ypg,getElem?_append_right→ypn,drop_eq_getElem_cons→ypo,map_cons→ypr,length_take→ypt,getElem?_eq_none→ypv,mem_singleton→ypw,take_of_length_le→ypy,getElem?_take→yp0,getElem?_map→yp1,mem_of_getElem?→yp3,append_assoc→yp4,all_eq_true→yp9,length_eq_zero_iff→yqh,mem_of_mem_take→yqi
open Nat renaming le_refl→yoz,add_zero→yqe,le_trans→yqf
open Option.some renaming injEq→yot,inj→yqc
open Bool renaming false_eq_true→yoy,bne_true→yo4,bne_false→ypa,and_eq_true→ypi,or_eq_false_iff→ypu,false_or→ypz,or_eq_true→yqa
open Prod.mk renaming injEq→yo2
open Option renaming bind_eq_some_iff→yo6,map_eq_some_iff→ypm,map_some→yp6
open Array renaming getD_eq_getD_getElem?→yph,getElem?_eq_some_iff→ypp,mem_toList_iff→yqj
namespace Go.Proofs.YtljdbheclfaloaaGreatDoor.AM
set_option linter.unusedSimpArgs false
open Go.RowKit
inductive AObj where
 | cells (vals:List Value) (ver:Nat) (ro:Bool)
 | map (es:List (Value×Value))
 | gone
 deriving Inhabited
abbrev Heap:=List AObj
structure St where
 t:List Value
 h:Heap
def agg (l:List Value):Value:=.agg l.toArray
def tup (l:List Value):Value:=.tuple l.toArray
def plain1:Value→Bool
 | .bool _ | .int _ _ | .float _ _ | .complex _ _ _ | .string _ | .pointer none | .slice none 0 0 | .map none | .chan none | .nilFunc | .nilIface=>true
 | _=>false
def plain:Value→Bool
 | .agg cs=>cs.toList.all plain1
 | v=>plain1 v
def flat:Value→Bool
 | .tuple cs=>cs.toList.all plain
 | v=>plain v
def laid:Value→Option (List Value)
 | .tuple _=>none
 | .agg cs=>some cs.toList
 | v=>some [v]
def ptr (b o v:Nat):Value:=.pointer (some ⟨b,o,some v⟩)
def slc (b o v n c:Nat):Value:=.slice (some ⟨b,o,some v⟩) n c
def nils:Value:=.slice none 0 0
def Heap.read (h:Heap) (a:Addr) (n:Nat):Option (List Value):=
 match h[a.block]? with
 | some (.cells vals ver _)=>if a.spot=some ver∧a.off+n≤vals.length then some ((vals.drop a.off).take n) else none
 | _=>none
def Heap.read1 (h:Heap) (a:Addr):Option Value:=
 match h[a.block]? with
 | some (.cells vals ver _)=>if a.spot=some ver then vals[a.off]? else none
 | _=>none
def splice (l:List Value) (i:Nat) (ys:List Value):List Value:=l.take i++ys++l.drop (i+ys.length)
def Heap.write (h:Heap) (a:Addr) (ys:List Value):Option Heap:=
 match h[a.block]? with
 | some (.cells vals ver false)=>if a.spot=some ver∧a.off+ys.length≤vals.length then some (h.set a.block (.cells (splice vals a.off ys) ver false)) else none
 | _=>none
def Heap.write1 (h:Heap) (a:Addr) (y:Value):Option Heap:=
 match h[a.block]? with
 | some (.cells vals ver false)=>if a.spot=some ver∧a.off<vals.length then some (h.set a.block (.cells (vals.set a.off y) ver false)) else none
 | _=>none
inductive EqK where
 | bool | int | str | ptr | slice | map | func | iface
 deriving DecidableEq
inductive AOp where
 | mv (x:Operand)
 | pick (c a b:Operand)
 | alloc (zero:List Value)
 | box (n:Nat) (x:Operand)
 | build (zero:List Value) (parts:List (Nat×Nat×Operand))
 | mkRow (zero:List Value) (len:Nat) (parts:List (Nat×Nat×Operand))
 | load1 (a:Operand)
 | load (n:Nat) (a:Operand)
 | store1 (a x:Operand)
 | store (n:Nat) (a x:Operand)
 | nilCheck (x:Operand)
 | bin (op:BinOp) (x y:Operand)
 | un (op:UnOp) (x:Operand)
 | conv (k:IntKind) (x:Operand)
 | same (x:Operand)
 | iface (t:TypeId) (x:Operand)
 | func (f:FuncId) (first captured:List Operand)
 | slice (size:Nat) (x:Operand) (lo hi:Option Operand)
 | sliceStr (x:Operand) (lo hi:Option Operand)
 | off (n:Nat) (x:Operand)
 | field (n:Nat) (i:Nat) (x:Operand)
 | field1 (i:Nat) (x:Operand)
 | atRow (size:Nat) (x i:Operand)
 | atArr (len size:Nat) (x i:Operand)
 | idxArr (len size:Nat) (x i:Operand)
 | idxStr (x i:Operand)
 | extract (x:Operand) (i:Nat)
 | len (x:Operand)
 | lenStr (x:Operand)
 | append (size bytes:Nat) (x y:Operand)
 | mkSlice (size bytes:Nat) (zero:List Value) (n:Operand)
 | call (f:FuncId) (args:List Operand)
 | callv (f:Operand) (args:List Operand)
 | mkMap
 | lookup (kk:EqK) (zero:Value) (m k:Operand) (ok:Bool)
 | update (kk:EqK) (m k v:Operand)
 | lenMap (m:Operand)
 | max2 (x y:Operand)
 | min2 (x y:Operand)
 | again1 (a:Operand) (t:Nat)
 | again (n:Nat) (a:Operand) (t:Nat)
 | eqv (neg:Bool) (k:EqK) (x y:Operand)
 | eqAgg (neg:Bool) (ks:List EqK) (x y:Operand)
 | sliceArr (len size:Nat) (x:Operand) (lo hi:Option Operand)
structure gi where
 dst:Option Nat
 op:AOp
 guard:Option (Nat×Bool)
inductive zal where
 | skip
 | ops (l:List gi)
 | seq (a b:zal)
 | cond (c:Operand) (a b:zal)
 | block (id:Nat) (b:zal)
 | loop (b:zal)
 | exit (id:Nat)
 | ret
inductive AEx where
 | normal
 | exit (id:Nat)
 | ret
 deriving DecidableEq
inductive ARes where
 | tmp (t:Nat)
 | cell1 (t:Nat)
 | cells (t n:Nat)
structure y4 where
 ntmps:Nat
 res:List ARes
 body:zal
def St.eval (s:St):Operand→Value
 | .tmp i=>s.t.getD i undef
 | .const v=>v
 | .global g=>ptr g 0 0
 | .func f=>.func (.func f) #[] #[]
def St.put (s:St) (d:Option Nat) (v:Value) (h:Heap):St:=
 match d with
 | some i=>⟨s.t.set i v,h⟩
 | none=>⟨s.t,h⟩
def ve:EqK→Value→Value→Option Bool
 | .bool,.bool a,.bool b=>some (a==b)
 | .int,.int k a,.int k' b=>if k=k' then some (a==b) else none
 | .str,.string a,.string b=>some (a==b)
 | .ptr,.pointer none,.pointer b=>some b.isNone
 | .ptr,.pointer (some _),.pointer none=>some false
 | .slice,.slice none _ _,.slice b _ _=>some b.isNone
 | .slice,.slice (some _) _ _,.slice none _ _=>some false
 | .func,.nilFunc,.nilFunc=>some true
 | .func,.nilFunc,.func _ _ _=>some false
 | .func,.func _ _ _,.nilFunc=>some false
 | .iface,.nilIface,.nilIface=>some true
 | .iface,.nilIface,.iface _ _=>some false
 | .iface,.iface _ _,.nilIface=>some false
 | .map,.map none,.map b=>some b.isNone
 | .map,.map (some _),.map none=>some false
 | _,_,_=>none
def zbs:List EqK→List Value→List Value→Option Bool
 | [],[],[]=>some true
 | k::ks,x::xs,y::ys=>match ve k x y with
  | some true=>zbs ks xs ys
  | some false=>some false
  | none=>none
 | _,_,_=>none
def zcs (op:BinOp) (k:IntKind) (a b:Int):Option Value:=
 match op with
 | .add=>some (.int k (k.wrap (a+b)))
 | .sub=>some (.int k (k.wrap (a - b)))
 | .mul=>some (.int k (k.wrap (a*b)))
 | .quo=>if b=0 then none else some (.int k (k.wrap (a.tdiv b)))
 | .rem=>if b=0 then none else some (.int k (a.tmod b))
 | .and=>some (.int k (Go.bits .and k a b))
 | .or=>some (.int k (Go.bits .or k a b))
 | .xor=>some (.int k (Go.bits .xor k a b))
 | .andNot=>some (.int k (Go.bits .andNot k a b))
 | .eql=>some (.bool (a==b))
 | .neq=>some (.bool (a !=b))
 | .lss=>some (.bool (a<b))
 | .leq=>some (.bool (a≤b))
 | .gtr=>some (.bool (a > b))
 | .geq=>some (.bool (a≥b))
 | _=>none
def shl (k:IntKind) (a b:Int):Int:=k.wrap (a*2 ^ min b.toNat k.bits)
def shr (k:IntKind) (a b:Int):Int:=a.fdiv (2 ^ min b.toNat k.bits)
def vo (op:BinOp) (x y:Value):Option Value:=
 match op,x,y with
 | .shl,.int k a,.int _ b=>if b<0 then none else some (.int k (shl k a b))
 | .shr,.int k a,.int _ b=>if b<0 then none else some (.int k (shr k a b))
 | op,.int k a,.int k' b=>if k=k' then zcs op k a b else none
 | .add,.string a,.string b=>if a.size+b.size≤4611686018427387904 then some (.string (a++b)) else none
 | .eql,.string a,.string b=>some (.bool (a==b))
 | .neq,.string a,.string b=>some (.bool (a !=b))
 | _,_,_=>none
def zwj (op:UnOp) (x:Value):Option Value:=
 match op,x with
 | .neg,.int k n=>some (.int k (k.wrap (0 - n)))
 | .not,.bool b=>some (.bool !b)
 | .xor,.int k n=>some (.int k (Go.bits .xor k (if k.signed then -1 else k.max) n))
 | _,_=>none
def zo0:Value→Bool
 | .tuple _=>true
 | _=>false
def yp (l:List Value):List (Nat×Nat×Value)→Option (List Value)
 | []=>some l
 | (i,n,v)::r=>match laid v with
  | some c=>if c.length=n∧i+n≤l.length then yp (splice l i c) r else none
  | none=>none
def p7 (zero:List Value):Nat→List Value
 | 0=>[]
 | n+1=>zero++p7 zero n
def zah (lo:Option Value) (d:Nat):Option Nat:=
 match lo with
 | none=>some d
 | some (.int _ i)=>if 0≤i then some i.toNat else none
 | _=>none
def zfl:EqK→Value→Bool
 | .bool,.bool _=>true
 | .int,.int _ _=>true
 | .str,.string _=>true
 | _,_=>false
def findKey (kk:EqK) (k:Value):List (Value×Value)→Option (Option Value)
 | []=>some none
 | (j,v)::r=>match ve kk k j with
  | some true=>some (some v)
  | some false=>findKey kk k r
  | none=>none
def za6 (kk:EqK) (k v:Value):List (Value×Value)→Option (List (Value×Value))
 | []=>some [(k,v)]
 | (j,u)::r=>match ve kk k j with
  | some true=>some ((k,v)::r)
  | some false=>(za6 kk k v r).map ((j,u):: ·)
  | none=>none
def zmj (h:Heap) (kk:EqK) (k:Value):Value→Option (Option Value)
 | .map none=>some none
 | .map (some b)=>match h[b]? with
  | some (.map es)=>findKey kk k es
  | _=>none
 | _=>none
def za5 (h:Heap) (size:Nat):Value→Option (List Value×Nat)
 | .slice (some p) n c=>if c=size then (h.read p (n*size)).map (·,n) else none
 | .slice none _ _=>some ([],0)
 | .string s=>if size=1 then some (s.data.toList.map fun b=>.int .u8 b.toNat,s.size) else none
 | _=>none
def wy:Nat:=140737488355328
def wu (h:Heap) (size bytes:Nat):Value→Option (List Value×Nat)→Option (Value×Heap)
 | .slice none _ _,some (ys,n)=>
  if n=0 then some (nils,h) else if n*bytes≤wy then some (slc h.length 0 0 n size,h++[.cells ys 0 false]) else none
 | .slice (some p) m c,some (ys,n)=>
  match h[p.block]? with
  | some (.cells vals ver false)=>
   if c=size∧p.spot=some ver∧p.off=0∧m*size≤vals.length∧(m+n)*bytes≤wy then
    some (slc p.block 0 (ver+1) (m+n) size,h.set p.block (.cells (vals.take (m*size)++ys) (ver+1) false))
   else none
  | _=>none
 | _,_=>none
abbrev vf:=FuncId→List Value→Heap→Option (Value×Heap)
open Classical in
noncomputable def evOp (call:vf) (ρ:Operand→Value) (h:Heap):AOp→Option (Value×Heap)
 | .mv x=>some (ρ x,h)
 | .pick c a b=>match ρ c with
  | .bool t=>some (if t then ρ a else ρ b,h)
  | _=>none
 | .alloc z=>some (ptr h.length 0 0,h++[.cells z 0 false])
 | .box n x=>match laid (ρ x) with
  | some l=>if l.length=n then some (ptr h.length 0 0,h++[.cells l 0 false]) else none
  | none=>none
 | .build z ps=>(yp z (ps.map fun p=>(p.1,p.2.1,ρ p.2.2))).map fun l=>(agg l,h)
 | .mkRow z n ps=>(yp (p7 z n) (ps.map fun p=>(p.1,p.2.1,ρ p.2.2))).map fun l=>(slc h.length 0 0 n z.length,h++[.cells l 0 false])
 | .load1 a=>match ρ a with
  | .pointer (some p)=>(h.read1 p).map (·,h)
  | _=>none
 | .load n a=>match ρ a with
  | .pointer (some p)=>(h.read p n).map fun l=>(agg l,h)
  | _=>none
 | .store1 a x=>match ρ a with
  | .pointer (some p)=>match ρ x with
   | .agg _=>none
   | .tuple _=>none
   | v=>(h.write1 p v).map (undef, ·)
  | _=>none
 | .store n a x=>match ρ a,ρ x with
  | .pointer (some p),.agg cs=>if cs.size=n then (h.write p cs.toList).map (undef, ·) else none
  | _,_=>none
 | .nilCheck x=>match ρ x with
  | .pointer (some p)=>some (.pointer (some p),h)
  | .func (.func f) a b=>some (.func (.func f) a b,h)
  | _=>none
 | .bin op x y=>(vo op (ρ x) (ρ y)).map (·,h)
 | .un op x=>(zwj op (ρ x)).map (·,h)
 | .conv k x=>match ρ x with
  | .int _ n=>some (.int k (k.wrap n),h)
  | _=>none
 | .same x=>match ρ x with
  | .string s=>some (.string s,h)
  | _=>none
 | .iface t x=>some (.iface t (ρ x),h)
 | .func f a b=>some (.func (.func f) (a.map ρ).toArray (b.map ρ).toArray,h)
 | .slice size x lo hi=>match ρ x with
  | .slice (some p) n c=>match zah (lo.map ρ) 0,zah (hi.map ρ) n with
   | some l,some k=>if c=size∧l≤k∧k≤n then some (.slice (some { p with off:=p.off+l*size}) (k - l) c,h) else none
   | _,_=>none
  | .slice none _ _=>match zah (lo.map ρ) 0,zah (hi.map ρ) 0 with
   | some 0,some 0=>some (nils,h)
   | _,_=>none
  | _=>none
 | .sliceStr x lo hi=>match ρ x with
  | .string s=>match zah (lo.map ρ) 0,zah (hi.map ρ) s.size with
   | some l,some k=>if l≤k∧k≤s.size then some (.string (s.extract l k),h) else none
   | _,_=>none
  | _=>none
 | .off n x=>match ρ x with
  | .pointer (some p)=>some (.pointer (some { p with off:=p.off+n}),h)
  | _=>none
 | .field n i x=>match ρ x with
  | .agg cs=>if i+n≤cs.size then some (agg ((cs.toList.drop i).take n),h) else none
  | _=>none
 | .field1 i x=>match ρ x with
  | .agg cs=>(cs.toList[i]?).map (·,h)
  | _=>none
 | .atRow size x i=>match ρ x,ρ i with
  | .slice (some p) n c,.int _ k=>if c=size∧0≤k∧k<n then some (.pointer (some { p with off:=p.off+k.toNat*size}),h) else none
  | _,_=>none
 | .atArr len size x i=>match ρ x,ρ i with
  | .pointer (some p),.int _ k=>if 0≤k∧k<len then some (.pointer (some { p with off:=p.off+k.toNat*size}),h) else none
  | _,_=>none
 | .idxArr len size x i=>match ρ x,ρ i with
  | .agg cs,.int _ k=>if 0≤k∧k<len then (cs.toList[k.toNat*size]?).map (·,h) else none
  | _,_=>none
 | .idxStr x i=>match ρ x,ρ i with
  | .string s,.int _ k=>if 0≤k then (s.data.toList[k.toNat]?).map fun b=>(.int .u8 b.toNat,h) else none
  | _,_=>none
 | .extract x i=>match ρ x with
  | .tuple vs=>(vs.toList[i]?).map (·,h)
  | _=>none
 | .len x=>match ρ x with
  | .slice _ n _=>some (.int .i64 n,h)
  | _=>none
 | .lenStr x=>match ρ x with
  | .string s=>some (.int .i64 s.size,h)
  | _=>none
 | .append size bytes x y=>wu h size bytes (ρ x) (za5 h size (ρ y))
 | .mkSlice size bytes z n=>match ρ n with
  | .int _ k=>if 0≤k∧k*bytes≤wy then some (slc h.length 0 0 k.toNat size,h++[.cells (p7 z k.toNat) 0 false]) else none
  | _=>none
 | .call f yoi=>call f (yoi.map ρ) h
 | .callv f yoi=>match ρ f with
  | .func (.func g) a b=>call g (a.toList++yoi.map ρ++b.toList) h
  | _=>none
 | .mkMap=>some (.map (some h.length),h++[.map []])
 | .lookup kk z m k ok=>
  match (if zfl kk (ρ k) then zmj h kk (ρ k) (ρ m) else none) with
  | some (some v)=>some (if ok then tup [v,.bool true] else v,h)
  | some none=>some (if ok then tup [z,.bool false] else z,h)
  | none=>none
 | .update kk m k v=>match ρ m with
  | .map (some b)=>match h[b]? with
   | some (.map es)=>if zfl kk (ρ k) then (za6 kk (ρ k) (ρ v) es).map fun es'=>(undef,h.set b (.map es')) else none
   | _=>none
  | _=>none
 | .lenMap m=>match ρ m with
  | .map none=>some (.int .i64 0,h)
  | .map (some b)=>match h[b]? with
   | some (.map es)=>some (.int .i64 es.length,h)
   | _=>none
  | _=>none
 | .max2 x y=>match ρ x,ρ y with
  | .int k a,.int _ b=>some (.int k (if a<b then b else a),h)
  | _,_=>none
 | .min2 x y=>match ρ x,ρ y with
  | .int k a,.int _ b=>some (.int k (if b<a then b else a),h)
  | _,_=>none
 | .again1 a t=>match ρ a with
  | .pointer (some p)=>if h.read1 p=some (ρ (.tmp t))∧zo0 (ρ (.tmp t))=false then some (undef,h) else none
  | _=>none
 | .again n a t=>match ρ a with
  | .pointer (some p)=>if (h.read p n).map agg=some (ρ (.tmp t))∧zo0 (ρ (.tmp t))=false then some (undef,h) else none
  | _=>none
 | .eqv neg k x y=>(ve k (ρ x) (ρ y)).map fun b=>(.bool (b !=neg),h)
 | .eqAgg neg ks x y=>match ρ x,ρ y with
  | .agg a,.agg b=>if a.size=ks.length∧b.size=ks.length then (zbs ks a.toList b.toList).map fun b=>(.bool (b !=neg),h) else none
  | _,_=>none
 | .sliceArr len size x lo hi=>match ρ x with
  | .pointer (some p)=>match zah (lo.map ρ) 0,zah (hi.map ρ) len with
   | some l,some k=>match h[p.block]? with
    | some (.cells vals ver _)=>if p.spot=some ver∧p.off+len*size≤vals.length∧l≤k∧k≤len then some (.slice (some { p with off:=p.off+l*size}) (k - l) size,h) else none
    | _=>none
   | _,_=>none
  | _=>none
def zlx (s:St):Option (Nat×Bool)→Bool
 | none=>true
 | some (j,b)=>match s.t.getD j undef with
  | .bool c=>c==b
  | _=>false
noncomputable def zcu (call:vf) (o:gi) (s:St):Option St:=
 if zlx s o.guard then (evOp call s.eval s.h o.op).map fun r=>s.put o.dst r.1 r.2 else some (s.put o.dst undef s.h)
noncomputable def f7 (call:vf):List gi→St→Option St
 | [],s=>some s
 | o::l,s=>(zcu call o s).bind (f7 call l)
def aRes (s:St):ARes→Option Value
 | .tmp t=>some (s.t.getD t undef)
 | .cell1 t=>match s.t.getD t undef with
  | .pointer (some p)=>s.h.read1 p
  | _=>none
 | .cells t n=>match s.t.getD t undef with
  | .pointer (some p)=>(s.h.read p n).map agg
  | _=>none
def f9 (s:St):List ARes→Option Value
 | [r]=>aRes s r
 | l=>(l.mapM (aRes s)).map tup
open Classical in
noncomputable def finish (h:Heap) (v:Value) (h':Heap):Heap:=if flat v=true∧h'.take h.length=h then h else h'
structure Funcs where
 fn:FuncId→Option y4
 ext:vf
instance:CoeFun Funcs fun _=>FuncId→Option y4:=⟨Funcs.fn⟩
mutual
noncomputable def evC (F:Funcs):Nat→zal→St→Option (AEx×St)
 | 0,_,_=>none
 | n+1,c,s=>match c with
  | .skip=>some (.normal,s)
  | .ops l=>(f7 (evF F n) l s).map fun s'=>(.normal,s')
  | .seq a b=>match evC F n a s with
   | some (.normal,s')=>evC F n b s'
   | r=>r
  | .cond c a b=>match s.eval c with
   | .bool true=>evC F n a s
   | .bool false=>evC F n b s
   | _=>none
  | .block id b=>match evC F n b s with
   | some (.exit j,s')=>some (if j=id then .normal else .exit j,s')
   | r=>r
  | .loop b=>match evC F n b s with
   | some (.normal,s')=>evC F n (.loop b) s'
   | r=>r
  | .exit id=>some (.exit id,s)
  | .ret=>some (.ret,s)
noncomputable def evF (F:Funcs):Nat→vf
 | 0,_,_,_=>none
 | n+1,f,args,h=>match F f with
  | none=>F.ext f args h
  | some fn=>match evC F n fn.body ⟨args++List.replicate (fn.ntmps - args.length) undef,h⟩ with
   | some (.exit _,_)=>none
   | some (_,s)=>(f9 s fn.res).map fun v=>(v,finish h v s.h)
   | none=>none
end
end Go.Proofs.YtljdbheclfaloaaGreatDoor.AM
namespace Go.Proofs.YtljdbheclfaloaaGreatDoor.AM
set_option linter.unusedSimpArgs false
open Go.RowKit
def Below (c c':vf):Prop:=∀f args h r,c f args h=some r→c' f args h=some r
theorem ybi {c c':vf} (hc:Below c c') (ρ:Operand→Value) (h:Heap) (o:AOp) (r:Value×Heap) (e:evOp c ρ h o=some r):evOp c' ρ h o=some r:=by
 cases o <;> first | exact e | skip
 case call f yoi=>exact hc _ _ _ _ e
 case callv f yoi=>
  simp only [evOp] at e ⊢
  split at e
  ·exact hc _ _ _ _ e
  ·exact e
theorem zos {c c':vf} (hc:Below c c') (o:gi) (s r:St) (e:zcu c o s=some r):zcu c' o s=some r:=by
 unfold zcu at e ⊢
 split at e
 ·rename_i hw
  rw [if_pos hw]
  cases h:evOp c s.eval s.h o.op with
  | none=>rw [h] at e;cases e
  | some v=>rw [ybi hc _ _ _ _ h];rw [h] at e;exact e
 ·rename_i hw
  rw [if_neg hw];exact e
theorem zk0 {c c':vf} (hc:Below c c') (l:List gi):∀(s r:St),f7 c l s=some r→f7 c' l s=some r:=by
 induction l with
 | nil=>exact fun s r e=>e
 | cons o l ih=>
  intro s r e
  simp only [f7] at e ⊢
  cases h:zcu c o s with
  | none=>rw [h] at e;cases e
  | some s'=>rw [zos hc _ _ _ h];rw [h] at e;exact ih _ _ e
theorem yca (F:Funcs) (n:Nat):(∀c s r,evC F n c s=some r→evC F (n+1) c s=some r)∧Below (evF F n) (evF F (n+1)):=by
 induction n with
 | zero=>exact ⟨fun c s r e=>by simp [evC] at e,fun f args h r e=>by simp [evF] at e⟩
 | succ n ih=>
  obtain ⟨ihc,ihf⟩:=ih
  constructor
  ·intro c s r e
   cases c with
   | skip=>simpa [evC] using e
   | ops l=>
    simp only [evC] at e ⊢
    cases h:f7 (evF F n) l s with
    | none=>rw [h] at e;cases e
    | some s'=>rw [zk0 ihf _ _ _ h];rw [h] at e;exact e
   | seq a b=>
    rw [evC] at e ⊢
    cases h:evC F n a s with
    | none=>rw [h] at e;cases e
    | some p=>
     rw [h] at e;rw [ihc _ _ _ h]
     obtain ⟨x,s'⟩:=p
     cases x with
     | normal=>exact ihc _ _ _ e
     | exit id=>exact e
     | ret=>exact e
   | cond c a b=>
    rw [evC] at e ⊢
    split at e
    ·exact ihc _ _ _ e
    ·exact ihc _ _ _ e
    ·cases e
   | block id b=>
    rw [evC] at e ⊢
    cases h:evC F n b s with
    | none=>rw [h] at e;cases e
    | some p=>rw [ihc _ _ _ h];rw [h] at e;exact e
   | loop b=>
    rw [evC] at e ⊢
    cases h:evC F n b s with
    | none=>rw [h] at e;cases e
    | some p=>
     rw [h] at e;rw [ihc _ _ _ h]
     obtain ⟨x,s'⟩:=p
     cases x with
     | normal=>exact ihc _ _ _ e
     | exit id=>exact e
     | ret=>exact e
   | exit id=>simpa [evC] using e
   | ret=>simpa [evC] using e
  ·intro f args h r e
   rw [evF] at e ⊢
   cases hf:F f with
   | none=>rw [hf] at e;exact e
   | some fn=>
    rw [hf] at e
    simp only at e ⊢
    cases hc:evC F n fn.body ⟨args++List.replicate (fn.ntmps - args.length) undef,h⟩ with
    | none=>rw [hc] at e;cases e
    | some p=>rw [ihc _ _ _ hc];rw [hc] at e;exact e
theorem zpv (F:Funcs) {n m:Nat} (h:n≤m) {c:zal} {s:St} {r:AEx×St} (e:evC F n c s=some r):evC F m c s=some r:=by
 induction h with
 | refl=>exact e
 | step _ ih=>exact (yca F _).1 _ _ _ ih
theorem zyi (F:Funcs) {n m:Nat} (h:n≤m):Below (evF F n) (evF F m):=by
 induction h with
 | refl=>exact fun _ _ _ _ e=>e
 | step _ ih=>exact fun f a x r e=>(yca F _).2 _ _ _ _ (ih _ _ _ _ e)
open Classical in
noncomputable def D (F:Funcs) (c:zal) (s:St):Option (AEx×St):=if h:∃r n,evC F n c s=some r then some h.choose else none
open Classical in
noncomputable def DF (F:Funcs):vf:=fun f args h=>if h:∃r n,evF F n f args h=some r then some h.choose else none
theorem zcq (F:Funcs) (c:zal) (s:St) (r:AEx×St):D F c s=some r↔∃n,evC F n c s=some r:=by
 unfold D
 constructor
 ·intro e
  split at e
  ·rename_i h
   obtain ⟨n,hn⟩:=h.choose_spec
   exact ⟨n,by rw [hn];exact e⟩
  ·cases e
 ·rintro ⟨n,hn⟩
  have h:∃r n,evC F n c s=some r:=⟨r,n,hn⟩
  rw [dif_pos h]
  obtain ⟨m,hm⟩:=h.choose_spec
  have h1:=zpv F (Nat.le_max_left n m) hn
  have h2:=zpv F (Nat.le_max_right n m) hm
  rw [h1] at h2
  exact h2.symm
theorem zpa (F:Funcs) (f:FuncId) (args:List Value) (h:Heap) (r:Value×Heap):DF F f args h=some r↔∃n,evF F n f args h=some r:=by
 unfold DF
 constructor
 ·intro e
  split at e
  ·rename_i h
   obtain ⟨n,hn⟩:=h.choose_spec
   exact ⟨n,by rw [hn];exact e⟩
  ·cases e
 ·rintro ⟨n,hn⟩
  have h':∃r n,evF F n f args h=some r:=⟨r,n,hn⟩
  rw [dif_pos h']
  obtain ⟨m,hm⟩:=h'.choose_spec
  have h1:=zyi F (Nat.le_max_left n m) _ _ _ _ hn
  have h2:=zyi F (Nat.le_max_right n m) _ _ _ _ hm
  rw [h1] at h2
  exact h2.symm
theorem yne (F:Funcs) (n:Nat):Below (evF F n) (DF F):=fun _ _ _ _ e=>(zpa F _ _ _ _).2 ⟨n,e⟩
theorem ygg {F:Funcs} (ρ:Operand→Value) (h:Heap) (o:AOp) (r:Value×Heap) (e:evOp (DF F) ρ h o=some r):∃n,evOp (evF F n) ρ h o=some r:=by
 cases o <;> first | exact ⟨0,e⟩ | skip
 case call f yoi=>exact (zpa F _ _ _ _).1 e
 case callv f yoi=>
  simp only [evOp] at e
  split at e
  ·obtain ⟨n,hn⟩:=(zpa F _ _ _ _).1 e
   rename_i heq
   exact ⟨n,by simp only [evOp,heq];exact hn⟩
  ·cases e
theorem yad {F:Funcs} (o:gi) (s r:St) (e:zcu (DF F) o s=some r):∃n,zcu (evF F n) o s=some r:=by
 unfold zcu at e ⊢
 split at e
 ·rename_i hw
  cases h:evOp (DF F) s.eval s.h o.op with
  | none=>rw [h] at e;cases e
  | some v=>
   obtain ⟨n,hn⟩:=ygg _ _ _ _ h
   exact ⟨n,by rw [if_pos hw,hn];rw [h] at e;exact e⟩
 ·rename_i hw
  exact ⟨0,by rw [if_neg hw];exact e⟩
theorem ycf {F:Funcs} (l:List gi):∀(s r:St),f7 (DF F) l s=some r→∃n,f7 (evF F n) l s=some r:=by
 induction l with
 | nil=>exact fun s r e=>⟨0,e⟩
 | cons o l ih=>
  intro s r e
  simp only [f7] at e ⊢
  cases h:zcu (DF F) o s with
  | none=>rw [h] at e;cases e
  | some s'=>
   rw [h] at e
   obtain ⟨n,hn⟩:=yad _ _ _ h
   obtain ⟨m,hm⟩:=ih _ _ e
   refine ⟨max n m,?_⟩
   rw [zos (zyi F (Nat.le_max_left n m)) _ _ _ hn]
   exact zk0 (zyi F (Nat.le_max_right n m)) _ _ _ hm
theorem zi9 {α:Type} {a b:Option α} (h:∀r,a=some r↔b=some r):a=b:=by
 cases a with
 | none=>cases b with
  | none=>rfl
  | some y=>exact absurd ((h y).2 rfl) (by simp)
 | some x=>exact ((h x).1 rfl).symm
section
variable (F:Funcs) (s:St)
theorem ylt:D F .skip s=some (.normal,s):=(zcq _ _ _ _).2 ⟨1,by simp [evC]⟩
theorem yng (id:Nat):D F (.exit id) s=some (.exit id,s):=(zcq _ _ _ _).2 ⟨1,by simp [evC]⟩
theorem ynl:D F .ret s=some (.ret,s):=(zcq _ _ _ _).2 ⟨1,by simp [evC]⟩
theorem ynx (l:List gi):D F (.ops l) s=(f7 (DF F) l s).map fun s'=>(.normal,s'):=by
 apply zi9;intro r
 rw [zcq]
 constructor
 ·rintro ⟨n,hn⟩
  cases n with
  | zero=>simp [evC] at hn
  | succ n=>
   simp only [evC] at hn
   cases h:f7 (evF F n) l s with
   | none=>rw [h] at hn;cases hn
   | some s'=>rw [zk0 (yne F n) _ _ _ h];rw [h] at hn;exact hn
 ·intro e
  cases h:f7 (DF F) l s with
  | none=>rw [h] at e;cases e
  | some s'=>
   obtain ⟨n,hn⟩:=ycf _ _ _ h
   exact ⟨n+1,by simp only [evC];rw [hn];rw [h] at e;exact e⟩
noncomputable def ylq (F:Funcs) (b:zal):Option (AEx×St)→Option (AEx×St)
 | some (.normal,s')=>D F b s'
 | r=>r
theorem yno (a b:zal):D F (.seq a b) s=ylq F b (D F a s):=by
 apply zi9;intro r
 rw [zcq]
 constructor
 ·rintro ⟨n,hn⟩
  cases n with
  | zero=>simp [evC] at hn
  | succ n=>
   rw [evC] at hn
   cases h:evC F n a s with
   | none=>rw [h] at hn;cases hn
   | some p=>
    rw [h] at hn
    rw [(zcq F a s p).2 ⟨n,h⟩]
    obtain ⟨x,s'⟩:=p
    cases x with
    | normal=>exact (zcq _ _ _ _).2 ⟨n,hn⟩
    | exit id=>exact hn
    | ret=>exact hn
 ·intro e
  cases h:D F a s with
  | none=>rw [h] at e;cases e
  | some p=>
   rw [h] at e
   obtain ⟨n,hn⟩:=(zcq _ _ _ _).1 h
   obtain ⟨x,s'⟩:=p
   cases x with
   | normal=>
    obtain ⟨m,hm⟩:=(zcq _ _ _ _).1 (show D F b s'=some r from e)
    refine ⟨max n m+1,?_⟩
    rw [evC,zpv F (Nat.le_max_left n m) hn]
    exact zpv F (Nat.le_max_right n m) hm
   | exit id=>exact ⟨n+1,by rw [evC,hn];exact e⟩
   | ret=>exact ⟨n+1,by rw [evC,hn];exact e⟩
theorem ymw (c:Operand) (a b:zal):D F (.cond c a b) s=match s.eval c with
  | .bool true=>D F a s
  | .bool false=>D F b s
  | _=>none:=by
 apply zi9;intro r
 rw [zcq]
 constructor
 ·rintro ⟨n,hn⟩
  cases n with
  | zero=>simp [evC] at hn
  | succ n=>
   rw [evC] at hn
   split at hn
   ·rename_i h;first | (rw [h];exact (zcq _ _ _ _).2 ⟨n,hn⟩) | exact (zcq _ _ _ _).2 ⟨n,hn⟩
   ·rename_i h;first | (rw [h];exact (zcq _ _ _ _).2 ⟨n,hn⟩) | exact (zcq _ _ _ _).2 ⟨n,hn⟩
   ·cases hn
 ·intro e
  split at e
  ·obtain ⟨n,hn⟩:=(zcq _ _ _ _).1 e
   rename_i h
   exact ⟨n+1,by rw [evC,h];exact hn⟩
  ·obtain ⟨n,hn⟩:=(zcq _ _ _ _).1 e
   rename_i h
   exact ⟨n+1,by rw [evC,h];exact hn⟩
  ·cases e
def yfs (id:Nat):Option (AEx×St)→Option (AEx×St)
 | some (.exit j,s')=>some (if j=id then .normal else .exit j,s')
 | r=>r
theorem yko (id:Nat) (b:zal):D F (.block id b) s=yfs id (D F b s):=by
 apply zi9;intro r
 rw [zcq]
 constructor
 ·rintro ⟨n,hn⟩
  cases n with
  | zero=>simp [evC] at hn
  | succ n=>
   rw [evC] at hn
   cases h:evC F n b s with
   | none=>rw [h] at hn;cases hn
   | some p=>rw [(zcq F b s p).2 ⟨n,h⟩];rw [h] at hn;exact hn
 ·intro e
  cases h:D F b s with
  | none=>rw [h] at e;cases e
  | some p=>
   obtain ⟨n,hn⟩:=(zcq _ _ _ _).1 h
   exact ⟨n+1,by rw [evC,hn];rw [h] at e;exact e⟩
theorem yis (b:zal):D F (.loop b) s=ylq F (.loop b) (D F b s):=by
 apply zi9;intro r
 rw [zcq]
 constructor
 ·rintro ⟨n,hn⟩
  cases n with
  | zero=>simp [evC] at hn
  | succ n=>
   rw [evC] at hn
   cases h:evC F n b s with
   | none=>rw [h] at hn;cases hn
   | some p=>
    rw [h] at hn
    rw [(zcq F b s p).2 ⟨n,h⟩]
    obtain ⟨x,s'⟩:=p
    cases x with
    | normal=>exact (zcq _ _ _ _).2 ⟨n,hn⟩
    | exit id=>exact hn
    | ret=>exact hn
 ·intro e
  cases h:D F b s with
  | none=>rw [h] at e;cases e
  | some p=>
   rw [h] at e
   obtain ⟨n,hn⟩:=(zcq _ _ _ _).1 h
   obtain ⟨x,s'⟩:=p
   cases x with
   | normal=>
    obtain ⟨m,hm⟩:=(zcq _ _ _ _).1 (show D F (.loop b) s'=some r from e)
    refine ⟨max n m+1,?_⟩
    rw [evC,zpv F (Nat.le_max_left n m) hn]
    exact zpv F (Nat.le_max_right n m) hm
   | exit id=>exact ⟨n+1,by rw [evC,hn];exact e⟩
   | ret=>exact ⟨n+1,by rw [evC,hn];exact e⟩
end
noncomputable def endF (h:Heap) (res:List ARes):Option (AEx×St)→Option (Value×Heap)
 | some (.exit _,_)=>none
 | some (_,s)=>(f9 s res).map fun v=>(v,finish h v s.h)
 | none=>none
theorem yd2 {F:Funcs} {f:FuncId} (hf:F f=none) (args:List Value) (h:Heap):DF F f args h=F.ext f args h:=by
 apply zi9;intro r
 rw [zpa]
 constructor
 ·rintro ⟨n,hn⟩
  cases n with
  | zero=>simp [evF] at hn
  | succ n=>rw [evF,hf] at hn;exact hn
 ·intro hr
  exact ⟨1,by rw [evF,hf];exact hr⟩
theorem yms {F:Funcs} {f:FuncId} {fn:y4} (hf:F f=some fn) (args:List Value) (h:Heap):
  DF F f args h=endF h fn.res (D F fn.body ⟨args++List.replicate (fn.ntmps - args.length) undef,h⟩):=by
 apply zi9;intro r
 rw [zpa]
 constructor
 ·rintro ⟨n,hn⟩
  cases n with
  | zero=>simp [evF] at hn
  | succ n=>
   rw [evF,hf] at hn
   simp only at hn
   cases hc:evC F n fn.body ⟨args++List.replicate (fn.ntmps - args.length) undef,h⟩ with
   | none=>rw [hc] at hn;cases hn
   | some p=>rw [(zcq F _ _ p).2 ⟨n,hc⟩];rw [hc] at hn;exact hn
 ·intro e
  cases hc:D F fn.body ⟨args++List.replicate (fn.ntmps - args.length) undef,h⟩ with
  | none=>rw [hc] at e;cases e
  | some p=>
   obtain ⟨n,hn⟩:=(zcq _ _ _ _).1 hc
   refine ⟨n+1,?_⟩
   rw [evF,hf]
   simp only
   rw [hn];rw [hc] at e;exact e
end Go.Proofs.YtljdbheclfaloaaGreatDoor.AM
namespace Go.Proofs.YtljdbheclfaloaaGreatDoor.AM
set_option linter.unusedSimpArgs false
open Go.RowKit
section
variable {call:vf} {F:Funcs}
noncomputable def zzr (call:vf) (d:Option Nat) (l:List gi) (s:St):Option (Value×Heap)→Option St
 | some r=>f7 call l (s.put d r.1 r.2)
 | none=>none
noncomputable def zl0 (call:vf) (d:Option Nat) (op:AOp) (l:List gi) (s:St):Bool→Value→Option St
 | b,.bool c=>if c=b then zzr call d l s (evOp call s.eval s.h op) else f7 call l (s.put d undef s.h)
 | _,_=>f7 call l (s.put d undef s.h)
def zb (h:Heap):Option Value→Option (Value×Heap)
 | some v=>some (v,h)
 | none=>none
noncomputable def ylh (F:Funcs) (a b:zal) (s:St):Value→Option (AEx×St)
 | .bool true=>D F a s
 | .bool false=>D F b s
 | _=>none
def yes:Option St→Option (AEx×St)
 | some s=>some (.normal,s)
 | none=>none
theorem ynp (s:St):f7 call [] s=some s:=rfl
theorem ymx (d:Option Nat) (op:AOp) (l:List gi) (s:St):f7 call (⟨d,op,none⟩::l) s=zzr call d l s (evOp call s.eval s.h op):=by
 simp only [f7,zcu,zlx,if_true]
 cases evOp call s.eval s.h op <;> rfl
theorem yli (d:Option Nat) (op:AOp) (j:Nat) (b:Bool) (l:List gi) (s:St):f7 call (⟨d,op,some (j,b)⟩::l) s=zl0 call d op l s b (s.t.getD j undef):=by
 unfold f7 zcu zlx
 cases hx:s.t.getD j undef with
 | bool c=>
  simp only [zl0,hx]
  by_cases h:c=b
  ·simp only [h,beq_self_eq_true,if_true]
   cases evOp call s.eval s.h op <;> rfl
  ·simp [h]
 | _=>simp only [zl0,hx,yoy,if_false];rfl
theorem ycd (d:Nat) (l:List gi) (t:List Value) (h h':Heap) (v:Value):zzr call (some d) l ⟨t,h⟩ (some (v,h'))=f7 call l ⟨t.set d v,h'⟩:=rfl
theorem yek (l:List gi) (t:List Value) (h h':Heap) (v:Value):zzr call none l ⟨t,h⟩ (some (v,h'))=f7 call l ⟨t,h'⟩:=rfl
theorem yhe (d:Option Nat) (op:AOp) (l:List gi) (s:St):zl0 call d op l s true (.bool true)=zzr call d l s (evOp call s.eval s.h op):=rfl
theorem yft (d:Option Nat) (op:AOp) (l:List gi) (s:St):zl0 call d op l s false (.bool false)=zzr call d l s (evOp call s.eval s.h op):=rfl
theorem ygl (d:Nat) (op:AOp) (l:List gi) (t:List Value) (h:Heap):zl0 call (some d) op l ⟨t,h⟩ true (.bool false)=f7 call l ⟨t.set d undef,h⟩:=rfl
theorem ygm (d:Nat) (op:AOp) (l:List gi) (t:List Value) (h:Heap):zl0 call (some d) op l ⟨t,h⟩ false (.bool true)=f7 call l ⟨t.set d undef,h⟩:=rfl
theorem yhj (d:Nat) (op:AOp) (l:List gi) (t:List Value) (h:Heap) (b:Bool):zl0 call (some d) op l ⟨t,h⟩ b undef=f7 call l ⟨t.set d undef,h⟩:=by cases b <;> rfl
theorem ymj (t:List Value) (h:Heap) (i:Nat):St.eval ⟨t,h⟩ (.tmp i)=t.getD i undef:=rfl
theorem yh3 (s:St) (v:Value):St.eval s (.const v)=v:=rfl
theorem yc7 (s:St) (g:Nat):St.eval s (.global g)=ptr g 0 0:=rfl
theorem yle (s:St) (f:FuncId):St.eval s (.func f)=.func (.func f) #[] #[]:=rfl
theorem vw (v:Value) (t:List Value) (i:Nat):(v::t).getD (i+1) undef=t.getD i undef:=rfl
theorem vv (v:Value) (t:List Value):(v::t).getD 0 undef=v:=rfl
variable (ρ:Operand→Value) (h:Heap)
theorem O_mv (x:Operand):evOp call ρ h (.mv x)=some (ρ x,h):=rfl
def zi (h:Heap) (a b:Value):Value→Option (Value×Heap)
 | .bool true=>some (a,h)
 | .bool false=>some (b,h)
 | _=>none
theorem yna (c a b:Operand):evOp call ρ h (.pick c a b)=zi h (ρ a) (ρ b) (ρ c):=by
 simp only [evOp];generalize ρ c=x
 cases x with
 | bool t=>cases t <;> rfl
 | _=>rfl
theorem ynt (op:BinOp) (x y:Operand):evOp call ρ h (.bin op x y)=zb h (vo op (ρ x) (ρ y)):=by simp only [evOp];cases vo op (ρ x) (ρ y)<;> rfl
theorem O_un (op:UnOp) (x:Operand):evOp call ρ h (.un op x)=zb h (zwj op (ρ x)):=by simp only [evOp];cases zwj op (ρ x)<;> rfl
def zlr (h:Heap) (k:IntKind):Value→Option (Value×Heap)
 | .int _ n=>some (.int k (k.wrap n),h)
 | _=>none
theorem yl5 (k:IntKind) (x:Operand):evOp call ρ h (.conv k x)=zlr h k (ρ x):=by
 simp only [evOp];generalize ρ x=x;cases x <;> rfl
theorem yl8 (f:FuncId) (yoi:List Operand):evOp call ρ h (.call f yoi)=call f (yoi.map ρ) h:=rfl
def lenO (h:Heap):Value→Option (Value×Heap)
 | .slice _ n _=>some (.int .i64 n,h)
 | _=>none
theorem yoe (x:Operand):evOp call ρ h (.len x)=lenO h (ρ x):=by
 simp only [evOp];generalize ρ x=x;cases x <;> rfl
theorem yb9 (a:Option Addr) (n c:Nat):lenO h (.slice a n c)=some (.int .i64 n,h):=rfl
variable (k:IntKind) (a b:Int)
theorem yog:vo .add (.int k a) (.int k b)=some (.int k (k.wrap (a+b))):=by simp [vo,zcs]
theorem yn5:vo .sub (.int k a) (.int k b)=some (.int k (k.wrap (a - b))):=by simp [vo,zcs]
theorem ynk:vo .mul (.int k a) (.int k b)=some (.int k (k.wrap (a*b))):=by simp [vo,zcs]
theorem ynq (hb:b≠0):vo .quo (.int k a) (.int k b)=some (.int k (k.wrap (a.tdiv b))):=by simp [vo,zcs,hb]
theorem ynr (hb:b≠0):vo .rem (.int k a) (.int k b)=some (.int k (a.tmod b)):=by simp [vo,zcs,hb]
theorem ymt:vo .and (.int k a) (.int k b)=some (.int k (Go.bits .and k a b)):=by simp [vo,zcs]
theorem yny:vo .or (.int k a) (.int k b)=some (.int k (Go.bits .or k a b)):=by simp [vo,zcs]
theorem ymc:vo .xor (.int k a) (.int k b)=some (.int k (Go.bits .xor k a b)):=by simp [vo,zcs]
theorem ybp:vo .andNot (.int k a) (.int k b)=some (.int k (Go.bits .andNot k a b)):=by simp [vo,zcs]
theorem yn0:vo .eql (.int k a) (.int k b)=some (.bool (a==b)):=by simp [vo,zcs]
theorem yof:vo .neq (.int k a) (.int k b)=some (.bool (a !=b)):=by simp [vo,zcs]
theorem yn4:vo .lss (.int k a) (.int k b)=some (.bool (decide (a<b))):=by simp [vo,zcs]
theorem ynj:vo .leq (.int k a) (.int k b)=some (.bool (decide (a≤b))):=by simp [vo,zcs]
theorem yn1:vo .gtr (.int k a) (.int k b)=some (.bool (decide (b<a))):=by simp [vo,zcs]
theorem yn3:vo .geq (.int k a) (.int k b)=some (.bool (decide (b≤a))):=by simp [vo,zcs]
theorem ymb (k':IntKind) (hb:0≤b):vo .shl (.int k a) (.int k' b)=some (.int k (shl k a b)):=by
 simp only [vo];rw [if_neg (by omega)]
theorem ymo (k':IntKind) (hb:0≤b):vo .shr (.int k a) (.int k' b)=some (.int k (shr k a b)):=by
 simp only [vo];rw [if_neg (by omega)]
theorem yoh (b:Bool):zwj .not (.bool b)=some (.bool !b):=rfl
theorem yn2:zwj .neg (.int k a)=some (.int k (k.wrap (0 - a))):=rfl
end
section
variable {F:Funcs} (s:St)
theorem yoa (l:List gi):D F (.ops l) s=yes (f7 (DF F) l s):=by rw [ynx];cases f7 (DF F) l s <;> rfl
theorem zww:yes (some s)=some (.normal,s):=rfl
theorem ylu (c:Operand) (a b:zal):D F (.cond c a b) s=ylh F a b s (s.eval c):=by
 rw [ymw];generalize s.eval c=x
 cases x with
 | bool t=>cases t <;> rfl
 | _=>rfl
theorem yk6 (a b:zal):ylh F a b s (.bool true)=D F a s:=rfl
theorem ykc (a b:zal):ylh F a b s (.bool false)=D F b s:=rfl
theorem ybt (h:Heap) (i:Nat) (t:List Value):endF h [.tmp i] (some (.ret,⟨t,h⟩))=some (t.getD i undef,h):=by simp [endF,f9,aRes,finish]
theorem zqg (h:Heap) (i:Nat) (t:List Value):endF h [.tmp i] (some (.normal,⟨t,h⟩))=some (t.getD i undef,h):=by simp [endF,f9,aRes,finish]
end
end Go.Proofs.YtljdbheclfaloaaGreatDoor.AM
namespace Go.Proofs.YtljdbheclfaloaaGreatDoor.AM
set_option linter.unusedSimpArgs false
open Go.RowKit
section
variable {F:Funcs}
def WPD (o:Option (AEx×St)) (Q:AEx→St→Prop):Prop:=∃x s,o=some (x,s)∧Q x s
def yar (F:Funcs) (b:zal) (Q:AEx→St→Prop):AEx→St→Prop
 | .normal,s=>WPD (D F b s) Q
 | x,s=>Q x s
def zna (id:Nat) (Q:AEx→St→Prop):AEx→St→Prop
 | .exit j,s=>Q (if j=id then .normal else .exit j) s
 | x,s=>Q x s
def retQ (h:Heap) (res:List ARes) (r:Option (Value×Heap)):AEx→St→Prop:=fun x s=>endF h res (some (x,s))=r
def yec (I:Nat→St→Prop) (m:Nat) (Q:AEx→St→Prop):AEx→St→Prop
 | .normal,s=>∃m',m'<m∧I m' s
 | x,s=>Q x s
variable (x:AEx) (s:St) (Q:AEx→St→Prop)
theorem ym0:WPD (some (x,s)) Q=Q x s:=by
 unfold WPD;apply propext
 constructor
 ·rintro ⟨_,_,h,q⟩;cases h;exact q
 ·exact fun q=>⟨_,_,rfl,q⟩
theorem zy8 (a b:zal):WPD (D F (.seq a b) s) Q=WPD (D F a s) (yar F b Q):=by
 rw [yno];unfold WPD;apply propext
 constructor
 ·rintro ⟨x,s',h,q⟩
  cases ha:D F a s with
  | none=>rw [ha] at h;cases h
  | some p=>
   obtain ⟨y,u⟩:=p
   rw [ha] at h
   refine ⟨y,u,rfl,?_⟩
   cases y with
   | normal=>exact ⟨x,s',h,q⟩
   | exit j=>cases h;exact q
   | ret=>cases h;exact q
 ·rintro ⟨y,u,ha,q⟩
  rw [ha]
  cases y with
  | normal=>exact q
  | exit j=>exact ⟨_,_,rfl,q⟩
  | ret=>exact ⟨_,_,rfl,q⟩
theorem yk8 (id:Nat) (b:zal):WPD (D F (.block id b) s) Q=WPD (D F b s) (zna id Q):=by
 rw [yko];unfold WPD;apply propext
 constructor
 ·rintro ⟨x,s',h,q⟩
  cases ha:D F b s with
  | none=>rw [ha] at h;cases h
  | some p=>
   obtain ⟨y,u⟩:=p
   rw [ha] at h
   refine ⟨y,u,rfl,?_⟩
   cases y <;>(cases h;exact q)
 ·rintro ⟨y,u,ha,q⟩
  rw [ha]
  cases y <;> exact ⟨_,_,rfl,q⟩
theorem zqx (b:zal):yar F b Q .normal s=WPD (D F b s) Q:=rfl
theorem zyz (b:zal):yar F b Q .ret s=Q .ret s:=rfl
theorem zuf (b:zal) (j:Nat):yar F b Q (.exit j) s=Q (.exit j) s:=rfl
theorem ze7 (id:Nat):zna id Q .normal s=Q .normal s:=rfl
theorem zue (id:Nat):zna id Q .ret s=Q .ret s:=rfl
theorem zhs (id:Nat):zna id Q (.exit id) s=Q .normal s:=by simp [zna]
theorem zql (id j:Nat) (h:j≠id):zna id Q (.exit j) s=Q (.exit j) s:=by simp [zna,h]
theorem zj6 (I:Nat→St→Prop) (m:Nat):yec I m Q .normal s=∃m',m'<m∧I m' s:=rfl
theorem yan (I:Nat→St→Prop) (m:Nat):yec I m Q .ret s=Q .ret s:=rfl
theorem zvu (I:Nat→St→Prop) (m j:Nat):yec I m Q (.exit j) s=Q (.exit j) s:=rfl
theorem yn9 (h:Heap) (i:Nat) (t:List Value) (r:Option (Value×Heap)):retQ h [.tmp i] r .ret ⟨t,h⟩=(some (t.getD i undef,h)=r):=by
 unfold retQ;rw [ybt]
theorem ylp (h:Heap) (i:Nat) (t:List Value) (r:Option (Value×Heap)):retQ h [.tmp i] r .normal ⟨t,h⟩=(some (t.getD i undef,h)=r):=by
 unfold retQ;rw [zqg]
theorem ymv {f:FuncId} {fn:y4} (hf:F f=some fn) {args:List Value} {h:Heap} {r:Option (Value×Heap)} (hb:WPD (D F fn.body ⟨args++List.replicate (fn.ntmps - args.length) undef,h⟩) (retQ h fn.res r)):DF F f args h=r:=by
 rw [yms hf]
 obtain ⟨x,s,hd,hq⟩:=hb
 rw [hd];exact hq
theorem zgx {b:zal} {Q:AEx→St→Prop} (I:Nat→St→Prop) (step:∀m s,I m s→WPD (D F b s) (yec I m Q)):∀m s,I m s→WPD (D F (.loop b) s) Q:=by
 intro m
 induction m using Nat.strongRecOn with
 | ind m ih=>
  intro s hI
  obtain ⟨x,s',hd,hq⟩:=step m s hI
  rw [yis,hd]
  cases x with
  | normal=>
   obtain ⟨m',hm,hI'⟩:=hq
   exact ih m' hm s' hI'
  | exit j=>exact ⟨_,_,rfl,hq⟩
  | ret=>exact ⟨_,_,rfl,hq⟩
theorem junk {l:List Value} {h:Heap} {f:(Nat→Value)→List Value} (e:f (fun i=>l.getD i undef)=l):∃j,St.mk l h=⟨f j,h⟩:=⟨_,by rw [e]⟩
theorem WPD.mono {o:Option (AEx×St)} {Q Q':AEx→St→Prop} (h:WPD o Q) (hq:∀x s,Q x s→Q' x s):WPD o Q':=by
 obtain ⟨x,s,e,q⟩:=h;exact ⟨x,s,e,hq _ _ q⟩
end
end Go.Proofs.YtljdbheclfaloaaGreatDoor.AM
namespace Go.Proofs.YtljdbheclfaloaaGreatDoor.AM
set_option linter.unusedSimpArgs false
open Go.RowKit
section
variable {call:vf} (ρ:Operand→Value) (h:Heap)
def rowO (h:Heap) (size:Nat):Value→Value→Option (Value×Heap)
 | .slice (some p) n c,.int _ k=>if c=size∧0≤k∧k<n then some (.pointer (some { p with off:=p.off+k.toNat*size}),h) else none
 | _,_=>none
theorem ykp (size:Nat) (x i:Operand):evOp call ρ h (.atRow size x i)=rowO h size (ρ x) (ρ i):=by
 simp only [evOp];generalize ρ x=x;generalize ρ i=y
 cases x with
 | slice p n c=>cases p <;> cases y <;> rfl
 | _=>rfl
theorem yhn {size:Nat} {p:Addr} {n:Nat} {kk:IntKind} {k:Int} (h0:0≤k) (h1:k<n):rowO h size (.slice (some p) n size) (.int kk k)=some (.pointer (some ⟨p.block,p.off+k.toNat*size,p.spot⟩),h):=by
 simp only [rowO];rw [if_pos ⟨trivial,h0,h1⟩]
def yed (h:Heap):Value→Option (Value×Heap)
 | .pointer (some p)=>zb h (h.read1 p)
 | _=>none
theorem yla (a:Operand):evOp call ρ h (.load1 a)=yed h (ρ a):=by
 simp only [evOp];generalize ρ a=x
 cases x <;> try rfl
 rename_i p
 cases p with
 | none=>rfl
 | some p=>simp only [yed];cases h.read1 p <;> rfl
theorem yba (p:Addr):yed h (.pointer (some p))=zb h (h.read1 p):=rfl
def yk5 (h:Heap) (n:Nat):Value→Option (Value×Heap)
 | .pointer (some p)=>zb h ((h.read p n).map agg)
 | _=>none
theorem yl1 (n:Nat) (a:Operand):evOp call ρ h (.load n a)=yk5 h n (ρ a):=by
 simp only [evOp];generalize ρ a=x
 cases x <;> try rfl
 rename_i p
 cases p with
 | none=>rfl
 | some p=>simp only [yk5];cases h.read p n <;> rfl
theorem yhw (n:Nat) (p:Addr):yk5 h n (.pointer (some p))=zb h ((h.read p n).map agg):=rfl
def mkO (h:Heap) (n size:Nat):Option (List Value)→Option (Value×Heap)
 | some l=>some (slc h.length 0 0 n size,h++[.cells l 0 false])
 | none=>none
def zkt (ρ:Operand→Value):List (Nat×Nat×Operand)→List (Nat×Nat×Value)
 | []=>[]
 | p::r=>(p.1,p.2.1,ρ p.2.2)::zkt ρ r
theorem zz6:zkt ρ []=[]:=rfl
theorem zv6 (i n:Nat) (x:Operand) (r:List (Nat×Nat×Operand)):zkt ρ ((i,n,x)::r)=(i,n,ρ x)::zkt ρ r:=rfl
theorem zsz (ps:List (Nat×Nat×Operand)):(ps.map fun p=>(p.1,p.2.1,ρ p.2.2))=zkt ρ ps:=by
 induction ps with
 | nil=>rfl
 | cons p r ih=>simp only [ypr,ih];rfl
theorem yjz (z:List Value) (n:Nat) (ps:List (Nat×Nat×Operand)):evOp call ρ h (.mkRow z n ps)=mkO h n z.length (yp (p7 z n) (zkt ρ ps)):=by
 simp only [evOp,zsz];cases yp (p7 z n) (zkt ρ ps)<;> rfl
def yiz (h:Heap):Option (List Value)→Option (Value×Heap)
 | some l=>some (agg l,h)
 | none=>none
theorem yj0 (z:List Value) (ps:List (Nat×Nat×Operand)):evOp call ρ h (.build z ps)=yiz h (yp z (zkt ρ ps)):=by
 simp only [evOp,zsz];cases yp z (zkt ρ ps)<;> rfl
theorem yki (n size:Nat) (l:List Value):mkO h n size (some l)=some (slc h.length 0 0 n size,h++[.cells l 0 false]):=rfl
theorem yaf (l:List Value):yiz h (some l)=some (agg l,h):=rfl
theorem po (l:List Value):yp l []=some l:=rfl
theorem yac {l:List Value} {i:Nat} (hi:i<l.length) (v:Value):splice l i [v]=l.set i v:=by
 unfold splice;rw [List.set_eq_take_append_cons_drop,if_pos hi];simp
theorem zgj {l:List Value} {i:Nat} {v:Value} (r:List (Nat×Nat×Value)) (hi:i<l.length) (hv:laid v=some [v]):yp l ((i,1,v)::r)=yp (l.set i v) r:=by
 rw [yp,hv];simp only [List.length_singleton,true_and];rw [if_pos (by omega),yac hi]
theorem zao {l:List Value} {i:Nat} {k:IntKind} {n:Int} (r:List (Nat×Nat×Value)) (hi:i<l.length):yp l ((i,1,.int k n)::r)=yp (l.set i (.int k n)) r:=zgj r hi rfl
theorem yck {l:List Value} {i:Nat} {b:Bool} (r:List (Nat×Nat×Value)) (hi:i<l.length):yp l ((i,1,.bool b)::r)=yp (l.set i (.bool b)) r:=zgj r hi rfl
theorem zk6 {l:List Value} {i:Nat} {p:Option Addr} {n c:Nat} (r:List (Nat×Nat×Value)) (hi:i<l.length):yp l ((i,1,.slice p n c)::r)=yp (l.set i (.slice p n c)) r:=zgj r hi rfl
theorem zwl {l:List Value} {i:Nat} {s:ByteArray} (r:List (Nat×Nat×Value)) (hi:i<l.length):yp l ((i,1,.string s)::r)=yp (l.set i (.string s)) r:=zgj r hi rfl
theorem zz9 (z:List Value):p7 z 0=[]:=rfl
theorem zz8 (z:List Value) (n:Nat):p7 z (n+1)=z++p7 z n:=rfl
theorem zkm {p:Addr} {n:Nat} {l:List Value} (more:Heap) (e:h.read p n=some l):Heap.read (h++more) p n=some l:=by
 unfold Heap.read at e ⊢
 split at e
 ·rename_i vals ver ro hb
  rw [yo9 (yoq.1 hb).1,hb];exact e
 ·cases e
theorem zyd {p:Addr} {n:Nat} {l:List Value} (e:h.read p n=some l) {i:Nat} {v:Value} (hv:l[i]?=some v):h.read1 ⟨p.block,p.off+i,p.spot⟩=some v:=by
 unfold Heap.read at e
 unfold Heap.read1
 split at e
 ·rename_i vals ver ro hb
  simp only [hb]
  split at e
  ·rename_i hc
   cases e
   rw [if_pos hc.1]
   rw [yp0] at hv
   split at hv
   ·rwa [List.getElem?_drop] at hv
   ·cases hv
  ·cases e
 ·cases e
theorem yhi (more:Heap) (i:Nat) (t:List Value) (hf:flat (t.getD i undef)=true):endF h [.tmp i] (some (.ret,⟨t,h++more⟩))=some (t.getD i undef,h):=by
 simp [endF,f9,aRes,finish,ypg] at hf ⊢
 simp [hf]
theorem zhk (more:Heap) (i:Nat) (t:List Value) (r:Option (Value×Heap)) (hf:flat (t.getD i undef)=true):retQ h [.tmp i] r .ret ⟨t,h++more⟩=(some (t.getD i undef,h)=r):=by
 unfold retQ;rw [yhi h more i t hf]
end
end Go.Proofs.YtljdbheclfaloaaGreatDoor.AM
namespace Go.Proofs.YtljdbheclfaloaaGreatDoor.AM
set_option linter.unusedSimpArgs false
open Go.RowKit
section
variable {call:vf} (ρ:Operand→Value) (h:Heap)
theorem yhd (size bytes:Nat) (x y:Operand):evOp call ρ h (.append size bytes x y)=wu h size bytes (ρ x) (za5 h size (ρ y)):=rfl
theorem zq8 {p:Addr} {n size:Nat} {l:List Value} (e:h.read p (n*size)=some l):za5 h size (.slice (some p) n size)=some (l,n):=by
 simp [za5,e]
def cutO (h:Heap) (size:Nat) (lo hi:Option Value):Value→Option (Value×Heap)
 | .slice (some p) n c=>match zah lo 0,zah hi n with
  | some l,some k=>if c=size∧l≤k∧k≤n then some (.slice (some { p with off:=p.off+l*size}) (k - l) c,h) else none
  | _,_=>none
 | .slice none _ _=>match zah lo 0,zah hi 0 with
  | some 0,some 0=>some (nils,h)
  | _,_=>none
 | _=>none
theorem yjw (size:Nat) (x:Operand) (lo hi:Option Operand):evOp call ρ h (.slice size x lo hi)=cutO h size (lo.map ρ) (hi.map ρ) (ρ x):=by
 simp only [evOp];generalize ρ x=x
 cases x with
 | slice p n c=>cases p <;> rfl
 | _=>rfl
end
end Go.Proofs.YtljdbheclfaloaaGreatDoor.AM
namespace Go.Proofs.YtljdbheclfaloaaGreatDoor.AM
set_option linter.unusedSimpArgs false
open Go.RowKit
def zsw:Nat→List Value
 | 0=>[]
 | n+1=>undef::zsw n
theorem zzp:zsw 0=[]:=rfl
theorem zzc (n:Nat):zsw (n+1)=undef::zsw n:=rfl
theorem zxt (n:Nat):List.replicate n undef=zsw n:=by
 induction n with
 | zero=>rfl
 | succ n ih=>rw [List.replicate_succ,ih];rfl
theorem ye {F:Funcs} {f:FuncId} {fn:y4} (hf:F f=some fn) {args:List Value} {h:Heap} {r:Option (Value×Heap)} (hb:WPD (D F fn.body ⟨args++zsw (fn.ntmps - args.length),h⟩) (retQ h fn.res r)):DF F f args h=r:=by
 refine ymv hf ?_
 rw [zxt];exact hb
def retE (h:Heap) (res:List ARes) (R:Value→Heap→Prop):AEx→St→Prop:=fun x s=>∃v h',endF h res (some (x,s))=some (v,h')∧R v h'
theorem yb {F:Funcs} {f:FuncId} {fn:y4} (hf:F f=some fn) {args:List Value} {h:Heap} {R:Value→Heap→Prop} (hb:WPD (D F fn.body ⟨args++zsw (fn.ntmps - args.length),h⟩) (retE h fn.res R)):∃v h',DF F f args h=some (v,h')∧R v h':=by
 rw [yms hf]
 obtain ⟨x,s,hd,v,h',he,hr⟩:=hb
 rw [zxt,hd]
 exact ⟨v,h',he,hr⟩
section
variable {call:vf} (ρ:Operand→Value) (h L:Heap) (a:AObj) (i o:Nat) (v:Option Nat)
theorem yj7 (z:List Value):evOp call ρ h (.alloc z)=some (.pointer (some ⟨h.length,0,some 0⟩),h++[.cells z 0 false]):=rfl
def boxO (h:Heap) (n:Nat):Option (List Value)→Option (Value×Heap)
 | some l=>if l.length=n then some (.pointer (some ⟨h.length,0,some 0⟩),h++[.cells l 0 false]) else none
 | none=>none
theorem ynu (n:Nat) (x:Operand):evOp call ρ h (.box n x)=boxO h n (laid (ρ x)):=by
 simp only [evOp];cases laid (ρ x)<;> rfl
def arrO (h:Heap) (len size:Nat):Value→Value→Option (Value×Heap)
 | .pointer (some p),.int _ k=>if 0≤k∧k<len then some (.pointer (some { p with off:=p.off+k.toNat*size}),h) else none
 | _,_=>none
theorem yj1 (len size:Nat) (x i:Operand):evOp call ρ h (.atArr len size x i)=arrO h len size (ρ x) (ρ i):=by
 simp only [evOp];generalize ρ x=x;generalize ρ i=y
 cases x with
 | pointer p=>cases p <;> cases y <;> rfl
 | _=>rfl
theorem zx2 {len size:Nat} {b o:Nat} {s:Option Nat} {kk:IntKind} {k:Int} (h0:0≤k) (h1:k<len):arrO h len size (.pointer (some ⟨b,o,s⟩)) (.int kk k)=some (.pointer (some ⟨b,o+k.toNat*size,s⟩),h):=by
 simp only [arrO];rw [if_pos ⟨h0,h1⟩]
def offO (h:Heap) (n:Nat):Value→Option (Value×Heap)
 | .pointer (some p)=>some (.pointer (some { p with off:=p.off+n}),h)
 | _=>none
theorem ynz (n:Nat) (x:Operand):evOp call ρ h (.off n x)=offO h n (ρ x):=by
 simp only [evOp];generalize ρ x=x
 cases x with
 | pointer p=>cases p <;> rfl
 | _=>rfl
theorem ylg (n b o:Nat) (s:Option Nat):offO h n (.pointer (some ⟨b,o,s⟩))=some (.pointer (some ⟨b,o+n,s⟩),h):=rfl
def zxx (h:Heap) (n i:Nat):Value→Option (Value×Heap)
 | .agg cs=>if i+n≤cs.size then some (agg ((cs.toList.drop i).take n),h) else none
 | _=>none
theorem ykz (n i:Nat) (x:Operand):evOp call ρ h (.field n i x)=zxx h n i (ρ x):=by
 simp only [evOp];generalize ρ x=x;cases x <;> rfl
theorem ydn {n i:Nat} {l:List Value} (hl:i+n≤l.length):zxx h n i (agg l)=some (agg ((l.drop i).take n),h):=by
 simp [zxx,agg,hl]
def zru (h:Heap) (i:Nat):Value→Option (Value×Heap)
 | .agg cs=>zb h cs.toList[i]?
 | _=>none
theorem yh9 (i:Nat) (x:Operand):evOp call ρ h (.field1 i x)=zru h i (ρ x):=by
 simp only [evOp];generalize ρ x=x
 cases x with
 | agg cs=>simp only [zru];cases cs.toList[i]? <;> rfl
 | _=>rfl
theorem zzq (i:Nat) (l:List Value):zru h i (agg l)=zb h l[i]?:=by simp [zru,agg]
theorem yb0 (x:Value):zb h (some x)=some (x,h):=rfl
def zmz (h:Heap) (i:Nat):Value→Option (Value×Heap)
 | .tuple cs=>zb h cs.toList[i]?
 | _=>none
theorem ycw (i:Nat) (x:Operand):evOp call ρ h (.extract x i)=zmz h i (ρ x):=by
 simp only [evOp];generalize ρ x=x
 cases x with
 | tuple cs=>simp only [zmz];cases cs.toList[i]? <;> rfl
 | _=>rfl
theorem zv9 (i:Nat) (l:List Value):zmz h i (tup l)=zb h l[i]?:=by simp [zmz,tup]
def zfn:Option Heap→Option (Value×Heap)
 | some h'=>some (undef,h')
 | none=>none
theorem zyy (h':Heap):zfn (some h')=some (undef,h'):=rfl
def zdr (h:Heap):Value→Value→Option (Value×Heap)
 | .pointer (some p),v=>match v with
  | .agg _=>none
  | .tuple _=>none
  | v=>zfn (h.write1 p v)
 | _,_=>none
theorem ygk (a x:Operand):evOp call ρ h (.store1 a x)=zdr h (ρ a) (ρ x):=by
 simp only [evOp];generalize ρ a=a;generalize ρ x=x
 cases a with
 | pointer p=>
  cases p with
  | none=>rfl
  | some p=>cases x <;> first | rfl | (simp only [zdr];cases Heap.write1 h p _ <;> rfl)
 | _=>rfl
theorem zy1 (p:Addr) (k:IntKind) (n:Int):zdr h (.pointer (some p)) (.int k n)=zfn (h.write1 p (.int k n)):=rfl
theorem zvw (p:Addr) (b:Bool):zdr h (.pointer (some p)) (.bool b)=zfn (h.write1 p (.bool b)):=rfl
theorem zq5 (p:Addr) (s:ByteArray):zdr h (.pointer (some p)) (.string s)=zfn (h.write1 p (.string s)):=rfl
theorem zua (p:Addr) (q:Option Addr) (n c:Nat):zdr h (.pointer (some p)) (.slice q n c)=zfn (h.write1 p (.slice q n c)):=rfl
theorem zza (p:Addr) (q:Option Addr):zdr h (.pointer (some p)) (.pointer q)=zfn (h.write1 p (.pointer q)):=rfl
theorem zui (p:Addr) (f:Fn) (x y:Array Value):zdr h (.pointer (some p)) (.func f x y)=zfn (h.write1 p (.func f x y)):=rfl
theorem zo4 (p:Addr):zdr h (.pointer (some p)) .nilFunc=zfn (h.write1 p .nilFunc):=rfl
theorem zzw (p:Addr) (m:Option Nat):zdr h (.pointer (some p)) (.map m)=zfn (h.write1 p (.map m)):=rfl
def zx7 (h:Heap) (n:Nat):Value→Value→Option (Value×Heap)
 | .pointer (some p),.agg cs=>if cs.size=n then zfn (h.write p cs.toList) else none
 | _,_=>none
theorem yjo (n:Nat) (a x:Operand):evOp call ρ h (.store n a x)=zx7 h n (ρ a) (ρ x):=by
 simp only [evOp];generalize ρ a=a;generalize ρ x=x
 cases a with
 | pointer p=>
  cases p with
  | none=>cases x <;> rfl
  | some p=>
   cases x with
   | agg cs=>
    simp only [zx7]
    split
    ·cases Heap.write h p cs.toList <;> rfl
    ·rfl
   | _=>rfl
 | _=>rfl
theorem ybr {n:Nat} {p:Addr} {l:List Value} (hl:l.length=n):zx7 h n (.pointer (some p)) (agg l)=zfn (h.write p l):=by
 simp [zx7,agg,hl]
def znk (h:Heap):Value→Option (Value×Heap)
 | .pointer (some p)=>some (.pointer (some p),h)
 | .func (.func f) a b=>some (.func (.func f) a b,h)
 | _=>none
theorem yap (x:Operand):evOp call ρ h (.nilCheck x)=znk h (ρ x):=by
 simp only [evOp];generalize ρ x=x
 cases x with
 | pointer p=>cases p <;> rfl
 | func f a b=>cases f <;> rfl
 | _=>rfl
theorem ztb (p:Addr):znk h (.pointer (some p))=some (.pointer (some p),h):=rfl
theorem zqz (f:FuncId) (x y:Array Value):znk h (.func (.func f) x y)=some (.func (.func f) x y,h):=rfl
theorem zpx:Heap.read1 (h++L) ⟨h.length+i,o,v⟩=Heap.read1 L ⟨i,o,v⟩:=by
 unfold Heap.read1;simp only;rw [ypn (by omega),Nat.add_sub_cancel_left]
theorem ziz:Heap.read1 (h++L) ⟨h.length,o,v⟩=Heap.read1 L ⟨0,o,v⟩:=zpx h L 0 o v
theorem zzu:Heap.read1 (a::L) ⟨i+1,o,v⟩=Heap.read1 L ⟨i,o,v⟩:=rfl
theorem zwh (l:List Value) (n:Nat) (ro:Bool):Heap.read1 (.cells l n ro::L) ⟨0,o,some n⟩=l[o]?:=by simp [Heap.read1]
theorem zkh (n:Nat):Heap.read (h++L) ⟨h.length+i,o,v⟩ n=Heap.read L ⟨i,o,v⟩ n:=by
 unfold Heap.read;simp only;rw [ypn (by omega),Nat.add_sub_cancel_left]
theorem zlq (n:Nat):Heap.read (h++L) ⟨h.length,o,v⟩ n=Heap.read L ⟨0,o,v⟩ n:=zkh h L 0 o v n
theorem ycm (n:Nat):Heap.read (a::L) ⟨i+1,o,v⟩ n=Heap.read L ⟨i,o,v⟩ n:=rfl
theorem zk5 {l:List Value} (n m:Nat) (ro:Bool) (hl:l.length=m):Heap.read (.cells l n ro::L) ⟨0,0,some n⟩ m=some l:=by
 simp [Heap.read,hl];rw [←hl];simp
def preO (h:Heap):Option Heap→Option Heap
 | some L=>some (h++L)
 | none=>none
theorem yhl:preO h (some L)=some (h++L):=rfl
def ykb (a:AObj):Option Heap→Option Heap
 | some L=>some (a::L)
 | none=>none
theorem yfh:ykb a (some L)=some (a::L):=rfl
theorem zqj (x:AObj):(h++L).set (h.length+i) x=h++L.set i x:=by
 rw [List.set_append_right _ _ (by omega),Nat.add_sub_cancel_left]
theorem zoe (y:Value):Heap.write1 (h++L) ⟨h.length+i,o,v⟩ y=preO h (Heap.write1 L ⟨i,o,v⟩ y):=by
 unfold Heap.write1;simp only;rw [ypn (by omega),Nat.add_sub_cancel_left]
 cases L[i]? with
 | none=>rfl
 | some ob=>
  cases ob with
  | cells vals ver ro=>
   cases ro with
   | true=>rfl
   | false=>
    simp only
    split
    ·rw [zqj];rfl
    ·rfl
  | _=>rfl
theorem zs5 (y:Value):Heap.write1 (h++L) ⟨h.length,o,v⟩ y=preO h (Heap.write1 L ⟨0,o,v⟩ y):=zoe h L 0 o v y
theorem zvj (y:Value):Heap.write1 (a::L) ⟨i+1,o,v⟩ y=ykb a (Heap.write1 L ⟨i,o,v⟩ y):=by
 unfold Heap.write1;simp only [List.getElem?_cons_succ,List.set_cons_succ]
 cases L[i]? with
 | none=>rfl
 | some ob=>
  cases ob with
  | cells vals ver ro=>
   cases ro with
   | true=>rfl
   | false=>simp only;split <;> rfl
  | _=>rfl
theorem zse {l:List Value} (n:Nat) (y:Value) {o:Nat} (ho:o<l.length):Heap.write1 (.cells l n false::L) ⟨0,o,some n⟩ y=some (.cells (l.set o y) n false::L):=by
 simp [Heap.write1,ho]
theorem zp2 (ys:List Value):Heap.write (h++L) ⟨h.length+i,o,v⟩ ys=preO h (Heap.write L ⟨i,o,v⟩ ys):=by
 unfold Heap.write;simp only;rw [ypn (by omega),Nat.add_sub_cancel_left]
 cases L[i]? with
 | none=>rfl
 | some ob=>
  cases ob with
  | cells vals ver ro=>
   cases ro with
   | true=>rfl
   | false=>
    simp only
    split
    ·rw [zqj];rfl
    ·rfl
  | _=>rfl
theorem ziu (ys:List Value):Heap.write (h++L) ⟨h.length,o,v⟩ ys=preO h (Heap.write L ⟨0,o,v⟩ ys):=zp2 h L 0 o v ys
theorem yai (ys:List Value):Heap.write (a::L) ⟨i+1,o,v⟩ ys=ykb a (Heap.write L ⟨i,o,v⟩ ys):=by
 unfold Heap.write;simp only [List.getElem?_cons_succ,List.set_cons_succ]
 cases L[i]? with
 | none=>rfl
 | some ob=>
  cases ob with
  | cells vals ver ro=>
   cases ro with
   | true=>rfl
   | false=>simp only;split <;> rfl
  | _=>rfl
theorem zv7 {l:List Value} (n:Nat) {ys:List Value} (hl:l.length=ys.length):Heap.write (.cells l n false::L) ⟨0,0,some n⟩ ys=some (.cells ys n false::L):=by
 simp [Heap.write,hl,splice]
theorem yb6 (h h':Heap) (i j:Nat) (t:List Value):endF h [.tmp i,.tmp j] (some (.ret,⟨t,h'⟩))=some (tup [t.getD i undef,t.getD j undef],finish h (tup [t.getD i undef,t.getD j undef]) h'):=rfl
theorem yeq (h h':Heap) (i j k:Nat) (t:List Value):endF h [.tmp i,.tmp j,.tmp k] (some (.ret,⟨t,h'⟩))=some (tup [t.getD i undef,t.getD j undef,t.getD k undef],finish h (tup [t.getD i undef,t.getD j undef,t.getD k undef]) h'):=rfl
theorem yjn (h h':Heap) (i:Nat) (t:List Value):endF h [.tmp i] (some (.ret,⟨t,h'⟩))=some (t.getD i undef,finish h (t.getD i undef) h'):=rfl
theorem zz (v:Value):finish h v h=h:=by unfold finish;split <;> rfl
theorem ft {v:Value} (hf:flat v=true):finish h v (h++L)=h:=by unfold finish;simp [hf]
theorem zfm {v:Value} (hf:flat v=false) (h':Heap):finish h v h'=h':=by unfold finish;simp [hf]
theorem zpi (v:Value):finish h v (h++L)=h++L∨(finish h v (h++L)=h∧flat v=true):=by
 cases hf:flat v
 ·exact .inl (zfm h hf _)
 ·exact .inr ⟨ft h L hf,rfl⟩
end
def zc2 {α:Type} (n:Nat) (f:Nat→α):List α:=(List.range n).map f
section
variable {α:Type} {n:Nat} {f g:Nat→α}
theorem bn (n:Nat) (f:Nat→α):(zc2 n f).length=n:=by rw [zc2,ypd,List.length_range]
theorem zfb {k:Nat} (hk:k<n):(zc2 n f)[k]?=some (f k):=by rw [zc2,yp1,List.getElem?_range hk];rfl
theorem ziw (h:∀k,k<n→f k=g k):zc2 n f=zc2 n g:=by
 unfold zc2;apply List.map_congr_left;intro k hk;exact h k (by simpa using hk)
theorem zso {k:Nat} (v:α):(zc2 n f).set k v=zc2 n (fun i=>if i=k then v else f i):=by
 apply List.ext_getElem?
 intro i
 rw [List.getElem?_set]
 by_cases hi:i<n
 ·rw [zfb (f:=f) hi,zfb hi]
  by_cases h:k=i
  ·subst h;rw [if_pos rfl,if_pos (by rw [bn];exact hi),if_pos rfl]
  ·rw [if_neg h,if_neg (fun e=>h e.symm)]
 ·rw [ypv (by rw [bn];omega),ypv (by rw [bn];omega)]
  by_cases h:k=i
  ·rw [if_pos h,if_neg (by rw [bn];omega)]
  ·rw [if_neg h]
theorem yc5 (n:Nat) (v:α):List.replicate n v=zc2 n (fun _=>v):=by
 apply List.ext_getElem?
 intro i
 by_cases hi:i<n
 ·rw [zfb hi,List.getElem?_replicate,if_pos hi]
 ·rw [ypv (by rw [List.length_replicate];omega),ypv (by rw [bn];omega)]
theorem ycs (h:zc2 n f=zc2 n g) {k:Nat} (hk:k<n):f k=g k:=by
 have:=congrArg (·[k]?) h
 simp only [zfb hk] at this
 exact yqc this
theorem ydz (p:α→Bool) (h:∀k,k<n→p (f k)=true):(zc2 n f).all p=true:=by
 rw [yp9];intro x hx
 simp [zc2] at hx
 obtain ⟨k,hk,rfl⟩:=hx
 exact h k hk
end
section
variable (h:Heap)
theorem zr7 {L:Heap} {size bytes m n ver:Nat} {vals ys:List Value} (hl:vals.length=m*size) (hr:(m+n)*bytes≤wy):
  wu (h++AObj.cells vals ver false::L) size bytes (.slice (some ⟨h.length,0,some ver⟩) m size) (some (ys,n))=some (.slice (some ⟨h.length,0,some (ver+1)⟩) (m+n) size,h++AObj.cells (vals++ys) (ver+1) false::L):=by
 unfold wu
 simp only
 rw [ypn (yoz _),Nat.sub_self]
 simp only [List.getElem?_cons_zero]
 rw [if_pos ⟨trivial,trivial,trivial,by omega,hr⟩,ypy (by omega)]
 have e:=zqj h (AObj.cells vals ver false::L) 0 (AObj.cells (vals++ys) (ver+1) false)
 rw [yqe] at e
 rw [e];rfl
theorem yfo {L:Heap} {size n ver:Nat} {l:List Value} {ro:Bool} (hl:l.length=n*size):za5 (h++AObj.cells l ver ro::L) size (.slice (some ⟨h.length,0,some ver⟩) n size)=some (l,n):=by
 rw [zq8];rw [zlq,zk5 _ _ _ _ hl]
end
section
variable (h:Heap)
theorem zdn (d:Nat):zah none d=some d:=rfl
theorem zd5 (k:IntKind) (n:Nat) (d:Nat):zah (some (.int k (n:Int))) d=some n:=by simp [zah]
theorem zmw {size b o n l k:Nat} {s:Option Nat} {lo hi:Option Value} (hl:zah lo 0=some l) (hk:zah hi n=some k) (h1:l≤k) (h2:k≤n):
  cutO h size lo hi (.slice (some ⟨b,o,s⟩) n size)=some (.slice (some ⟨b,o+l*size,s⟩) (k - l) size,h):=by
 simp only [cutO,hl,hk]
 rw [if_pos ⟨trivial,h1,h2⟩]
theorem yik {size b o n k:Nat} {s:Option Nat} (kk:IntKind) (h1:k≤n):cutO h size none (some (.int kk (k:Int))) (.slice (some ⟨b,o,s⟩) n size)=some (.slice (some ⟨b,o,s⟩) k size,h):=by
 rw [zmw h (zdn 0) (zd5 kk k n) (Nat.zero_le _) h1];simp
theorem yg4 {size b o n l:Nat} {s:Option Nat} (kk:IntKind) (h1:l≤n):cutO h size (some (.int kk (l:Int))) none (.slice (some ⟨b,o,s⟩) n size)=some (.slice (some ⟨b,o+l*size,s⟩) (n - l) size,h):=
 zmw h (zd5 kk l 0) (zdn n) h1 (yoz _)
theorem ylj {size b o n l k:Nat} {s:Option Nat} (kk kj:IntKind) (h1:l≤k) (h2:k≤n):cutO h size (some (.int kk (l:Int))) (some (.int kj (k:Int))) (.slice (some ⟨b,o,s⟩) n size)=some (.slice (some ⟨b,o+l*size,s⟩) (k - l) size,h):=
 zmw h (zd5 kk l 0) (zd5 kj k n) h1 h2
theorem ylk {size b o n:Nat} {s:Option Nat}:cutO h size none none (.slice (some ⟨b,o,s⟩) n size)=some (.slice (some ⟨b,o,s⟩) n size,h):=by
 rw [zmw h (zdn 0) (zdn n) (Nat.zero_le _) (yoz _)];simp
end
end Go.Proofs.YtljdbheclfaloaaGreatDoor.AM
namespace Go.Proofs.YtljdbheclfaloaaGreatDoor.AM
set_option linter.unusedSimpArgs false
open Go.RowKit
def B (x:Int):BitVec 64:=BitVec.ofInt 64 x
def W (x:Int):Prop:= -9223372036854775808≤x∧x≤9223372036854775807
def bi (x:Int) (i:Nat):Bool:=(B x).getLsbD i
theorem yn8:((2 ^ 64:Nat):Int)=18446744073709551616:=rfl
theorem yaq {x:Int} (hx:W x):(B x).toInt=x:=by
 unfold W at hx
 unfold B;rw [BitVec.toInt_ofInt,Int.bmod_def,yn8];split <;> omega
theorem zgz {n:Int} (h:W n):IntKind.i64.wrap n=n:=by unfold W at h;rw [IntKind.wrap_i64];omega
theorem ext {x y:Int} (hx:W x) (hy:W y) (h:∀i,i<64→bi x i=bi y i):x=y:=by
 have e:B x=B y:=BitVec.eq_of_getLsbD_eq (fun i hi=>h i hi)
 rw [←yaq hx,←yaq hy,e]
theorem yfw (x:Int) (n:Nat):x.fdiv (2 ^ n)=x >>> n:=by
 rw [Int.shiftRight_eq_div_pow,Int.fdiv_eq_ediv_of_nonneg _ (by exact Int.le_of_lt (Int.pow_pos (by decide)))]
 simp
end Go.Proofs.YtljdbheclfaloaaGreatDoor.AM
namespace Go.Proofs.YtljdbheclfaloaaGreatDoor.AM
open Go.RowKit
def zhd (P:Program) (t:TypeId):Option Value:=((P.info? t).bind (·.zero)).bind fun v=>if plain v then some v else none
def zg1 (P:Program) (t:TypeId):Option (List Value):=(zhd P t).bind laid
def ge (P:Program) (t:TypeId):Option Nat:=(P.info? t).map (·.size)
def zl8 (P:Program) (t:TypeId):Option Nat:=(P.info? t).map (·.bytes)
def aggT (P:Program) (t:TypeId):Option Bool:=
 match P.underlying t with
 | some (.struct _) | some (.array _ _)=>some true
 | some _=>some false
 | none=>none
def eqK:TypeDesc→Option EqK
 | .bool=>some .bool
 | .int _=>some .int
 | .string=>some .str
 | _=>none
def eqK1:TypeDesc→Option EqK
 | .bool=>some .bool
 | .pointer _=>some .ptr
 | .slice _=>some .slice
 | .map _ _=>some .map
 | .func _ _ _=>some .func
 | .interface _=>some .iface
 | _=>none
def repl (n:Nat) (l:List EqK):List EqK:=
 match n with
 | 0=>[]
 | n+1=>l++repl n l
def leaves (P:Program):Nat→TypeId→Option (List EqK)
 | 0,_=>none
 | d+1,t=>match P.underlying t with
  | some (.struct fs)=>if P.stoodInHeld t then none else leavesOf (leaves P d) (fun u=>(P.info? u).map (·.size)) fs.toList 0
  | some (.array n e)=>(leaves P d e).bind fun l=>if l.length=((P.info? e).map (·.size)).getD 0 then some (repl n l) else none
  | some k=>(eqK k).map ([·])
  | none=>none
where
 leavesOf (go:TypeId→Option (List EqK)) (size:TypeId→Option Nat):List Field→Nat→Option (List EqK)
  | [],_=>some []
  | f :: r, o => if f.name = "_" ∨ f.offset ≠ o then none else
   match go f.type,size f.type with
   | some l,some n=>if l.length=n then (leavesOf go size r (o+n)).map (l++ ·) else none
   | _,_=>none
def zbp:Operand→Bool
 | .const .nilIface=>true
 | _=>false
def zek (P:Program) (neg:Bool) (t:TypeId) (x y:Operand):Option AOp:=
 match P.underlying t with
 | some (.int _)=>some (.bin (if neg then .neq else .eql) x y)
 | some .string=>some (.bin (if neg then .neq else .eql) x y)
 | some (.struct _) | some (.array _ _)=>if P.eqGuardType P.depth t then none else (leaves P 8 t).map fun ks=>.eqAgg neg ks x y
 | some (.interface _)=>if zbp x || zbp y then some (.eqv neg .iface x y) else none
 | some d=>(eqK1 d).map fun k=>.eqv neg k x y
 | none=>none
def zgl (P:Program) (t:TypeId):Bool:=
 match P.underlying t with
 | some (.int _)=>true
 | _=>false
def yj8 (P:Program) (t:TypeId):Bool:=
 match P.underlying t with
 | some .string=>true
 | _=>false
def zg9 (P:Program) (e:TypeId) (ps:Array (Nat×Operand)):Option (List (Nat×Nat×Operand)):=
 (ge P e).map fun n=>ps.toList.map fun p=>(p.1*n,n,p.2)
def zdk (P:Program) (fs:Array Field):List (Nat×Operand)→Option (List (Nat×Nat×Operand))
 | []=>some []
 | (i,x)::r=>match fs[i]? with
  | some f=>match ge P f.type,zdk P fs r with
   | some n,some l=>some ((f.offset,n,x)::l)
   | _,_=>none
  | none=>none
def zov (P:Program) (f:FuncId):Bool:=
 match P.funcs[f]? with
 | some fn => fn.body.isSome && fn.name != "runtime.NumGoroutine"
 | none=>false
def zn7:Operand→Operand→Bool
 | .tmp a,.tmp b=>a==b
 | .const (.int _ a),.const (.int _ b)=>a==b
 | _,_=>false
def zbv:Option TypeDesc→Option Operand→Option AOp
 | some (.map _ _),none=>some .mkMap
 | some (.map _ _),some (.const (.int _ _))=>some .mkMap
 | _,_=>none
def zem (P:Program) (ty:TypeId) (c:Call):Option AOp:=
 match c.callee,c.args.toList,c.argTypes.toList with
 | .builtin .len,[x],[t]=>match P.underlying t with
  | some .string=>some (.lenStr x)
  | some (.slice _)=>some (.len x)
  | some (.array n _)=>some (.mv (.const (.int .i64 n)))
  | some (.pointer a)=>match P.underlying a with
   | some (.array n _)=>some (.mv (.const (.int .i64 n)))
   | _=>none
  | some (.map _ _)=>some (.lenMap x)
  | _=>none
 | .builtin .append,[x,y],[t,u]=>match P.underlying t with
  | some (.slice e)=>match ge P e,zl8 P e,zg1 P e with
   | some n,some b,some z=>if 0<n∧0<b∧z.length=n∧zgl P u=false∧(P.underlying u).isSome=true then some (.append n b x y) else none
   | _,_,_=>none
  | _=>none
 | .builtin .max,[x,y],_=>if zgl P ty then some (.max2 x y) else none
 | .builtin .min,[x,y],_=>if zgl P ty then some (.min2 x y) else none
 | .value (.func f),yoi,_=>if zov P f then some (.call f yoi) else none
 | .value (.tmp f),yoi,_=>some (.callv (.tmp f) yoi)
 | _,_,_=>none
def y8 (P:Program) (ty:TypeId):Op→Option AOp
 | .move x | .assign x=>some (.mv x)
 | .pick c a b=>some (.pick c a b)
 | .alloc t=>(zg1 P t).map .alloc
 | .box t x=>(ge P t).map fun n=>.box n x
 | .build t ps=>match P.underlying t,zg1 P t with
  | some (.struct fs),some z=>if fs.toList.all fun f=>(ge P f.type).isSome then (zdk P fs ps.toList).map (.build z) else none
  | some (.array _ e),some z=>(zg9 P e ps).map (.build z)
  | _,_=>none
 | .buildSlice t n ps=>match P.underlying t with
  | some (.slice e)=>match zg1 P e,ge P e,zg9 P e ps with
   | some z,some m,some l=>if n*m≤16777216∧z.length=m∧0<m then some (.mkRow z n l) else none
   | _,_,_=>none
  | _=>none
 | .load t a=>match aggT P t,ge P t with
  | some true,some n=>some (.load n a)
  | some false,some _=>some (.load1 a)
  | _,_=>none
 | .store t a x=>match aggT P t,ge P t with
  | some true,some n=>some (.store n a x)
  | some false,some 1=>some (.store1 a x)
  | _,_=>none
 | .nilCheck x=>some (.nilCheck x)
 | .binOp op t x y yt=>match op with
  | .eql=>zek P false t x y
  | .neq=>zek P true t x y
  | .add=>if zgl P t || yj8 P t then some (.bin .add x y) else none
  | .shl | .shr=>if zgl P t&&zgl P yt then some (.bin op x y) else none
  | op=>if zgl P t then some (.bin op x y) else none
 | .unOp op _ x=>some (.un op x)
 | .convert s d x=>match P.underlying s,P.underlying d with
  | some (.int _),some (.int k)=>some (.conv k x)
  | some .string,some .string=>some (.same x)
  | _,_=>none
 | .makeInterface t x=>match P.underlying t with
  | some (.interface _)=>none
  | some _=>some (.iface t x)
  | none=>none
 | .makeFunc (.func f) a b=>some (.func f a.toList b.toList)
 | .slice t x lo hi none=>match P.underlying t with
  | some .string=>some (.sliceStr x lo hi)
  | some (.slice e)=>(ge P e).bind fun n=>if 0<n then some (.slice n x lo hi) else none
  | some (.array n e)=>(ge P e).bind fun m=>if 0<m then some (.sliceArr n m x lo hi) else none
  | _=>none
 | .fieldAddr t x i=>match P.underlying t with
  | some (.struct fs)=>match fs[i]? with
   | some f=>(ge P f.type).bind fun n=>if 0<n then some (.off f.offset x) else none
   | none=>none
  | _=>none
 | .field t x i=>match P.underlying t with
  | some (.struct fs)=>match fs[i]? with
   | some f=>match aggT P f.type,ge P f.type with
    | some true,some n=>some (.field n f.offset x)
    | some false,some _=>some (.field1 f.offset x)
    | _,_=>none
   | none=>none
  | _=>none
 | .indexAddr t x i=>match P.underlying t with
  | some (.slice e)=>(ge P e).bind fun n=>if 0<n then some (.atRow n x i) else none
  | some (.array n e)=>(ge P e).bind fun m=>if 0<m then some (.atArr n m x i) else none
  | _=>none
 | .index t x i=>match P.underlying t with
  | some .string=>some (.idxStr x i)
  | some (.array n e)=>match aggT P e,ge P e with
   | some false,some 1=>some (.idxArr n 1 x i)
   | _,_=>none
  | _=>none
 | .extract x i=>some (.extract x i)
 | .makeMap t r=>zbv (P.underlying t) r
 | .makeSlice t l c=>match P.underlying t with
  | some (.slice e)=>match zg1 P e,ge P e,zl8 P e with
   | some z,some m,some b=>if zn7 l c∧z.length=m∧0<m∧0<b then some (.mkSlice m b z l) else none
   | _,_,_=>none
  | _=>none
 | .lookup t m k ok=>match P.underlying t with
  | some (.map kt e)=>match (P.underlying kt).bind eqK,zhd P e with
   | some kk,some z=>some (.lookup kk z m k ok)
   | _,_=>none
  | _=>none
 | .mapUpdate t m k v=>match P.underlying t with
  | some (.map kt _)=>match (P.underlying kt).bind eqK with
   | some kk=>some (.update kk m k v)
   | _=>none
  | _=>none
 | .call c=>zem P ty c
 | _=>none
def zf1 (ops:Array Oper):Option (Nat×Bool)→Option (Option (Nat×Bool))
 | none=>some none
 | some (j,b)=>match (ops[j]?).bind (·.dst) with
  | some t=>some (some (t,b))
  | none=>none
def zcw (G:Nat):Operand→Bool
 | .const v=>plain v
 | .global g=>g<G
 | _=>true
def zie (P:Program) (G:Nat) (ops:Array Oper) (o:Oper):Option gi:=
 if o.op.operands.toList.all (zcw G) then
  match y8 P o.type o.op,zf1 ops o.guard with
  | some a,some g=>some ⟨o.dst,a,g⟩
  | _,_=>none
 else none
def zdt (P:Program) (G:Nat) (ops:Array Oper):List Oper→Option (List gi)
 | []=>some []
 | o::r=>match zie P G ops o,zdt P G ops r with
  | some a,some l=>some (a::l)
  | _,_=>none
def AOp.acts:AOp→Bool
 | .store1 _ _ | .store _ _ _ | .append _ _ _ _ | .call _ _ | .callv _ _ | .update _ _ _ _=>true
 | _=>false
def AOp.makes:AOp→Bool
 | .alloc _ | .box _ _ | .mkRow _ _ _ | .mkSlice _ _ _ _ | .mkMap=>true
 | _=>false
def AOp.reads:AOp→Bool
 | .load1 _ | .load _ _ | .lookup _ _ _ _ _ | .lenMap _ | .sliceArr _ _ _ _ _=>true
 | _=>false
def AOp.againOf (t:Nat):AOp→Option AOp
 | .load1 a=>some (.again1 a t)
 | .load n a=>some (.again n a t)
 | _=>none
def zgb (o:Oper) (a:gi):List Nat:=
 (o.op.operands.toList.filterMap fun | .tmp t=>some t | _=>none)++(match a.guard with | some (t,_)=>[t] | none=>[])
def xw:gi:=⟨none,.mkMap,none⟩
def zrg (ops:List Oper) (yoi:List gi) (b:List Nat):Bool:=
 (List.range yoi.length).all fun i=>(List.range yoi.length).all fun j=>
  let o:=yoi.getD i xw
  let p:=yoi.getD j xw
  match o.dst with
  | none=>true
  | some t=>
   (i==j || p.dst !=some t)&&
   (!(zgb (ops.getD j default) p).contains t || ((b.getD j 0).testBit i) || ((b.getD i 0).testBit j))
def zx4 (ops:List Oper) (b:List Nat):Bool:=
 (List.range ops.length).all fun i=>match (ops.getD i default).guard with
  | some (j,_)=>(b.getD i 0).testBit j
  | none=>true
def ze3 (yoi:List gi) (b:List Nat):List Nat→Nat→Bool
 | [],_=>true
 | i::r,seen=>
  !seen.testBit i&&i<yoi.length&&(b.getD i 0&&&seen)==b.getD i 0&&
  (!(yoi.getD i xw).op.acts || (List.range yoi.length).all fun j=>seen.testBit j || j==i || (b.getD j 0).testBit i)&&
  ze3 yoi b r (seen ||| 2 ^ i)
def zvb (ops:List Oper) (yoi:List gi) (b:List Nat) (bi:Nat):List Nat→Option (List gi)
 | []=>some []
 | j::r=>
  let o:=yoi.getD j xw
  if o.op.reads&& !bi.testBit j then
   match o.dst,zvb ops yoi b bi r with
   | some t,some l=>
    if (List.range yoi.length).all fun k=>match (yoi.getD k xw).dst with
     | some u=> !(zgb (ops.getD j default) o).contains u || (b.getD j 0).testBit k
     | none=>true
    then (o.op.againOf t).map fun a=>⟨none,a,o.guard⟩::l else none
   | _,_=>none
  else zvb ops yoi b bi r
def zq9 (ops:List Oper) (yoi:List gi) (b:List Nat):List Nat→List Nat→Option (List gi)
 | [],_=>some []
 | i::r,done=>
  let o:=yoi.getD i xw
  match (if o.op.acts then zvb ops yoi b (b.getD i 0) done else some []),zq9 ops yoi b r (done++[i]) with
  | some l,some m=>some (o::(l++m))
  | _,_=>none
def zh2 (P:Program) (G:Nat) (ord:Option (List Nat)) (ops:Array Oper) (draw:Bool):Option (List gi):=
 match zdt P G ops ops.toList with
 | none=>none
 | some yoi=>
  if draw then
   let b:=(Region.before ops).toList
   let l:=ord.getD (List.range yoi.length)
   if zrg ops.toList yoi b&&zx4 ops.toList b&&((List.range yoi.length).all fun i=>l.contains i)&&ze3 yoi b l 0 then zq9 ops.toList yoi b l [] else none
  else some yoi
def zco (P:Program) (G:Nat) (ords:List (Nat×List Nat)):Code→Option zal
 | .skip=>some .skip
 | .region id ops d=>(zh2 P G (ords.lookup id) ops d).map .ops
 | .seq a b=>match zco P G ords a,zco P G ords b with
  | some a,some b=>some (.seq a b)
  | _,_=>none
 | .cond c a b=>match zco P G ords a,zco P G ords b with
  | some a,some b=>if zcw G c then some (.cond c a b) else none
  | _,_=>none
 | .block id b=>(zco P G ords b).map (.block id)
 | .loop b=>(zco P G ords b).map .loop
 | .exit id=>some (.exit id)
 | .ret=>some .ret
 | _=>none
def gz (P:Program):List ResultVar→Option (List ARes)
 | []=>some []
 | .tmp t::r=>(gz P r).map (.tmp t:: ·)
 | .cell a t::r=>match aggT P t,ge P t,gz P r with
  | some true,some n,some l=>some (.cells a n::l)
  | some false,some _,some l=>some (.cell1 a::l)
  | _,_,_=>none
def zmt (P:Program) (G:Nat) (ords:List (Nat×List Nat)) (fn:Func):Option y4:=
 match fn.body.bind (zco P G ords),gz P fn.results.toList with
 | some b,some r=>some ⟨fn.ntmps,r,b⟩
 | _,_=>none
end Go.Proofs.YtljdbheclfaloaaGreatDoor.AM
namespace Go.Proofs.YtljdbheclfaloaaGreatDoor.AM
open Go.RowKit
structure Seat where
 blk:Nat
 base:Nat
 size:Nat
abbrev Emb:=Nat→Seat
abbrev Mem:=Nat→Option AObj
def single:Value→Bool
 | .agg _ | .tuple _=>false
 | _=>true
mutual
inductive VR (σ:Emb) (g:Mem):Value→Value→Prop
 | bool (b:Bool):VR σ g (.bool b) (.bool b)
 | int (k:IntKind) (n:Int):VR σ g (.int k n) (.int k n)
 | float (k:FloatKind) (n:Nat):VR σ g (.float k n) (.float k n)
 | complex (k:FloatKind) (n m:Nat):VR σ g (.complex k n m) (.complex k n m)
 | string (s:ByteArray):VR σ g (.string s) (.string s)
 | nilPtr:VR σ g (.pointer none) (.pointer none)
 | ptr (p q:Addr) (v:Nat) (vals:List Value) (ver:Nat) (ro:Bool) (hv:p.spot=some v) (hg:g p.block=some (.cells vals ver ro)) (hle:v≤ver)
   (hq:v=ver→q=⟨(σ p.block).blk,(σ p.block).base+p.off,none⟩):VR σ g (.pointer (some p)) (.pointer (some q))
 | nilSlice:VR σ g (.slice none 0 0) (.slice none 0 0)
 | slice (p q:Addr) (n c cap:Nat) (v:Nat) (vals:List Value) (ver:Nat) (ro:Bool) (hv:p.spot=some v) (hg:g p.block=some (.cells vals ver ro)) (hle:v≤ver) (hn:n≤cap)
   (hq:v=ver→(q=⟨(σ p.block).blk,(σ p.block).base+p.off,none⟩∧(ro=false→(σ p.block).base+p.off+cap*c≤(σ p.block).size))∨(n=0∧cap=0)):
   VR σ g (.slice (some p) n c) (.slice (some q) n cap)
 | nilMap:VR σ g (.map none) (.map none)
 | map (r s:Nat) (es:List (Value×Value)) (hg:g r=some (.map es)) (hs:s=(σ r).blk):VR σ g (.map (some r)) (.map (some s))
 | nilChan:VR σ g (.chan none) (.chan none)
 | any (k:Nat) (q:Option Addr):VR σ g (.chan (some k)) (.pointer q)
 | func (fn:Fn) (xs ys us vs:List Value) (h:VRs σ g xs ys) (h':VRs σ g us vs):VR σ g (.func fn ⟨xs⟩ ⟨us⟩) (.func fn ⟨ys⟩ ⟨vs⟩)
 | nilFunc:VR σ g .nilFunc .nilFunc
 | iface (t:TypeId) (u c:Value) (h:VR σ g u c):VR σ g (.iface t u) (.iface t c)
 | nilIface:VR σ g .nilIface .nilIface
 | agg (xs ys:List Value) (h:VRs σ g xs ys) (h1:∀x∈xs,single x=true):VR σ g (.agg ⟨xs⟩) (.agg ⟨ys⟩)
 | tuple (xs ys:List Value) (h:VRs σ g xs ys):VR σ g (.tuple ⟨xs⟩) (.tuple ⟨ys⟩)
inductive VRs (σ:Emb) (g:Mem):List Value→List Value→Prop
 | nil:VRs σ g [] []
 | cons (u c:Value) (us cs:List Value) (h:VR σ g u c) (hs:VRs σ g us cs):VRs σ g (u::us) (c::cs)
end
variable {σ σ':Emb} {g g':Mem}
theorem VRs.length {us cs:List Value}:VRs σ g us cs→us.length=cs.length
 | .nil=>rfl
 | .cons _ _ _ _ _ hs=>by simp [VRs.length hs]
theorem VRs.get {us cs:List Value}:VRs σ g us cs→∀{i:Nat} {u:Value},us[i]?=some u→∃c,cs[i]?=some c∧VR σ g u c
 | .nil,_,_,h=>by simp at h
 | .cons u c us cs h hs,i,x,hi=>by
  cases i with
  | zero=>simp at hi;subst hi;exact ⟨c,by simp,h⟩
  | succ i=>simp only [List.getElem?_cons_succ] at hi ⊢;exact VRs.get hs hi
theorem VRs.get' {us cs:List Value}:VRs σ g us cs→∀{i:Nat} {c:Value},cs[i]?=some c→∃u,us[i]?=some u∧VR σ g u c
 | .nil,_,_,h=>by simp at h
 | .cons u c us cs h hs,i,x,hi=>by
  cases i with
  | zero=>simp at hi;subst hi;exact ⟨u,by simp,h⟩
  | succ i=>simp only [List.getElem?_cons_succ] at hi ⊢;exact VRs.get' hs hi
theorem VRs.of_get:∀{us cs:List Value},us.length=cs.length→(∀(i:Nat) (u c:Value),us[i]?=some u→cs[i]?=some c→VR σ g u c)→VRs σ g us cs
 | [],[],_,_=>.nil
 | u::us,c::cs,hl,h=>.cons _ _ _ _ (h 0 u c (by simp) (by simp)) (VRs.of_get (by simpa using hl) fun i x y hx hy=>h (i+1) x y (by simpa using hx) (by simpa using hy))
 | [],c::cs,hl,_=>by simp at hl
 | u::us,[],hl,_=>by simp at hl
theorem VRs.append {us cs us' cs':List Value}:VRs σ g us cs→VRs σ g us' cs'→VRs σ g (us++us') (cs++cs')
 | .nil,h=>h
 | .cons _ _ _ _ h hs,h'=>.cons _ _ _ _ h (hs.append h')
theorem VRs.drop {us cs:List Value} (h:VRs σ g us cs) (n:Nat):VRs σ g (us.drop n) (cs.drop n):=
 .of_get (by simp [h.length]) fun i u c hu hc=>by
  rw [List.getElem?_drop] at hu hc
  obtain ⟨c',hc',hv⟩:=h.get hu
  rw [hc] at hc';cases hc';exact hv
theorem VRs.take {us cs:List Value} (h:VRs σ g us cs) (n:Nat):VRs σ g (us.take n) (cs.take n):=
 .of_get (by simp [h.length]) fun i u c hu hc=>by
  rw [yp0] at hu hc
  split at hu
  ·rename_i hi
   rw [if_pos hi] at hc
   obtain ⟨c',hc',hv⟩:=h.get hu
   rw [hc] at hc';cases hc';exact hv
  ·cases hu
theorem VRs.set {us cs:List Value} (h:VRs σ g us cs) (i:Nat) {u c:Value} (hv:VR σ g u c):VRs σ g (us.set i u) (cs.set i c):=
 .of_get (by simp [h.length]) fun j x y hx hy=>by
  rw [List.getElem?_set] at hx hy
  by_cases hij:i=j
  ·subst hij
   have hl:=h.length
   by_cases hlt:i<us.length
   ·rw [if_pos rfl,if_pos hlt] at hx;rw [if_pos rfl,if_pos (by omega)] at hy
    cases hx;cases hy;exact hv
   ·rw [if_pos rfl,if_neg hlt] at hx;cases hx
  ·rw [if_neg hij] at hx hy
   obtain ⟨c',hc',hv⟩:=h.get hx
   rw [hy] at hc';cases hc';exact hv
theorem VRs.getD {us cs:List Value} (h:VRs σ g us cs) (i:Nat):VR σ g (us.getD i undef) (cs.getD i undef):=by
 cases hu:us[i]? with
 | none=>
  have:cs[i]?=none:=by
   rw [List.getElem?_eq_none_iff] at hu ⊢;rw [←h.length];exact hu
  rw [ypg,ypg,hu,this]
  exact .tuple [] [] .nil
 | some u=>
  obtain ⟨c,hc,hv⟩:=h.get hu
  rw [ypg,ypg,hu,hc];exact hv
theorem VRs.replicate {u c:Value} (h:VR σ g u c):∀n:Nat,VRs σ g (List.replicate n u) (List.replicate n c)
 | 0=>.nil
 | n+1=>.cons _ _ _ _ h (VRs.replicate h n)
theorem VRs.map {α:Type} {f f':α→Value}:∀(l:List α),(∀x∈l,VR σ g (f x) (f' x))→VRs σ g (l.map f) (l.map f')
 | [],_=>.nil
 | x::l,h=>.cons _ _ _ _ (h x (by simp)) (VRs.map l fun y hy=>h y (by simp [hy]))
theorem zth (k:EqK) (x:Option Nat) (u:Value):ve k (.chan x) u=none:=by cases k <;> cases u <;> rfl
theorem zte (k:EqK) (x:Option Nat) (u:Value):ve k u (.chan x)=none:=by
 cases k <;> cases u <;> first | rfl | (rename_i p;cases p <;> rfl) | (rename_i p _ _;cases p <;> rfl)
theorem VR.single {u c:Value} (h:VR σ g u c):single c=single u:=by cases h <;> rfl
theorem VR.plain1 {u:Value} (h:plain1 u=true):VR σ g u u:=by
 unfold AM.plain1 at h
 split at h <;> first | (constructor;done) | cases h
theorem j7 {u:Value} (h:AM.plain1 u=true):AM.single u=true:=by
 unfold AM.plain1 at h
 split at h <;> first | rfl | cases h
theorem VRs.plain1:∀{us:List Value},us.all AM.plain1=true→VRs σ g us us
 | [],_=>.nil
 | u::us,h=>by
  simp only [List.all_cons,ypi] at h
  exact .cons _ _ _ _ (.plain1 h.1) (VRs.plain1 h.2)
theorem VR.plain {u:Value} (h:plain u=true):VR σ g u u:=by
 unfold AM.plain at h
 split at h
 ·rename_i cs
  obtain ⟨l⟩:=cs
  refine .agg l l (.plain1 h) fun x hx=>j7 (yp9.1 h x hx)
 ·exact .plain1 h
theorem VRs.plain:∀{us:List Value},us.all AM.plain=true→VRs σ g us us
 | [],_=>.nil
 | u::us,h=>by
  simp only [List.all_cons,ypi] at h
  exact .cons _ _ _ _ (.plain h.1) (VRs.plain h.2)
theorem VR.flat {u:Value} (h:flat u=true):VR σ g u u:=by
 unfold AM.flat at h
 split at h
 ·rename_i cs
  obtain ⟨l⟩:=cs
  exact .tuple l l (.plain h)
 ·exact .plain h
structure Ext (σ:Emb) (g:Mem) (σ':Emb) (g':Mem):Prop where
 cells:∀i vals ver ro,g i=some (.cells vals ver ro)→∃vals' ver',g' i=some (.cells vals' ver' ro)∧ver≤ver'∧(ver=ver'→σ' i=σ i)
 map:∀i es,g i=some (.map es)→∃es',g' i=some (.map es')∧σ' i=σ i
theorem Ext.refl (σ:Emb) (g:Mem):Ext σ g σ g:=⟨fun _ vals ver _ h=>⟨vals,ver,h,yoz _,fun _=>rfl⟩,fun _ es h=>⟨es,h,rfl⟩⟩
theorem Ext.trans {σ₁ σ₂ σ₃:Emb} {g₁ g₂ g₃:Mem} (h:Ext σ₁ g₁ σ₂ g₂) (h':Ext σ₂ g₂ σ₃ g₃):Ext σ₁ g₁ σ₃ g₃:=by
 constructor
 ·intro i vals ver ro hi
  obtain ⟨vals',ver',h1,h2,h3⟩:=h.cells i vals ver ro hi
  obtain ⟨vals'',ver'',h1',h2',h3'⟩:=h'.cells i vals' ver' ro h1
  exact ⟨vals'',ver'',h1',yqf h2 h2',fun e=>by rw [h3' (by omega),h3 (by omega)]⟩
 ·intro i es hi
  obtain ⟨es',h1,h2⟩:=h.map i es hi
  obtain ⟨es'',h1',h2'⟩:=h'.map i es' h1
  exact ⟨es'',h1',by rw [h2',h2]⟩
mutual
theorem VR.ext (he:Ext σ g σ' g') {u c:Value}:VR σ g u c→VR σ' g' u c
 | .bool b=>.bool b
 | .int k n=>.int k n
 | .float k n=>.float k n
 | .complex k n m=>.complex k n m
 | .string s=>.string s
 | .nilPtr=>.nilPtr
 | .ptr p q v vals ver ro hv hg hle hq=>by
  obtain ⟨vals',ver',h1,h2,h3⟩:=he.cells _ _ _ _ hg
  refine .ptr p q v vals' ver' ro hv h1 (yqf hle h2) fun e=> ?_
  rw [h3 (by omega)];exact hq (by omega)
 | .nilSlice=>.nilSlice
 | .slice p q n c cap v vals ver ro hv hg hle hn hq=>by
  obtain ⟨vals',ver',h1,h2,h3⟩:=he.cells _ _ _ _ hg
  refine .slice p q n c cap v vals' ver' ro hv h1 (yqf hle h2) hn fun e=> ?_
  rw [h3 (by omega)];exact hq (by omega)
 | .nilMap=>.nilMap
 | .map r s es hg hs=>by
  obtain ⟨es',h1,h2⟩:=he.map _ _ hg
  exact .map r s es' h1 (by rw [h2];exact hs)
 | .nilChan=>.nilChan
 | .any k q=>.any k q
 | .func fn xs ys us vs h h'=>.func fn xs ys us vs (VRs.ext he h) (VRs.ext he h')
 | .nilFunc=>.nilFunc
 | .iface t u c h=>.iface t u c (VR.ext he h)
 | .nilIface=>.nilIface
 | .agg xs ys h h1=>.agg xs ys (VRs.ext he h) h1
 | .tuple xs ys h=>.tuple xs ys (VRs.ext he h)
theorem VRs.ext (he:Ext σ g σ' g') {us cs:List Value}:VRs σ g us cs→VRs σ' g' us cs
 | .nil=>.nil
 | .cons u c us cs h hs=>.cons u c us cs (VR.ext he h) (VRs.ext he hs)
end
structure yl4 (σ:Emb) (g:Mem) (e:Value×Value) (m:MapEntry):Prop where
 key:m.key=e.1
 plain:plain1 e.1=true
 val:VR σ g e.2 m.val
inductive EntriesR (σ:Emb) (g:Mem):List (Value×Value)→List MapEntry→Prop
 | nil:EntriesR σ g [] []
 | cons (e:Value×Value) (m:MapEntry) (es:List (Value×Value)) (ms:List MapEntry) (h:yl4 σ g e m) (hs:EntriesR σ g es ms):EntriesR σ g (e::es) (m::ms)
theorem EntriesR.ext (he:Ext σ g σ' g') {es:List (Value×Value)} {ms:List MapEntry} (h:EntriesR σ g es ms):EntriesR σ' g' es ms:=by
 induction h with
 | nil=>exact .nil
 | cons e m es ms h _ ih=>exact .cons _ _ _ _ ⟨h.key,h.plain,h.val.ext he⟩ ih
inductive ObjR (N:Nat) (σ:Emb) (g:Mem) (w:World) (s:Seat):AObj→Prop
 | own (vals cs:List Value) (ver:Nat) (el:TypeId) (hb:N≤s.blk) (h0:s.base=0) (hw:w.heap[s.blk]?=some (.cells ⟨cs⟩ el (0,0))) (hs:s.size=cs.length)
   (hv:VRs σ g vals (cs.take vals.length)) (hl:vals.length≤cs.length) (h1:∀x∈vals,single x=true):ObjR N σ g w s (.cells vals ver false)
 | ro (vals:List Value) (hb:s.blk<N)
   (hv:∀i u,vals[i]?=some u→∃c,w.cell? ⟨s.blk,s.base+i,none⟩=some c∧VR σ g u c) (h1:∀x∈vals,single x=true):ObjR N σ g w s (.cells vals 0 true)
 | map (es:List (Value×Value)) (ms:List MapEntry) (clock:Nat) (hb:N≤s.blk) (hw:w.heap[s.blk]?=some (.map ⟨ms⟩ clock)) (he:EntriesR σ g es ms):ObjR N σ g w s (.map es)
def owns:AObj→Bool
 | .cells _ _ ro=> !ro
 | .map _=>true
 | .gone=>false
def yk0 (σ:Emb) (g:Mem) (b:Nat):Prop:=∃i o,g i=some o∧owns o=true∧(σ i).blk=b
structure MR (G N:Nat) (σ:Emb) (g:Mem) (w:World):Prop where
 obj:∀i o,g i=some o→ObjR N σ g w (σ i) o
 inj:∀i j o p,g i=some o→g j=some p→owns o=true→owns p=true→(σ i).blk=(σ j).blk→i=j
 glob:∀i,i<G→∃vals,g i=some (.cells vals 0 true)∧(σ i).blk=i∧(σ i).base=0
 size:N≤w.heap.size
structure Go (N:Nat) (σ:Emb) (g:Mem) (w:World) (σ':Emb) (g':Mem) (w':World):Prop where
 ext:Ext σ g σ' g'
 size:w.heap.size≤w'.heap.size
 os:w'.os=w.os
 tape:w'.tape=w.tape
 output:w'.output=w.output
 rest:∀b,b<w.heap.size→¬yk0 σ g b→w'.heap[b]?=w.heap[b]?
 own:∀b,yk0 σ' g' b→yk0 σ g b∨w.heap.size≤b
theorem Go.refl (N:Nat) (σ:Emb) (g:Mem) (w:World):Go N σ g w σ g w:=⟨.refl _ _,yoz _,rfl,rfl,rfl,fun _ _ _=>rfl,fun _ h=>.inl h⟩
theorem Go.trans {N:Nat} {σ₁ σ₂ σ₃:Emb} {g₁ g₂ g₃:Mem} {w₁ w₂ w₃:World} (h:Go N σ₁ g₁ w₁ σ₂ g₂ w₂) (h':Go N σ₂ g₂ w₂ σ₃ g₃ w₃):Go N σ₁ g₁ w₁ σ₃ g₃ w₃:=by
 refine ⟨h.ext.trans h'.ext,yqf h.size h'.size,h'.os.trans h.os,h'.tape.trans h.tape,h'.output.trans h.output,fun b hb hn=> ?_,fun b hb=> ?_⟩
 ·rw [h'.rest b (Nat.lt_of_lt_of_le hb h.size) (fun ho=>(h.own b ho).elim hn (fun hge=>by omega)),h.rest b hb hn]
 ·rcases h'.own b hb with ho | hge
  ·exact h.own b ho
  ·exact .inr (yqf h.size hge)
end Go.Proofs.YtljdbheclfaloaaGreatDoor.AM
namespace Go.Proofs.YtljdbheclfaloaaGreatDoor.AM
open Go.RowKit
variable {P:Program} {G N:Nat} {σ:Emb} {g:Mem} {w:World}
def Sub (g:Mem) (h:Heap):Prop:=∀i o,g i=some o→h[i]?=some o
theorem zga (b o n:Nat):Addr.add ⟨b,o,none⟩ n=⟨b,o+n,none⟩:=by
 unfold Addr.add;split
 ·subst_vars;rfl
 ·rfl
theorem MR.cell (hm:MR G N σ g w) {b:Nat} {vals:List Value} {ver:Nat} {ro:Bool} (hg:g b=some (.cells vals ver ro)) {i:Nat} {u:Value} (hi:vals[i]?=some u):
  ∃c,w.cell? ⟨(σ b).blk,(σ b).base+i,none⟩=some c∧VR σ g u c:=by
 have ho:=hm.obj _ _ hg
 cases ho with
 | own _ cs _ el hb h0 hw hs hv hl h1=>
  obtain ⟨c,hc,hvr⟩:=hv.get hi
  rw [yp0] at hc
  split at hc
  ·refine ⟨c,?_,hvr⟩
   simp only [World.cell?,hw,h0,Nat.zero_add]
   simpa using hc
  ·cases hc
 | ro _ hb hv h1=>exact hv i u hi
theorem MR.singles (hm:MR G N σ g w) {b:Nat} {vals:List Value} {ver:Nat} {ro:Bool} (hg:g b=some (.cells vals ver ro)):∀x∈vals,single x=true:=by
 have ho:=hm.obj _ _ hg
 cases ho <;> assumption
theorem zk7 (b o:Nat) (n:Nat):∀(i:Nat) (acc:Array Value) (cs:List Value),cs.length=n→
  (∀j c,cs[j]?=some c→w.cell? ⟨b,o+(i+j),none⟩=some c)→(loadCellsFrom ⟨b,o,none⟩ i n acc).run P w=.ok (acc++⟨cs⟩) w:=by
 induction n with
 | zero=>
  intro i acc cs hl _
  obtain rfl:cs=[]:=yqh.1 hl
  simp [loadCellsFrom]
 | succ n ih=>
  intro i acc cs hl hc
  obtain ⟨c,cs,rfl⟩:∃c r,cs=c::r:=by cases cs with | nil=>simp at hl | cons c r=>exact ⟨c,r,rfl⟩
  have h0:=hc 0 c (by simp)
  simp only [loadCellsFrom,Sem.run_bind,run_load,zga]
  rw [show o+i=o+(i+0) from rfl,h0]
  simp only [Result.andThen_ok]
  rw [ih (i+1) (acc.push c) cs (by simpa using hl) (fun j x hx=>by
   have:=hc (j+1) x (by simpa using hx)
   rw [show i+1+j=i+(j+1) from by omega];exact this)]
  congr 1
  apply Array.ext'
  simp
theorem zj7 {b o n:Nat} {cs:List Value} (hl:cs.length=n) (hc:∀(j:Nat) c,cs[j]?=some c→w.cell? ⟨b,o+j,none⟩=some c):
  (loadCells ⟨b,o,none⟩ n).run P w=.ok ⟨cs⟩ w:=by
 unfold loadCells
 rw [zk7 b o n 0 #[] cs hl (fun j c h=>by rw [Nat.zero_add];exact hc j c h)]
 simp
theorem MR.read (hm:MR G N σ g w) {h:Heap} (hs:Sub g h) {p q:Addr} {n:Nat} {l:List Value} (hp:VR σ g (.pointer (some p)) (.pointer (some q))) (hr:h.read p n=some l):
  ∃cs,q.spot=none∧(loadCells q n).run P w=.ok ⟨cs⟩ w∧VRs σ g l cs∧l.length=n∧∀x∈l,single x=true:=by
 cases hp with
 | ptr _ _ v vals ver ro hv hg hle hq=>
  unfold Heap.read at hr
  rw [hs _ _ hg] at hr
  simp only at hr
  split at hr
  ·rename_i hc
   obtain ⟨hsp,hlen⟩:=hc
   rw [hv] at hsp
   cases hsp
   have hq:=hq rfl
   subst hq
   cases hr
   have hex:∀i,i<n→∃c,w.cell? ⟨(σ p.block).blk,(σ p.block).base+p.off+i,none⟩=some c∧∃u,vals[p.off+i]?=some u∧VR σ g u c:=by
    intro i hi
    have hlt:p.off+i<vals.length:=by omega
    obtain ⟨c,hc,hvr⟩:=hm.cell hg (yow hlt)
    exact ⟨c,by rw [Nat.add_assoc];exact hc,_,yow hlt,hvr⟩
   let cs:List Value:=(List.range n).map fun i=>(w.cell? ⟨(σ p.block).blk,(σ p.block).base+p.off+i,none⟩).getD undef
   have hcl:cs.length=n:=by simp [cs]
   refine ⟨cs,rfl,zj7 hcl fun j c hj=> ?_,VRs.of_get ?_ fun i u c hu hc=> ?_,?_,fun x hx=> ?_⟩
   ·have hjn:j<n:=by
     have:=(yoq.1 hj).1;omega
    obtain ⟨c',hc',_⟩:=hex j hjn
    simp only [cs,yp1,List.getElem?_range hjn,yp6,hc',Option.getD_some,yot] at hj
    rw [hc',hj]
   ·rw [hcl,ypt,ypf];omega
   ·have hin:i<n:=by
     have:=(yoq.1 hc).1;omega
    obtain ⟨c',hc',u',hu',hvr⟩:=hex i hin
    simp only [cs,yp1,List.getElem?_range hin,yp6,hc',Option.getD_some,yot] at hc
    rw [yp0,if_pos hin,List.getElem?_drop,hu'] at hu
    cases hu;rw [←hc];exact hvr
   ·rw [ypt,ypf];omega
   ·exact hm.singles hg x (List.mem_of_mem_drop (yqi hx))
  ·cases hr
theorem MR.read1 (hm:MR G N σ g w) {h:Heap} (hs:Sub g h) {p q:Addr} {u:Value} (hp:VR σ g (.pointer (some p)) (.pointer (some q))) (hr:h.read1 p=some u):
  ∃c,q.spot=none∧w.cell? q=some c∧VR σ g u c∧single u=true:=by
 cases hp with
 | ptr _ _ v vals ver ro hv hg hle hq=>
  unfold Heap.read1 at hr
  rw [hs _ _ hg] at hr
  simp only at hr
  split at hr
  ·rename_i hsp
   rw [hv] at hsp
   cases hsp
   have hq:=hq rfl
   subst hq
   obtain ⟨c,hc,hvr⟩:=hm.cell hg hr
   exact ⟨c,rfl,hc,hvr,hm.singles hg _ (yp3 hr)⟩
  ·cases hr
theorem xn {t:TypeId} {d:TypeDesc} (h:P.underlying t=some d) (w:World):(underlying t).run P w=.ok d w:=by simp [underlying,h]
theorem qj {t:TypeId} {n:Nat} (h:ge P t=some n) (w:World):(sizeOf t).run P w=.ok n w:=by
 unfold ge at h
 cases hi:P.info? t with
 | none=>rw [hi] at h;cases h
 | some i=>rw [hi] at h;cases h;simp [sizeOf,typeInfo,hi]
theorem zfp {t:TypeId} {b:Bool} (h:aggT P t=some b) (w:World):(isAgg t).run P w=.ok b w:=by
 unfold aggT at h
 cases hu:P.underlying t with
 | none=>rw [hu] at h;cases h
 | some d=>
  rw [hu] at h
  simp only [isAgg,Sem.run_bind,xn hu,Result.andThen_ok]
  cases d <;> simp_all
theorem zdh {t:TypeId} {v:Value} (h:zhd P t=some v) (w:World):(zeroValue t).run P w=.ok v w∧plain v=true:=by
 unfold zhd at h
 cases hi:P.info? t with
 | none=>rw [hi] at h;cases h
 | some i=>
  rw [hi] at h
  simp only [Option.bind_some] at h
  cases hz:i.zero with
  | none=>rw [hz] at h;cases h
  | some z=>
   rw [hz] at h
   simp only [Option.bind_some] at h
   split at h
   ·cases h;rename_i hp;exact ⟨by simp [zeroValue,typeInfo,hi,hz],hp⟩
   ·cases h
theorem zpb (hm:MR G N σ g w) {h:Heap} (hs:Sub g h) {t:TypeId} {n:Nat} (ht:aggT P t=some true) (hz:ge P t=some n) {p:Addr} {c:Value} {l:List Value}
  (hp:VR σ g (.pointer (some p)) c) (hr:h.read p n=some l):∃cv,(Instr.loadAt t c).run P w=.ok cv w∧VR σ g (agg l) cv:=by
 obtain ⟨q,rfl⟩:∃q,c=.pointer (some q):=by cases hp;exact ⟨_,rfl⟩
 obtain ⟨cs,_,hrun,hv,_,h1⟩:=hm.read (P:=P) hs hp hr
 refine ⟨.agg ⟨cs⟩,?_,.agg _ _ hv h1⟩
 simp [Instr.loadAt,Instr.sureAddr,loadVar,zfp ht,qj hz,hrun]
theorem zok (hm:MR G N σ g w) {h:Heap} (hs:Sub g h) {t:TypeId} (ht:aggT P t=some false) {p:Addr} {c:Value} {u:Value}
  (hp:VR σ g (.pointer (some p)) c) (hr:h.read1 p=some u):∃cv,(Instr.loadAt t c).run P w=.ok cv w∧VR σ g u cv:=by
 obtain ⟨q,rfl⟩:∃q,c=.pointer (some q):=by cases hp;exact ⟨_,rfl⟩
 obtain ⟨c,_,hc,hv,_⟩:=hm.read1 hs hp hr
 exact ⟨c,by simp [Instr.loadAt,Instr.sureAddr,loadVar,zfp ht,hc],hv⟩
theorem VR.int_inv {k:IntKind} {n:Int} {c:Value} (h:VR σ g (.int k n) c):c=.int k n:=by cases h;rfl
theorem VR.bool_inv {b:Bool} {c:Value} (h:VR σ g (.bool b) c):c=.bool b:=by cases h;rfl
theorem VR.string_inv {s:ByteArray} {c:Value} (h:VR σ g (.string s) c):c=.string s:=by cases h;rfl
theorem VR.ptr_inv {p:Addr} {c:Value} (h:VR σ g (.pointer (some p)) c):∃q,c=.pointer (some q):=by cases h;exact ⟨_,rfl⟩
theorem VR.agg_inv {xs:Array Value} {c:Value} (h:VR σ g (.agg xs) c):∃ys,c=.agg ⟨ys⟩∧VRs σ g xs.toList ys∧∀x∈xs.toList,AM.single x=true:=by
 cases h with | agg xs ys h h1=>exact ⟨ys,rfl,h,h1⟩
theorem VR.tuple_inv {xs:Array Value} {c:Value} (h:VR σ g (.tuple xs) c):∃ys,c=.tuple ⟨ys⟩∧VRs σ g xs.toList ys:=by
 cases h with | tuple xs ys h=>exact ⟨ys,rfl,h⟩
theorem VR.off {p:Addr} {c:Value} (h:VR σ g (.pointer (some p)) c) (n:Nat):∃q,c=.pointer (some q)∧VR σ g (.pointer (some { p with off:=p.off+n})) (.pointer (some (q.add n))):=by
 cases h with
 | ptr _ q v vals ver ro hv hg hle hq=>
  refine ⟨q,rfl,.ptr _ _ v vals ver ro hv hg hle fun e=> ?_⟩
  rw [hq e,zga,Nat.add_assoc]
theorem yb7 {t:TypeId} {fs:Array Field} {f:Field} {i n:Nat} (ht:P.underlying t=some (.struct fs)) (hf:fs[i]?=some f) (hz:ge P f.type=some n) (hn:0<n) {p:Addr} {c:Value}
  (h:VR σ g (.pointer (some p)) c):∃cv,(Instr.fieldAt t c i).run P w=.ok cv w∧VR σ g (.pointer (some { p with off:=p.off+f.offset})) cv:=by
 obtain ⟨q,rfl,hv⟩:=h.off f.offset
 refine ⟨_,?_,hv⟩
 simp [Instr.fieldAt,xn ht,hf,Instr.sureAddr,fieldPlace,qj hz,Nat.ne_of_gt hn]
theorem zuz {t e:TypeId} {len m:Nat} (ht:P.underlying t=some (.array len e)) (hz:ge P e=some m) {p:Addr} {c:Value} {k:IntKind} {i:Int}
  (h:VR σ g (.pointer (some p)) c) (h0:0≤i) (h1:i<len):∃cv,(Instr.indexAt t c (.int k i)).run P w=.ok cv w∧VR σ g (.pointer (some { p with off:=p.off+i.toNat*m})) cv:=by
 obtain ⟨q,rfl,hv⟩:=h.off (i.toNat*m)
 refine ⟨_,?_,hv⟩
 simp [Instr.indexAt,asIntOf,xn ht,Instr.sureAddr,qj hz,h0,h1]
theorem zv5 {t e:TypeId} {m n:Nat} (ht:P.underlying t=some (.slice e)) (hz:ge P e=some m) {p:Addr} {c:Value} {k:IntKind} {i:Int}
  (h:VR σ g (.slice (some p) n m) c) (h0:0≤i) (h1:i<n):∃cv,(Instr.indexAt t c (.int k i)).run P w=.ok cv w∧VR σ g (.pointer (some { p with off:=p.off+i.toNat*m})) cv:=by
 cases h with
 | slice _ q _ _ cap v vals ver ro hv hg hle hn hq=>
  refine ⟨.pointer (some (q.add (i.toNat*m))),?_,.ptr _ _ v vals ver ro hv hg hle fun e=> ?_⟩
  ·simp [Instr.indexAt,asIntOf,xn ht,qj hz,h0,h1]
  ·rcases hq e with ⟨hq,_⟩ | ⟨hz,_⟩
   ·rw [hq,zga,Nat.add_assoc]
   ·omega
theorem ztf {t:TypeId} (ht:P.underlying t=some .string) {s:ByteArray} {k:IntKind} {i:Int} {b:UInt8} (h0:0≤i) (hb:s.data.toList[i.toNat]?=some b):
  (Instr.index t (.string s) (.int k i)).run P w=.ok (.int .u8 b.toNat) w:=by
 have:s[i.toNat]?=some b:=by
  have hlt:i.toNat<s.size:=by
   have:=(yoq.1 hb).1;simpa using this
  rw [getElem?_pos s i.toNat hlt]
  have h2:=(yoq.1 hb).2
  rw [←h2];rfl
 simp [Instr.index,asIntOf,xn ht,h0,this]
theorem zla {e:TypeId} {l cs:List Value} (hv:VRs σ g l cs) (h1:∀x∈l,single x=true) {o:Nat}:
  (∀n,aggT P e=some true→ge P e=some n→∃cv,(part e ⟨cs⟩ o).run P w=.ok cv w∧VR σ g (agg ((l.drop o).take n)) cv)∧
  (∀u,aggT P e=some false→l[o]?=some u→∃cv,(part e ⟨cs⟩ o).run P w=.ok cv w∧VR σ g u cv):=by
 constructor
 ·intro n ha hz
  refine ⟨.agg ⟨(cs.drop o).take n⟩,?_,.agg _ _ ((hv.drop o).take n) fun x hx=>h1 x (List.mem_of_mem_drop (yqi hx))⟩
  simp [part,zfp ha,qj hz,List.extract_toArray,List.extract_eq_take_drop]
 ·intro u ha hu
  obtain ⟨c,hc,hvr⟩:=hv.get hu
  refine ⟨c,?_,hvr⟩
  simp [part,zfp ha,hc]
end Go.Proofs.YtljdbheclfaloaaGreatDoor.AM
namespace Go.Proofs.YtljdbheclfaloaaGreatDoor.AM
open Go.RowKit
variable {P:Program} {w:World}
theorem zhp:∀(k1 k2:List EqK) (xs ys:List Value),k1.length≤xs.length→k1.length≤ys.length→
  zbs (k1++k2) xs ys=match zbs k1 (xs.take k1.length) (ys.take k1.length) with
   | some true=>zbs k2 (xs.drop k1.length) (ys.drop k1.length)
   | some false=>some false
   | none=>none
 | [],k2,xs,ys,_,_=>by simp [zbs]
 | k::k1,k2,[],ys,h,_=>by simp at h
 | k::k1,k2,x::xs,[],_,h=>by simp at h
 | k::k1,k2,x::xs,y::ys,h,h'=>by
  have ih:=zhp k1 k2 xs ys (by simpa using h) (by simpa using h')
  simp only [List.cons_append,zbs,ypb,List.take_succ_cons,List.drop_succ_cons]
  cases ve k x y with
  | none=>rfl
  | some b=>cases b with
   | false=>rfl
   | true=>exact ih
def zjm (P:Program) (t:TypeId) (l:List Value):Value:=
 match P.underlying t with
 | some (.struct _) | some (.array _ _)=>.agg ⟨l⟩
 | _=>l.getD 0 undef
theorem zo9 {e:TypeId} {l:List Value} {o n:Nat} (hz:ge P e=some n) (h:o+n≤l.length) (hp:∀d,P.underlying e=some d→(eqK d).isSome=true→n=1)
  (hu:∃d,P.underlying e=some d∧((eqK d).isSome=true∨(∃fs,d=.struct fs)∨∃m u,d=.array m u)):
  (part e ⟨l⟩ o).run P w=.ok (zjm P e ((l.drop o).take n)) w:=by
 obtain ⟨d,hd,hc⟩:=hu
 have hag:(∃fs,d=.struct fs)∨(∃m u,d=.array m u)→(part e ⟨l⟩ o).run P w=.ok (zjm P e ((l.drop o).take n)) w:=by
  intro hc
  have ha:aggT P e=some true:=by unfold aggT;rw [hd];rcases hc with ⟨fs,rfl⟩ | ⟨m,u,rfl⟩<;> rfl
  have hv:zjm P e ((l.drop o).take n)=.agg ⟨(l.drop o).take n⟩:=by unfold zjm;rw [hd];rcases hc with ⟨fs,rfl⟩ | ⟨m,u,rfl⟩<;> rfl
  rw [hv]
  simp [part,zfp ha,qj hz,List.extract_toArray,List.extract_eq_take_drop]
 rcases hc with hk | hc
 ·obtain rfl:=hp d hd hk
  have ha:aggT P e=some false:=by unfold aggT;rw [hd];cases d <;> first | rfl | simp [eqK] at hk
  have hv:zjm P e ((l.drop o).take 1)=((l.drop o).take 1).getD 0 undef:=by unfold zjm;rw [hd];cases d <;> first | rfl | simp [eqK] at hk
  rw [hv]
  have hlt:o<l.length:=by omega
  simp [part,zfp ha,yow hlt,ypg]
 ·exact hag hc
theorem yg3 {d:TypeDesc} {k:EqK} (hd:eqK d=some k) {t:TypeId} (hu:P.underlying t=some d) {x y:Value} {b:Bool} (he:ve k x y=some b) (m:Nat):
  (Op.equalIn (m+1) t x y).run P w=.ok b w:=by
 cases d <;> simp only [eqK,yot,reduceCtorEq] at hd <;> subst hd
 ·cases x <;> cases y <;> simp [ve] at he
  subst he;simp [Op.equalIn,xn hu]
 ·cases x <;> cases y <;> simp [ve] at he
  obtain ⟨rfl,rfl⟩:=he;simp [Op.equalIn,xn hu]
 ·cases x <;> cases y <;> simp [ve] at he
  subst he;simp [Op.equalIn,xn hu]
theorem znu {d:Nat} {t:TypeId} {ks:List EqK} (h:leaves P d t=some ks):
  ∃k,P.underlying t=some k∧((eqK k).isSome=true∨(∃fs,k=.struct fs)∨∃m u,k=.array m u)∧((eqK k).isSome=true→ks.length=1):=by
 cases d with
 | zero=>simp [leaves] at h
 | succ d=>
  unfold leaves at h
  cases hu:P.underlying t with
  | none=>rw [hu] at h;cases h
  | some k=>
   rw [hu] at h
   refine ⟨k,rfl,?_⟩
   cases k <;> simp [eqK] at h ⊢ <;>(try (subst h;rfl))
theorem ye8 (d:Nat):∀(m:Nat) (t:TypeId) (ks:List EqK) (xs ys:List Value) (b:Bool),leaves P d t=some ks→xs.length=ks.length→ys.length=ks.length→
  zbs ks xs ys=some b→(Op.equalIn (d+m) t (zjm P t xs) (zjm P t ys)).run P w=.ok b w:=by
 induction d with
 | zero=>intro m t ks xs ys b h;simp [leaves] at h
 | succ d ih=>
  intro m t ks xs ys b h hx hy he
  have step:∀(e:TypeId) (l:List EqK) (n o:Nat) (xs ys:List Value) (c:Bool),leaves P d e=some l→ge P e=some n→l.length=n→o+n≤xs.length→o+n≤ys.length→
    zbs l ((xs.drop o).take n) ((ys.drop o).take n)=some c→
    ∃u v,(part e ⟨xs⟩ o).run P w=.ok u w∧(part e ⟨ys⟩ o).run P w=.ok v w∧(Op.equalIn (d+m) e u v).run P w=.ok c w:=by
   intro e l n o xs ys c hl hz hn h1 h2 hr
   obtain ⟨k,hk,hkind,hone⟩:=znu hl
   have hp:∀d,P.underlying e=some d→(eqK d).isSome=true→n=1:=fun d hd hs=>by rw [hk] at hd;cases hd;rw [←hn];exact hone hs
   exact ⟨_,_,zo9 hz h1 hp ⟨k,hk,hkind⟩,zo9 hz h2 hp ⟨k,hk,hkind⟩,
    ih m e l _ _ c hl (by rw [ypt,ypf];omega) (by rw [ypt,ypf];omega) hr⟩
  rw [show d+1+m=(d+m)+1 from by omega]
  unfold leaves at h
  cases hu:P.underlying t with
  | none=>rw [hu] at h;cases h
  | some k=>
   rw [hu] at h
   cases k
   case struct fs=>
    simp only at h
    split at h
    ·cases h
    rename_i hst
    have hv:∀l,zjm P t l=.agg ⟨l⟩:=fun l=>by unfold zjm;rw [hu]
    have hf:P.fieldsOf t=fs:=by simp [Program.fieldsOf,hu]
    rw [hv,hv,run_equalIn_struct (P:=P) w (d+m) t ⟨xs⟩ ⟨ys⟩ (by rw [hf];exact hu) (by simpa using hst),hf]
    have key:∀(l:List Field) (o:Nat) (ks:List EqK) (b:Bool),leaves.leavesOf (leaves P d) (fun u=>(P.info? u).map (·.size)) l o=some ks→
      xs.length=o+ks.length→ys.length=o+ks.length→zbs ks (xs.drop o) (ys.drop o)=some b→(Op.eqFields (d+m) ⟨xs⟩ ⟨ys⟩ l).run P w=.ok b w:=by
     intro l
     induction l with
     | nil=>
      intro o ks b h hx hy he
      simp only [leaves.leavesOf,yot] at h
      subst h
      rw [yo5 (by simp at hx;omega),yo5 (by simp at hy;omega)] at he
      simp only [zbs,yot] at he
      subst he
      simp [Op.eqFields]
     | cons f l ihl=>
      intro o ks b h hx hy he
      unfold leaves.leavesOf at h
      split at h
      ·cases h
      rename_i hno
      have hname : f.name ≠ "_" := fun e => hno (.inl e)
      have hoff:f.offset=o:=Decidable.byContradiction fun e=>hno (.inr e)
      cases hl:leaves P d f.type with
      | none=>rw [hl] at h;cases h
      | some l1=>
       cases hz:(P.info? f.type).map (·.size) with
       | none=>rw [hl,hz] at h;cases h
       | some n=>
        rw [hl,hz] at h
        simp only at h
        split at h
        ·rename_i hn
         cases hr:leaves.leavesOf (leaves P d) (fun u=>(P.info? u).map (·.size)) l (o+n) with
         | none=>rw [hr] at h;cases h
         | some k2=>
          rw [hr] at h
          simp only [yp6,yot] at h
          subst h
          simp only [yo8] at hx hy
          rw [zhp l1 k2 _ _ (by rw [ypf];omega) (by rw [ypf];omega),hn] at he
          simp only [Op.eqFields,if_pos hname,Sem.run_bind]
          cases hc:zbs l1 ((xs.drop o).take n) ((ys.drop o).take n) with
          | none=>rw [hc] at he;cases he
          | some c=>
           obtain ⟨u,v,h1,h2,h3⟩:=step f.type l1 n o xs ys c hl hz hn (by omega) (by omega) hc
           rw [hoff,h1];simp only [Result.andThen_ok]
           rw [h2];simp only [Result.andThen_ok]
           rw [h3];simp only [Result.andThen_ok]
           rw [hc] at he
           cases c with
           | false=>simp only [yot] at he;subst he;simp
           | true=>
            simp only [List.drop_drop] at he
            simpa using ihl (o+n) k2 b hr (by omega) (by omega) he
        ·cases h
    exact key fs.toList 0 ks b h (by simpa using hx) (by simpa using hy) (by simpa using he)
   case array n e=>
    simp only [yo6] at h
    obtain ⟨l,hl,h⟩:=h
    split at h
    ·rename_i hn
     cases h
     have hv:∀l,zjm P t l=.agg ⟨l⟩:=fun l=>by unfold zjm;rw [hu]
     obtain ⟨ke,hke,_⟩:=znu hl
     obtain ⟨i,hi⟩:∃i,P.info? e=some i:=by
      cases hi:P.info? e with
      | none=>simp [Program.underlying,hi] at hke
      | some i=>exact ⟨i,rfl⟩
     have hz:ge P e=some l.length:=by unfold ge;rw [hi];rw [hn,hi];rfl
     have hc:P.cellsOf e=l.length:=by unfold Program.cellsOf;rw [hn]
     rw [hv,hv,run_equalIn_array w (d+m) ⟨xs⟩ ⟨ys⟩ hu hi,hc]
     have key:∀(q o:Nat) (b:Bool),xs.length=o*l.length+(repl q l).length→ys.length=o*l.length+(repl q l).length→
       zbs (repl q l) (xs.drop (o*l.length)) (ys.drop (o*l.length))=some b→(Op.eqItems (d+m) e l.length ⟨xs⟩ ⟨ys⟩ (List.range' o q)).run P w=.ok b w:=by
      intro q
      induction q with
      | zero=>
       intro o b hx hy he
       simp only [repl,List.length_nil,yqe] at hx hy he
       rw [yo5 (by omega),yo5 (by omega)] at he
       simp only [zbs,yot] at he
       subst he
       simp [Op.eqItems]
      | succ q ihq=>
       intro o b hx hy he
       simp only [repl,yo8] at hx hy
       rw [show repl (q+1) l=l++repl q l from rfl,zhp l _ _ _ (by rw [ypf];omega) (by rw [ypf];omega)] at he
       simp only [List.range'_succ,Op.eqItems,Sem.run_bind]
       cases hc:zbs l ((xs.drop (o*l.length)).take l.length) ((ys.drop (o*l.length)).take l.length) with
       | none=>rw [hc] at he;cases he
       | some c=>
        obtain ⟨u,v,h1,h2,h3⟩:=step e l l.length (o*l.length) xs ys c hl hz rfl (by omega) (by omega) hc
        rw [h1];simp only [Result.andThen_ok]
        rw [h2];simp only [Result.andThen_ok]
        rw [h3];simp only [Result.andThen_ok]
        rw [hc] at he
        cases c with
        | false=>simp only [yot] at he;subst he;simp
        | true=>
         simp only [List.drop_drop] at he
         have e1:o*l.length+l.length=(o+1)*l.length:=by rw [Nat.add_mul,Nat.one_mul]
         rw [e1] at he
         simpa using ihq (o+1) b (by rw [←e1];omega) (by rw [←e1];omega) he
     rw [List.range_eq_range']
     exact key n 0 b (by simpa using hx) (by simpa using hy) (by simpa using he)
    ·cases h
   all_goals
    simp only [ypm] at h
    obtain ⟨k,hk,rfl⟩:=h
    obtain ⟨x,rfl⟩:∃x,xs=[x]:=List.length_eq_one_iff.1 hx
    obtain ⟨y,rfl⟩:∃y,ys=[y]:=List.length_eq_one_iff.1 hy
    have hl:ve k x y=some b:=by
     simp only [zbs] at he
     cases hq:ve k x y with
     | none=>rw [hq] at he;cases he
     | some c=>rw [hq] at he;cases c <;> simp_all
    have:=yg3 (w:=w) hk hu hl (d+m)
    unfold zjm;rw [hu];exact this
end Go.Proofs.YtljdbheclfaloaaGreatDoor.AM
namespace Go.Proofs.YtljdbheclfaloaaGreatDoor.AM
open Go.RowKit
set_option linter.unusedSimpArgs false
variable {P:Program} {G N:Nat} {σ:Emb} {g:Mem} {w:World}
def zmf (P:Program) (w:World) (σ:Emb) (g:Mem) (v:Value) (s:Sem Next):Prop:=∃cv,s.run P w=.ok (.value cv) w∧VR σ g v cv
theorem ji {s:Sem Value} {v:Value} (h:∃cv,s.run P w=.ok cv w∧VR σ g v cv):zmf P w σ g v (do pure (.value (←s))):=by
 obtain ⟨cv,h1,h2⟩:=h
 exact ⟨cv,by simp [h1],h2⟩
theorem ydq {op : BinOp} {t : TypeId} {x y : Operand} {u v r cu cv : Value} (hu : VR σ g u cu) (hv : VR σ g v cv) (h : vo op u v = some r) :
    ((do eqGuard op t x y cu cv; binOp op t cu cv : Sem Value)).run P w = .ok r w ∧ plain1 r = true := by
  have ints : ∀ (k k' : IntKind) (a b : Int), u = .int k a → v = .int k' b → ((do eqGuard op t x y cu cv; binOp op t cu cv : Sem Value)).run P w = .ok r w ∧ plain1 r = true := by
    rintro k k' a b rfl rfl
    rw [hu.int_inv, hv.int_inv]
    cases op <;> simp only [vo] at h
    case shl | shr =>
      split at h
      · cases h
      · rename_i hb
        cases h
        exact ⟨by simp [eqGuard_at_int, binOp, Op.shift, hb, shl, shr], rfl⟩
    all_goals
      split at h
      · rename_i hk
        subst hk
        simp only [zcs] at h
        first
          | (cases h; refine ⟨?_, rfl⟩; simp [eqGuard_at_int, binOp, Op.intArith, Op.intBits, Op.intCmp, Go.bits]; done)
          | (split at h
             · cases h
             · rename_i hb; cases h; refine ⟨?_, rfl⟩; simp [eqGuard_at_int, binOp, Op.intDiv, hb])
      · cases h
  cases hu' : u with
  | int k a =>
    cases hv' : v with
    | int k' b => exact ints k k' a b hu' hv'
    | _ => subst hu'; subst hv'; cases op <;> simp [vo] at h
  | string a =>
    cases hv' : v with
    | string b =>
      subst hu'; subst hv'
      rw [hu.string_inv, hv.string_inv]
      cases op <;> simp only [vo, reduceCtorEq] at h
      case add =>
        split at h
        · rename_i hle
          cases h; refine ⟨?_, rfl⟩
          have hno : ¬ (((a.size + b.size : Nat) : Int) > IntKind.i64.max) := by rw [IntKind.max_i64]; omega
          rw [eqGuard_at_string]
          show (Op.stringOp .add a b).run P w = _
          unfold Op.stringOp
          simp only [if_neg hno, Sem.run_pure]
        · cases h
      case eql => cases h; refine ⟨?_, rfl⟩; simp [eqGuard_at_string, binOp, Op.stringOp, beq_toListBytes]
      case neq => cases h; refine ⟨?_, rfl⟩; simp [eqGuard_at_string, binOp, Op.stringOp, bne, beq_toListBytes]
    | _ => subst hu'; subst hv'; cases op <;> simp [vo] at h
  | _ => subst hu'; cases op <;> simp [vo] at h
theorem yf1 {op:UnOp} {u r cu:Value} (hu:VR σ g u cu) (h:zwj op u=some r):(Op.unary op cu).run P w=.ok r w∧plain1 r=true:=by
 cases u <;> cases op <;> simp only [zwj,reduceCtorEq,yot] at h
 all_goals first
  | (rw [hu.int_inv];subst h;refine ⟨?_,rfl⟩;simp [Op.unary,Op.intArith,Op.intBits,Go.bits];done)
  | (rw [hu.bool_inv];subst h;refine ⟨?_,rfl⟩;simp [Op.unary];done)
set_option maxHeartbeats 4000000 in
theorem zz3 {k : EqK} {d : TypeDesc} (hd : eqK1 d = some k) {t : TypeId} (ht : P.underlying t = some d) {u v cu cv : Value} (hu : VR σ g u cu) (hv : VR σ g v cv) {b : Bool}
    (h : ve k u v = some b) {op : BinOp} {x y : Operand} (hi : k = .iface → zbp x = true ∨ zbp y = true) :
    (eqGuard op t x y cu cv).run P w = .ok () w ∧ (Op.equal t cu cv).run P w = .ok b w := by
  have hm : Op.maxDepth = 9999 + 1 := rfl
  unfold Op.equal
  rw [hm]
  generalize 9999 = n
  cases d <;> simp only [eqK1, yot, reduceCtorEq] at hd <;> subst hd <;> cases hu <;> cases hv <;> simp only [ve, yot, reduceCtorEq] at h <;> (try subst h)
  all_goals first
    | (constructor
       · first | simp [eqGuard_at_bool, eqGuard_at_pointer, eqGuard_at_slice, eqGuard_at_map, eqGuard_at_func, eqGuard_at_nilFunc, eqGuard_at_iface, eqGuard_nil_iface]
       · simp [Op.equalIn, xn ht]
       done)
    | skip
  · constructor
    · rcases hi rfl with hx | hx
      · cases x <;> simp only [zbp, yoy] at hx
        rw [eqGuard_nil_constL]; rfl
      · cases y <;> simp only [zbp, yoy] at hx
        rw [eqGuard_nil_constR]; rfl
    · simp [Op.equalIn, xn ht]
end Go.Proofs.YtljdbheclfaloaaGreatDoor.AM
namespace Go.Proofs.YtljdbheclfaloaaGreatDoor.AM
open Go.RowKit
set_option linter.unusedSimpArgs false
variable {P:Program} {G N:Nat} {σ:Emb} {g:Mem} {w:World}
theorem b5 {l c:List Value} {i:Nat} (h:i+c.length≤l.length):(splice l i c).length=l.length:=by
 unfold splice;simp only [yo8,ypt,ypf];omega
theorem VRs.splice {l cs c ds:List Value} (h:VRs σ g l cs) (h':VRs σ g c ds) (i:Nat):VRs σ g (AM.splice l i c) (AM.splice cs i ds):=by
 unfold AM.splice
 rw [h'.length]
 exact ((h.take i).append h').append (h.drop _)
theorem ziq {l c:List Value} (h:∀x∈l,single x=true) (h':∀x∈c,single x=true) (i:Nat):∀x∈splice l i c,single x=true:=by
 intro x hx
 unfold splice at hx
 simp only [ype] at hx
 rcases hx with (hx | hx) | hx
 ·exact h x (yqi hx)
 ·exact h' x hx
 ·exact h x (List.mem_of_mem_drop hx)
theorem zl2:∀(c:List Value) (k off:Nat) (l:List Value),off+k+c.length≤l.length→
  (c.zipIdx k).foldl (fun (cs:Array Value) (x:Value×Nat)=>cs.setIfInBounds (off+x.2) x.1) ⟨l⟩=⟨splice l (off+k) c⟩
 | [],k,off,l,h=>by simp [splice]
 | x::c,k,off,l,h=>by
  simp only [List.zipIdx_cons,List.foldl_cons,List.setIfInBounds_toArray]
  simp only [ypb] at h
  rw [zl2 c (k+1) off (l.set (off+k) x) (by rw [yo3];omega)]
  congr 1
  have hle:off+k<l.length:=by omega
  have ht:(l.take (off+k)).length=off+k:=by rw [ypt];omega
  have hs:l.set (off+k) x=l.take (off+k)++x::l.drop (off+k+1):=by rw [List.set_eq_take_append_cons_drop,if_pos hle]
  unfold splice
  rw [hs,List.take_append,List.drop_append,ht,ypy (show (l.take (off+k)).length≤off+(k+1) by omega),
   yo5 (show (l.take (off+k)).length≤off+(k+1)+c.length by omega)]
  rw [show off+(k+1) - (off+k)=1 from by omega,show off+(k+1)+c.length - (off+k)=c.length+1 from by omega]
  simp only [List.take_succ_cons,List.take_zero,List.drop_succ_cons,List.drop_drop,List.nil_append,yp4,List.cons_append,ypb]
  rw [show off+k+1+c.length=off+k+(c.length+1) from by omega]
theorem zpc {u cu:Value} {l:List Value} (h:VR σ g u cu) (hl:laid u=some l):∃cs,cu.cells=⟨cs⟩∧VRs σ g l cs∧(∀x∈l,single x=true):=by
 cases h <;> simp only [laid,yot,reduceCtorEq] at hl <;> subst hl
 case agg xs ys h h1=>exact ⟨ys,rfl,h,h1⟩
 all_goals refine ⟨_,rfl,.cons _ _ _ _ ?_ .nil,by simp [single]⟩<;> constructor <;> assumption
theorem zia {place:Nat→Option (Nat×Nat)}:∀(ps:List (Nat×Nat×Value)) (qs:List (Nat×Value)) (l cs r:List Value),VRs σ g l cs→(∀x∈l,single x=true)→
  ps.length=qs.length→(∀(i:Nat) p q,ps[i]?=some p→qs[i]?=some q→place q.1=some (p.1,p.2.1)∧VR σ g p.2.2 q.2)→yp l ps=some r→
  ∃ds,Instr.fill place ⟨cs⟩ qs=some ⟨ds⟩∧VRs σ g r ds∧(∀x∈r,single x=true)∧r.length=l.length
 | [],qs,l,cs,r,hl,h1,hlen,_,h=>by
  obtain rfl:qs=[]:=yqh.1 hlen.symm
  simp only [yp,yot] at h
  subst h
  exact ⟨cs,rfl,hl,h1,rfl⟩
 | (i,n,v)::ps,[],l,cs,r,_,_,hlen,_,_=>by simp at hlen
 | (i,n,v)::ps,(j,c)::qs,l,cs,r,hl,h1,hlen,hp,h=>by
  obtain ⟨hpl,hvr⟩:=hp 0 (i,n,v) (j,c) rfl rfl
  simp only at hpl hvr
  unfold yp at h
  split at h
  ·rename_i lv hlv
   split at h
   ·rename_i hc
    obtain ⟨hn,hle⟩:=hc
    obtain ⟨cv,hcells,hvs,hs⟩:=zpc hvr hlv
    have hlc:=hl.length
    have hvl:=hvs.length
    have ih:=zia ps qs (splice l i lv) (splice cs i cv) r (hl.splice hvs i) (ziq h1 hs i) (by simpa using hlen)
     (fun k p q hk hq=>hp (k+1) p q (by simpa using hk) (by simpa using hq)) h
    obtain ⟨ds,h2,h3,h4,h5⟩:=ih
    refine ⟨ds,?_,h3,h4,by rw [h5,b5 (by omega)]⟩
    unfold Instr.fill
    simp only [hpl,hcells]
    have hsz:(⟨cv⟩:Array Value).size=cv.length:=rfl
    have hsz':(⟨cs⟩:Array Value).size=cs.length:=rfl
    rw [if_neg (by simp only [hsz,hsz'];simp;omega)]
    have:=zl2 cv 0 i cs (by omega)
    simp only [yqe] at this
    have hz:(⟨cv⟩:Array Value).zipIdx=⟨cv.zipIdx⟩:=by simp
    rw [hz,←Array.foldl_toList,this]
    exact h2
   ·cases h
  ·cases h
theorem VR.slice_inv {p:Addr} {n c:Nat} {cv:Value} (h:VR σ g (.slice (some p) n c) cv):∃q cap,cv=.slice (some q) n cap∧n≤cap:=by cases h;exact ⟨_,_,rfl,by assumption⟩
theorem VR.nilSlice_inv {n c:Nat} {cv:Value} (h:VR σ g (.slice none n c) cv):n=0∧c=0∧cv=.slice none 0 0:=by cases h;exact ⟨rfl,rfl,rfl⟩
theorem zn4 {x:Value} {cx:Value} (hv:VR σ g x cx) {d k y:Nat} {code:BoundsCode} (hb:zah (some x) d=some k) (hk:k≤y):(Instr.sliceBound cx y code).run P w=.ok k w:=by
 cases x <;> simp only [zah,reduceCtorEq] at hb
 rename_i kd n
 split at hb
 ·rename_i h0
  simp only [yot] at hb
  have h1:n≤(y:Int):=by omega
  rw [hv.int_inv]
  simp only [Instr.sliceBound,asIntOf,Sem.run_bind,Sem.run_pure,Result.andThen_ok]
  rw [if_pos ⟨h0,h1⟩,Sem.run_pure,hb]
 ·cases hb
inductive OptR (σ:Emb) (g:Mem):Option Value→Option Value→Prop
 | none:OptR σ g none none
 | some (u c:Value) (h:VR σ g u c):OptR σ g (some u) (some c)
theorem zh3 {lo hi:Option Value} {clo chi:Option Value} (hlo:OptR σ g lo clo) (hhi:OptR σ g hi chi) {n cap l k:Nat} (hn:n≤cap) (hl:zah lo 0=some l) (hk:zah hi n=some k) (hlk:l≤k) (hkn:k≤n) (s:Bool):
  (Instr.sliceBounds s n cap clo chi none).run P w=.ok (l,k,cap) w:=by
 unfold Instr.sliceBounds
 cases hlo with
 | none=>
  simp only [zah,yot] at hl;subst hl
  cases hhi with
  | none=>simp only [zah,yot] at hk;subst hk;rfl
  | some u c h=>
   have:=zn4 (P:=P) (w:=w) h hk (show k≤cap by omega) (code:=if s then .sliceAcap else .sliceAlen)
   simp only [Sem.run_bind,Sem.run_pure,Result.andThen_ok]
   rw [this];rfl
 | some u c h=>
  have hlr:=zn4 (P:=P) (w:=w) h hl hlk (code:=.sliceB)
  cases hhi with
  | none=>
   simp only [zah,yot] at hk;subst hk
   simp only [Sem.run_bind,Sem.run_pure,Result.andThen_ok,Option.isSome_none,yoy,if_false]
   rw [hlr];rfl
  | some u' c' h'=>
   have:=zn4 (P:=P) (w:=w) h' hk (show k≤cap by omega) (code:=if s then .sliceAcap else .sliceAlen)
   simp only [Sem.run_bind,Sem.run_pure,Result.andThen_ok,Option.isSome_none,yoy,if_false]
   rw [this];simp only [Result.andThen_ok]
   rw [hlr];rfl
end Go.Proofs.YtljdbheclfaloaaGreatDoor.AM
namespace Go.Proofs.YtljdbheclfaloaaGreatDoor.AM
open Go.RowKit
set_option linter.unusedSimpArgs false
variable {P:Program} {G N:Nat} {σ:Emb} {g:Mem} {w:World}
theorem zjt {kk:EqK} {d:TypeDesc} (hd:eqK d=some kk) {k j:Value} {b:Bool} (h:ve kk k j=some b):Instr.sameNow d k j=some b:=by
 cases d <;> simp only [eqK,yot,reduceCtorEq] at hd <;> subst hd
 ·cases k <;> cases j <;> simp [ve] at h
  subst h;rfl
 ·cases k <;> cases j <;> simp [ve] at h
  obtain ⟨rfl,rfl⟩:=h;simp [Instr.sameNow]
 ·cases k <;> cases j <;> simp [ve] at h
  subst h;rfl
theorem zj4 {kk:EqK} {d:TypeDesc} (hd:eqK d=some kk) {k:Value}:∀{es:List (Value×Value)} {ms:List MapEntry} (_:EntriesR σ g es ms) (i:Nat) {r:Option Value},findKey kk k es=some r→
  (r=none→Instr.findNow d k ms i=some none)∧(∀v,r=some v→∃j c,Instr.findNow d k ms i=some (some (j,c))∧VR σ g v c)
 | _,_,.nil,i,r,h=>by
  simp only [findKey,yot] at h;subst h
  exact ⟨fun _=>rfl,(fun v h=>by cases h)⟩
 | _,_,.cons e m es ms he hs,i,r,h=>by
  obtain ⟨kj,v⟩:=e
  unfold findKey at h
  have hkey:m.key=kj:=he.key
  cases hq:ve kk k kj with
  | none=>rw [hq] at h;cases h
  | some b=>
   rw [hq] at h
   have hn:=zjt hd hq
   rw [←hkey] at hn
   cases b with
   | true=>
    simp only [yot] at h;subst h
    refine ⟨(fun h=>by cases h),fun u hu=> ?_⟩
    cases hu
    exact ⟨i,m.val,by unfold Instr.findNow;rw [hn],he.val⟩
   | false=>
    obtain ⟨h1,h2⟩:=zj4 hd hs (i+1) h
    refine ⟨fun hr=> ?_,fun u hu=> ?_⟩
    ·unfold Instr.findNow;rw [hn];exact h1 hr
    ·obtain ⟨j,c,h3,h4⟩:=h2 u hu
     exact ⟨j,c,by unfold Instr.findNow;rw [hn];exact h3,h4⟩
theorem zl3 {kk:EqK} {d:TypeDesc} (hd:eqK d=some kk) {t:TypeId} (ht:P.underlying t=some d) {k:Value} (hk:zfl kk k=true) (e:Bool) (n:Nat):(Instr.checkKey e (n+1) t k).run P w=.ok () w:=by
 cases d <;> simp only [eqK,yot,reduceCtorEq] at hd <;> subst hd <;> cases k <;> simp only [zfl,yoy] at hk <;> simp [Instr.checkKey,xn ht]
theorem zsh {kk:EqK} {k ck:Value} (hk:zfl kk k=true) (h:VR σ g k ck):ck=k:=by
 cases kk <;> cases k <;> simp only [zfl,yoy] at hk <;> cases h <;> rfl
def zvo (ok:Bool) (z:Value):Option Value→Value
 | some v=>if ok then tup [v,.bool true] else v
 | none=>if ok then tup [z,.bool false] else z
theorem zsl (hm:MR G N σ g w) {h:Heap} (hs:Sub g h) {t kt e:TypeId} {d:TypeDesc} {kk:EqK} (ht:P.underlying t=some (.map kt e)) (hk:P.underlying kt=some d) (hd:eqK d=some kk)
  {z:Value} (hz:zhd P e=some z) {m cm k ck:Value} (hvm:VR σ g m cm) (hvk:VR σ g k ck) (hok:zfl kk k=true) {r:Option Value} {ok:Bool}
  (hr:zmj h kk k m=some r):
  ∃cv,(Instr.lookup t cm ck ok).run P w=.ok cv w∧VR σ g (zvo ok z r) cv:=by
 have hck:=zsh hok hvk
 subst hck
 have hzr:=fun w=>(zdh hz w).1
 have hzp:=(zdh hz w).2
 have e0:(10000:Nat)=9999+1:=rfl
 have fin:∀(es:Array MapEntry) (r:Option Value),(r=none→Instr.findNow d ck es.toList 0=some none)→(∀v,r=some v→∃j c,Instr.findNow d ck es.toList 0=some (some (j,c))∧VR σ g v c)→
   ∃cv,(do
    Instr.checkKey es.isEmpty 10000 kt ck
    let (v,ok')←match←Instr.findKey kt ck es.toList with
     | some (_,v)=>pure (v,true)
     | none=>pure (←zeroValue e,false)
    pure (if ok then .tuple #[v,.bool ok'] else v):Sem Value).run P w=.ok cv w∧VR σ g (zvo ok z r) cv:=by
  intro es r h1 h2
  have hc:=zl3 (w:=w) hd hk hok es.isEmpty 9999
  rw [e0]
  simp only [Sem.run_bind,hc,Result.andThen_ok]
  cases r with
  | none=>
   have hf:(Instr.findKey kt ck es.toList).run P w=.ok none w:=by
    simp [Instr.findKey,xn hk,h1 rfl]
   rw [hf]
   simp only [Result.andThen_ok,Sem.run_bind,hzr,Sem.run_pure]
   refine ⟨_,rfl,?_⟩
   cases ok
   ·exact .plain hzp
   ·exact .tuple [z,.bool false] [z,.bool false] (.cons _ _ _ _ (.plain hzp) (.cons _ _ _ _ (.bool _) .nil))
  | some v=>
   obtain ⟨j,c,h3,h4⟩:=h2 v rfl
   have hf:(Instr.findKey kt ck es.toList).run P w=.ok (some (j,c)) w:=by
    simp [Instr.findKey,xn hk,h3]
   rw [hf]
   simp only [Result.andThen_ok]
   refine ⟨_,rfl,?_⟩
   cases ok
   ·exact h4
   ·exact .tuple [v,.bool true] [c,.bool true] (.cons _ _ _ _ h4 (.cons _ _ _ _ (.bool _) .nil))
 unfold Instr.lookup
 simp only [Sem.run_bind,xn ht,Result.andThen_ok]
 cases hvm with
 | nilMap=>
  simp only [zmj,yot] at hr
  subst hr
  have:=fin #[] none (fun _=>rfl) (fun v h=>by cases h)
  simp only [Sem.run_bind] at this
  simp only [Sem.run_bind,Sem.run_pure,Result.andThen_ok]
  exact this
 | map b s es hg hsb=>
  simp only [zmj,hs _ _ hg] at hr
  have ho:=hm.obj _ _ hg
  cases ho with
  | map _ ms clock hb hw he=>
   rw [←hsb] at hw
   have hgo:(getObj s).run P w=.ok (.map ⟨ms⟩ clock) w:=by simp [getObj,Sem.run,hw]
   simp only [Sem.run_bind,hgo,Result.andThen_ok,Sem.run_pure]
   have hf:=zj4 hd he 0 hr
   have:=fin ⟨ms⟩ r hf.1 hf.2
   simp only [Sem.run_bind] at this
   exact this
 | _=>simp [zmj] at hr
end Go.Proofs.YtljdbheclfaloaaGreatDoor.AM
namespace Go.Proofs.YtljdbheclfaloaaGreatDoor.AM
open Go.RowKit
set_option linter.unusedSimpArgs false
variable {P:Program} {G N:Nat} {σ:Emb} {g:Mem} {w:World}
theorem zo {α β:Type} {f:α→β} {o:Option α} {r:β} (h:o.map f=some r):∃a,o=some a∧f a=r:=ypm.1 h
theorem zqs {ρ ρc:Operand→Value} {l:List Operand} (h:∀x∈l,VR σ g (ρ x) (ρc x)):VRs σ g (l.map ρ) (l.map ρc):=VRs.map l h
theorem zyh {ρ ρc:Operand→Value} {o:Option Operand} (h:∀x,o=some x→VR σ g (ρ x) (ρc x)):OptR σ g (o.map ρ) (o.map ρc):=by
 cases o with
 | none=>exact .none
 | some x=>exact .some _ _ (h x rfl)
theorem zun {t e:TypeId} {m:Nat} (ht:P.underlying t=some (.slice e)) (hz:ge P e=some m) {p:Addr} {n:Nat} {cv:Value} (hv:VR σ g (.slice (some p) n m) cv) {lo hi clo chi:Option Value}
  (hlo:OptR σ g lo clo) (hhi:OptR σ g hi chi) {l k:Nat} (hl:zah lo 0=some l) (hk:zah hi n=some k) (hlk:l≤k) (hkn:k≤n):
  ∃r,(Instr.sliceAt t cv clo chi none).run P w=.ok r w∧VR σ g (.slice (some { p with off:=p.off+l*m}) (k - l) m) r:=by
 cases hv with
 | slice _ q _ _ cap v vals ver ro hv hg hle hn hq=>
  have hb:=fun w=>zh3 (P:=P) (w:=w) hlo hhi hn hl hk hlk hkn true
  refine ⟨.slice (some (if cap=l then q else q.add (l*m))) (k - l) (cap - l),?_,.slice _ _ _ _ _ v vals ver ro hv hg hle (by omega) fun e=> ?_⟩
  ·simp only [Instr.sliceAt,Sem.run_bind,xn ht,Result.andThen_ok,Instr.slice,hb,qj hz,Sem.run_pure]
   congr 2
   split <;> simp
  ·rcases hq e with ⟨hq,hsz⟩ | ⟨h0,hc0⟩
   ·by_cases hcl:cap=l
    ·exact .inr ⟨by omega,by omega⟩
    ·left
     rw [if_neg hcl,hq,zga,Nat.add_assoc]
     refine ⟨rfl,fun hro=> ?_⟩
     have:=hsz hro
     simp only
     have e1:cap*m=l*m+(cap - l)*m:=by rw [←Nat.add_mul];congr 1;omega
     omega
   ·exact .inr ⟨by omega,by omega⟩
theorem zo2 {t e:TypeId} {m:Nat} (ht:P.underlying t=some (.slice e)) (hz:ge P e=some m) {n c:Nat} {cv:Value} (hv:VR σ g (.slice none n c) cv) {lo hi clo chi:Option Value}
  (hlo:OptR σ g lo clo) (hhi:OptR σ g hi chi) (hl:zah lo 0=some 0) (hk:zah hi 0=some 0):
  (Instr.sliceAt t cv clo chi none).run P w=.ok nils w:=by
 obtain ⟨_,_,rfl⟩:=hv.nilSlice_inv
 have hb:=fun w=>zh3 (P:=P) (w:=w) hlo hhi (yoz 0) hl hk (yoz 0) (yoz 0) true
 simp only [Instr.sliceAt,Sem.run_bind,xn ht,Result.andThen_ok,Instr.slice,hb,qj hz,Sem.run_pure]
 rfl
theorem zoy {t:TypeId} (ht:P.underlying t=some .string) {s:ByteArray} {lo hi clo chi:Option Value}
  (hlo:OptR σ g lo clo) (hhi:OptR σ g hi chi) {l k:Nat} (hl:zah lo 0=some l) (hk:zah hi s.size=some k) (hlk:l≤k) (hkn:k≤s.size):
  (Instr.sliceAt t (.string s) clo chi none).run P w=.ok (.string (s.extract l k)) w:=by
 have hb:=fun w=>zh3 (P:=P) (w:=w) hlo hhi (yoz s.size) hl hk hlk hkn false
 simp only [Instr.sliceAt,Sem.run_bind,xn ht,Result.andThen_ok,Instr.slice,hb,Option.isSome_none,yoy,if_false,Sem.run_pure]
theorem zo5 {t e:TypeId} {m n:Nat} (ht:P.underlying t=some (.array n e)) (hz:ge P e=some m) {p:Addr} {cv:Value} (hv:VR σ g (.pointer (some p)) cv)
  (hroom:∀vals ver ro,g p.block=some (.cells vals ver ro)→p.spot=some ver→ro=false→(σ p.block).base+p.off+n*m≤(σ p.block).size) {lo hi clo chi:Option Value}
  (hlo:OptR σ g lo clo) (hhi:OptR σ g hi chi) {l k:Nat} (hl:zah lo 0=some l) (hk:zah hi n=some k) (hlk:l≤k) (hkn:k≤n):
  ∃r,(Instr.sliceAt t cv clo chi none).run P w=.ok r w∧VR σ g (.slice (some { p with off:=p.off+l*m}) (k - l) m) r:=by
 cases hv with
 | ptr _ q v vals ver ro hv hg hle hq=>
  have hb:=fun w=>zh3 (P:=P) (w:=w) hlo hhi (yoz n) hl hk hlk hkn false
  refine ⟨.slice (some (if n=l then q else q.add (l*m))) (k - l) (n - l),?_,.slice _ _ _ _ _ v vals ver ro hv hg hle (by omega) fun e=> ?_⟩
  ·simp only [Instr.sliceAt,Sem.run_bind,xn ht,Result.andThen_ok,hb,qj hz,Sem.run_pure,Instr.sureAddr]
  ·by_cases hcl:n=l
   ·exact .inr ⟨by omega,by omega⟩
   ·left
    rw [if_neg hcl,hq e,zga,Nat.add_assoc]
    refine ⟨rfl,fun hro=> ?_⟩
    have:=hroom vals ver ro hg (by rw [hv,e]) hro
    simp only
    have e1:n*m=l*m+(n - l)*m:=by rw [←Nat.add_mul];congr 1;omega
    omega
theorem zma {fs:Array Field} {z:List Value} {ρ ρc:Operand→Value}:∀{ps:List (Nat×Operand)} {qs:List (Nat×Nat×Operand)},zdk P fs ps=some qs→
  qs.length=ps.length∧∀(i:Nat) q p,qs[i]?=some q→ps[i]?=some p→∃f,fs[p.1]?=some f∧q.1=f.offset∧ge P f.type=some q.2.1∧q.2.2=p.2
 | [],qs,h=>by
  simp only [zdk,yot] at h;subst h
  exact ⟨rfl,fun i q p hq=>by simp at hq⟩
 | (i,x)::r,qs,h=>by
  unfold zdk at h
  cases hf:fs[i]? with
  | none=>rw [hf] at h;cases h
  | some f=>
   rw [hf] at h
   simp only at h
   cases hz:ge P f.type with
   | none=>rw [hz] at h;cases h
   | some n=>
    cases hr:zdk P fs r with
    | none=>rw [hz,hr] at h;cases h
    | some l=>
     rw [hz,hr] at h
     simp only [yot] at h
     subst h
     obtain ⟨h1,h2⟩:=zma (z:=z) (ρ:=ρ) (ρc:=ρc) hr
     refine ⟨by simp [h1],fun j q p hq hp=> ?_⟩
     cases j with
     | zero=>simp at hq hp;subst hq;subst hp;exact ⟨f,hf,rfl,hz,rfl⟩
     | succ j=>exact h2 j q p (by simpa using hq) (by simpa using hp)
theorem zdd {t:TypeId} {v:Value} (h:zhd P t=some v):plain v=true:=(zdh h default).2
theorem zf0 {t:TypeId} {l:List Value} (h:zg1 P t=some l):∃v,zhd P t=some v∧laid v=some l:=by
 unfold zg1 at h;exact yo6.1 h
theorem zft {v:Value} {l:List Value} (h:laid v=some l):v.cells=⟨l⟩:=by
 cases v <;> simp only [laid,yot,reduceCtorEq] at h <;> subst h <;> rfl
theorem zh9 {v:Value} {l:List Value} (h:laid v=some l) (hp:plain v=true):l.all plain1=true:=by
 unfold plain at hp
 cases v <;> simp only [laid,yot,reduceCtorEq] at h <;> subst h <;> simp_all
theorem zu8 {fs:Array Field} (h:∀f∈fs,(ge P f.type).isSome=true):
  (fs.mapM fun f=>do pure (f.offset,←sizeOf f.type):Sem (Array (Nat×Nat))).run P w=.ok (fs.map fun f=>(f.offset,(ge P f.type).getD 0)) w:=by
 rw [Array.mapM_eq_mapM_toList]
 have key:∀l:List Field,(∀f∈l,(ge P f.type).isSome=true)→(l.mapM fun f=>do pure (f.offset,←sizeOf f.type):Sem (List (Nat×Nat))).run P w=.ok (l.map fun f=>(f.offset,(ge P f.type).getD 0)) w:=by
  intro l
  induction l with
  | nil=>intro _;rfl
  | cons f l ih=>
   intro h
   obtain ⟨n,hn⟩:=Option.isSome_iff_exists.1 (h f (by simp))
   rw [List.mapM_cons]
   simp only [Sem.run_bind,qj hn,Result.andThen_ok,Sem.run_pure,ih fun g hg=>h g (by simp [hg]),ypr,hn,Option.getD_some]
 simp only [Sem.run_map,key fs.toList (fun f hf=>h f (yqj.1 hf)),Result.andThen_ok]
 congr 1
 apply Array.ext'
 simp
end Go.Proofs.YtljdbheclfaloaaGreatDoor.AM
namespace Go.Proofs.YtljdbheclfaloaaGreatDoor.AM
open Go.RowKit
set_option linter.unusedSimpArgs false
variable {P:Program} {G N:Nat} {σ:Emb} {g:Mem} {w:World}
theorem zws {t ty:TypeId} {x:Value} {n:Nat} {e:TypeId} (h:P.underlying t=some (.array n e)∨∃a,P.underlying t=some (.pointer a)∧P.underlying a=some (.array n e)):
  (Builtin.len_ #[t] ty #[x]).run P w=.ok (.int .i64 n) w:=by
 rcases h with h | ⟨a,h,h'⟩
 ·unfold Builtin.len_
  cases x <;> simp [xn h,goInt]
 ·unfold Builtin.len_
  cases x <;> simp [xn h,xn h',goInt]
theorem VR.func_inv {f:Fn} {a b:Array Value} {c:Value} (h:VR σ g (.func f a b) c):∃ys vs,c=.func f ⟨ys⟩ ⟨vs⟩:=by cases h;exact ⟨_,_,rfl⟩
theorem yet (neg:Bool) (t:TypeId) {u v:Value} (hni:∀k a k' a',¬(u=.int k a∧v=.int k' a')) (hns:∀s s',¬(u=.string s∧v=.string s'))
  (hnf:∀k a k' a',¬(u=.float k a∧v=.float k' a')) (hnc:∀k a c k' a' c',¬(u=.complex k a c∧v=.complex k' a' c')):
  binOp (if neg then .neq else .eql) t u v=(do pure (.bool ((←Op.equal t u v) !=neg)):Sem Value):=by
 cases neg
 ·simp only [yoy,if_false,ypa]
  cases u <;> cases v <;> first | rfl | exact absurd ⟨rfl,rfl⟩ (hni _ _ _ _) | exact absurd ⟨rfl,rfl⟩ (hns _ _) | exact absurd ⟨rfl,rfl⟩ (hnf _ _ _ _) | exact absurd ⟨rfl,rfl⟩ (hnc _ _ _ _ _ _)
 ·simp only [if_true,yo4]
  cases u <;> cases v <;> first | rfl | exact absurd ⟨rfl,rfl⟩ (hni _ _ _ _) | exact absurd ⟨rfl,rfl⟩ (hns _ _) | exact absurd ⟨rfl,rfl⟩ (hnf _ _ _ _) | exact absurd ⟨rfl,rfl⟩ (hnc _ _ _ _ _ _)
theorem zs6 {d:Nat}:∀{t:TypeId} {ks:List EqK},leaves P d t=some ks→∀k∈ks,k=.bool∨k=.int∨k=.str:=by
 induction d with
 | zero=>intro t ks h;simp [leaves] at h
 | succ d ih=>
  intro t ks h
  unfold leaves at h
  cases hu:P.underlying t with
  | none=>rw [hu] at h;cases h
  | some q=>
   rw [hu] at h
   cases q
   case struct fs=>
    simp only at h
    split at h
    ·cases h
    have key:∀(l:List Field) (o:Nat) (ks:List EqK),leaves.leavesOf (leaves P d) (fun u=>(P.info? u).map (·.size)) l o=some ks→∀k∈ks,k=.bool∨k=.int∨k=.str:=by
     intro l
     induction l with
     | nil=>intro o ks h k hk;simp only [leaves.leavesOf,yot] at h;subst h;simp at hk
     | cons f l ihl=>
      intro o ks h k hk
      unfold leaves.leavesOf at h
      split at h
      ·cases h
      cases hl:leaves P d f.type with
      | none=>rw [hl] at h;cases h
      | some l1=>
       cases hz:(P.info? f.type).map (·.size) with
       | none=>rw [hl,hz] at h;cases h
       | some n=>
        rw [hl,hz] at h
        simp only at h
        split at h
        ·obtain ⟨k2,hk2,rfl⟩:=zo h
         rcases ype.1 hk with hk | hk
         ·exact ih hl k hk
         ·exact ihl _ _ hk2 k hk
        ·cases h
    exact key _ _ _ h
   case array n e=>
    simp only [yo6] at h
    obtain ⟨l,hl,h⟩:=h
    split at h
    ·cases h
     intro k hk
     have:∀n,k∈repl n l→k∈l:=by
      intro n
      induction n with
      | zero=>intro h;simp [repl] at h
      | succ n ihn=>intro h;rcases ype.1 h with h | h;exact h;exact ihn h
     exact ih hl k (this _ hk)
    ·cases h
   all_goals
    simp only [ypm] at h
    obtain ⟨k0,hk0,rfl⟩:=h
    intro k hk
    simp only [ypw] at hk
    subst hk
    simp only [eqK,yot,reduceCtorEq] at hk0
    try (subst hk0;simp)
theorem EntriesR.length {es:List (Value×Value)} {ms:List MapEntry} (h:EntriesR σ g es ms):es.length=ms.length:=by
 induction h with
 | nil=>rfl
 | cons _ _ _ _ _ _ ih=>simp [ih]
set_option maxHeartbeats 1000000 in
theorem zz1 (call:vf) (hm:MR G N σ g w) {h:Heap} (hs:Sub g h) {ρ ρc:Operand→Value} {dst:Option Tmp} {c:Call} {ty:TypeId} {pos:String} {after:Array Edge} {guard:Option (Nat×Bool)} {ao:AOp}
  (hn:y8 P ty (.call c)=some ao) (hk:ao.acts=false)
  (hv:∀x∈(Op.call c).operands,VR σ g (ρ x) (ρc x)) (hc:∀v,ρ (.const v)=v∧ρc (.const v)=v) {v:Value} {h':Heap} (he:evOp call ρ h ao=some (v,h')):
  h'=h∧zmf P w σ g v (execOp ρc ⟨dst,.call c,ty,pos,after,guard⟩):=by
 obtain ⟨callee,⟨yoi⟩,⟨ts⟩⟩:=c
 simp only [y8,zem] at hn
 split at hn
 ·rename_i x t
  have hx:=hv x (by simp [Op.operands,Call.operands])
  have hrun:∀r,(Builtin.len_ #[t] ty #[ρc x]).run P w=.ok r w→VR σ g v r→zmf P w σ g v (execOp ρc ⟨dst,.call ⟨.builtin .len,⟨[x]⟩,⟨[t]⟩⟩,ty,pos,after,guard⟩):=by
   intro r hr hvr
   refine ⟨r,?_,hvr⟩
   simp only [execOp,resolve,List.map_toArray,ypr,List.map_nil,Sem.run_bind,Sem.run_pure,Result.andThen_ok,invoke,builtin]
   rw [hr]
   rfl
  have consts:∀(n:Nat) e,ao=.mv (.const (.int .i64 n))→(P.underlying t=some (.array n e)∨∃a,P.underlying t=some (.pointer a)∧P.underlying a=some (.array n e))→
    h'=h∧zmf P w σ g v (execOp ρc ⟨dst,.call ⟨.builtin .len,⟨[x]⟩,⟨[t]⟩⟩,ty,pos,after,guard⟩):=by
   rintro n e rfl ht
   simp only [evOp,(hc _).1,yot,yo2] at he
   obtain ⟨rfl,rfl⟩:=he
   exact ⟨rfl,hrun _ (zws ht) (.int _ _)⟩
  cases hu:P.underlying t with
  | none=>rw [hu] at hn;cases hn
  | some d=>
   rw [hu] at hn
   cases d <;> simp only [reduceCtorEq] at hn
   case string=>
    simp only [yot] at hn;subst hn
    simp only [evOp] at he
    split at he
    ·rename_i s hxs
     simp only [yot,yo2] at he
     obtain ⟨rfl,rfl⟩:=he
     rw [hxs] at hx
     refine ⟨rfl,hrun _ ?_ (.int _ _)⟩
     rw [hx.string_inv]
     simp [Builtin.len_,xn hu,goInt]
    ·cases he
   case slice e=>
    simp only [yot] at hn;subst hn
    simp only [evOp] at he
    split at he
    ·rename_i a n c hxs
     simp only [yot,yo2] at he
     obtain ⟨rfl,rfl⟩:=he
     rw [hxs] at hx
     refine ⟨rfl,hrun _ ?_ (.int _ _)⟩
     generalize ρc x=cx at hx ⊢
     cases hx <;> simp [Builtin.len_,xn hu,goInt]
    ·cases he
   case array n e=>
    simp only [yot] at hn
    exact consts n e hn.symm (.inl hu)
   case pointer a=>
    cases hua:P.underlying a with
    | none=>rw [hua] at hn;cases hn
    | some d2=>
     rw [hua] at hn
     cases d2 <;> simp only [reduceCtorEq,yot] at hn
     exact consts _ _ hn.symm (.inr ⟨a,hu,hua⟩)
   case map k e=>
    simp only [yot] at hn;subst hn
    simp only [evOp] at he
    split at he
    ·rename_i hxs
     simp only [yot,yo2] at he
     obtain ⟨rfl,rfl⟩:=he
     rw [hxs] at hx
     refine ⟨rfl,hrun _ ?_ (.int _ _)⟩
     generalize ρc x=cx at hx ⊢
     cases hx
     simp [Builtin.len_,xn hu,goInt]
    ·rename_i b hxs
     split at he
     ·rename_i es hb
      simp only [yot,yo2] at he
      obtain ⟨rfl,rfl⟩:=he
      rw [hxs] at hx
      refine ⟨rfl,hrun _ ?_ (.int _ _)⟩
      generalize ρc x=cx at hx ⊢
      cases hx with
      | map _ s es' hg hsb=>
       have:=hs _ _ hg
       rw [hb] at this
       cases this
       have ho:=hm.obj _ _ hg
       cases ho with
       | map _ ms clock hbn hw hent=>
        rw [←hsb] at hw
        have hgo:(getObj s).run P w=.ok (.map ⟨ms⟩ clock) w:=by simp [getObj,Sem.run,hw]
        simp [Builtin.len_,xn hu,goInt,hgo,hent.length]
     ·cases he
    ·cases he
 ·rename_i x y t u
  exfalso
  split at hn
  ·split at hn
   ·split at hn
    ·simp only [yot] at hn;subst hn;simp [AOp.acts] at hk
    ·cases hn
   ·cases hn
  ·cases hn
 ·rename_i x y
  split at hn
  ·simp only [yot] at hn;subst hn
   simp only [evOp] at he
   split at he
   ·rename_i k a k' b hxs hys
    simp only [yot,yo2] at he
    obtain ⟨rfl,rfl⟩:=he
    have hx:=hv x (by simp [Op.operands,Call.operands])
    have hy:=hv y (by simp [Op.operands,Call.operands])
    rw [hxs] at hx;rw [hys] at hy
    refine ⟨rfl,_,?_,.int _ _⟩
    simp only [execOp,resolve,List.map_toArray,ypr,List.map_nil,Sem.run_bind,Sem.run_pure,Result.andThen_ok,invoke,builtin,hx.int_inv,hy.int_inv,Builtin.max_,List.foldlM_cons,List.foldlM_nil,Builtin.max2]
   ·cases he
  ·cases hn
 ·rename_i x y
  split at hn
  ·simp only [yot] at hn;subst hn
   simp only [evOp] at he
   split at he
   ·rename_i k a k' b hxs hys
    simp only [yot,yo2] at he
    obtain ⟨rfl,rfl⟩:=he
    have hx:=hv x (by simp [Op.operands,Call.operands])
    have hy:=hv y (by simp [Op.operands,Call.operands])
    rw [hxs] at hx;rw [hys] at hy
    refine ⟨rfl,_,?_,.int _ _⟩
    simp only [execOp,resolve,List.map_toArray,ypr,List.map_nil,Sem.run_bind,Sem.run_pure,Result.andThen_ok,invoke,builtin,hx.int_inv,hy.int_inv,Builtin.min_,List.foldlM_cons,List.foldlM_nil,Builtin.min2]
   ·cases he
  ·cases hn
 ·split at hn
  ·simp only [yot] at hn;subst hn;simp [AOp.acts] at hk
  ·cases hn
 ·simp only [yot] at hn;subst hn;simp [AOp.acts] at hk
 ·cases hn
theorem zfg {d:Option TypeDesc} {r:Option Operand} {ao:AOp} (h:zbv d r=some ao):ao=.mkMap:=by
 unfold zbv at h
 split at h <;> first | (cases h;done) | (simp only [yot] at h;exact h.symm)
set_option maxHeartbeats 4000000 in
theorem zxa (call:vf) (hm:MR G N σ g w) {h:Heap} (hs:Sub g h) {ρ ρc:Operand→Value} {o:Oper} {ao:AOp} (hn:y8 P o.type o.op=some ao) (hk:ao.acts=false) (hk':ao.makes=false)
  (hv:∀x∈o.op.operands,VR σ g (ρ x) (ρc x)) (hc:∀v,ρ (.const v)=v∧ρc (.const v)=v) {v:Value} {h':Heap} (he:evOp call ρ h ao=some (v,h')):
  h'=h∧zmf P w σ g v (execOp ρc o):=by
 obtain ⟨dst,op,ty,pos,after,guard⟩:=o
 simp only at hn hv
 cases op
 case move x=>
  simp only [y8,yot] at hn;subst hn
  simp only [evOp,yot,yo2] at he
  obtain ⟨rfl,rfl⟩:=he
  exact ⟨rfl,ρc x,rfl,hv x (by simp [Op.operands])⟩
 case assign x=>
  simp only [y8,yot] at hn;subst hn
  simp only [evOp,yot,yo2] at he
  obtain ⟨rfl,rfl⟩:=he
  exact ⟨rfl,ρc x,rfl,hv x (by simp [Op.operands])⟩
 case pick c a b=>
  simp only [y8,yot] at hn;subst hn
  have hcv:=hv c (by simp [Op.operands])
  have ha:=hv a (by simp [Op.operands])
  have hb:=hv b (by simp [Op.operands])
  simp only [evOp] at he
  split at he
  ·rename_i t ht
   rw [ht] at hcv
   simp only [yot,yo2] at he
   obtain ⟨rfl,rfl⟩:=he
   refine ⟨rfl,if t then ρc a else ρc b,?_,?_⟩
   ·simp only [execOp,hcv.bool_inv,asBool,Sem.run_bind,Sem.run_pure,Result.andThen_ok]
   ·cases t
    ·exact hb
    ·exact ha
  ·cases he
 case build t ps=>
  simp only [y8] at hn
  cases hz:zg1 P t with
  | none=>rw [hz] at hn;split at hn <;> simp_all
  | some z=>
   obtain ⟨zv,hzv,hzl⟩:=zf0 hz
   have hzc:=zft hzl
   have hzp:=zh9 hzl (zdd hzv)
   have hz0:VRs σ g z z:=.plain1 hzp
   have hz1:∀x∈z,single x=true:=fun x hx=>j7 (yp9.1 hzp x hx)
   cases hu:P.underlying t with
   | none=>rw [hu] at hn;cases hn
   | some d=>
    rw [hu,hz] at hn
    cases d <;> simp only [reduceCtorEq] at hn
    case struct fs=>
     split at hn
     ·rename_i hall
      obtain ⟨qs,hq,rfl⟩:=zo hn
      obtain ⟨hql,hqf⟩:=zma (z:=z) (ρ:=ρ) (ρc:=ρc) hq
      simp only [evOp] at he
      obtain ⟨l,hl,hr⟩:=zo he
      simp only [yo2] at hr
      obtain ⟨rfl,rfl⟩:=hr
      have hsz:∀f∈fs,(ge P f.type).isSome=true:=fun f hf=>yp9.1 hall f (yqj.2 hf)
      obtain ⟨ds,h1,h2,h3,_⟩:=zia (place:=fun i=>(fs.map fun f=>(f.offset,(ge P f.type).getD 0))[i]?) (qs.map fun p=>(p.1,p.2.1,ρ p.2.2)) (ps.map fun (i,x)=>(i,ρc x)).toList z z l hz0 hz1
       (by simp [hql]) (fun i p q hp hq'=>by
        simp only [yp1,ypm] at hp
        obtain ⟨p0,hp0,rfl⟩:=hp
        simp only [Array.toList_map,yp1,ypm] at hq'
        obtain ⟨q0,hq0,rfl⟩:=hq'
        obtain ⟨f,hf1,hf2,hf3,hf4⟩:=hqf i p0 q0 hp0 hq0
        refine ⟨by simp [hf1,hf2,hf3],?_⟩
        simp only [hf4]
        refine hv _ ?_
        have hmem:q0∈ps.toList:=yp3 hq0
        simp only [Op.operands,List.mem_toArray,List.mem_map]
        exact ⟨q0,hmem,rfl⟩) hl
      refine ⟨rfl,.agg ⟨ds⟩,?_,.agg _ _ h2 h3⟩
      have hpl:=zu8 (P:=P) (w:=w) hsz
      simp only [execOp,Instr.build,Sem.run_bind,(zdh hzv w).1,Result.andThen_ok,xn hu,hzc]
      rw [hpl]
      simp only [Result.andThen_ok,h1,Sem.run_pure]
     ·cases hn
    case array n e=>
     obtain ⟨qs,hq,rfl⟩:=zo hn
     unfold zg9 at hq
     obtain ⟨m,hm',rfl⟩:=zo hq
     simp only [evOp] at he
     obtain ⟨l,hl,hr⟩:=zo he
     simp only [yo2] at hr
     obtain ⟨rfl,rfl⟩:=hr
     obtain ⟨ds,h1,h2,h3,_⟩:=zia (place:=fun i=>some (i*m,m)) ((ps.toList.map fun p=>(p.1*m,m,p.2)).map fun p=>(p.1,p.2.1,ρ p.2.2)) (ps.map fun (i,x)=>(i,ρc x)).toList z z l hz0 hz1
      (by simp) (fun i p q hp hq'=>by
       simp only [yp1,Option.map_map,ypm] at hp
       obtain ⟨p0,hp0,rfl⟩:=hp
       simp only [Array.toList_map,yp1,ypm] at hq'
       obtain ⟨q0,hq0,rfl⟩:=hq'
       rw [hp0] at hq0;cases hq0
       refine ⟨rfl,?_⟩
       refine hv _ ?_
       have hmem:p0∈ps.toList:=yp3 hp0
       simp only [Op.operands,List.mem_toArray,List.mem_map]
       exact ⟨p0,hmem,rfl⟩) hl
     refine ⟨rfl,.agg ⟨ds⟩,?_,.agg _ _ h2 h3⟩
     simp only [execOp,Instr.build,Sem.run_bind,(zdh hzv w).1,Result.andThen_ok,xn hu,hzc,qj hm',h1,Sem.run_pure]
 case load t a=>
  simp only [y8] at hn
  have ha:=hv a (by simp [Op.operands])
  cases hag:aggT P t with
  | none=>rw [hag] at hn;cases hn
  | some b=>
   cases hz:ge P t with
   | none=>rw [hag,hz] at hn;cases b <;> cases hn
   | some n=>
    rw [hag,hz] at hn
    cases b <;> simp only [yot] at hn <;> subst hn <;> simp only [evOp] at he
    ·split at he
     ·rename_i p hp
      rw [hp] at ha
      obtain ⟨u,hu,hr⟩:=zo he
      simp only [yo2] at hr
      obtain ⟨rfl,rfl⟩:=hr
      exact ⟨rfl,ji (zok hm hs hag ha hu)⟩
     ·cases he
    ·split at he
     ·rename_i p hp
      rw [hp] at ha
      obtain ⟨l,hl,hr⟩:=zo he
      simp only [yo2] at hr
      obtain ⟨rfl,rfl⟩:=hr
      exact ⟨rfl,ji (zpb hm hs hag hz ha hl)⟩
     ·cases he
 case nilCheck x=>
  simp only [y8,yot] at hn;subst hn
  have hx:=hv x (by simp [Op.operands])
  simp only [evOp] at he
  split at he
  ·rename_i p hp
   simp only [yot,yo2] at he
   obtain ⟨rfl,rfl⟩:=he
   rw [hp] at hx
   obtain ⟨q,hq⟩:=hx.ptr_inv
   refine ⟨rfl,ρc x,?_,hx⟩
   simp only [execOp,hq,Sem.run_pure]
  ·rename_i f a b hp
   simp only [yot,yo2] at he
   obtain ⟨rfl,rfl⟩:=he
   rw [hp] at hx
   refine ⟨rfl,ρc x,?_,hx⟩
   obtain ⟨ys,vs,hq⟩:=hx.func_inv
   simp only [execOp,hq,Sem.run_pure]
  ·cases he
 case binOp op t x y yt=>
  have hx:=hv x (by simp [Op.operands])
  have hy:=hv y (by simp [Op.operands])
  have bins:∀bop,ao=.bin bop x y→op=bop→h'=h∧zmf P w σ g v (execOp ρc ⟨dst,.binOp op t x y yt,ty,pos,after,guard⟩):=by
   rintro bop rfl rfl
   simp only [evOp] at he
   obtain ⟨r,hr,he⟩:=zo he
   simp only [yo2] at he
   obtain ⟨rfl,rfl⟩:=he
   obtain ⟨h1,h2⟩:=ydq (P:=P) (w:=w) (t:=t) (x:=x) (y:=y) hx hy hr
   exact ⟨rfl,ji ⟨r,h1,.plain1 h2⟩⟩
  have eqs:∀neg,op=(if neg then .neq else .eql)→zek P neg t x y=some ao→h'=h∧zmf P w σ g v (execOp ρc ⟨dst,.binOp op t x y yt,ty,pos,after,guard⟩):=by
   intro neg hop hne
   unfold zek at hne
   cases hu:P.underlying t with
   | none=>rw [hu] at hne;cases hne
   | some d=>
    rw [hu] at hne
    have fin:∀b:Bool,(eqGuard op t x y (ρc x) (ρc y)).run P w=.ok () w→(Op.equal t (ρc x) (ρc y)).run P w=.ok b w→(∀k a k' a',¬(ρc x=.int k a∧ρc y=.int k' a'))→
      (∀s s',¬(ρc x=.string s∧ρc y=.string s'))→(∀k a k' a',¬(ρc x=.float k a∧ρc y=.float k' a'))→(∀k a c k' a' c',¬(ρc x=.complex k a c∧ρc y=.complex k' a' c'))→
      zmf P w σ g (.bool (b !=neg)) (execOp ρc ⟨dst,.binOp op t x y yt,ty,pos,after,guard⟩):=by
     intro b hg he hni hns hnf hnc
     refine ji ⟨.bool (b !=neg),?_,.bool _⟩
     simp only [Sem.run_bind,hg,Result.andThen_ok]
     subst hop
     have hb:binOp (if neg then .neq else .eql) t (ρc x) (ρc y)=(do pure (.bool ((←Op.equal t (ρc x) (ρc y)) !=neg)):Sem Value):=yet neg t hni hns hnf hnc
     rw [hb]
     simp only [Sem.run_bind,he,Result.andThen_ok,Sem.run_pure]
    have aggs:(∃fs,d=.struct fs)∨(∃n e,d=.array n e)→(if P.eqGuardType P.depth t then none else (leaves P 8 t).map fun ks=>AOp.eqAgg neg ks x y)=some ao→
      h'=h∧zmf P w σ g v (execOp ρc ⟨dst,.binOp op t x y yt,ty,pos,after,guard⟩):=by
     intro hd hao
     split at hao
     ·cases hao
     rename_i hng
     obtain ⟨ks,hks,rfl⟩:=zo hao
     simp only [evOp] at he
     split at he
     ·rename_i xs ys hxs hys
      split at he
      ·rename_i hlen
       obtain ⟨b,hb,he⟩:=zo he
       simp only [yo2] at he
       obtain ⟨rfl,rfl⟩:=he
       rw [hxs] at hx;rw [hys] at hy
       obtain ⟨cx,hcx,hvx,_⟩:=hx.agg_inv
       obtain ⟨cy,hcy,hvy,_⟩:=hy.agg_inv
       have hlx:xs.toList.length=ks.length:=hlen.1
       have hly:ys.toList.length=ks.length:=hlen.2
       have same:∀(ks:List EqK) (a b ca cb:List Value) (r:Bool),VRs σ g a ca→VRs σ g b cb→zbs ks a b=some r→(∀k∈ks,k=.bool∨k=.int∨k=.str)→zbs ks ca cb=some r:=by
        intro ks
        induction ks with
        | nil=>intro a b ca cb r ha hb hr _;cases ha <;> cases hb <;> first | exact hr | cases hr
        | cons k ks ih=>
         intro a b ca cb r ha hb hr hk
         cases ha with
         | nil=>cases hr
         | cons u c us cs hu hus=>
          cases hb with
          | nil=>cases hr
          | cons u' c' us' cs' hu' hus'=>
           simp only [zbs] at hr ⊢
           have hl:∀b,ve k u u'=some b→c=u∧c'=u':=by
            intro b hb
            rcases hk k (by simp) with rfl | rfl | rfl <;> cases u <;> cases u' <;> simp only [ve,reduceCtorEq] at hb <;> cases hu <;> cases hu' <;> exact ⟨rfl,rfl⟩
           cases hq:ve k u u' with
           | none=>rw [hq] at hr;cases hr
           | some b0=>
            obtain ⟨rfl,rfl⟩:=hl b0 hq
            rw [hq] at hr ⊢
            cases b0 with
            | false=>exact hr
            | true=>exact ih _ _ _ _ _ hus hus' hr fun k hk'=>hk k (by simp [hk'])
       have hkinds:∀k∈ks,k=.bool∨k=.int∨k=.str:=zs6 hks
       have hr:=same ks _ _ _ _ b hvx hvy hb hkinds
       have hq:=ye8 (P:=P) (w:=w) 8 9992 t ks cx cy b hks (by rw [←hvx.length];exact hlx) (by rw [←hvy.length];exact hly) hr
       have hvv:∀l,zjm P t l=.agg ⟨l⟩:=fun l=>by unfold zjm;rw [hu];rcases hd with ⟨fs,rfl⟩ | ⟨n,e,rfl⟩<;> rfl
       rw [hvv,hvv,←hcx,←hcy] at hq
       refine ⟨rfl,fin b ?_ hq ?_ ?_ ?_ ?_⟩
       ·rw [hcx,hcy]
        subst hop
        cases neg <;> simp [eqGuard,hng]
       all_goals (intros;rw [hcx];simp)
      ·cases he
     ·cases he
    have lf:∀k,eqK1 d=some k→ao=.eqv neg k x y→(k=.iface→zbp x=true∨zbp y=true)→h'=h∧zmf P w σ g v (execOp ρc ⟨dst,.binOp op t x y yt,ty,pos,after,guard⟩):=by
     rintro k hkk rfl hif
     simp only [evOp] at he
     obtain ⟨b,hb,he⟩:=zo he
     simp only [yo2] at he
     obtain ⟨rfl,rfl⟩:=he
     obtain ⟨h1,h2⟩:=zz3 (P:=P) (w:=w) hkk hu hx hy hb (op:=op) (x:=x) (y:=y) hif
     have hkind:k≠ .int∧k≠ .str:=by constructor <;>(rintro rfl;cases d <;> simp [eqK1] at hkk)
     have hno:∀u u',VR σ g u (ρc x)→VR σ g u' (ρc y)→ve k u u'=some b→(∀k a k' a',¬(ρc x=.int k a∧ρc y=.int k' a'))∧
       (∀s s',¬(ρc x=.string s∧ρc y=.string s'))∧(∀k a k' a',¬(ρc x=.float k a∧ρc y=.float k' a'))∧(∀k a c k' a' c',¬(ρc x=.complex k a c∧ρc y=.complex k' a' c')):=by
      intro u u' hu hu' hl
      refine ⟨?_,?_,?_,?_⟩
      all_goals
       intros
       rintro ⟨ha,hb'⟩
       rw [ha] at hu;rw [hb'] at hu'
       cases hu <;> cases hu' <;>(first | (rw [zth] at hl;cases hl) | (rw [zte] at hl;cases hl) | (cases k <;> simp_all [ve]))
     obtain ⟨n1,n2,n3,n4⟩:=hno _ _ hx hy hb
     exact ⟨rfl,fin b h1 h2 n1 n2 n3 n4⟩
    cases d
    case int k=>simp only [yot] at hne;exact bins _ hne.symm hop
    case string=>simp only [yot] at hne;exact bins _ hne.symm hop
    case struct fs=>exact aggs (.inl ⟨fs,rfl⟩) hne
    case array n e=>exact aggs (.inr ⟨n,e,rfl⟩) hne
    case interface ms=>
     simp only at hne
     split at hne
     ·rename_i hni
      simp only [yot] at hne
      exact lf _ rfl hne.symm (fun _=>by simpa [yqa] using hni)
     ·cases hne
    all_goals
     first
      | (simp only [eqK1,yp6,yot,Option.map_none,reduceCtorEq] at hne;exact lf _ rfl hne.symm (by intro h;cases h))
      | (simp [eqK1] at hne;done)
  simp only [y8] at hn
  cases op <;> simp only at hn
  case eql=>exact eqs false rfl hn
  case neq=>exact eqs true rfl hn
  all_goals
   split at hn
   ·simp only [yot] at hn;exact bins _ hn.symm rfl
   ·cases hn
 case unOp op t x=>
  simp only [y8,yot] at hn;subst hn
  simp only [evOp] at he
  obtain ⟨r,hr,he⟩:=zo he
  simp only [yo2] at he
  obtain ⟨rfl,rfl⟩:=he
  obtain ⟨h1,h2⟩:=yf1 (P:=P) (w:=w) (hv x (by simp [Op.operands])) hr
  exact ⟨rfl,ji ⟨r,h1,.plain1 h2⟩⟩
 case convert s d x=>
  have hx:=hv x (by simp [Op.operands])
  simp only [y8] at hn
  cases hsu:P.underlying s with
  | none=>rw [hsu] at hn;cases hn
  | some ds=>
   cases hdu:P.underlying d with
   | none=>rw [hsu,hdu] at hn;cases ds <;> cases hn
   | some dd=>
    rw [hsu,hdu] at hn
    cases ds <;> cases dd <;> simp only [reduceCtorEq,yot] at hn
    ·subst hn
     simp only [evOp] at he
     split at he
     ·rename_i k n hxv
      simp only [yot,yo2] at he
      obtain ⟨rfl,rfl⟩:=he
      rw [hxv] at hx
      refine ⟨rfl,ji ⟨_,?_,.int _ _⟩⟩
      rw [hx.int_inv]
      simp [convert,xn hsu,xn hdu,Conv.intToInt]
     ·cases he
    ·subst hn
     simp only [evOp] at he
     split at he
     ·rename_i n hxv
      simp only [yot,yo2] at he
      obtain ⟨rfl,rfl⟩:=he
      rw [hxv] at hx
      refine ⟨rfl,ji ⟨_,?_,.string _⟩⟩
      rw [hx.string_inv]
      simp [convert,xn hsu,xn hdu]
     ·cases he
 case makeInterface t x=>
  have hx:=hv x (by simp [Op.operands])
  simp only [y8] at hn
  cases hu:P.underlying t with
  | none=>rw [hu] at hn;cases hn
  | some d=>
   rw [hu] at hn
   have fin:ao=.iface t x→(∀ms,d≠ .interface ms)→h'=h∧zmf P w σ g v (execOp ρc ⟨dst,.makeInterface t x,ty,pos,after,guard⟩):=by
    rintro rfl hni
    simp only [evOp,yot,yo2] at he
    obtain ⟨rfl,rfl⟩:=he
    refine ⟨rfl,ji ⟨.iface t (ρc x),?_,.iface _ _ _ hx⟩⟩
    simp only [Instr.makeInterface,Sem.run_bind,xn hu,Result.andThen_ok]
    cases d <;> first | rfl | exact absurd rfl (hni _)
   cases d <;> simp only [reduceCtorEq,yot] at hn <;> exact fin hn.symm (fun ms h=>by cases h)
 case makeFunc fn a b=>
  cases fn <;> simp only [y8,reduceCtorEq,yot] at hn
  subst hn
  simp only [evOp,yot,yo2] at he
  obtain ⟨rfl,rfl⟩:=he
  refine ⟨rfl,ji ⟨_,rfl,?_⟩⟩
  have h1:VRs σ g (a.toList.map ρ) (a.toList.map ρc):=zqs fun x hx=>hv x (by simp only [Op.operands,Array.mem_append];exact .inl (yqj.1 hx))
  have h2:VRs σ g (b.toList.map ρ) (b.toList.map ρc):=zqs fun x hx=>hv x (by simp only [Op.operands,Array.mem_append];exact .inr (yqj.1 hx))
  have e1:a.map ρc=⟨a.toList.map ρc⟩:=by apply Array.ext';simp
  have e2:b.map ρc=⟨b.toList.map ρc⟩:=by apply Array.ext';simp
  rw [e1,e2]
  exact .func _ _ _ _ _ h1 h2
 case slice t x lo hi mx=>
  cases mx with
  | some y=>simp [y8] at hn
  | none=>
   have hx:=hv x (by simp [Op.operands])
   have hlo:OptR σ g (lo.map ρ) (lo.map ρc):=zyh fun y hy=>hv y (by subst hy;simp [Op.operands])
   have hhi:OptR σ g (hi.map ρ) (hi.map ρc):=zyh fun y hy=>hv y (by subst hy;simp [Op.operands])
   simp only [y8] at hn
   cases hu:P.underlying t with
   | none=>rw [hu] at hn;cases hn
   | some d=>
    rw [hu] at hn
    cases d <;> simp only [reduceCtorEq] at hn
    case string=>
     simp only [yot] at hn;subst hn
     simp only [evOp] at he
     split at he
     ·rename_i s hxs
      split at he
      ·rename_i l k hl hk0
       split at he
       ·rename_i hlk
        simp only [yot,yo2] at he
        obtain ⟨rfl,rfl⟩:=he
        rw [hxs] at hx
        refine ⟨rfl,ji ⟨_,?_,.string _⟩⟩
        rw [hx.string_inv]
        exact zoy hu hlo hhi hl hk0 hlk.1 hlk.2
       ·cases he
      ·cases he
     ·cases he
    case slice e=>
     obtain ⟨m,hm',hn⟩:=yo6.1 hn
     split at hn
     ·simp only [yot] at hn;subst hn
      simp only [evOp] at he
      split at he
      ·rename_i p n c hxs
       split at he
       ·rename_i l k hl hk0
        split at he
        ·rename_i hlk
         obtain ⟨rfl,hlk,hkn⟩:=hlk
         simp only [yot,yo2] at he
         obtain ⟨rfl,rfl⟩:=he
         rw [hxs] at hx
         exact ⟨rfl,ji (zun hu hm' hx hlo hhi hl hk0 hlk hkn)⟩
        ·cases he
       ·cases he
      ·rename_i n c hxs
       split at he
       ·rename_i hl hk0
        simp only [yot,yo2] at he
        obtain ⟨rfl,rfl⟩:=he
        rw [hxs] at hx
        exact ⟨rfl,ji ⟨_,zo2 hu hm' hx hlo hhi hl hk0,.nilSlice⟩⟩
       ·cases he
      ·cases he
     ·cases hn
    case array n e=>
     obtain ⟨m,hm',hn⟩:=yo6.1 hn
     split at hn
     ·simp only [yot] at hn;subst hn
      simp only [evOp] at he
      split at he
      ·rename_i p hxs
       split at he
       ·rename_i l k hl hk0
        split at he
        ·rename_i vals ver ro hob
         split at he
         ·rename_i hlk
          obtain ⟨hsp,hroom,hlk,hkn⟩:=hlk
          simp only [yot,yo2] at he
          obtain ⟨rfl,rfl⟩:=he
          rw [hxs] at hx
          refine ⟨rfl,ji (zo5 hu hm' hx (fun vals' ver' ro' hg' hsp' hro'=> ?_) hlo hhi hl hk0 hlk hkn)⟩
          subst hro'
          have hob':=hs _ _ hg'
          rw [hob] at hob'
          simp only [yot,AObj.cells.injEq] at hob'
          obtain ⟨rfl,rfl,rfl⟩:=hob'
          have ho:=hm.obj _ _ hg'
          cases ho with
          | own _ cs _ el hb h0 hw hsz hvv hl2 h1=>omega
         ·cases he
        ·cases he
       ·cases he
      ·cases he
     ·cases hn
 case fieldAddr t x i=>
  have hx:=hv x (by simp [Op.operands])
  simp only [y8] at hn
  cases hu:P.underlying t with
  | none=>rw [hu] at hn;cases hn
  | some d=>
   rw [hu] at hn
   cases d <;> simp only [reduceCtorEq] at hn
   rename_i fs
   cases hf:fs[i]? with
   | none=>rw [hf] at hn;cases hn
   | some f=>
    rw [hf] at hn
    obtain ⟨n,hz,hn⟩:=yo6.1 hn
    split at hn
    ·rename_i hpos
     simp only [yot] at hn;subst hn
     simp only [evOp] at he
     split at he
     ·rename_i p hxs
      simp only [yot,yo2] at he
      obtain ⟨rfl,rfl⟩:=he
      rw [hxs] at hx
      exact ⟨rfl,ji (yb7 hu hf hz hpos hx)⟩
     ·cases he
    ·cases hn
 case field t x i=>
  have hx:=hv x (by simp [Op.operands])
  simp only [y8] at hn
  cases hu:P.underlying t with
  | none=>rw [hu] at hn;cases hn
  | some d=>
   rw [hu] at hn
   cases d <;> simp only [reduceCtorEq] at hn
   rename_i fs
   cases hf:fs[i]? with
   | none=>rw [hf] at hn;cases hn
   | some f=>
    rw [hf] at hn
    simp only at hn
    cases hag:aggT P f.type with
    | none=>rw [hag] at hn;cases hn
    | some b=>
     cases hz:ge P f.type with
     | none=>rw [hag,hz] at hn;cases b <;> cases hn
     | some n=>
      rw [hag,hz] at hn
      cases b <;> simp only [yot] at hn <;> subst hn <;> simp only [evOp] at he <;> split at he <;>(try cases he)
      ·rename_i cs hxs
       obtain ⟨u,hu',hr⟩:=zo he
       simp only [yo2] at hr
       obtain ⟨rfl,rfl⟩:=hr
       rw [hxs] at hx
       obtain ⟨ys,hys,hvs,h1⟩:=hx.agg_inv
       obtain ⟨cv,hrun,hvr⟩:=(zla (P:=P) (w:=w) hvs h1 (o:=f.offset)).2 u hag hu'
       refine ⟨rfl,ji ⟨cv,?_,hvr⟩⟩
       rw [hys]
       simp only [Instr.field,Sem.run_bind,xn hu,Result.andThen_ok,hf,asAgg,Sem.run_pure,hrun]
      ·rename_i cs hxs
       split at he
       ·simp only [yot,yo2] at he
        obtain ⟨rfl,rfl⟩:=he
        rw [hxs] at hx
        obtain ⟨ys,hys,hvs,h1⟩:=hx.agg_inv
        obtain ⟨cv,hrun,hvr⟩:=(zla (P:=P) (w:=w) hvs h1 (o:=f.offset)).1 n hag hz
        refine ⟨rfl,ji ⟨cv,?_,hvr⟩⟩
        rw [hys]
        simp only [Instr.field,Sem.run_bind,xn hu,Result.andThen_ok,hf,asAgg,Sem.run_pure,hrun]
       ·cases he
 case indexAddr t x i=>
  have hx:=hv x (by simp [Op.operands])
  have hi:=hv i (by simp [Op.operands])
  simp only [y8] at hn
  cases hu:P.underlying t with
  | none=>rw [hu] at hn;cases hn
  | some d=>
   rw [hu] at hn
   cases d <;> simp only [reduceCtorEq] at hn <;> obtain ⟨m,hz,hn⟩:=yo6.1 hn <;> split at hn <;>(try cases hn)<;> simp only [evOp] at he <;> split at he <;>(try cases he)
   ·rename_i p n c k j hxs his
    split at he
    ·rename_i hb
     obtain ⟨rfl,h0,h1⟩:=hb
     simp only [yot,yo2] at he
     obtain ⟨rfl,rfl⟩:=he
     rw [hxs] at hx;rw [his] at hi
     refine ⟨rfl,ji ?_⟩
     rw [hi.int_inv]
     exact zv5 hu hz hx h0 h1
    ·cases he
   ·rename_i p k j hxs his
    split at he
    ·rename_i hb
     simp only [yot,yo2] at he
     obtain ⟨rfl,rfl⟩:=he
     rw [hxs] at hx;rw [his] at hi
     refine ⟨rfl,ji ?_⟩
     rw [hi.int_inv]
     exact zuz hu hz hx hb.1 hb.2
    ·cases he
 case index t x i=>
  have hx:=hv x (by simp [Op.operands])
  have hi:=hv i (by simp [Op.operands])
  simp only [y8] at hn
  cases hu:P.underlying t with
  | none=>rw [hu] at hn;cases hn
  | some d=>
   rw [hu] at hn
   cases d <;> simp only [reduceCtorEq] at hn
   case string=>
    simp only [yot] at hn;subst hn
    simp only [evOp] at he
    split at he
    ·rename_i s k j hxs his
     split at he
     ·rename_i h0
      obtain ⟨b,hb,hr⟩:=zo he
      simp only [yo2] at hr
      obtain ⟨rfl,rfl⟩:=hr
      rw [hxs] at hx;rw [his] at hi
      refine ⟨rfl,ji ⟨_,?_,.int _ _⟩⟩
      rw [hi.int_inv,hx.string_inv]
      exact ztf hu h0 hb
     ·cases he
    ·cases he
   case array n e=>
    cases hag:aggT P e with
    | none=>rw [hag] at hn;cases hn
    | some b=>
     cases hz:ge P e with
     | none=>rw [hag,hz] at hn;cases b <;> cases hn
     | some m=>
      rw [hag,hz] at hn
      cases b <;>(try cases hn)
      by_cases hm1:m=1
      ·subst hm1
       simp only [yot] at hn;subst hn
       simp only [evOp] at he
       split at he
       ·rename_i cs k j hxs his
        split at he
        ·rename_i hb
         obtain ⟨u,hu',hr⟩:=zo he
         simp only [yo2] at hr
         obtain ⟨rfl,rfl⟩:=hr
         rw [hxs] at hx;rw [his] at hi
         obtain ⟨ys,hys,hvs,h1⟩:=hx.agg_inv
         obtain ⟨cv,hrun,hvr⟩:=(zla (P:=P) (w:=w) hvs h1 (o:=j.toNat*1)).2 u hag hu'
         refine ⟨rfl,ji ⟨cv,?_,hvr⟩⟩
         rw [hys,hi.int_inv]
         simp only [Instr.index,asIntOf,Sem.run_bind,Sem.run_pure,Result.andThen_ok,xn hu,if_pos hb,qj hz,hrun]
        ·cases he
       ·cases he
      ·exfalso
       revert hn
       split <;> simp_all
 case lookup t m k ok=>
  have hmv:=hv m (by simp [Op.operands])
  have hkv:=hv k (by simp [Op.operands])
  simp only [y8] at hn
  cases hu:P.underlying t with
  | none=>rw [hu] at hn;cases hn
  | some d=>
   rw [hu] at hn
   cases d <;> simp only [reduceCtorEq] at hn
   rename_i kt e
   cases hkk:(P.underlying kt).bind eqK with
   | none=>rw [hkk] at hn;cases hn
   | some kk=>
    cases hz:zhd P e with
    | none=>rw [hkk,hz] at hn;cases hn
    | some z=>
     rw [hkk,hz] at hn
     simp only [yot] at hn;subst hn
     obtain ⟨dk,hdk,hek⟩:=yo6.1 hkk
     simp only [evOp] at he
     by_cases hok:zfl kk (ρ k)=true
     ·rw [if_pos hok] at he
      have fin:∀r,zmj h kk (ρ k) (ρ m)=some r→v=zvo ok z r→h'=h→h'=h∧zmf P w σ g v (execOp ρc ⟨dst,.lookup t m k ok,ty,pos,after,guard⟩):=by
       rintro r hr rfl rfl
       exact ⟨rfl,ji (zsl hm hs hu hdk hek hz hmv hkv hok hr)⟩
      split at he
      ·rename_i v0 hr
       simp only [yot,yo2] at he
       exact fin _ hr he.1.symm he.2.symm
      ·rename_i hr
       simp only [yot,yo2] at he
       exact fin _ hr he.1.symm he.2.symm
      ·cases he
     ·rw [if_neg hok] at he
      cases he
 case extract x i=>
  have hx:=hv x (by simp [Op.operands])
  simp only [y8,yot] at hn;subst hn
  simp only [evOp] at he
  split at he
  ·rename_i vs hxs
   obtain ⟨u,hu',hr⟩:=zo he
   simp only [yo2] at hr
   obtain ⟨rfl,rfl⟩:=hr
   rw [hxs] at hx
   obtain ⟨ys,hys,hvs⟩:=hx.tuple_inv
   obtain ⟨c,hc,hvr⟩:=hvs.get hu'
   refine ⟨rfl,ji ⟨c,?_,hvr⟩⟩
   rw [hys]
   simp [Instr.extract,hc]
  ·cases he
 case call c=>exact zz1 call hm hs hn hk hv hc he
 case makeMap t r=>
  exfalso
  have hn:zbv (P.underlying t) r=some ao:=hn
  rw [zfg hn] at hk'
  simp [AOp.makes] at hk'
 all_goals
  exfalso
  simp only [y8,reduceCtorEq] at hn
  try (
   repeat' split at hn
   all_goals first
    | (cases hn;done)
    | (simp only [yot] at hn;subst hn;first | (simp [AOp.acts] at hk;done) | (simp [AOp.makes] at hk';done))
    | (obtain ⟨z,_,rfl⟩:=zo hn;first | (simp [AOp.acts] at hk;done) | (simp [AOp.makes] at hk';done)))
end Go.Proofs.YtljdbheclfaloaaGreatDoor.AM
namespace Go.Proofs.YtljdbheclfaloaaGreatDoor.AM
open Go.RowKit
set_option linter.unusedSimpArgs false
set_option linter.unusedVariables false
variable {P:Program} {G N:Nat} {σ:Emb} {g:Mem} {w:World} {h:Heap}
def grow (g:Mem) (h h':Heap):Mem:=fun i=>if i<h.length then (match g i with | none=>none | some _=>h'[i]?) else h'[i]?
def Holes (g:Mem) (h h':Heap):Prop:=h.length≤h'.length∧∀i,i<h.length→g i=none→h'[i]?=h[i]?
theorem zj9 (hs:Sub g h) {i:Nat} (hi:h.length≤i):g i=none:=by
 cases hg:g i with
 | none=>rfl
 | some o=>
  have:=hs i o hg
  rw [ypv hi] at this
  cases this
theorem zfe (hs:Sub g h):grow g h h=g:=by
 funext i
 unfold grow
 cases hg:g i with
 | none=>
  split
  ·rfl
  ·rename_i hi;exact ypv (by omega)
 | some o=>rw [hs i o hg];split <;> rfl
theorem zjv (g:Mem) (h h':Heap):Sub (grow g h h') h':=by
 intro i o hi
 unfold grow at hi
 split at hi
 ·split at hi
  ·cases hi
  ·exact hi
 ·exact hi
theorem Holes.refl (g:Mem) (h:Heap):Holes g h h:=⟨yoz _,fun _ _ _=>rfl⟩
theorem zzo {h₁ h₂ h₃:Heap} (h12:Holes g h₁ h₂) (he:∀i,i<h₁.length→g i≠none→h₂[i]?≠none):grow (grow g h₁ h₂) h₂ h₃=grow g h₁ h₃:=by
 funext i
 have hl:=h12.1
 unfold grow
 by_cases h1:i<h₁.length
 ·have h2:i<h₂.length:=by omega
  simp only [if_pos h1,if_pos h2]
  cases hg:g i with
  | none=>rfl
  | some o=>
   simp only
   have:=he i h1 (by rw [hg];simp)
   cases h3:h₂[i]? with
   | none=>exact absurd h3 this
   | some q=>rfl
 ·simp only [if_neg h1]
  by_cases h2:i<h₂.length
  ·rw [if_pos h2,yow h2]
  ·rw [if_neg h2]
theorem Holes.trans {h₁ h₂ h₃:Heap} (a:Holes g h₁ h₂) (b:Holes (grow g h₁ h₂) h₂ h₃):Holes g h₁ h₃:=by
 refine ⟨yqf a.1 b.1,fun i hi hg=> ?_⟩
 rw [b.2 i (Nat.lt_of_lt_of_le hi a.1) (by unfold grow;rw [if_pos hi,hg]),a.2 i hi hg]
theorem ObjR.step {σ':Emb} {g':Mem} {w':World} {s:Seat} {o:AObj} (he:Ext σ g σ' g') (hb:w'.heap[s.blk]?=w.heap[s.blk]?) (ho:ObjR N σ g w s o):ObjR N σ' g' w' s o:=by
 cases ho with
 | own vals cs ver el hb' h0 hw hs hv hl h1=>exact .own vals cs ver el hb' h0 (by rw [hb];exact hw) hs (hv.ext he) hl h1
 | ro vals hb' hv h1=>
  refine .ro vals hb' (fun i u hu=> ?_) h1
  obtain ⟨c,hc,hvr⟩:=hv i u hu
  exact ⟨c,by rw [World.cell?_of_block (w:=w) hb];exact hc,hvr.ext he⟩
 | map es ms clock hb' hw he'=>exact .map es ms clock hb' (by rw [hb];exact hw) (he'.ext he)
theorem ObjR.lt {s:Seat} {o:AObj} (hm:N≤w.heap.size) (ho:ObjR N σ g w s o):s.blk<w.heap.size:=by
 cases ho with
 | own vals cs ver el hb' h0 hw hs hv hl h1=>exact (ypp.1 hw).1
 | ro vals hb' hv h1=>omega
 | map es ms clock hb' hw he'=>exact (ypp.1 hw).1
theorem ObjR.owned {s:Seat} {o:AObj} (ho:ObjR N σ g w s o):owns o=true↔N≤s.blk:=by
 cases ho with
 | own vals cs ver el hb' h0 hw hs hv hl h1=>exact ⟨fun _=>hb',fun _=>rfl⟩
 | ro vals hb' hv h1=>exact ⟨fun h=>by simp [owns] at h,fun h=>by omega⟩
 | map es ms clock hb' hw he'=>exact ⟨fun _=>hb',fun _=>rfl⟩
def upd (g:Mem) (id:Nat) (o:AObj):Mem:=fun i=>if i=id then some o else g i
theorem zom (hm:MR G N σ g w) {id:Nat} (hid:g id=none) {obj:AObj} {blk:Obj} {sz:Nat} (hobj:∀σ' g' (w':World),Ext σ g σ' g'→w'.heap[w.heap.size]?=some blk→ObjR N σ' g' w' ⟨w.heap.size,0,sz⟩ obj) (hown:owns obj=true):
  let σ':Emb:=fun i=>if i=id then ⟨w.heap.size,0,sz⟩ else σ i
  let w':World:={ w with heap:=w.heap.push blk}
  Go N σ g w σ' (upd g id obj) w'∧MR G N σ' (upd g id obj) w'∧upd g id obj id=some obj∧σ' id=⟨w.heap.size,0,sz⟩:=by
 intro σ' w'
 have hg':∀i,upd g id obj i=if i=id then some obj else g i:=fun i=>rfl
 have hold:∀i o,g i=some o→i≠id:=fun i o hi e=>by subst e;rw [hid] at hi;cases hi
 have hext:Ext σ g σ' (upd g id obj):=by
  constructor
  ·intro i vals ver ro hi
   exact ⟨vals,ver,by rw [hg',if_neg (hold i _ hi)];exact hi,yoz _,fun _=>if_neg (hold i _ hi)⟩
  ·intro i es hi
   exact ⟨es,by rw [hg',if_neg (hold i _ hi)];exact hi,if_neg (hold i _ hi)⟩
 have hblk:∀b,b<w.heap.size→w'.heap[b]?=w.heap[b]?:=by
  intro b hb
  show (w.heap.push blk)[b]?=_
  rw [Array.getElem?_push,if_neg (by omega)]
 have hnew:w'.heap[w.heap.size]?=some blk:=by show (w.heap.push blk)[w.heap.size]?=_;simp
 have hsize:w'.heap.size=w.heap.size+1:=by show (w.heap.push blk).size=_;simp
 have hself:σ' id=⟨w.heap.size,0,sz⟩:=if_pos rfl
 refine ⟨⟨hext,by omega,rfl,rfl,rfl,fun b hb _=>hblk b hb,?_⟩,⟨?_,?_,?_,?_⟩,by rw [hg',if_pos rfl],hself⟩
 ·rintro b ⟨i,o,hi,ho,hb⟩
  rw [hg'] at hi
  by_cases h1:i=id
  ·subst h1;rw [hself] at hb;exact .inr (by rw [←hb];exact yoz _)
  ·rw [if_neg h1] at hi
   exact .inl ⟨i,o,hi,ho,by rw [←hb];show (σ i).blk=(if i=id then _ else σ i:Seat).blk;rw [if_neg h1]⟩
 ·intro i o hi
  rw [hg'] at hi
  by_cases h1:i=id
  ·subst h1
   rw [if_pos rfl] at hi;cases hi
   rw [hself]
   exact hobj σ' _ w' hext hnew
  ·rw [if_neg h1] at hi
   have:=hm.obj i o hi
   rw [show σ' i=σ i from if_neg h1]
   exact this.step hext (hblk _ (this.lt hm.size))
 ·intro i j o p hi hj ho hp he
  rw [hg'] at hi hj
  by_cases h1:i=id
  ·by_cases h2:j=id
   ·rw [h1,h2]
   ·rw [if_neg h2] at hj
    rw [h1,hself,show σ' j=σ j from if_neg h2] at he
    have:=(hm.obj j p hj).lt hm.size
    simp only at he
    omega
  ·rw [if_neg h1] at hi
   by_cases h2:j=id
   ·rw [h2,hself,show σ' i=σ i from if_neg h1] at he
    have:=(hm.obj i o hi).lt hm.size
    simp only at he
    omega
   ·rw [if_neg h2] at hj
    rw [show σ' i=σ i from if_neg h1,show σ' j=σ j from if_neg h2] at he
    exact hm.inj i j o p hi hj ho hp he
 ·intro i hi
  obtain ⟨vals,h1,h2,h3⟩:=hm.glob i hi
  have hne:=hold i _ h1
  exact ⟨vals,by rw [hg',if_neg hne];exact h1,by rw [show σ' i=σ i from if_neg hne];exact h2,by rw [show σ' i=σ i from if_neg hne];exact h3⟩
 ·have:=hm.size;omega
theorem znd (hs:Sub g h) (obj:AObj):grow g h (h++[obj])=upd g h.length obj:=by
 funext i
 unfold grow upd
 by_cases h1:i<h.length
 ·rw [if_pos h1,if_neg (by omega)]
  cases hg:g i with
  | none=>rfl
  | some o=>simp only;rw [yo9 h1];exact hs i o hg
 ·rw [if_neg h1]
  by_cases h2:i=h.length
  ·subst h2;simp
  ·rw [if_neg h2,zj9 hs (by omega)]
   exact ypv (by simp;omega)
theorem yej (hm:MR G N σ g w) (hs:Sub g h) {obj:AObj} {blk:Obj} {sz:Nat} (hobj:∀σ' g' (w':World),Ext σ g σ' g'→w'.heap[w.heap.size]?=some blk→ObjR N σ' g' w' ⟨w.heap.size,0,sz⟩ obj) (hown:owns obj=true):
  let σ':Emb:=fun i=>if i=h.length then ⟨w.heap.size,0,sz⟩ else σ i
  let w':World:={ w with heap:=w.heap.push blk}
  let g':=grow g h (h++[obj])
  Go N σ g w σ' g' w'∧MR G N σ' g' w'∧Holes g h (h++[obj])∧g' h.length=some obj∧σ' h.length=⟨w.heap.size,0,sz⟩:=by
 intro σ' w' g'
 obtain ⟨h1,h2,h3,h4⟩:=zom hm (zj9 hs (yoz h.length)) hobj hown
 have e:g'=upd g h.length obj:=znd hs obj
 refine ⟨?_,?_,⟨by simp,fun i hi _=>yo9 hi⟩,?_,h4⟩
 ·rw [e];exact h1
 ·rw [e];exact h2
 ·rw [e];exact h3
def Done (G N:Nat) (σ:Emb) (g:Mem) (w:World) (h:Heap) (v:Value) (h':Heap) (cv:Value) (w':World):Prop:=∃σ',Go N σ g w σ' (grow g h h') w'∧MR G N σ' (grow g h h') w'∧VR σ' (grow g h h') v cv∧Holes g h h'
theorem Done.same (hm:MR G N σ g w) (hs:Sub g h) {v cv:Value} (hv:VR σ g v cv):Done G N σ g w h v h cv w:=by
 refine ⟨σ,?_,?_,?_,.refl _ _⟩<;> rw [zfe hs]
 ·exact .refl _ _ _ _
 ·exact hm
 ·exact hv
def ye4 (G N:Nat) (σ:Emb) (g:Mem) (w:World) (id:Nat) (obj:AObj) (v cv:Value) (w':World):Prop:=∃σ',Go N σ g w σ' (upd g id obj) w'∧MR G N σ' (upd g id obj) w'∧VR σ' (upd g id obj) v cv
theorem zmv (hm:MR G N σ g w) {id:Nat} (hid:g id=none) {l cs:List Value} {el:TypeId} (hv:VRs σ g l cs) (h1:∀x∈l,single x=true):
  let w':World:={ w with heap:=w.heap.push (.cells ⟨cs⟩ el)}
  ye4 G N σ g w id (.cells l 0 false) (ptr id 0 0) (.pointer (some ⟨w.heap.size,0,none⟩)) w'∧
  ∀n c,n*c≤cs.length→ye4 G N σ g w id (.cells l 0 false) (slc id 0 0 n c) (.slice (some ⟨w.heap.size,0,none⟩) n n) w':=by
 intro w'
 have hl:=hv.length
 obtain ⟨h2,h3,h5,h6⟩:=zom hm hid (obj:=.cells l 0 false) (blk:=.cells ⟨cs⟩ el) (sz:=cs.length)
  (fun σ' g' w' he hw=>.own l cs 0 el (hm.size) rfl hw rfl (by rw [ypy (by omega)];exact hv.ext he) (by omega) h1) rfl
 refine ⟨⟨_,h2,h3,.ptr _ _ 0 l 0 false rfl h5 (yoz _) (fun _=> ?_)⟩,fun n c hn=>⟨_,h2,h3,.slice _ _ _ _ _ 0 l 0 false rfl h5 (yoz _) (yoz _) (fun _=>.inl ⟨?_,fun _=> ?_⟩)⟩⟩
 ·simp only [if_pos]
 ·simp only [if_pos]
 ·simp only [if_pos];omega
theorem zbk {z:List Value}:∀n,(p7 z n).length=n*z.length
 | 0=>by simp [p7]
 | n+1=>by simp [p7,zbk n,Nat.add_mul];omega
theorem ztc {z:List Value}:∀(n i:Nat),i<n*z.length→(p7 z n)[i]?=z[i % z.length]?
 | 0,i,h=>by simp at h
 | n+1,i,h=>by
  simp only [p7]
  by_cases h1:i<z.length
  ·rw [yo9 h1,Nat.mod_eq_of_lt h1]
  ·rw [ypn (by omega),ztc n (i - z.length) (by rw [Nat.add_mul] at h;omega),←Nat.mod_eq_sub_mod (by omega)]
theorem zoh {z:List Value} (hz:0<z.length) (n m:Nat) (hm:m=n*z.length):(Array.range m).map (fun i=>(⟨z⟩:Array Value)[i %(⟨z⟩:Array Value).size]!)=⟨p7 z n⟩:=by
 subst hm
 apply Array.ext'
 apply List.ext_getElem?
 intro i
 by_cases h:i<n*z.length
 ·have hlt:i % z.length<z.length:=Nat.mod_lt _ hz
  rw [show (⟨p7 z n⟩:Array Value).toList=p7 z n from rfl,ztc n i h]
  simp [h,hlt]
 ·rw [ypv (by simp;omega),ypv (by rw [show (⟨p7 z n⟩:Array Value).toList=p7 z n from rfl,zbk];omega)]
theorem zjh {z:List Value} (h:z.all plain1=true):∀n,(p7 z n).all plain1=true
 | 0=>rfl
 | n+1=>by simp only [p7,List.all_append,h,zjh h n,Bool.and_true]
end Go.Proofs.YtljdbheclfaloaaGreatDoor.AM
namespace Go.Proofs.YtljdbheclfaloaaGreatDoor.AM
open Go.RowKit
set_option linter.unusedSimpArgs false
variable {P:Program} {G N:Nat} {σ:Emb} {g:Mem} {w:World} {h:Heap}
def ymn (P:Program) (G N:Nat) (σ:Emb) (g:Mem) (w:World) (h:Heap) (v:Value) (h':Heap) (s:Sem Next):Prop:=∃obj,h'=h++[obj]∧∃cv w',s.run P w=.ok (.value cv) w'∧ye4 G N σ g w h.length obj v cv w'
theorem ycl {t:TypeId} {b:Nat} (h:zl8 P t=some b) (w:World):∃i,(typeInfo t).run P w=.ok i w∧i.bytes=b:=by
 unfold zl8 at h
 obtain ⟨i,hi,rfl⟩:=zo h
 exact ⟨i,by simp [typeInfo,hi],rfl⟩
set_option maxHeartbeats 1000000 in
theorem zs2 (call : vf) (hm : MR G N σ g w) (hid : g h.length = none) {ρ ρc : Operand → Value} {o : Oper} {ao : AOp} (hn : y8 P o.type o.op = some ao) (hk : ao.makes = true)
    (hv : ∀ x ∈ o.op.operands, VR σ g (ρ x) (ρc x)) (hc : ∀ v, ρ (.const v) = v ∧ ρc (.const v) = v) {v : Value} {h' : Heap} (he : evOp call ρ h ao = some (v, h')) : ymn P G N σ g w h v h' (execOp ρc o) := by
  obtain ⟨dst, op, ty, pos, after, guard⟩ := o
  simp only at hn hv
  cases op
  case alloc t =>
    simp only [y8] at hn
    obtain ⟨z, hz, rfl⟩ := zo hn
    obtain ⟨zv, hzv, hzl⟩ := zf0 hz
    have hzp := zh9 hzl (zdd hzv)
    simp only [evOp, yot, yo2] at he
    obtain ⟨rfl, rfl⟩ := he
    obtain ⟨hd, _⟩ := zmv (el := t) hm hid (VRs.plain1 hzp : VRs σ g z z) fun x hx => j7 (yp9.1 hzp x hx)
    refine ⟨_, rfl, _, _, ?_, hd⟩
    simp only [execOp, Instr.alloc, Sem.run_bind, (zdh hzv w).1, Result.andThen_ok, newVar, newRow, zft hzl, run_newObj, Sem.run_pure]
  case box t x =>
    have hx := hv x (by simp [Op.operands])
    simp only [y8] at hn
    obtain ⟨n, hn', rfl⟩ := zo hn
    simp only [evOp] at he
    split at he
    · rename_i l hl
      split at he
      · simp only [yot, yo2] at he
        obtain ⟨rfl, rfl⟩ := he
        obtain ⟨cs, hcs, hvs, h1⟩ := zpc hx hl
        obtain ⟨hd, _⟩ := zmv (el := t) hm hid hvs h1
        refine ⟨_, rfl, _, _, ?_, hd⟩
        simp only [execOp, Instr.box, newVar, newRow, hcs, Sem.run_bind, run_newObj, Result.andThen_ok, Sem.run_pure]
      · cases he
    · cases he
  case buildSlice t n ps =>
    simp only [y8] at hn
    cases hu : P.underlying t with
    | none => rw [hu] at hn; cases hn
    | some d =>
      rw [hu] at hn
      cases d <;> simp only [reduceCtorEq] at hn
      rename_i e
      cases hz : zg1 P e with
      | none => rw [hz] at hn; cases hn
      | some z =>
        cases hsz : ge P e with
        | none => rw [hz, hsz] at hn; cases hn
        | some m =>
          cases hps : zg9 P e ps with
          | none => rw [hz, hsz, hps] at hn; cases hn
          | some qs =>
            rw [hz, hsz, hps] at hn
            simp only at hn
            split at hn
            · rename_i hcond
              obtain ⟨hbig, hzl', hpos⟩ := hcond
              simp only [yot] at hn; subst hn
              obtain ⟨zv, hzv, hzl⟩ := zf0 hz
              have hzp := zh9 hzl (zdd hzv)
              have hzc := zft hzl
              unfold zg9 at hps
              obtain ⟨m', hm', rfl⟩ := zo hps
              rw [hsz] at hm'; cases hm'
              simp only [evOp] at he
              obtain ⟨l, hl, hr⟩ := zo he
              simp only [yo2] at hr
              obtain ⟨rfl, rfl⟩ := hr
              have hz0 := zjh hzp n
              obtain ⟨ds, h1, h2, h3, h4⟩ := zia (σ := σ) (g := g) (place := fun i => some (i * m, m)) ((ps.toList.map fun p => (p.1 * m, m, p.2)).map fun p => (p.1, p.2.1, ρ p.2.2)) (ps.map fun (i, x) => (i, ρc x)).toList
                (p7 z n) (p7 z n) l (.plain1 hz0) (fun x hx => j7 (yp9.1 hz0 x hx))
                (by simp) (fun i p q hp hq' => by
                  simp only [yp1, Option.map_map, ypm] at hp
                  obtain ⟨p0, hp0, rfl⟩ := hp
                  simp only [Array.toList_map, yp1, ypm] at hq'
                  obtain ⟨q0, hq0, rfl⟩ := hq'
                  rw [hp0] at hq0; cases hq0
                  refine ⟨rfl, ?_⟩
                  refine hv _ ?_
                  have hmem : p0 ∈ ps.toList := yp3 hp0
                  simp only [Op.operands, List.mem_toArray, List.mem_map]
                  exact ⟨p0, hmem, rfl⟩) hl
              obtain ⟨_, hd⟩ := zmv (el := e) hm hid h2 h3
              have hlen : n * z.length ≤ ds.length := by rw [← h2.length, h4, zbk]; exact yoz _
              refine ⟨_, rfl, _, _, ?_, hd n z.length hlen⟩
              have hzm := zoh (z := z) (by omega) n (n * m) (by rw [hzl'])
              have hno : ¬ n * m > 2 ^ 24 := by omega
              simp only [execOp, Instr.buildSlice, Sem.run_bind, xn hu, Result.andThen_ok, qj hsz, if_neg hno, Sem.run_pure]
              by_cases h0 : n * m = 0
              · have hz' : p7 z n = [] := by
                  apply yqh.1; rw [zbk, hzl', h0]
                rw [hz'] at h1
                simp only [if_pos h0, Sem.run_bind, Sem.run_pure, Result.andThen_ok]
                rw [h0, show (Array.map (fun x => (#[] : Array Value)[x % (#[] : Array Value).size]!) (Array.range 0)) = ⟨[]⟩ from by simp, h1]
                simp only [newRow, Sem.run_bind, run_newObj, Result.andThen_ok, Sem.run_pure]
              · simp only [if_neg h0, Sem.run_bind, (zdh hzv w).1, Result.andThen_ok, hzc, Sem.run_pure]
                rw [hzm, h1]
                simp only [newRow, Sem.run_bind, run_newObj, Result.andThen_ok, Sem.run_pure]
            · cases hn
  case makeMap t r =>
    have hn : zbv (P.underlying t) r = some ao := hn
    cases hu : P.underlying t with
    | none => rw [hu] at hn; cases hn
    | some d =>
      rw [hu] at hn
      cases d <;> (try (simp [zbv] at hn; done))
      rename_i kt e
      have fin : ao = .mkMap → (∀ x, r = some x → ∃ k n, x = .const (.int k n)) → ymn P G N σ g w h v h' (execOp ρc ⟨dst, .makeMap t r, ty, pos, after, guard⟩) := by
        rintro rfl hr
        simp only [evOp, yot, yo2] at he
        obtain ⟨rfl, rfl⟩ := he
        obtain ⟨h2, h3, h5, h6⟩ := zom hm hid (obj := .map []) (blk := .map #[] 0) (sz := 0) (fun σ' g' w' he hw => .map [] [] 0 hm.size hw .nil) rfl
        refine ⟨_, rfl, .map (some w.heap.size), _, ?_, _, h2, h3, .map _ _ [] h5 (by simp only [if_pos])⟩
        cases r with
        | none => rfl
        | some x =>
          obtain ⟨k, n, rfl⟩ := hr x rfl
          simp only [execOp, Instr.makeMap, yp6, (hc _).2, Sem.run_bind, xn hu, Result.andThen_ok, asInt, asIntOf, Sem.run_pure, run_newObj]
      cases r with
      | none => simp only [zbv, yot] at hn; exact fin hn.symm (fun x hx => by cases hx)
      | some x =>
        cases x with
        | const c =>
          cases c <;> (try (simp [zbv] at hn; done))
          simp only [zbv, yot] at hn
          exact fin hn.symm (fun x hx => by cases hx; exact ⟨_, _, rfl⟩)
        | _ => simp [zbv] at hn
  case makeSlice t l c =>
    have hl := hv l (by simp [Op.operands])
    have hcv := hv c (by simp [Op.operands])
    simp only [y8] at hn
    cases hu : P.underlying t with
    | none => rw [hu] at hn; cases hn
    | some d =>
      rw [hu] at hn
      cases d <;> simp only [reduceCtorEq] at hn
      rename_i e
      cases hz : zg1 P e with
      | none => rw [hz] at hn; cases hn
      | some z =>
        cases hsz : ge P e with
        | none => rw [hz, hsz] at hn; cases hn
        | some m =>
          cases hb : zl8 P e with
          | none => rw [hz, hsz, hb] at hn; cases hn
          | some b =>
            rw [hz, hsz, hb] at hn
            simp only at hn
            split at hn
            · rename_i hcond
              obtain ⟨hsame, hzl', hpos, hbpos⟩ := hcond
              simp only [yot] at hn; subst hn
              obtain ⟨zv, hzv, hzl⟩ := zf0 hz
              have hzp := zh9 hzl (zdd hzv)
              have hzc := zft hzl
              simp only [evOp] at he
              split at he
              · rename_i k n hlv
                split at he
                · rename_i hroom
                  obtain ⟨h0, hle⟩ := hroom
                  simp only [yot, yo2] at he
                  obtain ⟨rfl, rfl⟩ := he
                  have hrl : ρc l = .int k n := by rw [hlv] at hl; exact hl.int_inv
                  have hrc : ∃ k', ρc c = .int k' n := by
                    cases l <;> cases c <;> simp only [zn7, yoy, beq_iff_eq] at hsame
                    · subst hsame; exact ⟨k, hrl⟩
                    · rename_i u u'
                      cases u <;> cases u' <;> simp only [yoy, beq_iff_eq] at hsame
                      subst hsame
                      rw [(hc _).1] at hlv
                      cases hlv
                      exact ⟨_, (hc _).2⟩
                  obtain ⟨k', hrc⟩ := hrc
                  have hn64 : n ≤ 140737488355328 := by
                    have : n * 1 ≤ n * b := Int.mul_le_mul_of_nonneg_left (by omega) h0
                    unfold wy at hle; omega
                  have hwr : IntKind.i64.wrap n = n := by rw [IntKind.wrap_i64]; omega
                  have hz0 := zjh hzp n.toNat
                  obtain ⟨_, hd⟩ := zmv (el := e) hm hid (.plain1 hz0 : VRs σ g (p7 z n.toNat) (p7 z n.toNat)) fun x hx => j7 (yp9.1 hz0 x hx)
                  have hlen : n.toNat * m ≤ (p7 z n.toNat).length := by rw [zbk, hzl']; exact yoz _
                  refine ⟨_, rfl, _, _, ?_, hd n.toNat m hlen⟩
                  obtain ⟨i, hi, hib⟩ := ycl hb w
                  have hlarge : (decide (n < 0) || decide ((b : Int) * n > 2 ^ 48)) = false := by
                    have : (b : Int) * n = n * b := Int.mul_comm _ _
                    unfold wy at hle
                    simp only [ypu, decide_eq_false_iff_not]
                    constructor <;> omega
                  have hzm := zoh (z := z) (by omega) n.toNat (n.toNat * m) (by rw [hzl'])
                  simp only [execOp, Instr.makeSlice, Sem.run_bind, xn hu, Result.andThen_ok, hrl, hrc, asInt, asIntOf, Sem.run_pure, hi, hwr, hib, hlarge, ypz]
                  rw [if_neg (by simp only [yqa, decide_eq_true_eq]; omega)]
                  simp only [Sem.run_bind, run_askRoom, Result.andThen_ok, qj hsz]
                  by_cases h0 : n.toNat * m = 0
                  · have hz' : p7 z n.toNat = [] := by
                      apply yqh.1; rw [zbk, hzl', h0]
                    rw [hz']
                    simp only [if_pos h0, Sem.run_bind, Sem.run_pure, Result.andThen_ok]
                    rw [h0, show (Array.map (fun x => (#[] : Array Value)[x % (#[] : Array Value).size]!) (Array.range 0)) = ⟨[]⟩ from by simp]
                    simp only [newRow, Sem.run_bind, run_newObj, Result.andThen_ok, Sem.run_pure]
                  · simp only [if_neg h0, Sem.run_bind, (zdh hzv w).1, Result.andThen_ok, hzc, Sem.run_pure]
                    rw [hzm]
                    simp only [newRow, Sem.run_bind, run_newObj, Result.andThen_ok, Sem.run_pure]
                · cases he
              · cases he
            · cases hn
  case binOp op t x y yt =>
    exfalso
    have eqs : ∀ neg, zek P neg t x y = some ao → False := by
      intro neg hne
      unfold zek at hne
      repeat' split at hne
      all_goals first
        | (cases hne; done)
        | (simp only [yot] at hne; subst hne; simp [AOp.makes] at hk; done)
        | (obtain ⟨z, _, rfl⟩ := zo hne; simp [AOp.makes] at hk; done)
    simp only [y8] at hn
    cases op <;> simp only at hn
    case eql => exact eqs false hn
    case neq => exact eqs true hn
    all_goals
      split at hn
      · simp only [yot] at hn; subst hn; simp [AOp.makes] at hk
      · cases hn
  case call c =>
    exfalso
    simp only [y8, zem] at hn
    repeat' split at hn
    all_goals first
      | (cases hn; done)
      | (simp only [yot] at hn; subst hn; simp [AOp.makes] at hk; done)
  case makeFunc fn a b =>
    exfalso
    cases fn <;> simp only [y8, reduceCtorEq, yot] at hn
    subst hn; simp [AOp.makes] at hk
  case slice t x lo hi mx =>
    exfalso
    cases mx with
    | some y => simp [y8] at hn
    | none =>
      simp only [y8] at hn
      repeat' split at hn
      all_goals first
        | (cases hn; done)
        | (simp only [yot] at hn; subst hn; simp [AOp.makes] at hk; done)
        | (obtain ⟨z, _, hn⟩ := yo6.1 hn
           split at hn <;> first | (cases hn; done) | (simp only [yot] at hn; subst hn; simp [AOp.makes] at hk; done))
  all_goals
    exfalso
    simp only [y8, reduceCtorEq] at hn
    try (
      repeat' split at hn
      all_goals first
        | (cases hn; done)
        | (simp only [yot] at hn; subst hn; simp [AOp.makes] at hk; done)
        | (obtain ⟨z, _, rfl⟩ := zo hn; simp [AOp.makes] at hk; done)
        | (obtain ⟨z, _, hn⟩ := yo6.1 hn
           split at hn <;> first | (cases hn; done) | (simp only [yot] at hn; subst hn; simp [AOp.makes] at hk; done)))
theorem yln (call:vf) (hm:MR G N σ g w) (hs:Sub g h) {ρ ρc:Operand→Value} {o:Oper} {ao:AOp} (hn:y8 P o.type o.op=some ao) (hk:ao.makes=true)
  (hv:∀x∈o.op.operands,VR σ g (ρ x) (ρc x)) (hc:∀v,ρ (.const v)=v∧ρc (.const v)=v) {v:Value} {h':Heap} (he:evOp call ρ h ao=some (v,h')):
  ∃cv w',(execOp ρc o).run P w=.ok (.value cv) w'∧Done G N σ g w h v h' cv w':=by
 obtain ⟨obj,rfl,cv,w',hrun,σ',h1,h2,h3⟩:=zs2 call hm (zj9 hs (yoz h.length)) hn hk hv hc he
 refine ⟨cv,w',hrun,σ',?_,?_,?_,⟨by simp,fun i hi _=>yo9 hi⟩⟩<;> rw [znd hs]
 ·exact h1
 ·exact h2
 ·exact h3
theorem zpp {call:vf} {ρ:Operand→Value} {ao:AOp} (hk:ao.makes=true) {h h₁:Heap} {v:Value} {h':Heap} (he:evOp call ρ h ao=some (v,h')):
  ∃obj,h'=h++[obj]∧(h₁.length=h.length→evOp call ρ h₁ ao=some (v,h₁++[obj])):=by
 cases ao <;> simp only [AOp.makes,yoy] at hk
 case alloc z=>
  simp only [evOp,yot,yo2] at he
  obtain ⟨rfl,rfl⟩:=he
  exact ⟨_,rfl,fun e=>by simp [evOp,e]⟩
 case box n x=>
  simp only [evOp] at he
  split at he
  ·rename_i l hl
   split at he
   ·rename_i hn
    simp only [yot,yo2] at he
    obtain ⟨rfl,rfl⟩:=he
    exact ⟨_,rfl,fun e=>by simp [evOp,hl,hn,e]⟩
   ·cases he
  ·cases he
 case mkRow z n ps=>
  simp only [evOp] at he
  obtain ⟨l,hl,hr⟩:=zo he
  simp only [yo2] at hr
  obtain ⟨rfl,rfl⟩:=hr
  exact ⟨_,rfl,fun e=>by simp [evOp,hl,e]⟩
 case mkSlice m b z l=>
  simp only [evOp] at he
  split at he
  ·rename_i k n hl
   split at he
   ·rename_i hn
    simp only [yot,yo2] at he
    obtain ⟨rfl,rfl⟩:=he
    exact ⟨_,rfl,fun e=>by simp only [evOp,hl];rw [if_pos hn,e]⟩
   ·cases he
  ·cases he
 case mkMap=>
  simp only [evOp,yot,yo2] at he
  obtain ⟨rfl,rfl⟩:=he
  exact ⟨_,rfl,fun e=>by simp [evOp,e]⟩
end Go.Proofs.YtljdbheclfaloaaGreatDoor.AM
namespace Go.Proofs.YtljdbheclfaloaaGreatDoor.AM
open Go.RowKit
set_option linter.unusedSimpArgs false
set_option linter.unusedVariables false
variable {P:Program} {G N:Nat} {σ:Emb} {g:Mem} {w:World} {h:Heap}
theorem zj1 (hm:MR G N σ g w) (hs:Sub g h) {id:Nat} {old new:AObj} (hg:g id=some old) (hown:owns old=true) (hown':owns new=true) (s':Seat) (w':World)
  (hcells:∀vals ver ro,old=.cells vals ver ro→∃vals' ver',new=.cells vals' ver' ro∧ver≤ver'∧(ver=ver'→s'=σ id))
  (hmap:∀es,old=.map es→∃es',new=.map es'∧s'=σ id)
  (hnew:∀σ' g',Ext σ g σ' g'→ObjR N σ' g' w' s' new)
  (hblocks:∀b,b<w.heap.size→b≠(σ id).blk→w'.heap[b]?=w.heap[b]?) (hblk:s'.blk=(σ id).blk∨w.heap.size≤s'.blk)
  (hsize:w.heap.size≤w'.heap.size) (hos:w'.os=w.os) (htape:w'.tape=w.tape) (hout:w'.output=w.output):
  let σ':Emb:=fun i=>if i=id then s' else σ i
  let g':=grow g h (h.set id new)
  Go N σ g w σ' g' w'∧MR G N σ' g' w'∧Holes g h (h.set id new)∧g' id=some new:=by
 intro σ' g'
 have hlt:id<h.length:=(yoq.1 (hs _ _ hg)).1
 have hg':∀i,g' i=if i=id then some new else g i:=by
  intro i
  show grow g h (h.set id new) i=_
  unfold grow
  by_cases h1:i=id
  ·subst h1
   rw [if_pos rfl,if_pos hlt,hg]
   simp [hlt]
  ·rw [if_neg h1]
   have hset:(h.set id new)[i]?=h[i]?:=you (fun e=>h1 e.symm)
   by_cases h2:i<h.length
   ·rw [if_pos h2]
    cases hgi:g i with
    | none=>rfl
    | some o=>simp only;rw [hset];exact hs i o hgi
   ·rw [if_neg h2,hset,zj9 hs (by omega)]
    exact ypv (by omega)
 have hself:σ' id=s':=if_pos rfl
 have hother:∀i,i≠id→σ' i=σ i:=fun i hi=>if_neg hi
 have hext:Ext σ g σ' g':=by
  constructor
  ·intro i vals ver ro hi
   rw [hg']
   by_cases h1:i=id
   ·subst h1
    rw [hg] at hi;cases hi
    obtain ⟨vals',ver',rfl,hle,he⟩:=hcells _ _ _ rfl
    exact ⟨vals',ver',if_pos rfl,hle,fun e=>by rw [hself];exact he e⟩
   ·exact ⟨vals,ver,by rw [if_neg h1];exact hi,yoz _,fun _=>hother i h1⟩
  ·intro i es hi
   rw [hg']
   by_cases h1:i=id
   ·subst h1
    rw [hg] at hi;cases hi
    obtain ⟨es',rfl,he⟩:=hmap _ rfl
    exact ⟨es',if_pos rfl,by rw [hself];exact he⟩
   ·exact ⟨es,by rw [if_neg h1];exact hi,hother i h1⟩
 have hN:=(hm.obj _ _ hg).owned.1 hown
 have hne:∀i o,i≠id→g i=some o→(σ i).blk≠(σ id).blk:=by
  intro i o h1 hi e
  have ho:=hm.obj i o hi
  have:owns o=true:=ho.owned.2 (by rw [e];exact hN)
  exact h1 (hm.inj i id o old hi hg this hown e)
 refine ⟨⟨hext,hsize,hos,htape,hout,fun b hb hno=>hblocks b hb fun e=>hno ⟨id,old,hg,hown,e.symm⟩,?_⟩,⟨?_,?_,?_,yqf hm.size hsize⟩,⟨by simp,fun i hi hgi=> ?_⟩,by rw [hg',if_pos rfl]⟩
 ·rintro b ⟨i,o,hi,ho,hb⟩
  rw [hg'] at hi
  by_cases h1:i=id
  ·subst h1
   rw [hself] at hb
   rcases hblk with e | e
   ·exact .inl ⟨i,old,hg,hown,by rw [←hb,e]⟩
   ·exact .inr (by rw [←hb];exact e)
  ·rw [if_neg h1] at hi
   exact .inl ⟨i,o,hi,ho,by rw [←hb,hother i h1]⟩
 ·intro i o hi
  rw [hg'] at hi
  by_cases h1:i=id
  ·subst h1
   rw [if_pos rfl] at hi;cases hi
   rw [hself]
   exact hnew σ' g' hext
  ·rw [if_neg h1] at hi
   have:=hm.obj i o hi
   rw [hother i h1]
   exact this.step hext (hblocks _ (this.lt hm.size) (hne i o h1 hi))
 ·intro i j o p hi hj ho hp he
  rw [hg'] at hi hj
  have clash:∀k q,k≠id→g k=some q→(σ k).blk≠s'.blk:=by
   intro k q hk hq e
   rcases hblk with e' | e'
   ·exact hne k q hk hq (by rw [e,e'])
   ·have:=(hm.obj k q hq).lt hm.size;omega
  by_cases h1:i=id
  ·by_cases h2:j=id
   ·rw [h1,h2]
   ·rw [if_neg h2] at hj
    rw [h1,hself,hother j h2] at he
    exact absurd he.symm (clash j p h2 hj)
  ·rw [if_neg h1] at hi
   by_cases h2:j=id
   ·rw [h2,hself,hother i h1] at he
    exact absurd he (clash i o h1 hi)
   ·rw [if_neg h2] at hj
    rw [hother i h1,hother j h2] at he
    exact hm.inj i j o p hi hj ho hp he
 ·intro i hi
  obtain ⟨vals,h1,h2,h3⟩:=hm.glob i hi
  have hne:i≠id:=by
   rintro rfl
   rw [hg] at h1;cases h1
   simp [owns] at hown
  exact ⟨vals,by rw [hg',if_neg hne];exact h1,by rw [hother i hne];exact h2,by rw [hother i hne];exact h3⟩
 ·exact you (by rintro rfl;rw [hg] at hgi;cases hgi)
theorem zlw {c:Value} (h:single c=true):c.oneCell'=true:=by cases c <;> first | rfl | simp [single] at h
theorem zfa {b:Nat} {el:TypeId}:∀(vs:List Value) (i o:Nat) (cs:List Value) (w:World),w.heap[b]?=some (.cells ⟨cs⟩ el (0,0))→o+i+vs.length≤cs.length→(∀v∈vs,single v=true)→
  ∃w',(storeCells ⟨b,o,none⟩ vs i).run P w=.ok () w'∧w'.heap[b]?=some (.cells ⟨splice cs (o+i) vs⟩ el (0,0))∧(∀k,k≠b→w'.heap[k]?=w.heap[k]?)∧w'.heap.size=w.heap.size∧w'.os=w.os∧w'.tape=w.tape∧w'.output=w.output
 | [],i,o,cs,w,hb,_,_=>⟨w,rfl,by rw [hb];simp [splice],fun _ _=>rfl,rfl,rfl,rfl,rfl⟩
 | v::vs,i,o,cs,w,hb,hle,h1=>by
  simp only [ypb] at hle
  have hlt:o+i<cs.length:=by omega
  have hc:w.cell? ⟨b,o+i,none⟩=some cs[o+i]:=by simp [World.cell?,hb,hlt]
  have hf:w.frozen? ⟨b,o+i,none⟩=false:=by simp [World.frozen?,hb]
  have hst:(store ⟨b,o+i,none⟩ v).run P w=.ok () (w.setCell ⟨b,o+i,none⟩ v):=by
   rw [run_store P w _ v _ (zlw (h1 v (by simp))),hc]
   simp [hf]
  have hblt:b<w.heap.size:=(ypp.1 hb).1
  have hb':(w.setCell ⟨b,o+i,none⟩ v).heap[b]?=some (.cells ⟨cs.set (o+i) v⟩ el (0,0)):=by
   simp only [World.setCell,Array.getElem?_modify,if_pos,hb,yp6]
   simp
  have hother:∀k,k≠b→(w.setCell ⟨b,o+i,none⟩ v).heap[k]?=w.heap[k]?:=by
   intro k hk
   simp only [World.setCell,Array.getElem?_modify]
   rw [if_neg (fun e=>hk e.symm)]
  obtain ⟨w',h2,h3,h4,h5,h6,h7,h8⟩:=zfa vs (i+1) o (cs.set (o+i) v) (w.setCell ⟨b,o+i,none⟩ v) hb' (by rw [yo3];omega) fun x hx=>h1 x (by simp [hx])
  refine ⟨w',?_,?_,fun k hk=>by rw [h4 k hk,hother k hk],by rw [h5];simp,by rw [h6];rfl,by rw [h7];rfl,by rw [h8];rfl⟩
  ·simp only [storeCells,Sem.run_bind,zga,hst,Result.andThen_ok]
   exact h2
  ·rw [h3]
   congr 2
   have ht:(cs.take (o+i)).length=o+i:=by rw [ypt];omega
   have hset:cs.set (o+i) v=cs.take (o+i)++v::cs.drop (o+i+1):=by rw [List.set_eq_take_append_cons_drop,if_pos hlt]
   unfold splice
   rw [hset,List.take_append,List.drop_append,ht,ypy (show (cs.take (o+i)).length≤o+(i+1) by omega),
    yo5 (show (cs.take (o+i)).length≤o+(i+1)+vs.length by omega)]
   rw [show o+(i+1) - (o+i)=1 from by omega,show o+(i+1)+vs.length - (o+i)=vs.length+1 from by omega]
   simp only [List.take_succ_cons,List.take_zero,List.drop_succ_cons,List.drop_drop,List.nil_append,yp4,List.cons_append,ypb]
   rw [show o+i+1+vs.length=o+i+(vs.length+1) from by omega]
theorem yaj (hm:MR G N σ g w) (hs:Sub g h) {p q:Addr} {l cs:List Value} {h':Heap} (hp:VR σ g (.pointer (some p)) (.pointer (some q))) (hv:VRs σ g l cs) (h1:∀x∈l,single x=true) (hw:h.write p l=some h'):
  ∃w',(storeCells q cs).run P w=.ok () w'∧Done G N σ g w h undef h' undef w':=by
 cases hp with
 | ptr _ _ v vals ver ro hsp hg hle hq=>
  unfold Heap.write at hw
  rw [hs _ _ hg] at hw
  cases ro with
  | true=>simp at hw
  | false=>
   simp only at hw
   split at hw
   ·rename_i hc
    obtain ⟨hspot,hlen⟩:=hc
    rw [hsp] at hspot;cases hspot
    simp only [yot] at hw
    subst hw
    rw [hq rfl]
    have ho:=hm.obj _ _ hg
    cases ho with
    | own _ ds _ el hb h0 hwb hsz hvv hl h1'=>
     have hvl:=hv.length
     have hsc:∀x∈cs,single x=true:=by
      intro x hx
      obtain ⟨i,hi⟩:=List.getElem?_of_mem hx
      obtain ⟨u,hu,hur⟩:=hv.get' hi
      rw [hur.single];exact h1 u (yp3 hu)
     rw [h0,Nat.zero_add]
     obtain ⟨w',hrun,hw1,hw2,hw3,hw4,hw5,hw6⟩:=zfa (P:=P) cs 0 p.off ds w hwb (by omega) hsc
     refine ⟨w',hrun,?_⟩
     obtain ⟨h2,h3,h4,h5⟩:=zj1 (h:=h) hm hs hg rfl (new:=.cells (splice vals p.off l) v false) rfl (σ p.block) w'
      (fun vals' ver' ro' e=>by cases e;exact ⟨_,_,rfl,yoz _,fun _=>rfl⟩) (fun es e=>by cases e)
      (fun σ' g' he=>by
       refine .own _ (splice ds p.off cs) v el hb h0 (by rw [hw1,yqe]) (by rw [b5 (by omega)];exact hsz) ?_ (by rw [b5 (by omega),b5 (by omega)];exact hl) (ziq h1' h1 _)
       rw [b5 (by omega)]
       have:(splice ds p.off cs).take vals.length=splice (ds.take vals.length) p.off cs:=by
        unfold splice
        rw [List.take_append,List.take_append,List.take_take]
        simp only [yo8,ypt]
        rw [Nat.min_eq_right (show p.off≤vals.length by omega),ypy (show cs.length≤vals.length - min p.off ds.length by omega),List.take_take,List.take_drop]
        congr 2
        ·rw [Nat.min_eq_left (by omega)]
        ·rw [Nat.min_eq_left (by omega)];congr 2 <;> omega
       rw [this]
       exact ((hvv.splice hv _).ext he))
      (fun b hb' hne=>hw2 b hne) (.inl rfl) (by omega) hw4 hw5 hw6
     exact ⟨_,h2,h3,.tuple [] [] .nil,h4⟩
   ·cases hw
end Go.Proofs.YtljdbheclfaloaaGreatDoor.AM
namespace Go.Proofs.YtljdbheclfaloaaGreatDoor.AM
open Go.RowKit
set_option linter.unusedSimpArgs false
set_option linter.unusedVariables false
variable {P:Program} {G N:Nat} {σ:Emb} {g:Mem} {w:World} {h:Heap}
theorem zvq (hm:MR G N σ g w) (hs:Sub g h) {size:Nat} {u cu:Value} {ys:List Value} {n:Nat} (hu:VR σ g u cu) (hsrc:za5 h size u=some (ys,n)):
  ∃cs,(Builtin.lenOf cu).run P w=.ok n w∧(Builtin.firstCells size n cu).run P w=.ok ⟨cs⟩ w∧VRs σ g ys cs∧ys.length=n*size∧∀x∈ys,single x=true:=by
 cases u <;> simp only [za5,reduceCtorEq] at hsrc
 case string s=>
  split at hsrc
  ·rename_i h1
   subst h1
   simp only [yot,yo2] at hsrc
   obtain ⟨rfl,rfl⟩:=hsrc
   rw [hu.string_inv]
   have hp:(s.data.toList.map fun b=>(Value.int .u8 b.toNat)).all plain1=true:=by
    rw [yp9]
    intro x hx
    obtain ⟨b,_,rfl⟩:=List.mem_map.1 hx
    rfl
   refine ⟨s.data.toList.map fun b=>.int .u8 b.toNat,rfl,?_,.plain1 hp,by simp,fun x hx=>j7 (yp9.1 hp x hx)⟩
   have he:s.extract 0 s.size=s:=by simp
   simp only [Builtin.firstCells,he,Sem.run_pure]
   congr 1
   apply Array.ext'
   simp
  ·cases hsrc
 case slice a n' c=>
  cases a with
  | none=>
   simp only [yot,yo2] at hsrc
   obtain ⟨rfl,rfl⟩:=hsrc
   obtain ⟨rfl,rfl,rfl⟩:=hu.nilSlice_inv
   exact ⟨[],rfl,rfl,.nil,by simp,fun x hx=>by simp at hx⟩
  | some p=>
   simp only [za5] at hsrc
   split at hsrc
   ·rename_i hc
    subst hc
    obtain ⟨l,hl,he⟩:=zo hsrc
    simp only [yo2] at he
    obtain ⟨rfl,rfl⟩:=he
    cases hu with
    | slice _ q _ _ cap v vals ver ro hv hg hle hn hq=>
     by_cases hlive:v=ver
     ·rcases hq hlive with ⟨hq',_⟩ | ⟨h0,_⟩
      ·obtain ⟨cs,_,hrun,hvs,hlen,h1⟩:=hm.read (P:=P) hs (.ptr p q v vals ver ro hv hg hle fun _=>hq') hl
       exact ⟨cs,rfl,hrun,hvs,hlen,h1⟩
      ·subst h0
       have:l=[]:=by
        unfold Heap.read at hl
        rw [hs _ _ hg] at hl
        simp only at hl
        split at hl
        ·simp only [Nat.zero_mul,List.take_zero,yot] at hl;exact hl.symm
        ·cases hl
       subst this
       refine ⟨[],rfl,?_,.nil,by simp,fun x hx=>by simp at hx⟩
       simp only [Builtin.firstCells,Nat.zero_mul]
       rfl
     ·exfalso
      unfold Heap.read at hl
      rw [hs _ _ hg] at hl
      simp only at hl
      split at hl
      ·rename_i hcc
       rw [hv] at hcc
       exact hlive (by simpa using hcc.1)
      ·cases hl
   ·cases hsrc
theorem MR.drew (hm:MR G N σ g w):MR G N σ g { w with drawn:=w.drawn+1}:=by
 refine ⟨fun i o hi=> ?_,hm.inj,hm.glob,hm.size⟩
 exact ObjR.step (w:=w) (w':={ w with drawn:=w.drawn+1}) (.refl _ _) rfl (hm.obj i o hi)
theorem zt7 (need:Nat):∀(n c:Nat),c≤need+(need+768)/ 4→Builtin.growBy need n c≤need+(need+768)/ 4
 | 0,c,h=>h
 | n+1,c,h=>by
  unfold Builtin.growBy
  split
  ·exact h
  ·exact zt7 need n _ (by omega)
theorem zzj {need cap:Nat} (h:cap<need):Builtin.nextslicecap need cap≤2*need:=by
 unfold Builtin.nextslicecap
 split
 ·omega
 ·split
  ·omega
  ·have:=zt7 need 4 cap (by omega);omega
theorem zml (z:Array Value) (n:Nat):(Builtin.zeroCells z n).size=n*z.size:=by simp [Builtin.zeroCells]
set_option maxHeartbeats 4000000 in
theorem zvy (hm : MR G N σ g w) (hs : Sub g h) {t u e : TypeId} {size bytes : Nat} {z : List Value} (ht : P.underlying t = some (.slice e)) (hz : ge P e = some size) (hb : zl8 P e = some bytes)
    (hzero : zg1 P e = some z) (hzl : z.length = size) (hpos : 0 < size) (hbpos : 0 < bytes) (hnum : zgl P u = false) (hu : (P.underlying u).isSome = true)
    {x y cx cy : Value} (hx : VR σ g x cx) (hy : VR σ g y cy) {ty : TypeId} {v : Value} {h' : Heap}
    (he : wu h size bytes x (za5 h size y) = some (v, h')) :
    ∃ cv w', (Builtin.append_ #[t, u] ty #[cx, cy]).run P w = .ok cv w' ∧ Done G N σ g w h v h' cv w' := by
  obtain ⟨i, hi, hib⟩ : ∃ i, (∀ w, (typeInfo e).run P w = .ok i w) ∧ i.bytes = bytes := by
    unfold zl8 at hb
    obtain ⟨i, hi, rfl⟩ := zo hb
    exact ⟨i, fun w => by simp [typeInfo, hi], rfl⟩
  obtain ⟨zv, hzv, hzlaid⟩ := zf0 hzero
  have hzc := zft hzlaid
  obtain ⟨du, hdu⟩ := Option.isSome_iff_exists.1 hu
  have hni : ∀ k, du ≠ .int k := by
    rintro k rfl
    unfold zgl at hnum; rw [hdu] at hnum; cases hnum
  cases hsrc : za5 h size y with
  | none => rw [hsrc] at he; unfold wu at he; split at he <;> simp_all
  | some yn =>
    obtain ⟨ys, n⟩ := yn
    rw [hsrc] at he
    unfold wu at he
    obtain ⟨cs, hlen, hfirst, hvs, hysl, hys1⟩ := zvq (P := P) hm hs hy hsrc
    have hcsl := hvs.length
    have fits : ∀ (base : Option Addr) (m cap : Nat) (w' : World), cx = .slice base m cap → m + n ≤ cap → (∀ a, base = some a → (storeCells (a.add (m * size)) cs).run P w = .ok () w') → (base = none → w' = w) →
        (Builtin.append_ #[t, u] ty #[cx, cy]).run P w = .ok (.slice base (m + n) cap) w' := by
      rintro base m cap w' rfl hle hst hnone
      unfold Builtin.append_
      cases du <;> first
        | (exact absurd rfl (hni _))
        | (simp only [List.getElem?_toArray, List.getElem?_cons_zero, List.getElem?_cons_succ, Sem.run_bind, xn ht, Result.andThen_ok, qj hz, xn hdu, Sem.run_pure, yoy, if_false, hlen, if_pos hle,
             Bool.not_false, if_true, hfirst]
           cases base with
           | none => rw [hnone rfl]; rfl
           | some a => simp only [Sem.run_bind, hst a rfl, Result.andThen_ok, Sem.run_pure])
    have grows : ∀ (base : Option Addr) (m cap : Nat) (ds cs1 : List Value), cx = .slice base m cap → ¬ m + n ≤ cap → (m + n) * bytes ≤ wy →
        (Builtin.firstCells size m cx).run P { w with drawn := w.drawn + 1 } = .ok ⟨ds⟩ { w with drawn := w.drawn + 1 } → (Builtin.firstCells size n cy).run P { w with drawn := w.drawn + 1 } = .ok ⟨cs1⟩ { w with drawn := w.drawn + 1 } →
        ∃ (k : Nat) (rest : List Value), k ≥ m + n ∧ rest.length = (k - (m + n)) * size ∧ (Builtin.append_ #[t, u] ty #[cx, cy]).run P w = .ok (.slice (some ⟨w.heap.size, 0, none⟩) (m + n) k)
          { { w with drawn := w.drawn + 1 } with heap := w.heap.push (.cells ⟨ds ++ cs1 ++ rest⟩ e) } := by
      rintro base m cap ds cs1 rfl hle hroom hold1 hfirst1
      have hcapn : ¬ Builtin.nextslicecap (m + n) cap * bytes > 2 ^ 48 := by
        have h1 := zzj (show cap < m + n by omega)
        have h2 : Builtin.nextslicecap (m + n) cap * bytes ≤ 2 * (m + n) * bytes := Nat.mul_le_mul_right _ h1
        rw [Nat.mul_assoc] at h2
        unfold wy at hroom
        omega
      have hint : ¬ (((m + n : Nat) : Int) > IntKind.i64.max ∧ (False ∨ bytes = 0)) := by
        rintro ⟨_, h | h⟩
        · exact h
        · omega
      let q : Question := .appendCap (m + n) cap e
      let k := q.cut (w.tape w.drawn q)
      have hk : k ≥ m + n := by show m + n ≤ m + n + _; omega
      refine ⟨k, (Builtin.zeroCells ⟨z⟩ (k - (m + n))).toList, hk, by rw [Array.length_toList, zml]; show (k - (m + n)) * z.length = _; rw [hzl], ?_⟩
      have hch : (choose (.appendCap (m + n) cap e)).run P w = .ok k { w with drawn := w.drawn + 1 } := by rw [run_choose]; rfl
      have harr : (⟨ds⟩ : Array Value) ++ ⟨cs1⟩ ++ Builtin.zeroCells ⟨z⟩ (k - (m + n)) = ⟨ds ++ cs1 ++ (Builtin.zeroCells ⟨z⟩ (k - (m + n))).toList⟩ := by apply Array.ext'; simp
      unfold Builtin.append_
      cases du <;> first
        | (exact absurd rfl (hni _))
        | (simp only [List.getElem?_toArray, List.getElem?_cons_zero, List.getElem?_cons_succ, Sem.run_bind, xn ht, Result.andThen_ok, qj hz, xn hdu, Sem.run_pure, yoy, if_false, hlen, if_neg hle,
             Bool.not_false, if_true, hi, hib, if_neg hint, if_neg hcapn, hch, run_askRoom, hold1, hfirst1, (zdh hzv _).1, newRow, run_newObj, hzc]
           rw [harr])
    cases x <;> (try (cases he; done))
    rename_i a m c
    cases a with
    | none =>
      (try simp only at he)
      obtain ⟨rfl, rfl, hcx⟩ := hx.nilSlice_inv
      split at he
      · rename_i h0
        subst h0
        simp only [yot, yo2] at he
        obtain ⟨rfl, rfl⟩ := he
        exact ⟨_, w, fits none 0 0 w hcx (yoz _) (fun a h => by cases h) (fun _ => rfl), Done.same hm hs .nilSlice⟩
      · rename_i h0
        split at he
        · rename_i hroom
          simp only [yot, yo2] at he
          obtain ⟨rfl, rfl⟩ := he
          obtain ⟨cs1, _, hfirst1, hvs1, _, _⟩ := zvq (P := P) hm.drew hs hy hsrc
          have hcsl1 := hvs1.length
          obtain ⟨k, rest, hk, hrest, hrun⟩ := grows none 0 0 [] cs1 hcx (by omega) (by rw [Nat.zero_add]; exact hroom) (by rw [hcx]; rfl) hfirst1
          rw [Nat.zero_add] at hk hrun hrest
          refine ⟨_, _, hrun, ?_⟩
          have hrl : ([] ++ cs1 ++ rest).length = k * size := by
            simp only [List.nil_append, yo8, hrest, ← hcsl1, hysl]
            rw [← Nat.add_mul]; congr 1; omega
          obtain ⟨h2, h3, h4, h5, h6⟩ := yej (h := h) hm.drew hs (obj := .cells ys 0 false) (blk := .cells ⟨[] ++ cs1 ++ rest⟩ e) (sz := ([] ++ cs1 ++ rest).length)
            (fun σ' g' w' hext hw => .own ys ([] ++ cs1 ++ rest) 0 e hm.size rfl hw rfl (by
              rw [List.nil_append, hcsl1, List.take_left']
              · exact hvs1.ext hext
              · rfl) (by simp; omega) hys1) rfl
          refine ⟨_, ?_, h3, .slice _ _ _ _ _ 0 ys 0 false rfl h5 (yoz _) hk (fun _ => .inl ⟨by simp only [if_pos], fun _ => ?_⟩), h4⟩
          · exact ⟨h2.ext, h2.size, h2.os, h2.tape, h2.output, h2.rest, h2.own⟩
          · simp only [if_pos]; omega
        · cases he
    | some p =>
      (try simp only at he)
      cases hob : h[p.block]? with
      | none => rw [hob] at he; cases he
      | some ob =>
        rw [hob] at he
        cases ob with
        | map es => cases he
        | gone => cases he
        | cells vals ver ro =>
          cases ro with
          | true => cases he
          | false =>
            (try simp only at he)
            split at he
            · rename_i hcond
              obtain ⟨rfl, hspot, hoff, hml, hroom⟩ := hcond
              simp only [yot, yo2] at he
              obtain ⟨rfl, rfl⟩ := he
              obtain ⟨q0, cap0, hcxe, _⟩ := hx.slice_inv
              rw [hcxe] at hx
              cases hx with
              | slice _ _ _ _ _ v vals' ver' ro' hsp hg hle hn hq =>
                have hob' := hs _ _ hg
                rw [hob] at hob'
                simp only [yot, AObj.cells.injEq] at hob'
                obtain ⟨rfl, rfl, rfl⟩ := hob'
                rw [hspot] at hsp; cases hsp
                have hq := hq rfl
                have ho := hm.obj _ _ hg
                cases ho with
                | own _ ds _ el hb0 h0 hwb hsz hvv hl h1' =>
                  have hmd : m * c ≤ ds.length := by omega
                  by_cases hfit : m + n ≤ cap0
                  · -- in place
                    rcases hq with ⟨hq, hbound⟩ | ⟨hm0, hc0⟩
                    · have hbound := hbound rfl
                      rw [h0, hoff, yqe, Nat.zero_add] at hbound
                      rw [h0, hoff, yqe] at hq
                      have hroom2 : m * c + cs.length ≤ ds.length := by
                        rw [← hcsl, hysl, ← Nat.add_mul]
                        exact yqf (Nat.mul_le_mul_right _ hfit) (by omega)
                      have hsc : ∀ x ∈ cs, single x = true := by
                        intro x hx
                        obtain ⟨i, hi⟩ := List.getElem?_of_mem hx
                        obtain ⟨u, hu, hur⟩ := hvs.get' hi
                        rw [hur.single]; exact hys1 u (yp3 hu)
                      obtain ⟨w', hrun, hw1, hw2, hw3, hw4, hw5, hw6⟩ := zfa (P := P) (el := el) cs 0 (m * c) ds w hwb (by omega) hsc
                      refine ⟨_, w', fits (some q0) m cap0 w' hcxe hfit (fun a ha => ?_) (fun h => by cases h), ?_⟩
                      · cases ha; rw [hq, zga, Nat.zero_add]; exact hrun
                      · obtain ⟨h2, h3, h4, h5⟩ := zj1 (h := h) hm hs hg rfl (new := .cells (vals.take (m * c) ++ ys) (ver + 1) false) rfl (σ p.block) w'
                          (fun vals' ver' ro' e => by cases e; exact ⟨_, _, rfl, by omega, fun e => by omega⟩) (fun es e => by cases e)
                          (fun σ' g' he => by
                            refine .own _ (splice ds (0 + m * c) cs) (ver + 1) el hb0 h0 (by rw [hw1, Nat.add_comm]) (by rw [b5 (by omega)]; exact hsz) ?_ ?_ ?_
                            · have hlen2 : (vals.take (m * c) ++ ys).length = m * c + cs.length := by rw [yo8, ypt, hcsl]; omega
                              rw [hlen2, Nat.zero_add]
                              have : (splice ds (m * c) cs).take (m * c + cs.length) = ds.take (m * c) ++ cs := by
                                unfold splice
                                rw [List.take_append, ypy (by simp; omega)]
                                simp
                                omega
                              rw [this]
                              refine VRs.append ?_ (hvs.ext he)
                              have := (hvv.take (m * c)).ext he
                              rw [List.take_take, Nat.min_eq_left (by omega)] at this
                              exact this
                            · rw [b5 (by omega), yo8, ypt, hcsl]; omega
                            · intro x hx
                              rcases ype.1 hx with hx | hx
                              · exact h1' x (yqi hx)
                              · exact hys1 x hx)
                          (fun b hb' hne => hw2 b hne) (.inl rfl) (by omega) hw4 hw5 hw6
                        refine ⟨_, h2, h3, .slice _ _ _ _ _ (ver + 1) _ (ver + 1) false rfl h5 (yoz _) hfit (fun _ => .inl ⟨?_, fun _ => ?_⟩), h4⟩
                        · simp only [if_pos]; rw [hq, h0]
                        · simp only [if_pos]; rw [h0]; omega
                    · subst hm0; subst hc0
                      have hn0 : n = 0 := by omega
                      subst hn0
                      have hys0 : ys = [] := yqh.1 (by rw [hysl]; simp)
                      have hcs0 : cs = [] := yqh.1 (by rw [← hcsl, hys0]; rfl)
                      subst hcs0; subst hys0
                      refine ⟨_, w, fits (some q0) 0 0 w hcxe (yoz _) (fun a ha => rfl) (fun h => by cases h), ?_⟩
                      obtain ⟨h2, h3, h4, h5⟩ := zj1 (h := h) hm hs hg rfl (new := .cells (vals.take (0 * c) ++ []) (ver + 1) false) rfl (σ p.block) w
                        (fun vals' ver' ro' e => by cases e; exact ⟨_, _, rfl, by omega, fun e => by omega⟩) (fun es e => by cases e)
                        (fun σ' g' he => by
                          have hemp : vals.take (0 * c) ++ [] = ([] : List Value) := by simp
                          rw [hemp]
                          exact .own [] ds (ver + 1) el hb0 h0 hwb hsz .nil (by simp) (fun x hx => by simp at hx))
                        (fun b hb' hne => rfl) (.inl rfl) (yoz _) rfl rfl rfl
                      exact ⟨_, h2, h3, .slice _ _ _ _ _ (ver + 1) _ (ver + 1) false rfl h5 (yoz _) (yoz _) (fun _ => .inr ⟨rfl, rfl⟩), h4⟩
                  · -- a new row
                    obtain ⟨cs1, _, hfirst1, hvs1, _, _⟩ := zvq (P := P) hm.drew hs hy hsrc
                    have hcsl1 := hvs1.length
                    have hdrew := hm.drew
                    have hold : (Builtin.firstCells c m cx).run P { w with drawn := w.drawn + 1 } = .ok ⟨ds.take (m * c)⟩ { w with drawn := w.drawn + 1 } := by
                      rw [hcxe]
                      rcases hq with ⟨hq, hbound⟩ | ⟨hm0, hc0⟩
                      · simp only [Builtin.firstCells]
                        rw [hq, h0, hoff, yqe]
                        refine zj7 (by rw [ypt]; omega) fun j x hj => ?_
                        rw [yp0] at hj
                        split at hj
                        · simp only [World.cell?, hwb, Nat.zero_add]
                          simpa using hj
                        · cases hj
                      · subst hm0
                        simp only [Builtin.firstCells, Nat.zero_mul, List.take_zero]
                        rfl
                    obtain ⟨k, rest, hk, hrest, hrun⟩ := grows (some q0) m cap0 (ds.take (m * c)) cs1 hcxe hfit hroom hold hfirst1
                    have htl : (ds.take (m * c)).length = m * c := by rw [ypt]; omega
                    have hrl : (ds.take (m * c) ++ cs1 ++ rest).length = k * c := by
                      simp only [yo8, hrest, htl, ← hcsl1, hysl]
                      rw [← Nat.add_mul, ← Nat.add_mul]; congr 1; omega
                    refine ⟨_, _, hrun, ?_⟩
                    obtain ⟨h2, h3, h4, h5⟩ := zj1 (h := h) hdrew hs hg rfl (new := .cells (vals.take (m * c) ++ ys) (ver + 1) false) rfl ⟨w.heap.size, 0, (ds.take (m * c) ++ cs1 ++ rest).length⟩
                      { { w with drawn := w.drawn + 1 } with heap := w.heap.push (.cells ⟨ds.take (m * c) ++ cs1 ++ rest⟩ e) }
                      (fun vals' ver' ro' e => by cases e; exact ⟨_, _, rfl, by omega, fun e => by omega⟩) (fun es e => by cases e)
                      (fun σ' g' he => by
                        refine .own _ (ds.take (m * c) ++ cs1 ++ rest) (ver + 1) e hm.size rfl (by simp) rfl ?_ ?_ ?_
                        · have hlen2 : (vals.take (m * c) ++ ys).length = (ds.take (m * c) ++ cs1).length := by rw [yo8, yo8, htl, ypt, hcsl1]; omega
                          rw [hlen2, List.take_left']
                          · refine VRs.append ?_ (hvs1.ext he)
                            have := (hvv.take (m * c)).ext he
                            rw [List.take_take, Nat.min_eq_left (by omega)] at this
                            exact this
                          · rfl
                        · rw [yo8, ypt, yo8, yo8, htl, hcsl1]; omega
                        · intro x hx
                          rcases ype.1 hx with hx | hx
                          · exact h1' x (yqi hx)
                          · exact hys1 x hx)
                      (fun b hb' hne => by
                        show (w.heap.push _)[b]? = _
                        rw [Array.getElem?_push, if_neg (by simp only at hb'; omega)])
                      (.inr (yoz _)) (by simp) rfl rfl rfl
                    refine ⟨_, ?_, h3, .slice _ _ _ _ _ (ver + 1) _ (ver + 1) false rfl h5 (yoz _) hk (fun _ => .inl ⟨by simp only [if_pos], fun _ => ?_⟩), h4⟩
                    · exact ⟨h2.ext, h2.size, h2.os, h2.tape, h2.output, h2.rest, h2.own⟩
                    · simp only [if_pos]; omega
            · cases he
end Go.Proofs.YtljdbheclfaloaaGreatDoor.AM
namespace Go.Proofs.YtljdbheclfaloaaGreatDoor.AM
open Go.RowKit
set_option linter.unusedSimpArgs false
set_option linter.unusedVariables false
variable {P:Program} {G N:Nat} {σ:Emb} {g:Mem} {w:World} {h:Heap}
theorem bytes_beq {a b:ByteArray}:(a==b)=true↔a=b:=by
 rw [beq_toListBytes,beq_iff_eq,ByteArray.toList_eq,ByteArray.toList_eq]
 constructor
 ·intro h
  obtain ⟨⟨x⟩⟩:=a
  obtain ⟨⟨y⟩⟩:=b
  simp only at h
  subst h;rfl
 ·rintro rfl;rfl
theorem zn9 {kk:EqK} {k j:Value} (hk:zfl kk k=true) (h:ve kk k j=some true) (n:Nat):j=k∧Instr.sameBits n j k=true:=by
 cases kk <;> cases k <;> simp only [zfl,yoy] at hk <;> cases j <;> simp [ve] at h
 ·subst h;exact ⟨rfl,by cases n <;> simp [Instr.sameBits]⟩
 ·obtain ⟨rfl,rfl⟩:=h;exact ⟨rfl,by cases n <;> simp [Instr.sameBits]⟩
 ·obtain rfl:=bytes_beq.1 h
  exact ⟨rfl,by cases n <;> simp [Instr.sameBits,bytes_beq]⟩
theorem zmc {kk:EqK} {d:TypeDesc} (hd:eqK d=some kk) {k v cv:Value} (hk:zfl kk k=true) (hpl:plain1 k=true) (hv:VR σ g v cv):∀{es:List (Value×Value)} {ms:List MapEntry} (_:EntriesR σ g es ms) (i:Nat) {es':List (Value×Value)},
  za6 kk k v es=some es'→
  (∃j c e,Instr.findNow d k ms i=some (some (i+j,c))∧ms[j]?=some e∧e.key=k∧EntriesR σ g es' (ms.set j { e with key:=k,val:=cv}))∨
  (Instr.findNow d k ms i=some none∧∀born,EntriesR σ g es' (ms++[{ key:=k,val:=cv,born:=born}]))
 | _,_,.nil,i,es',h=>by
  simp only [za6,yot] at h;subst h
  exact .inr ⟨rfl,fun born=>.cons _ _ _ _ ⟨rfl,hpl,hv⟩ .nil⟩
 | _,_,.cons e m es ms he hs,i,es',h=>by
  obtain ⟨kj,u⟩:=e
  unfold za6 at h
  have hkey:m.key=kj:=he.key
  cases hq:ve kk k kj with
  | none=>rw [hq] at h;cases h
  | some b=>
   rw [hq] at h
   have hn:=zjt hd hq
   rw [←hkey] at hn
   cases b with
   | true=>
    simp only [yot] at h;subst h
    obtain ⟨hkk,_⟩:=zn9 hk hq 0
    refine .inl ⟨0,m.val,m,by unfold Instr.findNow;rw [hn];rfl,rfl,by rw [hkey,hkk],?_⟩
    exact .cons _ _ _ _ ⟨rfl,hpl,hv⟩ hs
   | false=>
    obtain ⟨es2,h2,rfl⟩:=zo h
    rcases zmc hd hk hpl hv hs (i+1) h2 with ⟨j,c,e,h3,h4,h5,h6⟩ | ⟨h3,h4⟩
    ·refine .inl ⟨j+1,c,e,?_,h4,h5,.cons _ _ _ _ he h6⟩
     unfold Instr.findNow;rw [hn];simp only;rw [h3];congr 3;omega
    ·exact .inr ⟨by unfold Instr.findNow;rw [hn];exact h3,fun born=>.cons _ _ _ _ he (h4 born)⟩
theorem zuu {kk:EqK} {k:Value} (h:zfl kk k=true):plain1 k=true:=by
 cases kk <;> cases k <;> simp only [zfl,yoy] at h <;> rfl
theorem zpl {b:Nat} {o:Obj} {ms:Array MapEntry} {clock:Nat} (hb:w.heap[b]?=some (.map ms clock)):(setObj b o).run P w=.ok () { w with heap:=w.heap.setIfInBounds b o}:=by
 simp [setObj,Sem.run,hb]
set_option maxHeartbeats 1000000 in
theorem zwe (hm:MR G N σ g w) (hs:Sub g h) {t kt e:TypeId} {d:TypeDesc} {kk:EqK} (ht:P.underlying t=some (.map kt e)) (hk:P.underlying kt=some d) (hd:eqK d=some kk)
  {b:Nat} {cm k ck v cv:Value} (hvm:VR σ g (.map (some b)) cm) (hvk:VR σ g k ck) (hvv:VR σ g v cv) (hok:zfl kk k=true) {es es':List (Value×Value)} (hb:h[b]?=some (.map es)) (hse:za6 kk k v es=some es'):
  ∃w',(Instr.mapUpdate t cm ck cv).run P w=.ok () w'∧Done G N σ g w h undef (h.set b (.map es')) undef w':=by
 have hck:=zsh hok hvk
 subst hck
 cases hvm with
 | map _ s es0 hg hsb=>
  have hb':=hs _ _ hg
  rw [hb] at hb';cases hb'
  have ho:=hm.obj _ _ hg
  cases ho with
  | map _ ms clock hbn hw hent=>
   rw [←hsb] at hw hbn
   have hslt:s<w.heap.size:=(ypp.1 hw).1
   have hgo:(getObj s).run P w=.ok (.map ⟨ms⟩ clock) w:=by simp [getObj,Sem.run,hw]
   have e0:(10000:Nat)=9999+1:=rfl
   have hcheck:=zl3 (w:=w) hd hk hok false 9999
   have fin:∀(ms':List MapEntry) (clock':Nat),EntriesR σ g es' ms'→Done G N σ g w h undef (h.set b (.map es')) undef { w with heap:=w.heap.setIfInBounds s (.map ⟨ms'⟩ clock')}:=by
    intro ms' clock' hent'
    obtain ⟨h2,h3,h4,h5⟩:=zj1 (h:=h) hm hs hg rfl (new:=.map es') rfl (σ b) { w with heap:=w.heap.setIfInBounds s (.map ⟨ms'⟩ clock')}
     (fun vals ver ro e=>by cases e) (fun es e=>⟨es',rfl,rfl⟩)
     (fun σ' g' he=>.map es' ms' clock' (by rw [←hsb];exact hbn) (by rw [←hsb];simp [hslt]) (hent'.ext he))
     (fun b' hb' hne=>by
      show (w.heap.setIfInBounds s _)[b']?=_
      rw [Array.getElem?_setIfInBounds_ne (by rw [hsb];exact fun e=>hne e.symm)])
     (.inl rfl) (by simp) rfl rfl rfl
    exact ⟨_,h2,h3,.tuple [] [] .nil,h4⟩
   unfold Instr.mapUpdate
   rw [e0]
   simp only [Sem.run_bind,xn ht,Result.andThen_ok,hgo,hcheck]
   rcases zmc hd hok (zuu hok) hvv hent 0 hse with ⟨j,c,en,h3,h4,h5,h6⟩ | ⟨h3,h4⟩
   ·have hf:(Instr.findKey kt ck ms).run P w=.ok (some (j,c)) w:=by
     simp only [Instr.findKey,Sem.run_bind,xn hk,Result.andThen_ok,h3,Nat.zero_add,Sem.run_pure]
    rw [hf]
    have hkey:(((⟨ms⟩:Array MapEntry)[j]?.map (·.key)).getD ck)=ck:=by simp [h4,h5]
    have hsame:Instr.sameBits 10000 ck ck=true:=by
     have:ve kk ck ck=some true:=by cases kk <;> cases ck <;> simp only [zfl,yoy] at hok <;> simp [ve,bytes_beq]
     exact (zn9 hok this 10000).2
    simp only [Result.andThen_ok,Sem.run_bind,hkey,Instr.keyThatStays,hsame,if_true,Sem.run_pure,zpl hw]
    have hmod:(⟨ms⟩:Array MapEntry).modify j (fun e=>{ e with key:=ck,val:=cv})=⟨ms.set j { en with key:=ck,val:=cv}⟩:=by
     apply Array.ext'
     apply List.ext_getElem?
     intro i
     simp only [Array.getElem?_toList,Array.getElem?_modify,List.getElem?_toArray]
     rw [List.getElem?_set]
     by_cases hij:j=i
     ·subst hij
      have hlt:=(yoq.1 h4).1
      rw [if_pos rfl,if_pos rfl,if_pos hlt,h4]
      rfl
     ·simp [hij]
    rw [hmod]
    exact ⟨_,rfl,fin _ _ h6⟩
   ·have hf:(Instr.findKey kt ck ms).run P w=.ok none w:=by
     simp only [Instr.findKey,Sem.run_bind,xn hk,Result.andThen_ok,h3,Sem.run_pure]
    rw [hf]
    simp only [Result.andThen_ok,zpl hw]
    exact ⟨_,rfl,by simpa using fin _ (clock+1) (h4 clock)⟩
def Acts (P:Program) (G N:Nat) (σ:Emb) (g:Mem) (w:World) (h:Heap) (v:Value) (h':Heap) (s:Sem Next):Prop:=∃cv w',(s.run P w=.ok (.value cv) w'∨(s.run P w=.ok .skip w'∧cv=undef))∧Done G N σ g w h v h' cv w'
set_option maxHeartbeats 1000000 in
theorem ym5 (call : vf) (hm : MR G N σ g w) (hs : Sub g h) {ρ ρc : Operand → Value} {o : Oper} {ao : AOp} (hn : y8 P o.type o.op = some ao) (hk : ao.acts = true)
    (hv : ∀ x ∈ o.op.operands, VR σ g (ρ x) (ρc x)) {v : Value} {h' : Heap} (he : evOp call ρ h ao = some (v, h')) (hcall : ∀ f l, ao ≠ .call f l) (hcallv : ∀ f l, ao ≠ .callv f l) :
    Acts P G N σ g w h v h' (execOp ρc o) := by
  obtain ⟨dst, op, ty, pos, after, guard⟩ := o
  simp only at hn hv
  cases op
  case store t a x =>
    have ha := hv a (by simp [Op.operands])
    have hx := hv x (by simp [Op.operands])
    simp only [y8] at hn
    cases hag : aggT P t with
    | none => rw [hag] at hn; cases hn
    | some b =>
      cases hz : ge P t with
      | none => rw [hag, hz] at hn; cases b <;> cases hn
      | some n =>
        rw [hag, hz] at hn
        have fin : ∀ (p : Addr) (l cs : List Value), ρ a = .pointer (some p) → VRs σ g l cs → (∀ x ∈ l, single x = true) → h.write p l = some h' → (ρc x).cells = ⟨cs⟩ → cs.length = n → v = undef → Acts P G N σ g w h v h' (execOp ρc ⟨dst, .store t a x, ty, pos, after, guard⟩) := by
          intro p l cs hp hvs h1 hw hcells hlen hvu
          subst hvu
          rw [hp] at ha
          obtain ⟨q, hq⟩ := ha.ptr_inv
          rw [hq] at ha
          obtain ⟨w', hrun, hd⟩ := yaj (P := P) hm hs ha hvs h1 hw
          refine ⟨undef, w', .inr ⟨?_, rfl⟩, hd⟩
          have hszc : (⟨cs⟩ : Array Value).size = cs.length := rfl
          simp only [execOp, Instr.storeAt, hq, Instr.sureAddr, Sem.run_bind, Sem.run_pure, Result.andThen_ok, storeVar, qj hz, hcells, hszc, hlen, ne_eq, not_true_eq_false, if_false, hrun]
        cases b with
        | true =>
          simp only [yot] at hn; subst hn
          simp only [evOp] at he
          split at he
          · rename_i p cs0 hp hxs
            split at he
            · rename_i hsz
              obtain ⟨h2, hw, he⟩ := zo he
              simp only [yo2] at he
              obtain ⟨rfl, rfl⟩ := he
              rw [hxs] at hx
              obtain ⟨ys, hys, hvs, h1⟩ := hx.agg_inv
              exact fin p _ ys hp hvs h1 hw (by rw [hys]; rfl) (by rw [← hvs.length]; exact hsz) rfl
            · cases he
          · cases he
        | false =>
          by_cases hn1 : n = 1
          · subst hn1
            simp only [yot] at hn; subst hn
            simp only [evOp] at he
            split at he
            · rename_i p hp
              have key : single (ρ x) = true → (h.write1 p (ρ x)).map (undef, ·) = some (v, h') → Acts P G N σ g w h v h' (execOp ρc ⟨dst, .store t a x, ty, pos, after, guard⟩) := by
                intro hsx he
                obtain ⟨h2, hw, he⟩ := zo he
                simp only [yo2] at he
                obtain ⟨rfl, rfl⟩ := he
                have hw2 : h.write p [ρ x] = some h2 := by
                  unfold Heap.write1 at hw
                  unfold Heap.write
                  split at hw
                  · rename_i vals ver hob
                    split at hw
                    · rename_i hc
                      rw [if_pos ⟨hc.1, by simp only [ypb, List.length_nil]; omega⟩]
                      rw [← hw]
                      congr 3
                      unfold splice
                      rw [List.set_eq_take_append_cons_drop, if_pos hc.2]
                      simp
                    · cases hw
                  · cases hw
                have hsc : single (ρc x) = true := by rw [hx.single]; exact hsx
                exact fin p [ρ x] [ρc x] hp (.cons _ _ _ _ hx .nil) (fun y hy => by rw [ypw.1 hy]; exact hsx) hw2 (by generalize ρc x = c at hsc; cases c <;> first | rfl | simp [single] at hsc) rfl rfl
              split at he
              · cases he
              · cases he
              · rename_i u h1 h2
                refine key ?_ he
                cases hu : ρ x <;> first | rfl | exact absurd hu (h1 _) | exact absurd hu (h2 _)
            · cases he
          · exfalso
            revert hn
            split <;> simp_all
  case mapUpdate t m k x =>
    have hmv := hv m (by simp [Op.operands])
    have hkv := hv k (by simp [Op.operands])
    have hxv := hv x (by simp [Op.operands])
    simp only [y8] at hn
    cases hu : P.underlying t with
    | none => rw [hu] at hn; cases hn
    | some d =>
      rw [hu] at hn
      cases d <;> simp only [reduceCtorEq] at hn
      rename_i kt e
      cases hkk : (P.underlying kt).bind eqK with
      | none => rw [hkk] at hn; cases hn
      | some kk =>
        rw [hkk] at hn
        simp only [yot] at hn; subst hn
        obtain ⟨dk, hdk, hek⟩ := yo6.1 hkk
        simp only [evOp] at he
        split at he
        · rename_i b hmb
          split at he
          · rename_i es hb
            split at he
            · rename_i hok
              obtain ⟨es', hse, he⟩ := zo he
              simp only [yo2] at he
              obtain ⟨rfl, rfl⟩ := he
              rw [hmb] at hmv
              obtain ⟨w', hrun, hd⟩ := zwe (P := P) hm hs hu hdk hek hmv hkv hxv hok hb hse
              exact ⟨undef, w', .inr ⟨by simp only [execOp, Sem.run_bind, hrun, Result.andThen_ok, Sem.run_pure], rfl⟩, hd⟩
            · cases he
          · cases he
        · cases he
  case call c =>
    obtain ⟨callee, ⟨yoi⟩, ⟨ts⟩⟩ := c
    simp only [y8, zem] at hn
    split at hn
    · rename_i x t
      exfalso
      repeat' split at hn
      all_goals first
        | (cases hn; done)
        | (simp only [yot] at hn; subst hn; simp [AOp.acts] at hk; done)
    · rename_i x y t u
      have hx := hv x (by simp [Op.operands, Call.operands])
      have hy := hv y (by simp [Op.operands, Call.operands])
      cases hut : P.underlying t with
      | none => rw [hut] at hn; cases hn
      | some d =>
        rw [hut] at hn
        cases d <;> simp only [reduceCtorEq] at hn
        rename_i e
        cases hz : ge P e with
        | none => rw [hz] at hn; cases hn
        | some n =>
          cases hb : zl8 P e with
          | none => rw [hz, hb] at hn; cases hn
          | some bb =>
            cases hzz : zg1 P e with
            | none => rw [hz, hb, hzz] at hn; cases hn
            | some z =>
              rw [hz, hb, hzz] at hn
              simp only at hn
              split at hn
              · rename_i hcond
                simp only [yot] at hn; subst hn
                simp only [evOp] at he
                obtain ⟨cv, w', hrun, hd⟩ := zvy (P := P) hm hs hut hz hb hzz hcond.2.2.1 hcond.1 hcond.2.1 hcond.2.2.2.1 hcond.2.2.2.2 hx hy (ty := ty) he
                refine ⟨cv, w', .inl ?_, hd⟩
                simp only [execOp, resolve, List.map_toArray, ypr, List.map_nil, Sem.run_bind, Sem.run_pure, Result.andThen_ok, invoke, builtin]
                rw [hrun]
                rfl
              · cases hn
    · split at hn
      · simp only [yot] at hn; subst hn; simp [AOp.acts] at hk
      · cases hn
    · split at hn
      · simp only [yot] at hn; subst hn; simp [AOp.acts] at hk
      · cases hn
    · split at hn
      · simp only [yot] at hn; exact absurd hn.symm (hcall _ _)
      · cases hn
    · simp only [yot] at hn; exact absurd hn.symm (hcallv _ _)
    · cases hn
  case binOp op t x y yt =>
    exfalso
    have eqs : ∀ neg, zek P neg t x y = some ao → False := by
      intro neg hne
      unfold zek at hne
      repeat' split at hne
      all_goals first
        | (cases hne; done)
        | (simp only [yot] at hne; subst hne; simp [AOp.acts] at hk; done)
        | (obtain ⟨z, _, rfl⟩ := zo hne; simp [AOp.acts] at hk; done)
    simp only [y8] at hn
    cases op <;> simp only at hn
    case eql => exact eqs false hn
    case neq => exact eqs true hn
    all_goals
      split at hn
      · simp only [yot] at hn; subst hn; simp [AOp.acts] at hk
      · cases hn
  case makeFunc fn a b =>
    exfalso
    cases fn <;> simp only [y8, reduceCtorEq, yot] at hn
    subst hn; simp [AOp.acts] at hk
  case makeMap t r =>
    exfalso
    have hn : zbv (P.underlying t) r = some ao := hn
    rw [zfg hn] at hk
    simp [AOp.acts] at hk
  case slice t x lo hi mx =>
    exfalso
    cases mx with
    | some y => simp [y8] at hn
    | none =>
      simp only [y8] at hn
      repeat' split at hn
      all_goals first
        | (cases hn; done)
        | (simp only [yot] at hn; subst hn; simp [AOp.acts] at hk; done)
        | (obtain ⟨z, _, hn⟩ := yo6.1 hn
           split at hn <;> first | (cases hn; done) | (simp only [yot] at hn; subst hn; simp [AOp.acts] at hk; done))
  all_goals
    exfalso
    simp only [y8, reduceCtorEq] at hn
    try (
      repeat' split at hn
      all_goals first
        | (cases hn; done)
        | (simp only [yot] at hn; subst hn; simp [AOp.acts] at hk; done)
        | (obtain ⟨z, _, rfl⟩ := zo hn; simp [AOp.acts] at hk; done)
        | (obtain ⟨z, _, hn⟩ := yo6.1 hn
           split at hn <;> first | (cases hn; done) | (simp only [yot] at hn; subst hn; simp [AOp.acts] at hk; done)))
end Go.Proofs.YtljdbheclfaloaaGreatDoor.AM
namespace Go.Proofs.YtljdbheclfaloaaGreatDoor.AM
open Go.RowKit
set_option linter.unusedSimpArgs false
set_option linter.unusedVariables false
variable {P:Program} {G N:Nat} {σ:Emb} {g:Mem} {w:World} {h:Heap}
def zd7 (P:Program) (G N:Nat) (call:vf):Prop:=
 ∀f args h v h',call f args h=some (v,h')→∀(σ:Emb) (g:Mem) (w:World) (cargs:List Value),Sub g h→MR G N σ g w→VRs σ g args cargs→
  zov P f=true∧Calls P f ⟨cargs⟩ w fun e w'=>∃cv,e=.returned cv∧Done G N σ g w h v h' cv w'
theorem zl4 {f:FuncId} (h:zov P f=true) (args:Array Value):(callFunc f args).run P w=.ok (.enter f args) w:=by
 unfold zov at h
 cases hf:P.funcs[f]? with
 | none=>rw [hf] at h;cases h
 | some fn=>
  rw [hf] at h
  simp only [ypi,bne_iff_ne,ne_eq] at h
  obtain ⟨h1,h2⟩:=h
  have h3:fn.body.isNone=false:=by cases hb:fn.body <;> simp_all
  simp only [callFunc,Sem.run_bind,run_program,Result.andThen_ok,hf]
  simp [h2,h3]
theorem ztn {ty : TypeId} {op : Op} {ao : AOp} (hn : y8 P ty op = some ao) (hk : (∃ f l, ao = .call f l) ∨ ∃ f l, ao = .callv f l) : ∃ c, op = .call c := by
  have hno : (∀ f l, ao ≠ .call f l) → (∀ f l, ao ≠ .callv f l) → False := fun h1 h2 => by
    rcases hk with ⟨f, l, e⟩ | ⟨f, l, e⟩
    · exact h1 _ _ e
    · exact h2 _ _ e
  cases op
  case call c => exact ⟨c, rfl⟩
  case binOp op t x y yt =>
    exfalso
    have eqs : ∀ neg, zek P neg t x y = some ao → False := by
      intro neg hne
      unfold zek at hne
      repeat' split at hne
      all_goals first
        | (cases hne; done)
        | (simp only [yot] at hne; subst hne; exact hno (by simp) (by simp))
        | (obtain ⟨z, _, rfl⟩ := zo hne; exact hno (by simp) (by simp))
    simp only [y8] at hn
    cases op <;> simp only at hn
    case eql => exact eqs false hn
    case neq => exact eqs true hn
    all_goals
      split at hn
      · simp only [yot] at hn; subst hn; exact hno (by simp) (by simp)
      · cases hn
  case makeFunc fn a b =>
    exfalso
    cases fn <;> simp only [y8, reduceCtorEq, yot] at hn
    subst hn; exact hno (by simp) (by simp)
  case makeMap t r =>
    exfalso
    have hn : zbv (P.underlying t) r = some ao := hn
    rw [zfg hn] at hno
    exact hno (by simp) (by simp)
  case slice t x lo hi mx =>
    exfalso
    cases mx with
    | some y => simp [y8] at hn
    | none =>
      simp only [y8] at hn
      repeat' split at hn
      all_goals first
        | (cases hn; done)
        | (simp only [yot] at hn; subst hn; exact hno (by simp) (by simp))
        | (obtain ⟨z, _, hn⟩ := yo6.1 hn
           split at hn <;> first | (cases hn; done) | (simp only [yot] at hn; subst hn; exact hno (by simp) (by simp)))
  all_goals
    exfalso
    simp only [y8, reduceCtorEq] at hn
    try (
      repeat' split at hn
      all_goals first
        | (cases hn; done)
        | (simp only [yot] at hn; subst hn; exact hno (by simp) (by simp))
        | (obtain ⟨z, _, rfl⟩ := zo hn; exact hno (by simp) (by simp))
        | (obtain ⟨z, _, hn⟩ := yo6.1 hn
           split at hn <;> first | (cases hn; done) | (simp only [yot] at hn; subst hn; exact hno (by simp) (by simp))))
theorem yl7 {call:vf} (hF:zd7 P G N call) (hm:MR G N σ g w) (hs:Sub g h) {o:Oper} {ao:AOp} (hn:y8 P o.type o.op=some ao) {ρ:Operand→Value} {a:Act}
  (hv:∀x∈o.op.operands,VR σ g (ρ x) (a.eval x)) (hc:∀v,ρ (.const v)=v) (hfn:∀f,ρ (.func f)=.func (.func f) #[] #[]) {v:Value} {h':Heap} (he:evOp call ρ h ao=some (v,h'))
  {next:Act→World→Prop} {Q:Exit→Act→World→Prop} (hnext:∀cv w',Done G N σ g w h v h' cv w'→next (a.put o.dst cv) w'):o.wp P a w next Q:=by
 unfold Oper.wp
 by_cases hacts:ao.acts=true
 ·by_cases hcl:∃f l,ao=.call f l
  ·obtain ⟨f,l,rfl⟩:=hcl
   obtain ⟨dst,op,ty,pos,after,guard⟩:=o
   obtain ⟨c,rfl⟩:∃c,op=.call c:=ztn hn (.inl ⟨f,l,rfl⟩)
   ·obtain ⟨callee,⟨yoi⟩,⟨ts⟩⟩:=c
    simp only [y8,zem] at hn
    have hcall:callee=.value (.func f)∧yoi=l:=by
     split at hn
     ·repeat' split at hn
      all_goals first | (cases hn;done)
     ·repeat' split at hn
      all_goals first | (cases hn;done)
     ·split at hn <;> cases hn
     ·split at hn <;> cases hn
     ·split at hn
      ·simp only [yot,AOp.call.injEq] at hn;obtain ⟨rfl,rfl⟩:=hn;exact ⟨rfl,rfl⟩
      ·cases hn
     ·cases hn
     ·cases hn
    obtain ⟨rfl,rfl⟩:=hcall
    simp only [evOp] at he
    have hargs:VRs σ g (yoi.map ρ) (yoi.map a.eval):=zqs fun x hx=>hv x (by simp [Op.operands,Call.operands,hx])
    obtain ⟨hent,hcalls⟩:=hF _ _ _ _ _ he σ g w _ hs hm hargs
    have hrun:(execOp a.eval ⟨dst,.call ⟨.value (.func f),⟨yoi⟩,⟨ts⟩⟩,ty,pos,after,guard⟩).run P w=.ok (.enter f ⟨yoi.map a.eval⟩) w:=by
     simp only [execOp,resolve,Sem.run_bind,Deferred.ofValue,Act.eval,Sem.run_pure,Result.andThen_ok,invoke]
     rw [zl4 hent]
     simp
    rw [hrun]
    refine hcalls.mono fun e w' hh=> ?_
    obtain ⟨cv,rfl,hd⟩:=hh
    exact hnext cv w' hd
  ·by_cases hcl':∃f l,ao=.callv f l
   ·obtain ⟨f,l,rfl⟩:=hcl'
    obtain ⟨dst,op,ty,pos,after,guard⟩:=o
    obtain ⟨c,rfl⟩:∃c,op=.call c:=ztn hn (.inr ⟨f,l,rfl⟩)
    obtain ⟨callee,⟨yoi⟩,⟨ts⟩⟩:=c
    simp only [y8,zem] at hn
    have hcall:callee=.value f∧yoi=l:=by
     split at hn
     ·repeat' split at hn
      all_goals first | (cases hn;done)
     ·repeat' split at hn
      all_goals first | (cases hn;done)
     ·split at hn <;> cases hn
     ·split at hn <;> cases hn
     ·split at hn <;> cases hn
     ·simp only [yot,AOp.callv.injEq] at hn;obtain ⟨rfl,rfl⟩:=hn;exact ⟨rfl,rfl⟩
     ·cases hn
    obtain ⟨rfl,rfl⟩:=hcall
    have hf:=hv f (by simp [Op.operands,Call.operands])
    simp only [evOp] at he
    split at he
    ·rename_i gid fa fb hfv
     rw [hfv] at hf
     generalize hcf:a.eval f=cf at hf
     cases hf with
     | func _ xs ys us vs hx hu=>
      have hargs:VRs σ g (yoi.map ρ) (yoi.map a.eval):=zqs fun x hx=>hv x (by simp [Op.operands,Call.operands,hx])
      obtain ⟨hent,hcalls⟩:=hF _ _ _ _ _ he σ g w _ hs hm ((hx.append hargs).append hu)
      have hrun:(execOp a.eval ⟨dst,.call ⟨.value f,⟨yoi⟩,⟨ts⟩⟩,ty,pos,after,guard⟩).run P w=.ok (.enter gid ⟨ys++yoi.map a.eval++vs⟩) w:=by
       simp only [execOp,resolve,Sem.run_bind,hcf,Deferred.ofValue,Sem.run_pure,Result.andThen_ok,invoke]
       rw [zl4 hent]
       simp
      rw [hrun]
      refine hcalls.mono fun e w' hh=> ?_
      obtain ⟨cv,rfl,hd⟩:=hh
      exact hnext cv w' hd
    ·cases he
   ·obtain ⟨cv,w',hrun,hd⟩:=ym5 call hm hs hn hacts hv he (fun f l e=>hcl ⟨f,l,e⟩) (fun f l e=>hcl' ⟨f,l,e⟩)
    rcases hrun with hrun | ⟨hrun,rfl⟩
    ·rw [hrun];exact hnext cv w' hd
    ·rw [hrun];exact hnext undef w' hd
 ·by_cases hmakes:ao.makes=true
  ·obtain ⟨cv,w',hrun,hd⟩:=yln call hm hs hn hmakes hv (fun v=>⟨hc v,rfl⟩) he
   rw [hrun];exact hnext cv w' hd
  ·obtain ⟨rfl,cv,hrun,hvr⟩:=zxa call hm hs hn (by simpa using hacts) (by simpa using hmakes) hv (fun v=>⟨hc v,rfl⟩) he
   rw [hrun];exact hnext cv w (Done.same hm hs hvr)
end Go.Proofs.YtljdbheclfaloaaGreatDoor.AM
namespace Go.Proofs.YtljdbheclfaloaaGreatDoor.AM
open Go.RowKit
set_option linter.unusedSimpArgs false
set_option linter.unusedVariables false
variable {P:Program} {G N:Nat} {σ:Emb} {g:Mem} {w:World} {h:Heap}
def To (G N:Nat) (σ:Emb) (g:Mem) (w:World) (h:Heap) (s':St) (a':Act) (w':World):Prop:=∃σ',
 Go N σ g w σ' (grow g h s'.h) w'∧MR G N σ' (grow g h s'.h) w'∧VRs σ' (grow g h s'.h) s'.t a'.tmps.toList∧Holes g h s'.h∧a'.defers=[]
theorem yhz {σ':Emb} {h':Heap} (hs:Sub g h) (he:Ext σ g σ' (grow g h h')) (hg:∀i,g i≠some .gone):∀i,i<h.length→g i≠none→h'[i]?≠none:=by
 intro i hi hne
 cases hgi:g i with
 | none=>exact absurd hgi hne
 | some o=>
  cases o with
  | cells vals ver ro=>
   obtain ⟨vals',ver',h1,_⟩:=he.cells _ _ _ _ hgi
   unfold grow at h1;rw [if_pos hi,hgi] at h1
   simp only at h1
   rw [h1];simp
  | map es=>
   obtain ⟨es',h1,_⟩:=he.map _ _ hgi
   unfold grow at h1;rw [if_pos hi,hgi] at h1
   simp only at h1
   rw [h1];simp
  | gone=>exact absurd hgi (hg i)
theorem MR.noGone (hm:MR G N σ g w):∀i,g i≠some .gone:=fun i hi=>by cases hm.obj _ _ hi
theorem To.trans {s₁ s₂:St} {a₁ a₂:Act} {w₁ w₂:World} {σ₁:Emb} (hm0:MR G N σ g w) (hs0:Sub g h) (hgo:Go N σ g w σ₁ (grow g h s₁.h) w₁) (hh:Holes g h s₁.h)
  (h2:To G N σ₁ (grow g h s₁.h) w₁ s₁.h s₂ a₂ w₂):To G N σ g w h s₂ a₂ w₂:=by
 obtain ⟨σ₂,hgo2,hm2,hv2,hh2,hd2⟩:=h2
 have e:=zzo (h₃:=s₂.h) hh (yhz hs0 hgo.ext hm0.noGone)
 rw [e] at hgo2 hm2 hv2
 exact ⟨σ₂,hgo.trans hgo2,hm2,hv2,hh.trans hh2,hd2⟩
theorem To.refl {s:St} {a:Act} (hm:MR G N σ g w) (hs:Sub g s.h) (hv:VRs σ g s.t a.tmps.toList) (hd:a.defers=[]):To G N σ g w s.h s a w:=by
 refine ⟨σ,?_,?_,?_,.refl _ _,hd⟩<;> rw [zfe hs]
 ·exact .refl _ _ _ _
 ·exact hm
 ·exact hv
theorem yep (hm:MR G N σ g w) {s:St} {a:Act} (hv:VRs σ g s.t a.tmps.toList) {x:Operand} (hx:zcw G x=true):VR σ g (s.eval x) (a.eval x):=by
 cases x with
 | tmp t=>
  have:=hv.getD t
  simp only [St.eval,Act.eval]
  rw [show a.tmps.getD t undef=a.tmps.toList.getD t undef from by simp [yph,ypg]]
  exact this
 | const v=>exact .plain hx
 | global g'=>
  obtain ⟨vals,h1,h2,h3⟩:=hm.glob g' (by simpa [zcw] using hx)
  refine .ptr _ _ 0 vals 0 true rfl h1 (yoz _) fun _=> ?_
  simp only
  rw [h2,h3]
 | func f=>exact .func _ [] [] [] [] .nil .nil
theorem ybh {σ':Emb} {g':Mem} {s:St} {a:Act} (hv:VRs σ' g' s.t a.tmps.toList) {v cv:Value} (hvr:VR σ' g' v cv) (d:Option Nat) (h':Heap):
  VRs σ' g' (s.put d v h').t (a.put d cv).tmps.toList:=by
 cases d with
 | none=>exact hv
 | some d=>
  simp only [St.put,Act.put]
  rw [Array.toList_setIfInBounds]
  exact hv.set d hvr
theorem ydr (s:St) (d:Option Nat) (v:Value) (h':Heap):(s.put d v h').h=h':=by cases d <;> rfl
theorem zid (a:Act) (d:Option Nat) (v:Value):(a.put d v).defers=a.defers:=by cases d <;> rfl
theorem yd9 {s:St} {a:Act} (hv:VRs σ g s.t a.tmps.toList) {ops:Array Oper} {o:Oper} {gd:Option (Nat×Bool)} (hg:zf1 ops o.guard=some gd):
  Region.wanted o (yielded ops a.tmps)=zlx s gd:=by
 unfold zf1 at hg
 unfold Region.wanted
 split at hg
 ·rename_i hq
  simp only [yot] at hg;subst hg
  rw [hq];rfl
 ·rename_i j b hq
  split at hg
  ·rename_i t ht
   simp only [yot] at hg;subst hg
   rw [hq]
   simp only [yielded,ht,Option.bind_some,zlx]
   have hg:=hv.getD t
   have e:a.tmps[t]?=a.tmps.toList[t]?:=by simp
   rw [ypg,ypg] at hg
   rw [e,ypg]
   cases hc:a.tmps.toList[t]? with
   | none=>
    rw [hc] at hg
    cases hu:s.t[t]? with
    | none=>rfl
    | some u=>
     obtain ⟨c,hc',_⟩:=hv.get hu
     rw [hc] at hc';cases hc'
   | some c=>
    obtain ⟨u,hu,_⟩:=hv.get' hc
    rw [hc,hu] at hg
    rw [hu]
    simp only [Option.getD_some] at hg ⊢
    cases hg <;> first | rfl | (rename_i bb;cases bb <;> cases b <;> rfl)
  ·cases hg
theorem zcr {ops:Array Oper} {o:Oper} {ao:gi} (h:zie P G ops o=some ao):
  (∀x∈o.op.operands,zcw G x=true)∧y8 P o.type o.op=some ao.op∧zf1 ops o.guard=some ao.guard∧ao.dst=o.dst:=by
 unfold zie at h
 split at h
 ·rename_i hall
  refine ⟨fun x hx=>yp9.1 hall x (yqj.2 hx),?_⟩
  split at h
  ·rename_i a gd ha hg
   simp only [yot] at h
   subst h
   exact ⟨ha,hg,rfl⟩
  ·cases h
 ·cases h
theorem yj4 {call:vf} (hF:zd7 P G N call) (hm:MR G N σ g w) {s s':St} (hs:Sub g s.h) {a:Act} (hv:VRs σ g s.t a.tmps.toList) (hd:a.defers=[]) {ops:Array Oper} {i:Nat} {o:Oper} {ao:gi} (hi:ops[i]?=some o)
  (hn:zie P G ops o=some ao) (he:zcu call ao s=some s') {next:Act→World→Prop} {Q:Exit→Act→World→Prop} (hnext:∀a' w',To G N σ g w s.h s' a' w'→next a' w'):wpOp P ops Q i next a w:=by
 obtain ⟨hok,hop,hgd,hdst⟩:=zcr hn
 unfold wpOp
 rw [hi]
 simp only
 rw [yd9 hv hgd]
 unfold zcu at he
 by_cases hw:zlx s ao.guard=true
 ·rw [if_pos hw] at he
  rw [if_pos hw]
  obtain ⟨⟨v,h'⟩,hev,rfl⟩:=zo he
  left
  refine yl7 hF hm hs hop (fun x hx=>yep hm hv (hok x hx)) (fun v=>rfl) (fun f=>rfl) hev fun cv w' hdone=>hnext _ _ ?_
  obtain ⟨σ',h1,h2,h3,h4⟩:=hdone
  rw [hdst]
  refine ⟨σ',?_,?_,?_,?_,by rw [zid];exact hd⟩<;> rw [ydr]
  ·exact h1
  ·exact h2
  ·exact ybh (hv.ext h1.ext) h3 _ _
  ·exact h4
 ·rw [if_neg hw] at he
  rw [if_neg hw]
  simp only [yot] at he
  subst he
  refine hnext _ _ ?_
  rw [hdst]
  have:=To.refl (s:=s.put o.dst undef s.h) (a:=a.put o.dst undef) hm (by rw [ydr];exact hs) (ybh hv (.tuple [] [] .nil) _ _) (by rw [zid];exact hd)
  rw [ydr] at this
  exact this
theorem zdg {ops:Array Oper}:∀{l:List Oper} {yoi:List gi},zdt P G ops l=some yoi→yoi.length=l.length∧∀(i:Nat) o,l[i]?=some o→∃ao,yoi[i]?=some ao∧zie P G ops o=some ao
 | [],yoi,h=>by
  simp only [zdt,yot] at h;subst h
  exact ⟨rfl,fun i o hi=>by simp at hi⟩
 | o::l,yoi,h=>by
  unfold zdt at h
  split at h
  ·rename_i a as' ha has
   simp only [yot] at h;subst h
   obtain ⟨h1,h2⟩:=zdg has
   refine ⟨by simp [h1],fun i q hi=> ?_⟩
   cases i with
   | zero=>simp at hi;subst hi;exact ⟨a,rfl,ha⟩
   | succ i=>exact h2 i q (by simpa using hi)
  ·cases h
theorem yc4 {call:vf} (hF:zd7 P G N call) {ops:Array Oper} {yoi:List gi} (hn:zdt P G ops ops.toList=some yoi) {Q:Exit→Act→World→Prop}:∀(k i:Nat) (σ:Emb) (g:Mem) (w:World) (s s':St) (a:Act),
  i+k=ops.size→MR G N σ g w→Sub g s.h→VRs σ g s.t a.tmps.toList→a.defers=[]→f7 call (yoi.drop i) s=some s'→(∀a' w',To G N σ g w s.h s' a' w'→Q .normal a' w')→wpOps P ops Q (List.range' i k) a w:=by
 obtain ⟨hlen,hget⟩:=zdg hn
 intro k
 induction k with
 | zero=>
  intro i σ g w s s' a hik hm hs hv hd he hq
  rw [yo5 (by rw [hlen];simp;omega)] at he
  simp only [f7,yot] at he
  subst he
  exact hq _ _ (To.refl hm hs hv hd)
 | succ k ih=>
  intro i σ g w s s' a hik hm hs hv hd he hq
  have hilt:i<ops.size:=by omega
  obtain ⟨ao,hao,hno⟩:=hget i ops[i] (by simp [hilt])
  have hdrop:yoi.drop i=ao::yoi.drop (i+1):=by
   have hlt:i<yoi.length:=by rw [hlen];simpa using hilt
   rw [ypo hlt]
   congr 1
   exact (yoq.1 hao).2
  rw [hdrop] at he
  simp only [f7] at he
  obtain ⟨s1,h1,h2⟩:=yo6.1 he
  rw [List.range'_succ,wpOps_cons]
  refine yj4 hF hm hs hv hd (by simp [hilt]) hno h1 fun a1 w1 hto=> ?_
  obtain ⟨σ1,g1,m1,v1,hh1,d1⟩:=hto
  exact ih (i+1) σ1 _ w1 s1 s' a1 (by omega) m1 (zjv _ _ _) v1 d1 h2 fun a' w' ht=>hq a' w' (To.trans (a₁:=a1) hm hs g1 hh1 ht)
end Go.Proofs.YtljdbheclfaloaaGreatDoor.AM
