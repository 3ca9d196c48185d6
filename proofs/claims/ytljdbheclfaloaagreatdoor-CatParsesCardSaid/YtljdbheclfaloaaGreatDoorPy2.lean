/-
  Part 2.
  Conditions: as each says.
-/
import Derived.Test.YtljdbheclfaloaaGreatDoorPy1
import Derived.LoopN
import Derived.OpenShut
import Derived.ChangeOld
import Derived.ChangeArms
import Derived.Carry
import Derived.Shelf.Small.Strs
import Derived.Shelf.Small.Wraps
import Derived.Shelf.LaysM
import Derived.Shelf.Strconv.Clone
import Derived.Shelf.Strconv.SyntaxError
import Derived.Shelf.LaysC
import Derived.Shelf.Strconv.ToError
import Derived.Shelf.Strconv.Lower
import Derived.Shelf.Strconv.RangeError
import Derived.Shelf.Strconv.ToErrorRange
import Derived.Shelf.Strconv.ParseUintEmpty
import Derived.Shelf.Strconv.ParseUint10b64
import Derived.Ground.MpProg
import Derived.Shelf.Pu.ParseUintPublic10
import Derived.Shelf.Strings.Search1
import Derived.Shelf.Strings.Search2
import Derived.Shelf.Strings.Search3
import Derived.Shelf.Strings.Shaped
import Derived.Shelf.Strings.Prefix
import Derived.Test.YtljdbheclfaloaaGreatDoorProg
import Derived.KernelRfl
import Derived.Lib.Strings
import Derived.Lib.Walk
import Derived.Lib.ConvBytes
import Derived.Lib.AtoiAllMem
import Derived.Lib.Hide
import Derived.Laws.Strings3
import Derived.Laws.Closers25
import Derived.Laws.Closers25b
import Derived.WalkKit
import Derived.BigCall
import Derived.BigGuard
open List renaming getElem?_eq_some_iff→yoq,getElem?_set_ne→you,getElem?_eq_getElem→yow,getElem?_set_self→yox,drop_eq_nil_of_le→yo5,length_append→yo8,getElem?_append_left→yo9,length_cons→ypb,length_map→ypd,mem_append→ype,length_drop→ypf,getD_eq_getElem?_getD→ypg,eq_nil_of_length_eq_zero→ypj,append_nil→ypl,getElem?_append_right→ypn,drop_eq_getElem_cons→ypo,map_cons→ypr,length_take→ypt,getElem?_eq_none→ypv,mem_singleton→ypw,mem_cons→ypx,take_of_length_le→ypy,getElem?_take→yp0,getElem?_map→yp1,mem_of_getElem?→yp3,append_assoc→yp4,all_eq_true→yp9,length_eq_zero_iff→yqh,mem_of_mem_take→yqi
open Nat renaming le_refl→yoz,add_zero→yqe,le_trans→yqf
open Option.some renaming injEq→yot,inj→yqc
open Bool renaming false_eq_true→yoy,and_eq_true→ypi,false_or→ypz,true_and→yp2,or_eq_true→yqa,true_or→yqg
open And renaming intro→yo0
open Prod.mk renaming injEq→yo2
open Option renaming bind_eq_some_iff→yo6,map_eq_some_iff→ypm,map_some→yp6
open Array renaming getD_eq_getD_getElem?→yph,getElem?_eq_some_iff→ypp,mem_toList_iff→yqj
namespace Go.Proofs.YtljdbheclfaloaaGreatDoor.AM
open Go.RowKit
set_option linter.unusedSimpArgs false
set_option linter.unusedVariables false
variable {P:Program} {G N:Nat} {σ:Emb} {g:Mem} {w:World} {h:Heap}
def bits (b:List Nat) (i j:Nat):Bool:=(b.getD i 0).testBit j
theorem zta (acc:Array Nat):∀(l:List Edge) (s j:Nat),(l.foldl (fun s e=>if Region.binds .any e then s ||| 2 ^ e.on ||| acc.getD e.on 0 else s) s).testBit j=true↔
  s.testBit j=true∨∃e∈l,Region.binds .any e=true∧(j=e.on∨(acc.getD e.on 0).testBit j=true)
 | [],s,j=>by simp
 | e::l,s,j=>by
  rw [List.foldl_cons,zta acc l]
  by_cases hb:Region.binds .any e=true
  ·rw [if_pos hb]
   simp only [Nat.testBit_or,Nat.testBit_two_pow,yqa,decide_eq_true_eq,ypx]
   constructor
   ·rintro ((((h | h) | h)) | ⟨e',he',h⟩)
    ·exact .inl h
    ·exact .inr ⟨e,.inl rfl,hb,.inl h.symm⟩
    ·exact .inr ⟨e,.inl rfl,hb,.inr h⟩
    ·exact .inr ⟨e',.inr he',h⟩
   ·rintro (h | ⟨e',rfl | he',hb',h⟩)
    ·exact .inl (.inl (.inl h))
    ·rcases h with h | h
     ·exact .inl (.inl (.inr h.symm))
     ·exact .inl (.inr h)
    ·exact .inr ⟨e',he',hb',h⟩
  ·rw [if_neg hb]
   simp only [ypx]
   constructor
   ·rintro (h | ⟨e',he',h⟩)
    ·exact .inl h
    ·exact .inr ⟨e',.inr he',h⟩
   ·rintro (h | ⟨e',rfl | he',hb',h⟩)
    ·exact .inl h
    ·exact absurd hb' hb
    ·exact .inr ⟨e',he',hb',h⟩
theorem zn8:∀(l:List Oper) (acc:Array Nat),
  (l.foldl (fun acc o=>acc.push (o.after.foldl (fun s e=>if Region.binds .any e then s ||| 2 ^ e.on ||| acc.getD e.on 0 else s) 0)) acc).size=acc.size+l.length∧
  (∀i,i<acc.size→(l.foldl (fun acc o=>acc.push (o.after.foldl (fun s e=>if Region.binds .any e then s ||| 2 ^ e.on ||| acc.getD e.on 0 else s) 0)) acc).getD i 0=acc.getD i 0)∧
  ∀(k:Nat) o,l[k]?=some o→∃ak:Array Nat,ak.size=acc.size+k∧
   (∀i,i<ak.size→ak.getD i 0=(l.foldl (fun acc o=>acc.push (o.after.foldl (fun s e=>if Region.binds .any e then s ||| 2 ^ e.on ||| acc.getD e.on 0 else s) 0)) acc).getD i 0)∧
   (l.foldl (fun acc o=>acc.push (o.after.foldl (fun s e=>if Region.binds .any e then s ||| 2 ^ e.on ||| acc.getD e.on 0 else s) 0)) acc).getD (acc.size+k) 0=
    o.after.foldl (fun s e=>if Region.binds .any e then s ||| 2 ^ e.on ||| ak.getD e.on 0 else s) 0
 | [],acc=>⟨by simp,fun _ _=>rfl,fun k o h=>by simp at h⟩
 | o::l,acc=>by
  obtain ⟨h1,h2,h3⟩:=zn8 l (acc.push (o.after.foldl (fun s e=>if Region.binds .any e then s ||| 2 ^ e.on ||| acc.getD e.on 0 else s) 0))
  simp only [Array.size_push] at h1 h2 h3
  have hpush:∀(x i:Nat),i<acc.size→(acc.push x).getD i 0=acc.getD i 0:=by
   intro x i hi
   rw [yph,yph,Array.getElem?_push,if_neg (by omega)]
  have hlast:∀(x:Nat),(acc.push x).getD acc.size 0=x:=by
   intro x;rw [yph];simp
  simp only [List.foldl_cons,ypb]
  refine ⟨by omega,fun i hi=>by rw [h2 i (by omega),hpush _ i hi],fun k q hk=> ?_⟩
  cases k with
  | zero=>
   simp at hk;subst hk
   refine ⟨acc,rfl,fun i hi=> ?_,?_⟩
   ·rw [h2 i (by omega),hpush _ i hi]
   ·rw [yqe,h2 acc.size (by omega),hlast]
  | succ k=>
   obtain ⟨ak,a1,a2,a3⟩:=h3 k q (by simpa using hk)
   exact ⟨ak,by omega,a2,by rw [show acc.size+(k+1)=acc.size+1+k from by omega];exact a3⟩
theorem zoo {ops:Array Oper} {i:Nat} {o:Oper} (hi:ops[i]?=some o):
  (∀e∈o.after,Region.binds .any e=true→bits (Region.before ops).toList i e.on=true)∧
  ∀j,bits (Region.before ops).toList i j=true→∃e∈o.after,Region.binds .any e=true∧(j=e.on∨bits (Region.before ops).toList e.on j=true):=by
 obtain ⟨h1,h2,h3⟩:=zn8 ops.toList #[]
 obtain ⟨ak,a1,a2,a3⟩:=h3 i o (by simpa using hi)
 have e0:Region.before ops=ops.toList.foldl (fun acc o=>acc.push (o.after.foldl (fun s e=>if Region.binds .any e then s ||| 2 ^ e.on ||| acc.getD e.on 0 else s) 0)) #[]:=by
  unfold Region.before
  rw [←Array.foldl_toList]
 rw [←e0] at h1 h2 a2 a3
 have hget:∀k,(Region.before ops).toList.getD k 0=(Region.before ops).getD k 0:=fun k=>by simp [yph,ypg]
 simp only [Array.size_empty,Nat.zero_add] at a1 a3
 rw [←Array.foldl_toList] at a3
 have key:∀j,bits (Region.before ops).toList i j=true↔∃e∈o.after.toList,Region.binds .any e=true∧(j=e.on∨(ak.getD e.on 0).testBit j=true):=by
  intro j
  unfold bits
  rw [hget,a3,zta]
  simp
 constructor
 ·intro e he hb
  exact (key _).2 ⟨e,yqj.2 he,hb,.inl rfl⟩
 ·intro j hj
  obtain ⟨e,he,hb,h⟩:=(key j).1 hj
  refine ⟨e,yqj.1 he,hb,h.imp id fun h=> ?_⟩
  unfold bits
  rw [hget]
  by_cases hlt:e.on<ak.size
  ·rw [←a2 e.on hlt];exact h
  ·rw [yph,Array.getElem?_eq_none (by omega)] at h
   simp at h
theorem zp8 {call : vf} {ρ : Operand → Value} {ao : AOp} (h1 : ao.acts = false) (h2 : ao.makes = false) (h3 : ao.reads = false) {h h₁ : Heap} {v : Value} {h' : Heap} (ha : ∀ a t, ao ≠ .again1 a t) (hb : ∀ n a t, ao ≠ .again n a t)
    (he : evOp call ρ h ao = some (v, h')) : h' = h ∧ evOp call ρ h₁ ao = some (v, h₁) := by
  cases ao <;> simp only [AOp.acts, AOp.makes, AOp.reads, Bool.true_eq_false] at h1 h2 h3 <;> (try (exact absurd rfl (ha _ _))) <;> (try (exact absurd rfl (hb _ _ _)))
  case max2 x y =>
    simp only [evOp] at he ⊢
    cases hx : ρ x <;> simp only [hx, reduceCtorEq] at he ⊢
    cases hy : ρ y <;> simp only [hy, reduceCtorEq] at he ⊢
    simp only [yot, yo2] at he ⊢
    obtain ⟨rfl, rfl⟩ := he
    exact ⟨rfl, rfl, trivial⟩
  case min2 x y =>
    simp only [evOp] at he ⊢
    cases hx : ρ x <;> simp only [hx, reduceCtorEq] at he ⊢
    cases hy : ρ y <;> simp only [hy, reduceCtorEq] at he ⊢
    simp only [yot, yo2] at he ⊢
    obtain ⟨rfl, rfl⟩ := he
    exact ⟨rfl, rfl, trivial⟩
  all_goals
    simp only [evOp] at he ⊢
    first
      | (simp only [yot, yo2] at he; obtain ⟨rfl, rfl⟩ := he; exact ⟨rfl, rfl⟩)
      | (obtain ⟨r, hr, he⟩ := zo he; simp only [yo2] at he; obtain ⟨rfl, rfl⟩ := he; exact ⟨rfl, by simp [hr]⟩)
      | (repeat' split at he
         all_goals first
           | (cases he; done)
           | (simp only [yot, yo2] at he; obtain ⟨rfl, rfl⟩ := he; exact ⟨rfl, by simp_all⟩)
           | (obtain ⟨r, hr, he⟩ := zo he; simp only [yo2] at he; obtain ⟨rfl, rfl⟩ := he; exact ⟨rfl, by simp_all⟩))
theorem qe {h:Heap} {o:AObj} {i:Nat} {x:AObj} (hi:h[i]?=some x):(h++[o])[i]?=some x:=by
 rw [yo9 (yoq.1 hi).1];exact hi
theorem zsg {call:vf} {ρ:Operand→Value} {ao:AOp} (h3:ao.reads=true) {h:Heap} {v:Value} (he:evOp call ρ h ao=some (v,h)) (o:AObj):evOp call ρ (h++[o]) ao=some (v,h++[o]):=by
 cases ao <;> simp only [AOp.reads,yoy] at h3
 case load1 a=>
  simp only [evOp] at he ⊢
  split at he
  ·obtain ⟨r,hr,he⟩:=zo he
   simp only [yo2,and_true] at he
   subst he
   unfold Heap.read1 at hr ⊢
   split at hr
   ·rename_i hq
    rw [qe hq]
    simp only
    rw [hr];rfl
   ·cases hr
  ·cases he
 case load n a=>
  simp only [evOp] at he ⊢
  split at he
  ·obtain ⟨r,hr,he⟩:=zo he
   simp only [yo2,and_true] at he
   subst he
   unfold Heap.read at hr ⊢
   split at hr
   ·rename_i hq
    rw [qe hq]
    simp only
    rw [hr];rfl
   ·cases hr
  ·cases he
 case lookup kk z m k ok=>
  have hm:∀r,zmj h kk (ρ k) (ρ m)=some r→zmj (h++[o]) kk (ρ k) (ρ m)=some r:=by
   intro r hr
   unfold zmj at hr ⊢
   split at hr
   ·exact hr
   ·split at hr
    ·rename_i hq
     rw [qe hq]
     exact hr
    ·cases hr
   ·cases hr
  simp only [evOp] at he ⊢
  by_cases hok:zfl kk (ρ k)=true
  ·rw [if_pos hok] at he ⊢
   cases hq:zmj h kk (ρ k) (ρ m) with
   | none=>rw [hq] at he;cases he
   | some r=>
    rw [hq] at he
    rw [hm r hq]
    cases r <;> simp only [yot,yo2,and_true] at he ⊢ <;> exact he
  ·rw [if_neg hok] at he;cases he
 case lenMap m=>
  simp only [evOp] at he ⊢
  split at he
  ·simp only [yot,yo2,and_true] at he ⊢;exact he
  ·split at he
   ·rename_i hq
    rw [qe hq]
    simp only [yot,yo2,and_true] at he ⊢;exact he
   ·cases he
  ·cases he
 case sliceArr len size x lo hi=>
  simp only [evOp] at he ⊢
  split at he
  ·split at he
   ·rename_i hl hk
    split at he
    ·rename_i hq
     rw [qe hq]
     split at he
     ·rename_i hc
      simp only [if_pos hc,yot,yo2,and_true] at he ⊢;exact he
     ·cases he
    ·cases he
   ·cases he
  ·cases he
end Go.Proofs.YtljdbheclfaloaaGreatDoor.AM
namespace Go.Proofs.YtljdbheclfaloaaGreatDoor.AM
open Go.RowKit
set_option linter.unusedSimpArgs false
set_option linter.unusedVariables false
def zqt (ρ:Operand→Value):Option (Nat×Bool)→Bool
 | none=>true
 | some (t,b)=>match ρ (.tmp t) with
  | .bool c=>c==b
  | _=>false
structure Stat (P:Program) (G:Nat) (ops:Array Oper) (yoi:List gi):Prop where
 norm:zdt P G ops ops.toList=some yoi
 places:zrg ops.toList yoi (Region.before ops).toList=true
 guards:zx4 ops.toList (Region.before ops).toList=true
def nm (ops:Array Oper) (yoi:List gi) (j:Nat):List Nat:=zgb (ops.toList.getD j default) (yoi.getD j xw)
section
variable {P:Program} {G N:Nat} {ops:Array Oper} {yoi:List gi} (S:Stat P G ops yoi)
include S
theorem Stat.len:yoi.length=ops.size:=by
 obtain ⟨h,_⟩:=zdg S.norm;simpa using h
theorem Stat.pair {i j t:Nat} (hi:i<yoi.length) (hj:j<yoi.length) (ht:(yoi.getD i xw).dst=some t):
  (i=j∨(yoi.getD j xw).dst≠some t)∧(t∈nm ops yoi j→bits (Region.before ops).toList j i=true∨bits (Region.before ops).toList i j=true):=by
 have h:=S.places
 unfold zrg at h
 rw [yp9] at h
 have h:=h i (List.mem_range.2 hi)
 rw [yp9] at h
 have h:=h j (List.mem_range.2 hj)
 simp only [ht,ypi,yqa,beq_iff_eq,bne_iff_ne,ne_eq,Bool.not_eq_true'] at h
 obtain ⟨h1,h2⟩:=h
 refine ⟨h1,fun hm=> ?_⟩
 rcases h2 with (h2 | h2) | h2
 ·have:(zgb (ops.toList.getD j default) (yoi.getD j xw)).contains t=true:=List.contains_iff_mem.2 hm
  rw [this] at h2;cases h2
 ·exact .inl h2
 ·exact .inr h2
theorem Stat.uniq {i j t:Nat} (hi:i<yoi.length) (hj:j<yoi.length) (ht:(yoi.getD i xw).dst=some t) (ht':(yoi.getD j xw).dst=some t):i=j:=
 ((S.pair hi hj ht).1).resolve_right fun h=>h ht'
theorem Stat.oper {i:Nat} (hi:i<yoi.length):∃o,ops[i]?=some o∧zie P G ops o=some (yoi.getD i xw)∧ops.toList.getD i default=o:=by
 obtain ⟨hl,hget⟩:=zdg S.norm
 have hlt:i<ops.size:=by rw [←S.len];exact hi
 obtain ⟨ao,hao,hno⟩:=hget i ops[i] (by simp [hlt])
 refine ⟨ops[i],by simp [hlt],?_,by simp [ypg,hlt]⟩
 rw [ypg,hao];exact hno
end
structure RelV (ops:Array Oper) (yoi:List gi) (s0:St) (val:Nat→Value) (i:Nat) (ρ:Operand→Value):Prop where
 far:∀t∈nm ops yoi i,s0.t.length≤t→ρ (.tmp t)=undef
 new:∀t∈nm ops yoi i,∀k,k<yoi.length→(yoi.getD k xw).dst=some t→bits (Region.before ops).toList i k=true→t<s0.t.length→ρ (.tmp t)=val k
 old:∀t∈nm ops yoi i,(∀k,k<yoi.length→(yoi.getD k xw).dst=some t→bits (Region.before ops).toList i k=false)→ρ (.tmp t)=s0.t.getD t undef
 rest:∀x,(∀t,x≠ .tmp t)→ρ x=s0.eval x
def Pend (call:vf) (ops:Array Oper) (yoi:List gi) (s0:St) (val:Nat→Value) (hole:Nat→Option Nat) (g:Mem) (h:Heap) (i:Nat):Prop:=
 ∃ρ,RelV ops yoi s0 val i ρ∧(yoi.getD i xw).op.acts=false∧
  match hole i with
  | some id=>s0.h.length≤id∧g id=none∧zqt ρ (yoi.getD i xw).guard=true∧(yoi.getD i xw).op.makes=true∧
    ∃obj,h[id]?=some obj∧∀h₁:Heap,h₁.length=id→evOp call ρ h₁ (yoi.getD i xw).op=some (val i,h₁++[obj])
  | none=>if zqt ρ (yoi.getD i xw).guard=true then
    (yoi.getD i xw).op.makes=false∧evOp call ρ h (yoi.getD i xw).op=some (val i,h)∧((yoi.getD i xw).op.reads=false→∀h₁,evOp call ρ h₁ (yoi.getD i xw).op=some (val i,h₁))
   else val i=undef
structure Inv (call:vf) (P:Program) (G N:Nat) (ops:Array Oper) (yoi:List gi) (s0:St) (σ0:Emb) (g0:Mem) (w0:World) (D:Nat→Prop) (pre rest:List Nat) (seen:Nat) (s sfin:St) (val:Nat→Value) (hole:Nat→Option Nat)
  (σ:Emb) (g:Mem) (w:World) (a:Act):Prop where
 asz:a.tmps.size=s0.t.length
 ssz:s.t.length=s0.t.length
 dfr:a.defers=[]
 mr:MR G N σ g w
 sub:Sub g s.h
 go:Go N σ0 g0 w0 σ g w
 holes:Holes g0 s0.h s.h
 grows:∀i,g i=grow g0 s0.h s.h i∨(g i=none∧∃k∈pre,¬D k∧hole k=some i)
 apart:∀i∈pre,∀j∈pre,∀id,¬D i→¬D j→hole i=some id→hole j=some id→i=j
 inD:∀i,D i→i∈pre
 closed:∀i j,D i→bits (Region.before ops).toList i j=true→D j
 all:∀i,i<yoi.length→i∈pre∨i∈rest
 lt:∀i∈pre,i<yoi.length
 marks:∀i,seen.testBit i=true↔i∈pre
 preclosed:∀i∈pre,∀j,bits (Region.before ops).toList i j=true→j∈pre
 order:ze3 yoi (Region.before ops).toList rest seen=true
 weaved:∃m,zq9 ops.toList yoi (Region.before ops).toList rest pre=some m∧f7 call m s=some sfin
 actD:∀i∈pre,(yoi.getD i xw).op.acts=true→D i
 tmpD:∀t,t<s0.t.length→(∀k,D k→(yoi.getD k xw).dst=some t→VR σ g (val k) (a.tmps.getD t undef))∧((∀k,D k→(yoi.getD k xw).dst≠some t)→VR σ g (s0.t.getD t undef) (a.tmps.getD t undef))
 tmpC:∀t,(∀k∈pre,(yoi.getD k xw).dst=some t→t<s0.t.length→s.t.getD t undef=val k)∧((∀k∈pre,(yoi.getD k xw).dst≠some t)→s.t.getD t undef=s0.t.getD t undef)
 pend:∀i∈pre,¬D i→Pend call ops yoi s0 val hole g s.h i
variable {call:vf} {P:Program} {G N:Nat} {ops:Array Oper} {yoi:List gi} {s0:St} {σ0:Emb} {g0:Mem} {w0:World} {D:Nat→Prop} {pre rest:List Nat} {seen:Nat} {s sfin:St} {val:Nat→Value} {hole:Nat→Option Nat}
 {σ:Emb} {g:Mem} {w:World} {a:Act}
theorem zgi (s:St) (gd:Option (Nat×Bool)):zlx s gd=zqt s.eval gd:=by
 cases gd with
 | none=>rfl
 | some p=>rfl
theorem zj2 {l:List Value} {t:Nat} (h:l.length≤t):l.getD t undef=undef:=by
 rw [ypg,ypv h];rfl
theorem Inv.relV (S:Stat P G ops yoi) (I:Inv call P G N ops yoi s0 σ0 g0 w0 D pre rest seen s sfin val hole σ g w a) {i:Nat} (hi:i<yoi.length) (hni:i∉pre) (hb:∀j,bits (Region.before ops).toList i j=true→j∈pre):
  RelV ops yoi s0 val i s.eval:=by
 refine ⟨fun t ht hl=>zj2 (by rw [I.ssz];exact hl),fun t ht k hk hd hbk hlt=>(I.tmpC t).1 k (hb k hbk) hd hlt,fun t ht hno=> ?_,fun x hx=> ?_⟩
 ·refine (I.tmpC t).2 fun k hk hd=> ?_
  have hkl:=I.lt k hk
  rcases (S.pair hkl hi hd).2 ht with h | h
  ·rw [hno k hkl hd] at h;cases h
  ·exact hni (I.preclosed k hk i h)
 ·cases x with
  | tmp t=>exact absurd rfl (hx t)
  | _=>rfl
theorem RelV.upd {i k:Nat} {ρ:Operand→Value} (h:RelV ops yoi s0 val i ρ) (v:Value) (hb:bits (Region.before ops).toList i k=false):RelV ops yoi s0 (fun j=>if j=k then v else val j) i ρ:=by
 refine ⟨h.far,fun t ht j hj hd hbj hlt=> ?_,h.old,h.rest⟩
 have hne:j≠k:=by rintro rfl;rw [hb] at hbj;cases hbj
 simp only [if_neg hne]
 exact h.new t ht j hj hd hbj hlt
theorem bz {i:Nat} {r:List Nat} {b:List Nat} (h:ze3 yoi b (i::r) seen=true):seen.testBit i=false∧i<yoi.length∧(∀j,bits b i j=true→seen.testBit j=true)∧
  ((yoi.getD i xw).op.acts=true→∀j,j<yoi.length→seen.testBit j=true∨j=i∨bits b j i=true)∧ze3 yoi b r (seen ||| 2 ^ i)=true:=by
 unfold ze3 at h
 simp only [ypi,Bool.not_eq_true',decide_eq_true_eq,beq_iff_eq,yqa,yp9,List.mem_range] at h
 obtain ⟨⟨⟨⟨h1,h2⟩,h3⟩,h4⟩,h5⟩:=h
 refine ⟨h1,h2,fun j hj=> ?_,fun ha j hj=> ?_,h5⟩
 ·unfold bits at hj
  rw [←h3,Nat.testBit_and,ypi] at hj
  exact hj.2
 ·rcases h4 with h4 | h4
  ·rw [ha] at h4;cases h4
  ·rcases h4 j hj with (h | h) | h
   ·exact .inl h
   ·exact .inr (.inl h)
   ·exact .inr (.inr h)
theorem testBit_or_two {x i j:Nat}:(x ||| 2 ^ i).testBit j=true↔x.testBit j=true∨j=i:=by
 rw [Nat.testBit_or,Nat.testBit_two_pow,yqa,decide_eq_true_eq]
 exact ⟨fun h=>h.imp id Eq.symm,fun h=>h.imp id Eq.symm⟩
theorem Inv.advance1 (S:Stat P G ops yoi) {i:Nat} {r:List Nat} (I:Inv call P G N ops yoi s0 σ0 g0 w0 D pre (i::r) seen s sfin val hole σ g w a) (hna:(yoi.getD i xw).op.acts=false) (hag:(∀x t,(yoi.getD i xw).op≠ .again1 x t)∧∀n x t,(yoi.getD i xw).op≠ .again n x t):
  ∃s' val' hole',Inv call P G N ops yoi s0 σ0 g0 w0 D (pre++[i]) r (seen ||| 2 ^ i) s' sfin val' hole' σ g w a:=by
 obtain ⟨o1,o2,o3,o4,o5⟩:=bz I.order
 have hni:i∉pre:=fun h=>by rw [(I.marks i).2 h] at o1;cases o1
 have hbi:∀j,bits (Region.before ops).toList i j=true→j∈pre:=fun j hj=>(I.marks j).1 (o3 j hj)
 have hrel:=I.relV S o2 hni hbi
 have hnD:¬D i:=fun h=>hni (I.inD i h)
 obtain ⟨m,hm,hev⟩:=I.weaved
 unfold zq9 at hm
 simp only [hna,yoy,if_false] at hm
 cases hw2:zq9 ops.toList yoi (Region.before ops).toList r (pre++[i]) with
 | none=>rw [hw2] at hm;cases hm
 | some m2=>
  rw [hw2] at hm
  simp only [List.nil_append,yot] at hm
  subst hm
  simp only [f7] at hev
  obtain ⟨s1,hs1,hrun⟩:=yo6.1 hev
  have common:∀(v:Value) (hl':Option Nat) (h1:Heap),s1=s.put (yoi.getD i xw).dst v h1→(∀k,k∈pre→¬D k→Pend call ops yoi s0 (fun j=>if j=i then v else val j) (fun j=>if j=i then hl' else hole j) g h1 k)→
    Pend call ops yoi s0 (fun j=>if j=i then v else val j) (fun j=>if j=i then hl' else hole j) g h1 i→Sub g h1→Holes g0 s0.h h1→
    (∀j,g j=grow g0 s0.h h1 j∨(g j=none∧∃k∈pre++[i],¬D k∧(if k=i then hl' else hole k)=some j))→(∀id,hl'=some id→∀k∈pre,¬D k→hole k≠some id)→
    ∃s' val' hole',Inv call P G N ops yoi s0 σ0 g0 w0 D (pre++[i]) r (seen ||| 2 ^ i) s' sfin val' hole' σ g w a:=by
   intro v hl' h1 hs1' hp hpi hsub hho hgr hap
   refine ⟨s1,fun j=>if j=i then v else val j,fun j=>if j=i then hl' else hole j,?_⟩
   have hh1:s1.h=h1:=by rw [hs1',ydr]
   have hne:∀k∈pre,k≠i:=fun k hk e=>hni (e▸hk)
   refine ⟨I.asz,?_,I.dfr,I.mr,by rw [hh1];exact hsub,I.go,by rw [hh1];exact hho,by rw [hh1];exact hgr,?_,fun j hj=>ype.2 (.inl (I.inD j hj)),I.closed,?_,?_,?_,?_,o5,⟨m2,hw2,hrun⟩,?_,?_,?_,?_⟩
   ·rw [hs1'];cases (yoi.getD i xw).dst <;> simp [St.put,I.ssz]
   ·intro x hx y hy id hDx hDy h1 h2
    simp only [ype,ypw] at hx hy
    rcases hx with hx | rfl <;> rcases hy with hy | rfl
    ·rw [if_neg (hne x hx)] at h1;rw [if_neg (hne y hy)] at h2
     exact I.apart x hx y hy id hDx hDy h1 h2
    ·rw [if_neg (hne x hx)] at h1;rw [if_pos rfl] at h2
     exact absurd h1 (hap id h2 x hx hDx)
    ·rw [if_pos rfl] at h1;rw [if_neg (hne y hy)] at h2
     exact absurd h2 (hap id h1 y hy hDy)
    ·rfl
   ·intro j hj
    rcases I.all j hj with h | h
    ·exact .inl (ype.2 (.inl h))
    ·rcases ypx.1 h with rfl | h
     ·exact .inl (by simp)
     ·exact .inr h
   ·intro j hj
    rcases ype.1 hj with h | h
    ·exact I.lt j h
    ·rw [ypw.1 h];exact o2
   ·intro j
    rw [testBit_or_two,I.marks j,ype,ypw]
   ·intro j hj k hk
    rcases ype.1 hj with h | h
    ·exact ype.2 (.inl (I.preclosed j h k hk))
    ·rw [ypw.1 h] at hk;exact ype.2 (.inl (hbi k hk))
   ·intro j hj ha
    rcases ype.1 hj with h | h
    ·exact I.actD j h ha
    ·rw [ypw.1 h,hna] at ha;cases ha
   ·intro t ht
    refine ⟨fun k hk hd=> ?_,(I.tmpD t ht).2⟩
    simp only [if_neg (hne k (I.inD k hk))]
    exact (I.tmpD t ht).1 k hk hd
   ·intro t
    have hput:∀t,s1.t.getD t undef=if (yoi.getD i xw).dst=some t∧t<s0.t.length then v else s.t.getD t undef:=by
     intro t
     rw [hs1']
     cases hd:(yoi.getD i xw).dst with
     | none=>simp [St.put]
     | some u=>
      simp only [St.put,yot]
      rw [ypg,List.getElem?_set]
      by_cases hut:u=t
      ·subst hut
       by_cases hlt:u<s.t.length
       ·rw [if_pos rfl,if_pos hlt,if_pos ⟨rfl,by rw [←I.ssz];exact hlt⟩];rfl
       ·rw [if_pos rfl,if_neg hlt,if_neg (fun h=>hlt (by rw [I.ssz];exact h.2)),zj2 (by omega)];rfl
      ·rw [if_neg hut,if_neg (fun h=>hut h.1),ypg]
    constructor
    ·intro k hk hd hlt
     rw [hput]
     simp only [ype,ypw] at hk
     rcases hk with hk | rfl
     ·simp only [if_neg (hne k hk)]
      rw [if_neg (fun h=>hne k hk (S.uniq (I.lt k hk) o2 hd h.1))]
      exact (I.tmpC t).1 k hk hd hlt
     ·simp only [if_pos]
      rw [if_pos ⟨hd,hlt⟩]
    ·intro hno
     rw [hput,if_neg (fun h=>hno i (by simp) h.1)]
     exact (I.tmpC t).2 fun k hk=>hno k (by simp [hk])
   ·intro k hk hDk
    rw [hh1]
    simp only [ype,ypw] at hk
    rcases hk with hk | rfl
    ·exact hp k hk hDk
    ·exact hpi
  have hkeep:∀(v:Value) (hl':Option Nat) (h1:Heap),(h1=s.h∨∃ob,h1=s.h++[ob])→∀k,k∈pre→¬D k→Pend call ops yoi s0 (fun j=>if j=i then v else val j) (fun j=>if j=i then hl' else hole j) g h1 k:=by
   intro v hl' h1 hh1 k hk hDk
   have hne:k≠i:=fun e=>hni (e▸hk)
   obtain ⟨ρ,r1,r2,r3⟩:=I.pend k hk hDk
   have hbk:bits (Region.before ops).toList k i=false:=by
    cases hq:bits (Region.before ops).toList k i with
    | false=>rfl
    | true=>exact absurd (I.preclosed k hk i hq) hni
   refine ⟨ρ,r1.upd v hbk,r2,?_⟩
   simp only [if_neg hne]
   cases hhk:hole k with
   | some id=>
    rw [hhk] at r3
    simp only at r3 ⊢
    obtain ⟨q1,q2,q3,q4,ob,q5,q6⟩:=r3
    refine ⟨q1,q2,q3,q4,ob,?_,q6⟩
    rcases hh1 with rfl | ⟨x,rfl⟩
    ·exact q5
    ·exact qe q5
   | none=>
    rw [hhk] at r3
    simp only at r3 ⊢
    split at r3
    ·rename_i hwr
     rw [if_pos hwr]
     obtain ⟨q1,q2,q3⟩:=r3
     refine ⟨q1,?_,q3⟩
     rcases hh1 with rfl | ⟨x,rfl⟩
     ·exact q2
     ·cases hrd:(yoi.getD k xw).op.reads with
      | true=>exact zsg hrd q2 x
      | false=>exact q3 hrd _
    ·rename_i hwr
     rw [if_neg hwr];exact r3
  have hreli:∀v,RelV ops yoi s0 (fun j=>if j=i then v else val j) i s.eval:=fun v=>hrel.upd v (by
   cases hq:bits (Region.before ops).toList i i with
   | false=>rfl
   | true=>exact absurd (hbi i hq) hni)
  unfold zcu at hs1
  by_cases hw:zlx s (yoi.getD i xw).guard=true
  ·rw [if_pos hw] at hs1
   obtain ⟨⟨v,h1⟩,hv,rfl⟩:=zo hs1
   have hwr:zqt s.eval (yoi.getD i xw).guard=true:=by rw [←zgi];exact hw
   by_cases hmk:(yoi.getD i xw).op.makes=true
   ·obtain ⟨ob,rfl,_⟩:=zpp (h₁:=s.h) hmk hv
    have hid:g s.h.length=none:=zj9 I.sub (yoz _)
    refine common v (some s.h.length) (s.h++[ob]) rfl (hkeep v _ _ (.inr ⟨ob,rfl⟩)) ?_ (fun j o hj=>qe (I.sub j o hj)) ⟨by simp;exact Nat.le_succ_of_le I.holes.1,fun j hj hg=> ?_⟩ ?_ ?_
    ·refine ⟨s.eval,hreli v,hna,?_⟩
     simp only [if_pos]
     refine ⟨I.holes.1,hid,hwr,hmk,ob,by simp,fun h₁ hl=> ?_⟩
     obtain ⟨ob',e1,e2⟩:=zpp (h₁:=h₁) hmk hv
     have:ob'=ob:=by have:=List.append_cancel_left e1;simpa using this.symm
     rw [←this];exact e2 hl
    ·rw [yo9 (Nat.lt_of_lt_of_le hj I.holes.1)];exact I.holes.2 j hj hg
    ·intro j
     by_cases hj:j=s.h.length
     ·subst hj
      exact .inr ⟨hid,i,by simp,hnD,by simp⟩
     ·have hsame:grow g0 s0.h (s.h++[ob]) j=grow g0 s0.h s.h j:=by
       unfold grow
       by_cases h1:j<s0.h.length
       ·rw [if_pos h1,if_pos h1,yo9 (Nat.lt_of_lt_of_le h1 I.holes.1)]
       ·rw [if_neg h1,if_neg h1]
        by_cases h2:j<s.h.length
        ·rw [yo9 h2]
        ·rw [ypv (by simp;omega),ypv (by omega)]
      rw [hsame]
      rcases I.grows j with h | ⟨h,k,hk,hDk,hhk⟩
      ·exact .inl h
      ·exact .inr ⟨h,k,by simp [hk],hDk,by rw [if_neg (show k≠i from fun e=>hni (e▸hk))];exact hhk⟩
    ·intro id hid' k hk hDk hhk
     simp only [yot] at hid'
     subst hid'
     obtain ⟨ρ,_,_,r3⟩:=I.pend k hk hDk
     rw [hhk] at r3
     simp only at r3
     obtain ⟨_,_,_,_,ob',q5,_⟩:=r3
     have:=(yoq.1 q5).1
     omega
   ·have hmk':(yoi.getD i xw).op.makes=false:=by simpa using hmk
    have hh1:h1=s.h:=by
     cases hrd:(yoi.getD i xw).op.reads with
     | false=>exact (zp8 (h₁:=s.h) hna hmk' hrd hag.1 hag.2 hv).1
     | true=>
      cases hop:(yoi.getD i xw).op <;> rw [hop] at hrd hv <;> simp only [AOp.reads,yoy] at hrd <;> simp only [evOp] at hv <;>(repeat' split at hv)<;>
       first
       | (cases hv;done)
       | (simp only [yot,yo2] at hv;exact hv.2.symm)
       | (obtain ⟨q,_,hq⟩:=zo hv;simp only [yo2] at hq;exact hq.2.symm)
    subst hh1
    refine common v none s.h rfl (hkeep v _ _ (.inl rfl)) ?_ I.sub I.holes (fun j=> ?_) (fun id h=>by cases h)
    ·refine ⟨s.eval,hreli v,hna,?_⟩
     simp only [if_pos,hwr]
     refine ⟨hmk',hv,fun hrd h₁=>(zp8 (h₁:=h₁) hna hmk' hrd hag.1 hag.2 hv).2⟩
    ·rcases I.grows j with h | ⟨h,k,hk,hDk,hhk⟩
     ·exact .inl h
     ·exact .inr ⟨h,k,by simp [hk],hDk,by rw [if_neg (show k≠i from fun e=>hni (e▸hk))];exact hhk⟩
  ·rw [if_neg hw] at hs1
   simp only [yot] at hs1
   have hwr:¬zqt s.eval (yoi.getD i xw).guard=true:=by rw [←zgi];exact hw
   refine common undef none s.h hs1.symm (hkeep undef _ _ (.inl rfl)) ?_ I.sub I.holes (fun j=> ?_) (fun id h=>by cases h)
   ·refine ⟨s.eval,hreli undef,hna,?_⟩
    simp only [if_pos,if_neg hwr]
   ·rcases I.grows j with h | ⟨h,k,hk,hDk,hhk⟩
    ·exact .inl h
    ·exact .inr ⟨h,k,by simp [hk],hDk,by rw [if_neg (show k≠i from fun e=>hni (e▸hk))];exact hhk⟩
end Go.Proofs.YtljdbheclfaloaaGreatDoor.AM
namespace Go.Proofs.YtljdbheclfaloaaGreatDoor.AM
open Go.RowKit
set_option linter.unusedSimpArgs false
set_option linter.unusedVariables false
variable {call:vf} {P:Program} {G N:Nat} {ops:Array Oper} {yoi:List gi} {s0:St} {σ0:Emb} {g0:Mem} {w0:World} {D:Nat→Prop} {pre rest:List Nat} {seen:Nat} {s sfin:St} {val:Nat→Value} {hole:Nat→Option Nat}
 {σ:Emb} {g:Mem} {w:World} {a:Act}
theorem ztq {ty : TypeId} {op : Op} {ao : AOp} (hn : y8 P ty op = some ao) : (∀ x t, ao ≠ .again1 x t) ∧ ∀ n x t, ao ≠ .again n x t := by
  have key : ((∃ x t, ao = .again1 x t) ∨ ∃ n x t, ao = .again n x t) → False := by
    intro hk
    have hno : (∀ x t, ao ≠ .again1 x t) → (∀ n x t, ao ≠ .again n x t) → False := fun h1 h2 => by
      rcases hk with ⟨x, t, e⟩ | ⟨n, x, t, e⟩
      · exact h1 _ _ e
      · exact h2 _ _ _ e
    cases op
    case call c =>
      simp only [y8, zem] at hn
      repeat' split at hn
      all_goals first
        | (cases hn; done)
        | (simp only [yot] at hn; subst hn; exact hno (by simp) (by simp))
    case binOp op t x y yt =>
      have eqs : ∀ neg, zek P neg t x y = some ao → False := by
        intro neg hne
        unfold zek at hne
        repeat' split at hne
        all_goals first
          | (cases hne; done)
          | (simp only [yot] at hne; subst hne; exact hno (by simp) (by simp))
          | (obtain ⟨z, _, rfl⟩ := zo hne; exact hno (by simp) (by simp))
      simp only [y8] at hn
      cases op <;> simp only at hn
      case eql => exact eqs false hn
      case neq => exact eqs true hn
      all_goals
        split at hn
        · simp only [yot] at hn; subst hn; exact hno (by simp) (by simp)
        · cases hn
    case makeFunc fn a b =>
      cases fn <;> simp only [y8, reduceCtorEq, yot] at hn
      subst hn; exact hno (by simp) (by simp)
    case makeMap t r =>
      have hn : zbv (P.underlying t) r = some ao := hn
      rw [zfg hn] at hno
      exact hno (by simp) (by simp)
    case slice t x lo hi mx =>
      cases mx with
      | some y => simp [y8] at hn
      | none =>
        simp only [y8] at hn
        repeat' split at hn
        all_goals first
          | (cases hn; done)
          | (simp only [yot] at hn; subst hn; exact hno (by simp) (by simp))
          | (obtain ⟨z, _, hn⟩ := yo6.1 hn
             split at hn <;> first | (cases hn; done) | (simp only [yot] at hn; subst hn; exact hno (by simp) (by simp)))
    all_goals
      simp only [y8, reduceCtorEq] at hn
      try (
        repeat' split at hn
        all_goals first
          | (cases hn; done)
          | (simp only [yot] at hn; subst hn; exact hno (by simp) (by simp))
          | (obtain ⟨z, _, rfl⟩ := zo hn; exact hno (by simp) (by simp))
          | (obtain ⟨z, _, hn⟩ := yo6.1 hn
             split at hn <;> first | (cases hn; done) | (simp only [yot] at hn; subst hn; exact hno (by simp) (by simp))))
  exact ⟨fun x t e => key (.inl ⟨x, t, e⟩), fun n x t e => key (.inr ⟨n, x, t, e⟩)⟩
theorem yeg {ty : TypeId} {op : Op} {ao : AOp} {x : Operand} (hn : y8 P ty op = some ao) (hk : ao = .load1 x ∨ ∃ n, ao = .load n x) : ∃ t, op = .load t x := by
  have hno : (∀ y, ao ≠ .load1 y) → (∀ n y, ao ≠ .load n y) → False := fun h1 h2 => by
    rcases hk with e | ⟨n, e⟩
    · exact h1 _ e
    · exact h2 _ _ e
  cases op
  case load t a =>
    simp only [y8] at hn
    repeat' split at hn
    all_goals first
      | (cases hn; done)
      | (simp only [yot] at hn; subst hn
         rcases hk with e | ⟨n, e⟩
         · cases e
           try exact ⟨t, rfl⟩
         · cases e
           try exact ⟨t, rfl⟩)
  case call c =>
    exfalso
    simp only [y8, zem] at hn
    repeat' split at hn
    all_goals first
      | (cases hn; done)
      | (simp only [yot] at hn; subst hn; exact hno (by simp) (by simp))
  case binOp op t x y yt =>
    exfalso
    have eqs : ∀ neg, zek P neg t x y = some ao → False := by
      intro neg hne
      unfold zek at hne
      repeat' split at hne
      all_goals first
        | (cases hne; done)
        | (simp only [yot] at hne; subst hne; exact hno (by simp) (by simp))
        | (obtain ⟨z, _, rfl⟩ := zo hne; exact hno (by simp) (by simp))
    simp only [y8] at hn
    cases op <;> simp only at hn
    case eql => exact eqs false hn
    case neq => exact eqs true hn
    all_goals
      split at hn
      · simp only [yot] at hn; subst hn; exact hno (by simp) (by simp)
      · cases hn
  case makeFunc fn a b =>
    exfalso
    cases fn <;> simp only [y8, reduceCtorEq, yot] at hn
    subst hn; exact hno (by simp) (by simp)
  case makeMap t r =>
    exfalso
    have hn : zbv (P.underlying t) r = some ao := hn
    rw [zfg hn] at hno
    exact hno (by simp) (by simp)
  case slice t x lo hi mx =>
    exfalso
    cases mx with
    | some y => simp [y8] at hn
    | none =>
      simp only [y8] at hn
      repeat' split at hn
      all_goals first
        | (cases hn; done)
        | (simp only [yot] at hn; subst hn; exact hno (by simp) (by simp))
        | (obtain ⟨z, _, hn⟩ := yo6.1 hn
           split at hn <;> first | (cases hn; done) | (simp only [yot] at hn; subst hn; exact hno (by simp) (by simp)))
  all_goals
    exfalso
    simp only [y8, reduceCtorEq] at hn
    try (
      repeat' split at hn
      all_goals first
        | (cases hn; done)
        | (simp only [yot] at hn; subst hn; exact hno (by simp) (by simp))
        | (obtain ⟨z, _, rfl⟩ := zo hn; exact hno (by simp) (by simp))
        | (obtain ⟨z, _, hn⟩ := yo6.1 hn
           split at hn <;> first | (cases hn; done) | (simp only [yot] at hn; subst hn; exact hno (by simp) (by simp))))
theorem Inv.advance (S:Stat P G ops yoi):∀(rest pre:List Nat) (seen:Nat) (s:St) (val:Nat→Value) (hole:Nat→Option Nat),Inv call P G N ops yoi s0 σ0 g0 w0 D pre rest seen s sfin val hole σ g w a→
  ∃pre' rest' seen' s' val' hole',Inv call P G N ops yoi s0 σ0 g0 w0 D pre' rest' seen' s' sfin val' hole' σ g w a∧(rest'=[]∨∃e r,rest'=e::r∧(yoi.getD e xw).op.acts=true)
 | [],pre,seen,s,val,hole,I=>⟨pre,[],seen,s,val,hole,I,.inl rfl⟩
 | i::r,pre,seen,s,val,hole,I=>by
  cases ha:(yoi.getD i xw).op.acts with
  | true=>exact ⟨pre,i::r,seen,s,val,hole,I,.inr ⟨i,r,rfl,ha⟩⟩
  | false=>
   obtain ⟨o1,o2,_⟩:=bz I.order
   obtain ⟨o,_,hno,_⟩:=S.oper o2
   obtain ⟨s',val',hole',I'⟩:=I.advance1 S ha (ztq (zcr hno).2.1)
   exact Inv.advance S r (pre++[i]) _ s' val' hole' I'
theorem Inv.names_VR (S:Stat P G ops yoi) (I:Inv call P G N ops yoi s0 σ0 g0 w0 D pre rest seen s sfin val hole σ g w a) {i:Nat} (hi:i<yoi.length) (hnD:¬D i) (hb:∀j,bits (Region.before ops).toList i j=true→D j)
  {ρ:Operand→Value} (hr:RelV ops yoi s0 val i ρ) {t:Nat} (ht:t∈nm ops yoi i):VR σ g (ρ (.tmp t)) (a.tmps.getD t undef):=by
 by_cases hl:s0.t.length≤t
 ·rw [hr.far t ht hl]
  have:a.tmps.getD t undef=undef:=by
   rw [yph,Array.getElem?_eq_none (by rw [I.asz];exact hl)];rfl
  rw [this]
  exact .tuple [] [] .nil
 ·have hlt:t<s0.t.length:=by omega
  by_cases hk:∃k,k<yoi.length∧(yoi.getD k xw).dst=some t∧bits (Region.before ops).toList i k=true
  ·obtain ⟨k,hkl,hd,hbk⟩:=hk
   rw [hr.new t ht k hkl hd hbk hlt]
   exact (I.tmpD t hlt).1 k (hb k hbk) hd
  ·have hno:∀k,k<yoi.length→(yoi.getD k xw).dst=some t→bits (Region.before ops).toList i k=false:=by
    intro k hkl hd
    cases hq:bits (Region.before ops).toList i k with
    | false=>rfl
    | true=>exact absurd ⟨k,hkl,hd,hq⟩ hk
   rw [hr.old t ht hno]
   refine (I.tmpD t hlt).2 fun k hDk hd=> ?_
   have hkl:=I.lt k (I.inD k hDk)
   rcases (S.pair hkl hi hd).2 ht with h | h
   ·rw [hno k hkl hd] at h;cases h
   ·exact hnD (I.closed k i hDk h)
theorem Inv.operand_VR (S:Stat P G ops yoi) (I:Inv call P G N ops yoi s0 σ0 g0 w0 D pre rest seen s sfin val hole σ g w a) {i:Nat} (hi:i<yoi.length) (hnD:¬D i) (hb:∀j,bits (Region.before ops).toList i j=true→D j)
  {ρ:Operand→Value} (hr:RelV ops yoi s0 val i ρ) {o:Oper} (ho:ops.toList.getD i default=o) {x:Operand} (hx:x∈o.op.operands) (hok:zcw G x=true):VR σ g (ρ x) (a.eval x):=by
 cases x with
 | tmp t=>
  have ht:t∈nm ops yoi i:=by
   unfold nm zgb
   rw [ho]
   refine ype.2 (.inl ?_)
   rw [List.mem_filterMap]
   exact ⟨.tmp t,yqj.2 hx,rfl⟩
  exact I.names_VR S hi hnD hb hr ht
 | const v=>rw [hr.rest _ (fun t e=>by cases e)];exact .plain hok
 | global g'=>
  rw [hr.rest _ (fun t e=>by cases e)]
  obtain ⟨vals,h1,h2,h3⟩:=I.mr.glob g' (by simpa [zcw] using hok)
  refine .ptr _ _ 0 vals 0 true rfl h1 (yoz _) fun _=> ?_
  simp only
  rw [h2,h3]
 | func f=>rw [hr.rest _ (fun t e=>by cases e)];exact .func _ [] [] [] [] .nil .nil
theorem Inv.wanted_eq (S:Stat P G ops yoi) (I:Inv call P G N ops yoi s0 σ0 g0 w0 D pre rest seen s sfin val hole σ g w a) {i:Nat} (hi:i<yoi.length) (hnD:¬D i) (hb:∀j,bits (Region.before ops).toList i j=true→D j)
  {ρ:Operand→Value} (hr:RelV ops yoi s0 val i ρ) {o:Oper} (hg:zf1 ops o.guard=some (yoi.getD i xw).guard):Region.wanted o (yielded ops a.tmps)=zqt ρ (yoi.getD i xw).guard:=by
 unfold zf1 at hg
 unfold Region.wanted
 split at hg
 ·rename_i hq
  simp only [yot] at hg
  rw [hq,←hg];rfl
 ·rename_i j b hq
  split at hg
  ·rename_i t ht
   simp only [yot] at hg
   rw [hq,←hg]
   have hmem:t∈nm ops yoi i:=by
    unfold nm zgb
    rw [←hg]
    exact ype.2 (.inr (by simp))
   have hvr:=I.names_VR S hi hnD hb hr hmem
   simp only [yielded,ht,Option.bind_some,zqt]
   rw [yph] at hvr
   generalize ρ (.tmp t)=u at hvr
   cases hc:a.tmps[t]? with
   | none=>
    rw [hc] at hvr
    simp only [Option.getD_none] at hvr
    cases hvr
    rfl
   | some c=>
    rw [hc] at hvr
    simp only [Option.getD_some] at hvr
    cases hvr <;> first | rfl | (rename_i bb;cases bb <;> cases b <;> rfl)
  ·cases hg
theorem Inv.tmpD_put (S:Stat P G ops yoi) (I:Inv call P G N ops yoi s0 σ0 g0 w0 D pre rest seen s sfin val hole σ g w a) {i:Nat} (hi:i<yoi.length) (hnD:¬D i) {σ':Emb} {g':Mem} (he:Ext σ g σ' g') {v cv:Value} (hv:VR σ' g' v cv)
  (val':Nat→Value) (hvi:val' i=v) (hvo:∀k,D k→val' k=val k):
  (a.put (yoi.getD i xw).dst cv).tmps.size=s0.t.length∧
  ∀t,t<s0.t.length→(∀k,(D k∨k=i)→(yoi.getD k xw).dst=some t→VR σ' g' (val' k) ((a.put (yoi.getD i xw).dst cv).tmps.getD t undef))∧
   ((∀k,(D k∨k=i)→(yoi.getD k xw).dst≠some t)→VR σ' g' (s0.t.getD t undef) ((a.put (yoi.getD i xw).dst cv).tmps.getD t undef)):=by
 have hput:∀t,t<s0.t.length→(a.put (yoi.getD i xw).dst cv).tmps.getD t undef=if (yoi.getD i xw).dst=some t then cv else a.tmps.getD t undef:=by
  intro t ht
  cases hd:(yoi.getD i xw).dst with
  | none=>simp [Act.put]
  | some u=>
   simp only [Act.put,yot]
   rw [yph,Array.getElem?_setIfInBounds]
   by_cases hut:u=t
   ·subst hut
    rw [if_pos rfl,if_pos (by rw [I.asz];exact ht),if_pos rfl];rfl
   ·rw [if_neg hut,if_neg hut,yph]
 refine ⟨by cases (yoi.getD i xw).dst <;> simp [Act.put,I.asz],fun t ht=>⟨fun k hk hd=> ?_,fun hno=> ?_⟩⟩
 ·rw [hput t ht]
  rcases hk with hk | rfl
  ·have hkl:=I.lt k (I.inD k hk)
   have hne:(yoi.getD i xw).dst≠some t:=fun h=>hnD (by rw [←S.uniq hkl hi hd h];exact hk)
   rw [if_neg hne,hvo k hk]
   exact ((I.tmpD t ht).1 k hk hd).ext he
  ·rw [if_pos hd,hvi];exact hv
 ·rw [hput t ht,if_neg (hno i (.inr rfl))]
  exact ((I.tmpD t ht).2 fun k hk=>hno k (.inl hk)).ext he
theorem Inv.step_pend (S:Stat P G ops yoi) (I:Inv call P G N ops yoi s0 σ0 g0 w0 D pre rest seen s sfin val hole σ g w a) {i:Nat} (hip:i∈pre) (hnD:¬D i) (hb:∀j,bits (Region.before ops).toList i j=true→D j)
  {K:Act→World→Prop} {Q:Exit→Act→World→Prop} (hK:∀σ' g' w' a',Inv call P G N ops yoi s0 σ0 g0 w0 (fun j=>D j∨j=i) pre rest seen s sfin val hole σ' g' w' a'→K a' w'):wpOp P ops Q i K a w:=by
 have hi:=I.lt i hip
 obtain ⟨o,hoi,hno,hod⟩:=S.oper hi
 obtain ⟨hok,hop,hgd,hdst⟩:=zcr hno
 obtain ⟨ρ,hrel,hna,hp⟩:=I.pend i hip hnD
 have hops:∀x∈o.op.operands,VR σ g (ρ x) (a.eval x):=fun x hx=>I.operand_VR S hi hnD hb hrel hod hx (hok x hx)
 have hcs:∀v,ρ (.const v)=v∧a.eval (.const v)=v:=fun v=>⟨by rw [hrel.rest _ (fun t e=>by cases e)];rfl,rfl⟩
 have fin:∀(σ':Emb) (g':Mem) (w':World) (cv:Value),Go N σ g w σ' g' w'→MR G N σ' g' w'→VR σ' g' (val i) cv→Sub g' s.h→(∀j,g' j=grow g0 s0.h s.h j∨(g' j=none∧∃k∈pre,¬(D k∨k=i)∧hole k=some j))→
   (∀k∈pre,¬(D k∨k=i)→∀id,hole k=some id→g' id=none)→K (a.put o.dst cv) w':=by
  intro σ' g' w' cv hgo hmr hv hsub hgr hh
  rw [←hdst]
  obtain ⟨t1,t2⟩:=I.tmpD_put S hi hnD hgo.ext hv val rfl (fun _ _=>rfl)
  refine hK σ' g' w' _ ⟨t1,I.ssz,by rw [zid];exact I.dfr,hmr,hsub,I.go.trans hgo,I.holes,hgr,?_,?_,?_,I.all,I.lt,I.marks,I.preclosed,I.order,I.weaved,?_,t2,I.tmpC,?_⟩
  ·intro x hx y hy id hDx hDy h1 h2
   exact I.apart x hx y hy id (fun h=>hDx (.inl h)) (fun h=>hDy (.inl h)) h1 h2
  ·rintro j (hj | rfl)
   ·exact I.inD j hj
   ·exact hip
  ·rintro x y (hx | rfl) hxy
   ·exact .inl (I.closed x y hx hxy)
   ·exact .inl (hb y hxy)
  ·intro x hx ha;exact .inl (I.actD x hx ha)
  ·intro k hk hDk
   obtain ⟨ρ',r1,r2,r3⟩:=I.pend k hk (fun h=>hDk (.inl h))
   refine ⟨ρ',r1,r2,?_⟩
   cases hhk:hole k with
   | none=>rw [hhk] at r3;exact r3
   | some id=>
    rw [hhk] at r3
    obtain ⟨q1,q2,q3⟩:=r3
    exact ⟨q1,hh k hk hDk id hhk,q3⟩
 have finStill:∀cv,VR σ g (val i) cv→hole i=none→K (a.put o.dst cv) w:=by
  intro cv hv hhi
  refine fin σ g w cv (.refl _ _ _ _) I.mr hv I.sub (fun j=> ?_) (fun k hk hDk id hhk=> ?_)
  ·rcases I.grows j with h | ⟨h,k,hk,hDk,hhk⟩
   ·exact .inl h
   ·refine .inr ⟨h,k,hk,fun hq=> ?_,hhk⟩
    rcases hq with hq | rfl
    ·exact hDk hq
    ·rw [hhi] at hhk;cases hhk
  ·obtain ⟨_,_,_,r3⟩:=I.pend k hk (fun h=>hDk (.inl h))
   rw [hhk] at r3
   exact r3.2.1
 unfold wpOp
 rw [hoi]
 simp only
 rw [I.wanted_eq S hi hnD hb hrel hgd]
 cases hhi:hole i with
 | none=>
  rw [hhi] at hp
  simp only at hp
  by_cases hw:zqt ρ (yoi.getD i xw).guard=true
  ·rw [if_pos hw] at hp ⊢
   obtain ⟨hmk,hev,_⟩:=hp
   left
   obtain ⟨_,cv,hrun,hvr⟩:=zxa call I.mr I.sub hop hna hmk hops hcs hev
   unfold Oper.wp
   rw [hrun]
   exact finStill cv hvr hhi
  ·rw [if_neg hw] at hp ⊢
   exact finStill undef (by rw [hp];exact .tuple [] [] .nil) hhi
 | some id=>
  rw [hhi] at hp
  obtain ⟨q1,q2,q3,q4,ob,q5,q6⟩:=hp
  rw [if_pos q3]
  left
  have hl:(List.replicate id AObj.gone).length=id:=List.length_replicate
  obtain ⟨ob',e1,cv,w',hrun,σ',f1,f2,f3⟩:=zs2 call (h:=List.replicate id AObj.gone) I.mr (by rw [hl];exact q2) hop q4 hops hcs (q6 _ hl)
  have hob:ob'=ob:=by have:=List.append_cancel_left e1;simpa using this.symm
  subst hob
  rw [hl] at f1 f2 f3
  unfold Oper.wp
  rw [hrun]
  refine fin σ' _ w' cv f1 f2 f3 ?_ (fun j=> ?_) (fun k hk hDk id' hhk=> ?_)
  ·intro j x hj
   unfold upd at hj
   by_cases hji:j=id
   ·subst hji;rw [if_pos rfl] at hj;cases hj;exact q5
   ·rw [if_neg hji] at hj;exact I.sub j x hj
  ·unfold upd
   by_cases hji:j=id
   ·subst hji
    left
    rw [if_pos rfl]
    unfold grow
    rw [if_neg (by omega),q5]
   ·rw [if_neg hji]
    rcases I.grows j with h | ⟨h,k,hk,hDk,hhk⟩
    ·exact .inl h
    ·refine .inr ⟨h,k,hk,fun hq=> ?_,hhk⟩
     rcases hq with hq | rfl
     ·exact hDk hq
     ·rw [hhi] at hhk;cases hhk;exact hji rfl
  ·have hne:id'≠id:=by
    rintro rfl
    have:=I.apart k hk i hip id' (fun h=>hDk (.inl h)) hnD hhk hhi
    exact hDk (.inr this)
   unfold upd
   rw [if_neg hne]
   obtain ⟨_,_,_,r3⟩:=I.pend k hk (fun h=>hDk (.inl h))
   rw [hhk] at r3
   exact r3.2.1
end Go.Proofs.YtljdbheclfaloaaGreatDoor.AM
namespace Go.Proofs.YtljdbheclfaloaaGreatDoor.AM
open Go.RowKit
set_option linter.unusedSimpArgs false
set_option linter.unusedVariables false
variable {call:vf} {P:Program} {G N:Nat} {ops:Array Oper} {yoi:List gi} {s0:St} {σ0:Emb} {g0:Mem} {w0:World} {D:Nat→Prop} {pre rest:List Nat} {seen:Nat} {s sfin:St} {val:Nat→Value} {hole:Nat→Option Nat}
 {σ:Emb} {g:Mem} {w:World} {a:Act}
theorem zl9 (call:vf):∀(l m:List gi) (s:St),f7 call (l++m) s=(f7 call l s).bind (f7 call m)
 | [],m,s=>rfl
 | o::l,m,s=>by
  simp only [List.cons_append,f7]
  cases zcu call o s with
  | none=>rfl
  | some s1=>exact zl9 call l m s1
theorem zls {bi:Nat} {s1 s2:St}:∀(js:List Nat) (l:List gi),zvb ops.toList yoi (Region.before ops).toList bi js=some l→f7 call l s1=some s2→s2=s1∧
  ∀j∈js,(yoi.getD j xw).op.reads=true→bi.testBit j=false→∃t ag,(yoi.getD j xw).dst=some t∧(yoi.getD j xw).op.againOf t=some ag∧(zlx s1 (yoi.getD j xw).guard=true→∃r,evOp call s1.eval s1.h ag=some r)∧
   ∀k,k<yoi.length→∀u,(yoi.getD k xw).dst=some u→u∈nm ops yoi j→bits (Region.before ops).toList j k=true
 | [],l,hl,he=>by
  simp only [zvb,yot] at hl;subst hl
  simp only [f7,yot] at he
  exact ⟨he.symm,fun j hj=>by simp at hj⟩
 | j::js,l,hl,he=>by
  unfold zvb at hl
  simp only at hl
  split at hl
  ·rename_i hc
   split at hl
   ·rename_i t l2 ht hl2
    split at hl
    ·rename_i hall
     obtain ⟨ag,hag,rfl⟩:=zo hl
     simp only [f7] at he
     obtain ⟨s3,h3,h4⟩:=yo6.1 he
     have hstay:s3=s1∧(zlx s1 (yoi.getD j xw).guard=true→∃r,evOp call s1.eval s1.h ag=some r):=by
      unfold zcu at h3
      by_cases hw:zlx s1 (yoi.getD j xw).guard=true
      ·rw [if_pos hw] at h3
       obtain ⟨r,hr,h5⟩:=zo h3
       refine ⟨?_,fun _=>⟨r,hr⟩⟩
       have hrh:r.2=s1.h:=by
        cases hop:(yoi.getD j xw).op <;> rw [hop] at hag <;> simp only [AOp.againOf,reduceCtorEq,yot] at hag <;> subst hag <;> simp only [evOp] at hr <;> split at hr <;>(try cases hr)<;> split at hr <;>(try cases hr)<;> rfl
       rw [←h5]
       simp only [St.put,hrh]
      ·rw [if_neg hw] at h3
       simp only [St.put,yot] at h3
       exact ⟨h3.symm,fun h=>absurd h hw⟩
     obtain ⟨rfl,hw⟩:=hstay
     obtain ⟨rfl,hrest⟩:=zls js l2 hl2 h4
     refine ⟨rfl,fun k hk hr hb=> ?_⟩
     rcases ypx.1 hk with rfl | hk
     ·refine ⟨t,ag,ht,hag,hw,fun q hq u hu hm=> ?_⟩
      rw [yp9] at hall
      have:=hall q (List.mem_range.2 hq)
      rw [hu] at this
      simp only [yqa,Bool.not_eq_true'] at this
      rcases this with h | h
      ·have hc2:(zgb (ops.toList.getD k default) (yoi.getD k xw)).contains u=true:=List.contains_iff_mem.2 hm
       rw [hc2] at h;cases h
      ·exact h
     ·exact hrest k hk hr hb
    ·cases hl
   ·cases hl
  ·rename_i hc
   obtain ⟨rfl,hrest⟩:=zls js l hl he
   refine ⟨rfl,fun k hk hr hb=> ?_⟩
   rcases ypx.1 hk with rfl | hk
   ·rw [hr,hb] at hc;exact absurd rfl hc
   ·exact hrest k hk hr hb
theorem Inv.step_act (S:Stat P G ops yoi) (hF:zd7 P G N call) {e:Nat} {r:List Nat} (I:Inv call P G N ops yoi s0 σ0 g0 w0 D pre (e::r) seen s sfin val hole σ g w a) (hacts:(yoi.getD e xw).op.acts=true)
  (hb:∀j,bits (Region.before ops).toList e j=true→D j) {K:Act→World→Prop} {Q:Exit→Act→World→Prop}
  (hK:∀s' val' σ' g' w' a',Inv call P G N ops yoi s0 σ0 g0 w0 (fun j=>D j∨j=e) (pre++[e]) r (seen ||| 2 ^ e) s' sfin val' hole σ' g' w' a'→K a' w'):wpOp P ops Q e K a w:=by
 obtain ⟨o1,o2,o3,o4,o5⟩:=bz I.order
 have hni:e∉pre:=fun h=>by rw [(I.marks e).2 h] at o1;cases o1
 have hbp:∀j,bits (Region.before ops).toList e j=true→j∈pre:=fun j hj=>(I.marks j).1 (o3 j hj)
 have hrel:=I.relV S o2 hni hbp
 have hnD:¬D e:=fun h=>hni (I.inD e h)
 obtain ⟨m,hm,hev⟩:=I.weaved
 unfold zq9 at hm
 simp only [hacts,if_true] at hm
 cases hw1:zvb ops.toList yoi (Region.before ops).toList ((Region.before ops).toList.getD e 0) pre with
 | none=>rw [hw1] at hm;cases hm
 | some l=>
 cases hw2:zq9 ops.toList yoi (Region.before ops).toList r (pre++[e]) with
 | none=>rw [hw1,hw2] at hm;cases hm
 | some m2=>
 rw [hw1,hw2] at hm
 simp only [yot] at hm
 subst hm
 simp only [f7] at hev
 obtain ⟨s1,hs1,hrun⟩:=yo6.1 hev
 rw [zl9] at hrun
 obtain ⟨s2,hs2,hrun2⟩:=yo6.1 hrun
 obtain ⟨rfl,hlooks⟩:=zls _ _ hw1 hs2
 obtain ⟨o,hoi,hno,hod⟩:=S.oper o2
 obtain ⟨hok,hop,hgd,hdst⟩:=zcr hno
 have hops:∀x∈o.op.operands,VR σ g (s.eval x) (a.eval x):=fun x hx=>I.operand_VR S o2 hnD hb hrel hod hx (hok x hx)
 have hne:∀k∈pre,k≠e:=fun k hk q=>hni (q▸hk)
 have fin:∀(v:Value) (h1:Heap) (σ':Emb) (w':World) (cv:Value),s2=s.put (yoi.getD e xw).dst v h1→Go N σ g w σ' (grow g s.h h1) w'→MR G N σ' (grow g s.h h1) w'→VR σ' (grow g s.h h1) v cv→Holes g s.h h1→K (a.put o.dst cv) w':=by
  intro v h1 σ' w' cv hs2' hgo hmr hv hho
  rw [←hdst]
  have hh1:s2.h=h1:=by rw [hs2',ydr]
  obtain ⟨t1,t2⟩:=I.tmpD_put S o2 hnD hgo.ext hv (fun j=>if j=e then v else val j) (if_pos rfl) (fun k hk=>if_neg (hne k (I.inD k hk)))
  have hput:∀t,s2.t.getD t undef=if (yoi.getD e xw).dst=some t∧t<s0.t.length then v else s.t.getD t undef:=by
   intro t
   rw [hs2']
   cases hd:(yoi.getD e xw).dst with
   | none=>simp [St.put]
   | some u=>
    simp only [St.put,yot]
    rw [ypg,List.getElem?_set]
    by_cases hut:u=t
    ·subst hut
     by_cases hlt:u<s.t.length
     ·rw [if_pos rfl,if_pos hlt,if_pos ⟨rfl,by rw [←I.ssz];exact hlt⟩];rfl
     ·rw [if_pos rfl,if_neg hlt,if_neg (fun h=>hlt (by rw [I.ssz];exact h.2)),zj2 (by omega)];rfl
    ·rw [if_neg hut,if_neg (fun h=>hut h.1),ypg]
  have hssz:s2.t.length=s0.t.length:=by rw [hs2'];cases (yoi.getD e xw).dst <;> simp [St.put,I.ssz]
  have htC:∀t,(∀k∈pre++[e],(yoi.getD k xw).dst=some t→t<s0.t.length→s2.t.getD t undef=(if k=e then v else val k))∧((∀k∈pre++[e],(yoi.getD k xw).dst≠some t)→s2.t.getD t undef=s0.t.getD t undef):=by
   intro t
   constructor
   ·intro k hk hd hlt
    rw [hput]
    simp only [ype,ypw] at hk
    rcases hk with hk | rfl
    ·rw [if_neg (hne k hk),if_neg (fun h=>hne k hk (S.uniq (I.lt k hk) o2 hd h.1))]
     exact (I.tmpC t).1 k hk hd hlt
    ·rw [if_pos rfl,if_pos ⟨hd,hlt⟩]
   ·intro hno
    rw [hput,if_neg (fun h=>hno e (by simp) h.1)]
    exact (I.tmpC t).2 fun k hk=>hno k (by simp [hk])
  have hnone:∀i,i<s0.h.length→g0 i=none→g i=none:=by
   intro i hi hg0
   rcases I.grows i with h | ⟨h,_⟩
   ·rw [h];unfold grow;rw [if_pos hi,hg0]
   ·exact h
  refine hK s2 (fun j=>if j=e then v else val j) σ' _ w' _ ⟨t1,hssz,by rw [zid];exact I.dfr,hmr,by rw [hh1];exact zjv _ _ _,I.go.trans hgo,?_,?_,?_,?_,?_,?_,?_,?_,?_,o5,⟨m2,hw2,hrun2⟩,?_,t2,htC,?_⟩
  ·rw [hh1]
   refine ⟨yqf I.holes.1 hho.1,fun i hi hg0=> ?_⟩
   rw [hho.2 i (Nat.lt_of_lt_of_le hi I.holes.1) (hnone i hi hg0),I.holes.2 i hi hg0]
  ·intro j
   rw [hh1]
   have hle:=I.holes.1
   by_cases hj:j<s.h.length
   ·cases hgj:g j with
    | none=>
     have hg':grow g s.h h1 j=none:=by unfold grow;rw [if_pos hj,hgj]
     rcases I.grows j with h | ⟨_,k,hk,hDk,hhk⟩
     ·left
      rw [hg']
      rw [hgj] at h
      unfold grow at h ⊢
      by_cases h0:j<s0.h.length
      ·rw [if_pos h0] at h ⊢
       cases hg0:g0 j with
       | none=>rfl
       | some x=>
        rw [hg0] at h
        simp only at h
        rw [yow hj] at h;cases h
      ·rw [if_neg h0] at h
       rw [yow hj] at h;cases h
     ·right
      exact ⟨hg',k,by simp [hk],fun q=>by rcases q with q | q;exact hDk q;exact hne k hk q,hhk⟩
    | some x=>
     left
     have hg':grow g s.h h1 j=h1[j]?:=by unfold grow;rw [if_pos hj,hgj]
     rw [hg']
     rcases I.grows j with h | ⟨h,_⟩
     ·rw [hgj] at h
      unfold grow at h ⊢
      by_cases h0:j<s0.h.length
      ·rw [if_pos h0] at h ⊢
       cases hg0:g0 j with
       | none=>rw [hg0] at h;cases h
       | some y=>rfl
      ·rw [if_neg h0]
     ·rw [hgj] at h;cases h
   ·left
    unfold grow
    rw [if_neg hj,if_neg (by omega)]
  ·intro x hx y hy id hDx hDy h1 h2
   simp only [ype,ypw] at hx hy
   rcases hx with hx | rfl
   ·rcases hy with hy | rfl
    ·exact I.apart x hx y hy id (fun h=>hDx (.inl h)) (fun h=>hDy (.inl h)) h1 h2
    ·exact absurd (.inr rfl) hDy
   ·exact absurd (.inr rfl) hDx
  ·rintro j (hj | rfl)
   ·exact ype.2 (.inl (I.inD j hj))
   ·simp
  ·rintro x y (hx | rfl) hxy
   ·exact .inl (I.closed x y hx hxy)
   ·exact .inl (hb y hxy)
  ·intro j hj
   rcases I.all j hj with h | h
   ·exact .inl (ype.2 (.inl h))
   ·rcases ypx.1 h with rfl | h
    ·exact .inl (by simp)
    ·exact .inr h
  ·intro j hj
   rcases ype.1 hj with h | h
   ·exact I.lt j h
   ·rw [ypw.1 h];exact o2
  ·intro j
   rw [testBit_or_two,I.marks j,ype,ypw]
  ·intro j hj k hk
   rcases ype.1 hj with h | h
   ·exact ype.2 (.inl (I.preclosed j h k hk))
   ·rw [ypw.1 h] at hk;exact ype.2 (.inl (hbp k hk))
  ·intro j hj ha
   rcases ype.1 hj with h | h
   ·exact .inl (I.actD j h ha)
   ·exact .inr (ypw.1 h)
  ·intro k hk hDk
   have hkp:k∈pre:=by
    rcases ype.1 hk with h | h
    ·exact h
    ·exact absurd (.inr (ypw.1 h)) hDk
   have hnDk:¬D k:=fun h=>hDk (.inl h)
   obtain ⟨ρ,r1,r2,r3⟩:=I.pend k hkp hnDk
   have hbk:bits (Region.before ops).toList k e=false:=by
    cases hq:bits (Region.before ops).toList k e with
    | false=>rfl
    | true=>exact absurd (I.preclosed k hkp e hq) hni
   have hbe:bits (Region.before ops).toList e k=false:=by
    cases hq:bits (Region.before ops).toList e k with
    | false=>rfl
    | true=>exact absurd (hb k hq) hnDk
   refine ⟨ρ,r1.upd v hbk,r2,?_⟩
   simp only [if_neg (hne k hkp)]
   rw [hh1]
   cases hhk:hole k with
   | some id=>
    rw [hhk] at r3
    simp only at r3 ⊢
    obtain ⟨q1,q2,q3,q4,ob,q5,q6⟩:=r3
    have hlt:=(yoq.1 q5).1
    exact ⟨q1,by unfold grow;rw [if_pos hlt,q2],q3,q4,ob,by rw [hho.2 id hlt q2];exact q5,q6⟩
   | none=>
    rw [hhk] at r3
    simp only at r3 ⊢
    split at r3
    ·rename_i hwr
     rw [if_pos hwr]
     obtain ⟨q1,q2,q3⟩:=r3
     refine ⟨q1,?_,q3⟩
     cases hrd:(yoi.getD k xw).op.reads with
     | false=>exact q3 hrd _
     | true=>
      obtain ⟨t,ag,l1,l2,l3,l4⟩:=hlooks k hkp hrd hbe
      have hname:∀u∈nm ops yoi k,s2.t.getD u undef=ρ (.tmp u):=by
       intro u hu
       by_cases hfar:s0.t.length≤u
       ·rw [r1.far u hu hfar,zj2 (by rw [hssz];exact hfar)]
       ·by_cases hwx:∃q,q<yoi.length∧(yoi.getD q xw).dst=some u
        ·obtain ⟨q,hq,hd⟩:=hwx
         have hbq:=l4 q hq u hd hu
         have hqp:=I.preclosed k hkp q hbq
         rw [(htC u).1 q (by simp [hqp]) hd (by omega),if_neg (hne q hqp),r1.new u hu q hq hd hbq (by omega)]
        ·have hno:∀q,q<yoi.length→(yoi.getD q xw).dst=some u→False:=fun q hq hd=>hwx ⟨q,hq,hd⟩
         rw [(htC u).2 (fun q hq hd=>hno q (by rcases ype.1 hq with h | h;exact I.lt q h;rw [ypw.1 h];exact o2) hd),r1.old u hu (fun q hq hd=>(hno q hq hd).elim)]
      have hopd:∀x∈(ops.toList.getD k default).op.operands,s2.eval x=ρ x:=by
       intro x hx
       cases x with
       | tmp u=>
        refine hname u ?_
        unfold nm zgb
        refine ype.2 (.inl ?_)
        rw [List.mem_filterMap]
        exact ⟨.tmp u,yqj.2 hx,rfl⟩
       | const c=>rw [r1.rest _ (fun t e=>by cases e)];rfl
       | global c=>rw [r1.rest _ (fun t e=>by cases e)];rfl
       | func c=>rw [r1.rest _ (fun t e=>by cases e)];rfl
      have hwants:zlx s2 (yoi.getD k xw).guard=true:=by
       rw [zgi]
       unfold zqt at hwr ⊢
       cases hgk:(yoi.getD k xw).guard with
       | none=>rfl
       | some p=>
        obtain ⟨u,bb⟩:=p
        rw [hgk] at hwr
        simp only at hwr ⊢
        have:s2.eval (.tmp u)=ρ (.tmp u):=hname u (by unfold nm zgb;rw [hgk];exact ype.2 (.inr (by simp)))
        rw [this];exact hwr
      obtain ⟨res,hres⟩:=l3 hwants
      rw [hh1] at hres
      obtain ⟨ok',_,hno',hod'⟩:=S.oper (I.lt k hkp)
      obtain ⟨_,hop',_,_⟩:=zcr hno'
      have htv:zo0 (s2.eval (.tmp t))=false→s2.eval (.tmp t)=val k:=by
       intro hnt
       by_cases hlt:t<s0.t.length
       ·have:=(htC t).1 k (by simp [hkp]) l1 hlt
        rw [if_neg (hne k hkp)] at this
        exact this
       ·have:s2.eval (.tmp t)=undef:=zj2 (by rw [hssz];omega)
        rw [this] at hnt;simp [undef,zo0] at hnt
      have hload:∀x,((∃t,(ops.toList.getD k default).op=.load t x))→s2.eval x=ρ x:=by
       rintro x ⟨t,ht⟩
       exact hopd x (by rw [ht];simp [Op.operands])
      have hsrc:∀x,((yoi.getD k xw).op=.load1 x∨∃n,(yoi.getD k xw).op=.load n x)→∃t,(ops.toList.getD k default).op=.load t x:=by
       intro x hx
       rw [hod'] at*
       exact yeg hop' hx
      cases hopk:(yoi.getD k xw).op <;> rw [hopk] at l2 <;> simp only [AOp.againOf,reduceCtorEq,yot] at l2
      case load1 x=>
       subst l2
       have hx:=hload x (hsrc x (.inl hopk))
       simp only [evOp] at hres ⊢
       rw [hx] at hres
       split at hres
       ·split at hres
        ·rename_i hc
         rw [hc.1,htv hc.2];rfl
        ·cases hres
       ·cases hres
      case load n x=>
       subst l2
       have hx:=hload x (hsrc x (.inr ⟨n,hopk⟩))
       simp only [evOp] at hres ⊢
       rw [hx] at hres
       split at hres
       ·split at hres
        ·rename_i hc
         have h5:=hc.1
         rw [htv hc.2] at h5
         obtain ⟨ll,hll,hagg⟩:=zo h5
         rw [hll,←hagg];rfl
        ·cases hres
       ·cases hres
    ·rename_i hwr
     rw [if_neg hwr];exact r3
 unfold wpOp
 rw [hoi]
 simp only
 rw [I.wanted_eq S o2 hnD hb hrel hgd,←zgi]
 unfold zcu at hs1
 by_cases hw:zlx s (yoi.getD e xw).guard=true
 ·rw [if_pos hw] at hs1 ⊢
  obtain ⟨⟨v,h1⟩,hv,hs2'⟩:=zo hs1
  left
  refine yl7 hF I.mr I.sub hop hops (fun v=>rfl) (fun f=>rfl) hv fun cv w' hd=> ?_
  obtain ⟨σ',d1,d2,d3,d4⟩:=hd
  exact fin v h1 σ' w' cv hs2'.symm d1 d2 d3 d4
 ·rw [if_neg hw] at hs1 ⊢
  simp only [yot] at hs1
  refine fin undef s.h σ w undef hs1.symm ?_ ?_ (.tuple [] [] .nil) (.refl _ _)<;> rw [zfe I.sub]
  ·exact .refl _ _ _ _
  ·exact I.mr
end Go.Proofs.YtljdbheclfaloaaGreatDoor.AM
namespace Go.Proofs.YtljdbheclfaloaaGreatDoor.AM
open Go.RowKit
set_option linter.unusedSimpArgs false
set_option linter.unusedVariables false
variable {P:Program} {G N:Nat} {σ:Emb} {g:Mem} {w:World} {h:Heap}
def yio:AEx→Exit
 | .normal=>.normal
 | .exit id=>.exit id
 | .ret=>.ret
def zmu (P:Program) (G:Nat) (ords:List (Nat×List Nat)) (id:Nat) (ops:Array Oper) (d:Bool):Prop:=∀(N:Nat) (call:vf),zd7 P G N call→∀l,
 zh2 P G (ords.lookup id) ops d=some l→∀(σ:Emb) (g:Mem) (w:World) (s s':St) (a:Act) (Q:Exit→Act→World→Prop),MR G N σ g w→Sub g s.h→VRs σ g s.t a.tmps.toList→a.defers=[]→f7 call l s=some s'→(∀a' w',
 To G N σ g w s.h s' a' w'→Q .normal a' w')→(Code.region id ops d).wp P Q a w
theorem zsm (ords:List (Nat×List Nat)) (id:Nat) (ops:Array Oper):zmu P G ords id ops false:=by
 intro N call hF l hn σ g w s s' a Q hm hs hv hd he hq
 unfold zh2 at hn
 split at hn
 ·cases hn
 ·rename_i yoi has
  simp only [yoy,if_false,yot] at hn
  subst hn
  refine wp_region ?_
  rw [List.range_eq_range']
  exact yc4 hF has ops.size 0 σ g w s s' a (by omega) hm hs hv hd (by simpa using he) hq
def zyp (P:Program) (G:Nat) (F:Funcs) (n:Nat):Prop:=∀(N:Nat) (c:Code) (ords:List (Nat×List Nat)) (ac:zal),zco P G ords c=some ac→∀(s s':St) (x:AEx),evC F n ac s=some (x,
 s')→∀(σ:Emb) (g:Mem) (w:World) (a:Act) (Q:Exit→Act→World→Prop),MR G N σ g w→Sub g s.h→VRs σ g s.t a.tmps.toList→a.defers=[]→(∀a' w',To G N σ g w s.h s' a' w'→Q (yio x) a' w')→c.wp P Q a w
theorem zvs {F:Funcs} {c:Code} {ords:List (Nat×List Nat)} {ac:zal} (hn:zco P G ords c=some ac) (n:Nat) (ih:∀m,m≤n→zyp P G F m):∀m,m≤n+1→
  ∀(N:Nat) (s s':St) (x:AEx),evC F m (.loop ac) s=some (x,s')→∀(σ:Emb) (g:Mem) (w:World) (a:Act) (Q:Exit→Act→World→Prop),
  MR G N σ g w→Sub g s.h→VRs σ g s.t a.tmps.toList→a.defers=[]→(∀a' w',To G N σ g w s.h s' a' w'→Q (yio x) a' w')→Code.rounds P c Q m a w:=by
 intro m
 induction m with
 | zero=>intro _ N s s' x he;simp [evC] at he
 | succ m ihm=>
  intro hle N s s' x he σ g w a Q hm hs hv hd hq
  rw [evC] at he
  rw [rounds_succ]
  cases hx:evC F m ac s with
  | none=>rw [hx] at he;cases he
  | some p=>
   obtain ⟨y,s1⟩:=p
   rw [hx] at he
   refine ih m (by omega) N c ords ac hn s s1 y hx σ g w a _ hm hs hv hd fun a' w' hto=> ?_
   cases y with
   | normal=>
    obtain ⟨σ1,g1,m1,v1,hh1,d1⟩:=hto
    exact ihm (by omega) N s1 s' x he σ1 _ w' a' Q m1 (zjv _ _ _) v1 d1 fun a2 w2 ht=>hq a2 w2 (To.trans (a₁:=a') hm hs g1 hh1 ht)
   | exit id=>simp only [yot,yo2] at he;obtain ⟨rfl,rfl⟩:=he;exact hq a' w' hto
   | ret=>simp only [yot,yo2] at he;obtain ⟨rfl,rfl⟩:=he;exact hq a' w' hto
theorem ydo (hreg:∀ords id ops,zmu P G ords id ops true) (F:Funcs) (n:Nat) (hF:∀N,zd7 P G N (evF F n)) (ihs:∀m,m≤n→zyp P G F m):zyp P G F (n+1):=by
 have ih:=ihs n (yoz _)
 intro N c
 intro ords ac hn s s' x he σ g w a Q hm hs hv hd hq
 cases c <;> simp only [zco,reduceCtorEq] at hn
 case skip=>
  simp only [yot] at hn;subst hn
  simp only [evC,yot,yo2] at he
  obtain ⟨rfl,rfl⟩:=he
  exact wp_skip (hq _ _ (To.refl hm hs hv hd))
 case region id ops d=>
  obtain ⟨l,hl,rfl⟩:=zo hn
  simp only [evC] at he
  obtain ⟨s1,h1,h2⟩:=zo he
  simp only [yo2] at h2
  obtain ⟨rfl,rfl⟩:=h2
  cases d with
  | false=>exact zsm ords id ops N _ (hF N) l hl σ g w s s1 a Q hm hs hv hd h1 hq
  | true=>exact hreg ords id ops N _ (hF N) l hl σ g w s s1 a Q hm hs hv hd h1 hq
 case seq c1 c2=>
  split at hn
  ·rename_i a1 a2 h1 h2
   simp only [yot] at hn;subst hn
   rw [evC] at he
   refine wp_seq ?_
   cases hx:evC F n a1 s with
   | none=>rw [hx] at he;cases he
   | some p=>
    obtain ⟨y,s1⟩:=p
    rw [hx] at he
    refine ih N c1 ords a1 h1 s s1 y hx σ g w a _ hm hs hv hd fun a' w' hto=> ?_
    cases y with
    | normal=>
     obtain ⟨σ1,g1,m1,v1,hh1,d1⟩:=hto
     show c2.wp P Q a' w'
     exact ih N c2 ords a2 h2 s1 s' x he σ1 _ w' a' Q m1 (zjv _ _ _) v1 d1 fun a2 w2 ht=>hq a2 w2 (To.trans (a₁:=a') hm hs g1 hh1 ht)
    | exit id=>simp only [yot,yo2] at he;obtain ⟨rfl,rfl⟩:=he;exact hq a' w' hto
    | ret=>simp only [yot,yo2] at he;obtain ⟨rfl,rfl⟩:=he;exact hq a' w' hto
  ·cases hn
 case cond o c1 c2=>
  split at hn
  ·rename_i a1 a2 h1 h2
   by_cases hok:zcw G o=true
   case neg=>rw [if_neg hok] at hn;cases hn
   rw [if_pos hok] at hn
   simp only [yot] at hn;subst hn
   rw [evC] at he
   have hov:=yep hm hv (x:=o) hok
   split at he
   ·rename_i ho
    rw [ho] at hov
    exact wp_cond_true hov.bool_inv (ih N c1 ords a1 h1 s s' x he σ g w a Q hm hs hv hd hq)
   ·rename_i ho
    rw [ho] at hov
    exact wp_cond_false hov.bool_inv (ih N c2 ords a2 h2 s s' x he σ g w a Q hm hs hv hd hq)
   ·cases he
  ·cases hn
 case block id c1=>
  obtain ⟨a1,h1,rfl⟩:=zo hn
  rw [evC] at he
  refine wp_block ?_
  cases hx:evC F n a1 s with
  | none=>rw [hx] at he;cases he
  | some p=>
   obtain ⟨y,s1⟩:=p
   rw [hx] at he
   refine ih N c1 ords a1 h1 s s1 y hx σ g w a _ hm hs hv hd fun a' w' hto=> ?_
   cases y with
   | normal=>simp only [yot,yo2] at he;obtain ⟨rfl,rfl⟩:=he;exact hq a' w' hto
   | ret=>simp only [yot,yo2] at he;obtain ⟨rfl,rfl⟩:=he;exact hq a' w' hto
   | exit j=>
    simp only [yot,yo2] at he
    obtain ⟨rfl,rfl⟩:=he
    have h2:=hq a' w' hto
    show (if j=id then Q .normal a' w' else Q (.exit j) a' w')
    by_cases hj:j=id
    ·rw [if_pos hj] at h2 ⊢;exact h2
    ·rw [if_neg hj] at h2 ⊢;exact h2
 case loop c1=>
  obtain ⟨a1,h1,rfl⟩:=zo hn
  rw [evC] at he
  exact wp_loop_rounds (n+1) (zvs h1 n ihs (n+1) (yoz _) N s s' x (by rw [evC];exact he) σ g w a Q hm hs hv hd hq)
 case exit id=>
  simp only [yot] at hn;subst hn
  simp only [evC,yot,yo2] at he
  obtain ⟨rfl,rfl⟩:=he
  exact wp_exit (hq _ _ (To.refl hm hs hv hd))
 case ret=>
  simp only [yot] at hn;subst hn
  simp only [evC,yot,yo2] at he
  obtain ⟨rfl,rfl⟩:=he
  exact wp_ret (hq _ _ (To.refl hm hs hv hd))
end Go.Proofs.YtljdbheclfaloaaGreatDoor.AM
namespace Go.Proofs.YtljdbheclfaloaaGreatDoor.AM
open Go.RowKit
set_option linter.unusedSimpArgs false
set_option linter.unusedVariables false
variable {call:vf} {P:Program} {G N:Nat} {ops:Array Oper} {yoi:List gi} {s0:St} {σ0:Emb} {g0:Mem} {w0:World} {D:Nat→Prop} {pre rest:List Nat} {seen:Nat} {s sfin:St} {val:Nat→Value} {hole:Nat→Option Nat}
 {σ:Emb} {g:Mem} {w:World} {a:Act}
theorem zxr {p q:Nat→Bool}:∀{l:List Nat} {i:Nat},i∈l→(∀x,q x=true→p x=true)→p i=true→q i=false→(l.filter q).length<(l.filter p).length
 | x::l,i,hi,hqp,hp,hq=>by
  have hle:∀l:List Nat,(l.filter q).length≤(l.filter p).length:=by
   intro l
   induction l with
   | nil=>simp
   | cons y l ih=>
    cases hqy:q y with
    | true=>rw [List.filter_cons_of_pos hqy,List.filter_cons_of_pos (hqp y hqy)];simpa using ih
    | false=>
     rw [List.filter_cons_of_neg (by simp [hqy])]
     cases hpy:p y with
     | true=>rw [List.filter_cons_of_pos hpy];simp only [ypb];omega
     | false=>rw [List.filter_cons_of_neg (by simp [hpy])];exact ih
  rcases ypx.1 hi with rfl | hi
  ·rw [List.filter_cons_of_pos hp,List.filter_cons_of_neg (by simp [hq])]
   have:=hle l
   simp only [ypb];omega
  ·have ih:=zxr hi hqp hp hq
   cases hqx:q x with
   | true=>rw [List.filter_cons_of_pos hqx,List.filter_cons_of_pos (hqp x hqx)];simpa using ih
   | false=>
    rw [List.filter_cons_of_neg (by simp [hqx])]
    cases hpx:p x with
    | true=>rw [List.filter_cons_of_pos hpx];simp only [ypb];omega
    | false=>rw [List.filter_cons_of_neg (by simp [hpx])];exact ih
theorem zsn {b:List Nat}:∀(rest:List Nat) (seen:Nat),ze3 yoi b rest seen=true→(∀i,seen.testBit i=true→D i)→(∀i,i<yoi.length→(∀j,bits b i j=true→D j)→D i)→∀i∈rest,D i
 | [],seen,h,hs,hr,i,hi=>by simp at hi
 | k::r,seen,h,hs,hr,i,hi=>by
  obtain ⟨o1,o2,o3,o4,o5⟩:=bz h
  have hk:D k:=hr k o2 fun j hj=>hs j (o3 j hj)
  rcases ypx.1 hi with rfl | hi
  ·exact hk
  ·refine zsn r _ o5 (fun j hj=> ?_) hr i hi
   rcases testBit_or_two.1 hj with h | rfl
   ·exact hs j h
   ·exact hk
theorem Inv.done (S:Stat P G ops yoi) (I:Inv call P G N ops yoi s0 σ0 g0 w0 D pre rest seen s sfin val hole σ g w a) (hall:∀i,i<yoi.length→D i):To G N σ0 g0 w0 s0.h sfin a w:=by
 have hrest:rest=[]:=by
  cases rest with
  | nil=>rfl
  | cons e r=>
   obtain ⟨o1,o2,_⟩:=bz I.order
   have:=(I.marks e).2 (I.inD e (hall e o2))
   rw [this] at o1;cases o1
 subst hrest
 obtain ⟨m,hm,hev⟩:=I.weaved
 simp only [zq9,yot] at hm
 subst hm
 simp only [f7,yot] at hev
 subst hev
 have hg:g=grow g0 s0.h s.h:=by
  funext j
  rcases I.grows j with h | ⟨_,k,hk,hDk,_⟩
  ·exact h
  ·exact absurd (hall k (I.lt k hk)) hDk
 refine ⟨σ,?_,?_,?_,I.holes,I.dfr⟩<;> rw [←hg]
 ·exact I.go
 ·exact I.mr
 ·refine .of_get (by rw [I.ssz];simp [I.asz]) fun t u c hu hc=> ?_
  have hlt:t<s0.t.length:=by rw [←I.ssz];exact (yoq.1 hu).1
  have e1:s.t.getD t undef=u:=by rw [ypg,hu];rfl
  have e2:a.tmps.getD t undef=c:=by
   rw [yph]
   have:a.tmps[t]?=some c:=by simpa using hc
   rw [this];rfl
  rw [←e1,←e2]
  by_cases hk:∃k,k<yoi.length∧(yoi.getD k xw).dst=some t
  ·obtain ⟨k,hkl,hd⟩:=hk
   rw [(I.tmpC t).1 k (I.inD k (hall k hkl)) hd hlt]
   exact (I.tmpD t hlt).1 k (hall k hkl) hd
  ·rw [(I.tmpC t).2 fun k hk' hd=>hk ⟨k,I.lt k hk',hd⟩]
   exact (I.tmpD t hlt).2 fun k hDk hd=>hk ⟨k,I.lt k (I.inD k hDk),hd⟩
theorem zk1 {listed:Array Bool} {i:Nat} (hi:i<listed.size):(fun j=>(listed.setIfInBounds i true).getD j false=true)=fun j=>listed.getD j false=true∨j=i:=by
 funext j
 apply propext
 rw [yph,Array.getElem?_setIfInBounds,yph]
 by_cases h:i=j
 ·subst h;rw [if_pos rfl,if_pos hi];simp
 ·rw [if_neg h]
  exact ⟨.inl,fun q=>q.resolve_right fun e=>h e.symm⟩
theorem znw {listed:Array Bool} (hsz:listed.size=ops.size) {i:Nat}:i∈Region.ready .any ops listed↔∃o,ops[i]?=some o∧¬listed.getD i false=true∧∀e∈o.after,Region.binds .any e=true→listed.getD e.on false=true:=by
 unfold Region.ready
 rw [List.mem_filter,List.mem_range]
 constructor
 ·rintro ⟨hlt,h⟩
  rw [ypi] at h
  obtain ⟨h1,h2⟩:=h
  have hl:i<listed.size:=by omega
  refine ⟨ops[i],by simp [hlt],?_,?_⟩
  ·rw [yph] at h1 ⊢
   simp [hl] at h1 ⊢
   exact h1
  ·have he1:ops[i]?=some ops[i]:=by simp [hlt]
   rw [he1] at h2
   simp only [yp6,Option.getD_some] at h2
   intro e he hb
   have:=Array.all_eq_true'.1 h2 e he
   rw [hb] at this
   simpa using this
 ·rintro ⟨o,ho,h1,h2⟩
  have hlt:i<ops.size:=(ypp.1 ho).1
  have hl:i<listed.size:=by omega
  refine ⟨hlt,?_⟩
  rw [ypi]
  constructor
  ·rw [yph] at h1 ⊢
   simp [hl] at h1 ⊢
   exact h1
  ·rw [ho]
   simp only [yp6,Option.getD_some]
   rw [Array.all_eq_true_iff_forall_mem]
   intro e he
   cases hb:Region.binds .any e with
   | false=>rfl
   | true=>rw [h2 e he hb];rfl
theorem ybb (S:Stat P G ops yoi) (hF:zd7 P G N call) {ord:List Nat} (hord:ze3 yoi (Region.before ops).toList ord 0=true) (hcov:∀i,i<yoi.length→i∈ord) {Q:Exit→Act→World→Prop} (hQ:∀a' w',To G N σ0 g0 w0 s0.h sfin a' w'→Q .normal a' w'):
  ∀(fuel:Nat) (listed:Array Bool) (pre rest:List Nat) (seen:Nat) (s:St) (val:Nat→Value) (hole:Nat→Option Nat) (σ:Emb) (g:Mem) (w:World) (a:Act),listed.size=ops.size→
   ((List.range yoi.length).filter fun i=> !listed.getD i false).length≤fuel→Inv call P G N ops yoi s0 σ0 g0 w0 (fun i=>listed.getD i false=true) pre rest seen s sfin val hole σ g w a→(rest=[]∨∃e r,rest=e::r∧(yoi.getD e xw).op.acts=true)→
   wpAny P .any ops Q fuel listed a w:=by
 have allD:∀(listed:Array Bool),listed.size=ops.size→Region.ready .any ops listed=[]→∀i,i<yoi.length→listed.getD i false=true:=by
  intro listed hsz hr i hi
  refine zsn (D:=fun i=>listed.getD i false=true) ord 0 hord (fun j hj=>by simp at hj) (fun k hk hb=> ?_) i (hcov i hi)
  by_cases hk':listed.getD k false=true
  ·exact hk'
  ·exfalso
   obtain ⟨o,ho,_⟩:=S.oper hk
   have:k∈Region.ready .any ops listed:=(znw hsz).2 ⟨o,ho,hk',fun e he hbe=>hb _ ((zoo ho).1 e he hbe)⟩
   rw [hr] at this;simp at this
 intro fuel
 induction fuel with
 | zero=>
  intro listed pre rest seen s val hole σ g w a hsz hc I hh
  have hall:∀i,i<yoi.length→listed.getD i false=true:=by
   intro i hi
   have h0:((List.range yoi.length).filter fun i=> !listed.getD i false)=[]:=yqh.1 (by omega)
   have:=List.filter_eq_nil_iff.1 h0 i (List.mem_range.2 hi)
   simpa using this
  refine ⟨?_,hQ _ _ (I.done S hall)⟩
  cases hr:Region.ready .any ops listed with
  | nil=>rfl
  | cons i r=>
   have hi:i∈Region.ready .any ops listed:=by rw [hr];simp
   obtain ⟨o,ho,h1,_⟩:=(znw hsz).1 hi
   exact absurd (hall i (by rw [S.len];exact (ypp.1 ho).1)) h1
 | succ fuel ih=>
  intro listed pre rest seen s val hole σ g w a hsz hc I hh
  refine ⟨fun hr=>hQ _ _ (I.done S (allD listed hsz hr)),fun i hi=> ?_⟩
  obtain ⟨o,ho,hnD,hedges⟩:=(znw hsz).1 hi
  have hin:i<yoi.length:=by rw [S.len];exact (ypp.1 ho).1
  have hls:i<listed.size:=by rw [hsz];exact (ypp.1 ho).1
  have hb:∀j,bits (Region.before ops).toList i j=true→listed.getD j false=true:=by
   intro j hj
   obtain ⟨e,he,hbe,h⟩:=(zoo ho).2 j hj
   rcases h with rfl | h
   ·exact hedges e he hbe
   ·exact I.closed _ _ (hedges e he hbe) h
  have hcount:((List.range yoi.length).filter fun k=> !(listed.setIfInBounds i true).getD k false).length≤fuel:=by
   have:=zxr (p:=fun k=> !listed.getD k false) (q:=fun k=> !(listed.setIfInBounds i true).getD k false) (List.mem_range.2 hin) (fun x hx=>by
    cases hq:listed.getD x false with
    | false=>rfl
    | true=>
     have h2:(listed.setIfInBounds i true).getD x false=true:=by
      have:=congrFun (zk1 hls) x
      rw [this];exact .inl hq
     rw [h2] at hx;cases hx) (by simpa using hnD) (by
    have h2:(listed.setIfInBounds i true).getD i false=true:=by
     have:=congrFun (zk1 hls) i
     rw [this];exact .inr rfl
    rw [h2];rfl)
   omega
  have hset:=zk1 hls
  by_cases hacts:(yoi.getD i xw).op.acts=true
  · -- it is the next one
   have hip:i∉pre:=fun h=>hnD (I.actD i h hacts)
   have hir:i∈rest:=(I.all i hin).resolve_left hip
   rcases hh with rfl | ⟨e,r,rfl,he⟩
   ·simp at hir
   ·obtain ⟨o1,o2,o3,o4,o5⟩:=bz I.order
    have hie:i=e:=by
     rcases o4 he i hin with h | h | h
     ·exact absurd ((I.marks i).1 h) hip
     ·exact h
     ·have:=(I.marks e).2 (I.inD e (hb e h));rw [this] at o1;cases o1
    subst hie
    refine I.step_act S hF hacts hb fun s' val' σ' g' w' a' I'=> ?_
    rw [←hset] at I'
    obtain ⟨pre2,rest2,seen2,s2,val2,hole2,I2,hh2⟩:=Inv.advance S _ _ _ _ _ _ I'
    exact ih _ pre2 rest2 seen2 s2 val2 hole2 σ' g' w' a' (by simpa using hsz) hcount I2 hh2
  ·have hip:i∈pre:=by
    rcases I.all i hin with h | h
    ·exact h
    ·exfalso
     rcases hh with rfl | ⟨e,r,rfl,he⟩
     ·simp at h
     ·obtain ⟨o1,o2,o3,o4,o5⟩:=bz I.order
      have hne:i≠e:=by rintro rfl;exact hacts he
      rcases o4 he i hin with h1 | h1 | h1
      ·exact hnD ((by
        have hpi:=(I.marks i).1 h1
        exact absurd hpi (by
         intro hpi
         have hrp:i∈e::r:=h
         have hmem:∀(l:List Nat) (sn:Nat),ze3 yoi (Region.before ops).toList l sn=true→∀x∈l,sn.testBit x=false:=by
          intro l
          induction l with
          | nil=>intro sn _ x hx;simp at hx
          | cons y l ihl=>
           intro sn hsn x hx
           obtain ⟨p1,p2,p3,p4,p5⟩:=bz hsn
           rcases ypx.1 hx with rfl | hx
           ·exact p1
           ·have:=ihl _ p5 x hx
            cases hq:sn.testBit x with
            | false=>rfl
            | true=>rw [testBit_or_two.2 (.inl hq)] at this;cases this
         have:=hmem _ _ I.order i hrp
         rw [h1] at this;cases this)))
      ·exact hne h1
      ·have:=(I.marks e).2 (I.inD e (hb e h1));rw [this] at o1;cases o1
   refine I.step_pend S hip hnD hb fun σ' g' w' a' I'=> ?_
   rw [←hset] at I'
   exact ih _ pre rest seen s val hole σ' g' w' a' (by simpa using hsz) hcount I' hh
theorem zwk (hm:P.follows .mixedOrders=true) (ords:List (Nat×List Nat)) (id:Nat) (ops:Array Oper):zmu P G ords id ops true:=by
 intro N call hF l hn σ g w s s' a Q hmr hs hv hd he hq
 unfold zh2 at hn
 split at hn
 ·cases hn
 ·rename_i yoi has
  simp only [if_true] at hn
  split at hn
  ·rename_i hcond
   simp only [ypi] at hcond
   obtain ⟨⟨⟨hp,hg⟩,hlen⟩,hord⟩:=hcond
   have S:Stat P G ops yoi:=⟨has,hp,hg⟩
   let ord:=(ords.lookup id).getD (List.range yoi.length)
   have hord:ze3 yoi (Region.before ops).toList ord 0=true:=hord
   have hn:zq9 ops.toList yoi (Region.before ops).toList ord []=some l:=hn
   have hcov:∀i,i<yoi.length→i∈ord:=by
    intro i hi
    have:=yp9.1 hlen i (List.mem_range.2 hi)
    simpa using this
   refine wp_region_any hm ?_
   have hmr':MR G N σ g { w with drawn:=w.drawn+1}:=hmr.drew
   have hgo:Go N σ g w σ g { w with drawn:=w.drawn+1}:=⟨.refl _ _,yoz _,rfl,rfl,rfl,fun _ _ _=>rfl,fun _ h=>.inl h⟩
   have hnl:∀i,¬(Array.replicate ops.size false).getD i false=true:=by
    intro i
    rw [yph,Array.getElem?_replicate]
    split <;> simp
   have I0:Inv call P G N ops yoi s σ g w (fun i=>(Array.replicate ops.size false).getD i false=true) [] ord 0 s s' (fun _=>undef) (fun _=>none) σ g { w with drawn:=w.drawn+1} a:=by
    refine ⟨by rw [hv.length];simp,rfl,hd,hmr',hs,hgo,.refl _ _,fun i=>.inl (by rw [zfe hs]),fun i hi=>by simp at hi,fun i hi=>absurd hi (hnl i),fun i j hi=>absurd hi (hnl i),fun i hi=>.inr (hcov i hi),fun i hi=>by simp at hi,
     fun i=>by simp,fun i hi=>by simp at hi,hord,⟨l,hn,he⟩,fun i hi=>by simp at hi,fun t ht=>⟨fun k hk=>absurd hk (hnl k),fun _=> ?_⟩,fun t=>⟨fun k hk=>by simp at hk,fun _=>rfl⟩,fun i hi=>by simp at hi⟩
    have:=hv.getD t
    rw [show a.tmps.getD t undef=a.tmps.toList.getD t undef from by simp [yph,ypg]]
    exact this
   obtain ⟨pre2,rest2,seen2,s2,val2,hole2,I2,hh2⟩:=Inv.advance S _ _ _ _ _ _ I0
   exact ybb S hF hord hcov hq ops.size _ pre2 rest2 seen2 s2 val2 hole2 σ g _ a (by simp) (by
    refine yqf (List.length_filter_le _ _) ?_
    rw [List.length_range,S.len];exact yoz _) I2 hh2
  ·cases hn
end Go.Proofs.YtljdbheclfaloaaGreatDoor.AM
namespace Go.Proofs.YtljdbheclfaloaaGreatDoor.AM
open Go.RowKit
set_option linter.unusedSimpArgs false
set_option linter.unusedVariables false
variable {P:Program} {G N:Nat} {σ:Emb} {g:Mem} {w:World} {h:Heap}
mutual
theorem VR.back {σ':Emb} {g' g2:Mem} (hsame:∀i o,g i=some o→g2 i=some o∧g' i=some o) {u c c':Value}:VR σ g u c→VR σ' g' u c'→VR σ' g2 u c'
 | .bool b,.bool _=>.bool b
 | .int k n,.int _ _=>.int k n
 | .float k n,.float _ _=>.float k n
 | .complex k n m,.complex _ _ _=>.complex k n m
 | .string s,.string _=>.string s
 | .nilPtr,.nilPtr=>.nilPtr
 | .ptr p q v vals ver ro hv hg hle hq,.ptr _ q' v' vals' ver' ro' hv' hg' hle' hq'=>by
  obtain ⟨h2,h1⟩:=hsame _ _ hg
  rw [h1] at hg';cases hg'
  exact .ptr p q' v' vals ver ro hv' h2 hle' hq'
 | .nilSlice,.nilSlice=>.nilSlice
 | .slice p q n c cap v vals ver ro hv hg hle hn hq,.slice _ q' _ _ cap' v' vals' ver' ro' hv' hg' hle' hn' hq'=>by
  obtain ⟨h2,h1⟩:=hsame _ _ hg
  rw [h1] at hg';cases hg'
  exact .slice p q' n c cap' v' vals ver ro hv' h2 hle' hn' hq'
 | .nilMap,.nilMap=>.nilMap
 | .map r s es hg hs,.map _ s' es' hg' hs'=>by
  obtain ⟨h2,h1⟩:=hsame _ _ hg
  rw [h1] at hg';cases hg'
  exact .map r s' es h2 hs'
 | .nilChan,.nilChan=>.nilChan
 | .any k _,.any _ q'=>.any k q'
 | .func fn xs ys us vs h h',.func _ _ ys' _ vs' k k'=>.func fn xs ys' us vs' (VRs.back hsame h k) (VRs.back hsame h' k')
 | .nilFunc,.nilFunc=>.nilFunc
 | .iface t u c h,.iface _ _ c' k=>.iface t u c' (VR.back hsame h k)
 | .nilIface,.nilIface=>.nilIface
 | .agg xs ys h h1,.agg _ ys' k k1=>.agg xs ys' (VRs.back hsame h k) h1
 | .tuple xs ys h,.tuple _ ys' k=>.tuple xs ys' (VRs.back hsame h k)
theorem VRs.back {σ':Emb} {g' g2:Mem} (hsame:∀i o,g i=some o→g2 i=some o∧g' i=some o) {us cs cs':List Value}:VRs σ g us cs→VRs σ' g' us cs'→VRs σ' g2 us cs'
 | .nil,.nil=>.nil
 | .cons u c us cs h hs,.cons _ c' _ cs' k ks=>.cons u c' us cs' (VR.back hsame h k) (VRs.back hsame hs ks)
end
theorem EntriesR.back {σ':Emb} {g' g2:Mem} (hsame:∀i o,g i=some o→g2 i=some o∧g' i=some o) {es:List (Value×Value)} {ms ms':List MapEntry} (h:EntriesR σ g es ms) (h':EntriesR σ' g' es ms'):EntriesR σ' g2 es ms':=by
 induction h generalizing ms' with
 | nil=>cases h';exact .nil
 | cons e m es ms he _ ih=>
  cases h' with
  | cons _ m' _ ms' he' hs'=>exact .cons _ _ _ _ ⟨he'.key,he'.plain,he.val.back hsame he'.val⟩ (ih hs')
theorem zwp (hm:MR G N σ g w) (hs:Sub g h) {v cv:Value} {h':Heap} {w':World} (hd:Done G N σ g w h v h' cv w') (hf:flat v=true) (hp:h'.take h.length=h):Done G N σ g w h v h cv w':=by
 obtain ⟨σ',hgo,hm',hv,hh⟩:=hd
 have hcv:cv=v:=by
  have key1:∀{σ:Emb} {g:Mem} {u c:Value},plain1 u=true→VR σ g u c→c=u:=by
   intro σ g u c hu hr
   cases hr <;> first | rfl | simp [plain1] at hu
  have keys:∀{σ:Emb} {g:Mem} (us cs:List Value),us.all plain1=true→VRs σ g us cs→cs=us:=by
   intro σ g us
   induction us with
   | nil=>intro cs _ hr;cases hr;rfl
   | cons u us ih=>
    intro cs hu hr
    cases hr with
    | cons _ c _ cs h hs=>
     simp only [List.all_cons,ypi] at hu
     rw [key1 hu.1 h,ih _ hu.2 hs]
  have key2:∀{σ:Emb} {g:Mem} {u c:Value},plain u=true→VR σ g u c→c=u:=by
   intro σ g u c hu hr
   unfold plain at hu
   split at hu
   ·rename_i cs
    cases hr with
    | agg xs ys h h1=>rw [keys _ _ hu h]
   ·exact key1 hu hr
  have keys2:∀{σ:Emb} {g:Mem} (us cs:List Value),us.all plain=true→VRs σ g us cs→cs=us:=by
   intro σ g us
   induction us with
   | nil=>intro cs _ hr;cases hr;rfl
   | cons u us ih=>
    intro cs hu hr
    cases hr with
    | cons _ c _ cs h hs=>
     simp only [List.all_cons,ypi] at hu
     rw [key2 hu.1 h,ih _ hu.2 hs]
  unfold flat at hf
  split at hf
  ·rename_i cs
   cases hv with
   | tuple xs ys h=>rw [keys2 _ _ hf h]
  ·exact key2 hf hv
 subst hcv
 have hsame:∀i o,g i=some o→g i=some o∧grow g h h' i=some o:=by
  intro i o hi
  refine ⟨hi,?_⟩
  have hlt:i<h.length:=(yoq.1 (hs _ _ hi)).1
  unfold grow
  rw [if_pos hlt,hi]
  simp only
  have:h'[i]?=(h'.take h.length)[i]?:=by rw [yp0,if_pos hlt]
  rw [this,hp];exact hs _ _ hi
 have hseat:∀i o,g i=some o→o≠ .gone→σ' i=σ i:=by
  intro i o hi hng
  have h2:=(hsame i o hi).2
  cases o with
  | cells vals ver ro=>
   obtain ⟨vals',ver',h3,_,h5⟩:=hgo.ext.cells _ _ _ _ hi
   rw [h2] at h3;cases h3
   exact h5 rfl
  | map es=>
   obtain ⟨es',h3,h4⟩:=hgo.ext.map _ _ hi
   exact h4
  | gone=>exact absurd rfl hng
 have hng:∀i o,g i=some o→o≠ .gone:=by
  rintro i o hi rfl
  exact hm.noGone i hi
 have hext:Ext σ' g σ g:=by
  constructor
  ·intro i vals ver ro hi;exact ⟨vals,ver,hi,yoz _,fun _=>(hseat i _ hi (hng i _ hi)).symm⟩
  ·intro i es hi;exact ⟨es,hi,(hseat i _ hi (hng i _ hi)).symm⟩
 refine ⟨σ,?_,?_,.flat hf,.refl _ _⟩<;> rw [zfe hs]
 ·refine ⟨.refl _ _,hgo.size,hgo.os,hgo.tape,hgo.output,hgo.rest,fun b hb=>.inl hb⟩
 ·refine ⟨fun i o hi=> ?_,hm.inj,hm.glob,yqf hm.size hgo.size⟩
  have h1:=hm'.obj i o (hsame i o hi).2
  have h0:=hm.obj i o hi
  rw [hseat i o hi (hng i o hi)] at h1
  cases h1 with
  | own vals cs ver el hb h00 hw hsz hv hl h1=>
   cases h0 with
   | own _ cs0 _ el0 hb0 h000 hw0 hs0 hv0 hl0 h10=>exact .own vals cs ver el hb h00 hw hsz ((hv0.back hsame hv).ext hext) hl h1
  | ro vals hb hv h1=>
   cases h0 with
   | ro _ hb0 hv0 h10=>
    refine .ro vals hb (fun j u hu=> ?_) h1
    obtain ⟨c,hc,hvr⟩:=hv j u hu
    obtain ⟨c0,_,hvr0⟩:=hv0 j u hu
    exact ⟨c,hc,(hvr0.back hsame hvr).ext hext⟩
  | map es ms clock hb hw he=>
   cases h0 with
   | map _ ms0 clock0 hb0 hw0 he0=>exact .map es ms clock hb hw ((he0.back hsame he).ext hext)
def zpt (tm:Array Value):ResultVar→Sem Value
 | .tmp i=>pure (tm.getD i undef)
 | .cell a ty=>do loadVar ty (←asAddr (tm.getD a undef))
theorem zzx (fn:Func) (tm:Array Value):results fn tm=(do
  let vs←fn.results.mapM (zpt tm)
  pure (if h:vs.size=1 then vs[0] else .tuple vs)):=by
 unfold results
 congr 1
theorem zut (hm:MR G N σ g w) (hs:Sub g h) {fn:Func} {rs:List ARes} (hn:gz P fn.results.toList=some rs) {t:List Value} {tm:Array Value} (hv:VRs σ g t tm.toList) {v:Value} (he:f9 ⟨t,h⟩ rs=some v):
  ∃cv,(results fn tm).run P w=.ok cv w∧VR σ g v cv:=by
 have tmp:∀i,VR σ g (t.getD i undef) (tm.getD i undef):=by
  intro i
  have:=hv.getD i
  rw [show tm.getD i undef=tm.toList.getD i undef from by simp [yph,ypg]]
  exact this
 have one:∀(r:ResultVar) (a:ARes) (u:Value),gz P [r]=some [a]→aRes ⟨t,h⟩ a=some u→
   ∃cu,(zpt tm r).run P w=.ok cu w∧VR σ g u cu:=by
  intro r a u hr ha
  cases r with
  | tmp i=>
   simp only [gz,yp6,yot,List.cons.injEq,and_true] at hr
   subst hr
   simp only [aRes,yot] at ha
   subst ha
   exact ⟨_,rfl,tmp i⟩
  | cell x ty=>
   have hx:=tmp x
   unfold gz at hr
   cases hag:aggT P ty with
   | none=>rw [hag] at hr;simp [gz] at hr
   | some b=>
    cases hz:ge P ty with
    | none=>rw [hag,hz] at hr;cases b <;> simp [gz] at hr
    | some n=>
     rw [hag,hz] at hr
     cases b <;> simp only [gz,yot,List.cons.injEq,and_true] at hr <;> subst hr <;> simp only [aRes] at ha <;> split at ha <;>(try cases ha)
     ·rename_i p hp
      rw [hp] at hx
      obtain ⟨q,hq⟩:=hx.ptr_inv
      obtain ⟨cv,hrun,hvr⟩:=zok (P:=P) hm hs hag hx ha
      refine ⟨cv,?_,hvr⟩
      rw [hq] at hrun
      simp only [zpt]
      rw [hq]
      simpa [Instr.loadAt,Instr.sureAddr,asAddr] using hrun
     ·rename_i p hp
      rw [hp] at hx
      obtain ⟨q,hq⟩:=hx.ptr_inv
      obtain ⟨l,hl,rfl⟩:=zo ha
      obtain ⟨cv,hrun,hvr⟩:=zpb (P:=P) hm hs hag hz hx hl
      refine ⟨cv,?_,hvr⟩
      rw [hq] at hrun
      simp only [zpt]
      rw [hq]
      simpa [Instr.loadAt,Instr.sureAddr,asAddr] using hrun
 have many:∀(l:List ResultVar) (yoi:List ARes) (us:List Value),gz P l=some yoi→yoi.mapM (aRes ⟨t,h⟩)=some us→
   ∃cus,(l.mapM (zpt tm):Sem (List Value)).run P w=.ok cus w∧VRs σ g us cus:=by
  intro l
  induction l with
  | nil=>
   intro yoi us hl hus
   simp only [gz,yot] at hl;subst hl
   simp at hus;subst hus
   exact ⟨[],rfl,.nil⟩
  | cons r l ih=>
   intro yoi us hl hus
   obtain ⟨a,as',rfl,h1,h2⟩:∃a as',yoi=a::as'∧gz P [r]=some [a]∧gz P l=some as':=by
    cases r with
    | tmp i=>
     simp only [gz] at hl
     obtain ⟨as',h1,rfl⟩:=zo hl
     exact ⟨_,_,rfl,rfl,h1⟩
    | cell x ty=>
     unfold gz at hl
     split at hl
     ·rename_i n as' h1 h2 h3
      simp only [yot] at hl;subst hl
      exact ⟨_,_,rfl,by simp [gz,h1,h2],h3⟩
     ·rename_i n as' h1 h2 h3
      simp only [yot] at hl;subst hl
      exact ⟨_,_,rfl,by simp [gz,h1,h2],h3⟩
     ·cases hl
   rw [List.mapM_cons] at hus
   simp only [bind,yo6,pure,yot] at hus
   obtain ⟨u,hu,us',hus',rfl⟩:=hus
   obtain ⟨cu,hrun,hvr⟩:=one r a u h1 hu
   obtain ⟨cus,hruns,hvrs⟩:=ih as' us' h2 hus'
   refine ⟨cu::cus,?_,.cons _ _ _ _ hvr hvrs⟩
   rw [List.mapM_cons]
   simp only [Sem.run_bind,hrun,Result.andThen_ok,hruns,Sem.run_pure]
 have hlen:∀(l:List ResultVar) (yoi:List ARes),gz P l=some yoi→yoi.length=l.length:=by
  intro l
  induction l with
  | nil=>intro yoi h;simp only [gz,yot] at h;subst h;rfl
  | cons r l ih=>
   intro yoi h
   cases r with
   | tmp i=>simp only [gz] at h;obtain ⟨as',h1,rfl⟩:=zo h;simp [ih _ h1]
   | cell x ty=>
    unfold gz at h
    split at h
    ·rename_i h3;simp only [yot] at h;subst h;simp [ih _ h3]
    ·rename_i h3;simp only [yot] at h;subst h;simp [ih _ h3]
    ·cases h
 have hvs:∃us cus,rs.mapM (aRes ⟨t,h⟩)=some us∧(fn.results.toList.mapM (zpt tm):Sem (List Value)).run P w=.ok cus w∧
   VRs σ g us cus∧v=(if us.length=1 then us.getD 0 undef else tup us)∧us.length=rs.length:=by
  unfold f9 at he
  split at he
  ·rename_i r
   have hus:[r].mapM (aRes ⟨t,h⟩)=some [v]:=by simp [he]
   obtain ⟨cus,h1,h2⟩:=many _ _ _ hn hus
   exact ⟨[v],cus,hus,h1,h2,by simp,rfl⟩
  ·rename_i hne
   obtain ⟨us,hus,rfl⟩:=zo he
   obtain ⟨cus,h1,h2⟩:=many _ _ _ hn hus
   have hl:us.length=rs.length:=by
    have:∀(rs:List ARes) (us:List Value),rs.mapM (aRes ⟨t,h⟩)=some us→us.length=rs.length:=by
     intro rs
     induction rs with
     | nil=>intro us h;simp at h;subst h;rfl
     | cons r rs ih=>
      intro us h
      rw [List.mapM_cons] at h
      simp only [bind,yo6,pure,yot] at h
      obtain ⟨u,_,us',hus',rfl⟩:=h
      simp [ih _ hus']
    exact this _ _ hus
   refine ⟨us,cus,hus,h1,h2,?_,hl⟩
   rw [if_neg]
   rw [hl]
   intro h1'
   obtain ⟨r,hr⟩:=List.length_eq_one_iff.1 h1'
   exact hne r hr
 obtain ⟨us,cus,_,hrun,hvrs,rfl,_⟩:=hvs
 have hcl:=hvrs.length
 refine ⟨if cus.length=1 then cus.getD 0 undef else .tuple ⟨cus⟩,?_,?_⟩
 ·rw [zzx,Array.mapM_eq_mapM_toList]
  simp only [Sem.run_bind,Sem.run_map,hrun,Result.andThen_ok,Sem.run_pure]
  congr 1
  have hsz:(List.toArray cus).size=cus.length:=rfl
  by_cases h1:cus.length=1
  ·rw [dif_pos (by rw [hsz];exact h1),if_pos h1]
   obtain ⟨c,rfl⟩:=List.length_eq_one_iff.1 h1
   rfl
  ·rw [dif_neg (by rw [hsz];exact h1),if_neg h1]
 ·rw [hcl]
  by_cases h1:cus.length=1
  ·rw [if_pos h1,if_pos h1];exact hvrs.getD 0
  ·rw [if_neg h1,if_neg h1];exact .tuple _ _ hvrs
def ygo (P : Program) (G : Nat) (F : Funcs) : Prop := (∀ f fn, F f = some fn → ∃ pf ords, P.funcs[f]? = some pf ∧ zmt P G ords pf = some fn ∧ pf.name ≠ "runtime.NumGoroutine") ∧ ∀ N, zd7 P G N F.ext
theorem ynv (hreg:∀ords id ops,zmu P G ords id ops true) {F:Funcs} (hr:ygo P G F):∀n,(∀N,zd7 P G N (evF F n))∧∀m,m≤n→zyp P G F m:=by
 intro n
 induction n with
 | zero=>
  refine ⟨fun N f args h v h' he=>by simp [evF] at he,fun m hm=> ?_⟩
  obtain rfl:m=0:=by omega
  intro N c ords ac hn s s' x he
  simp [evC] at he
 | succ n ih=>
  obtain ⟨ihf,ihc⟩:=ih
  refine ⟨fun N f args h v h' he σ g w cargs hs hm hv=> ?_,fun m hm=> ?_⟩
  ·rw [evF] at he
   cases hf:F f with
   | none=>
    rw [hf] at he
    exact hr.2 N f args h v h' he σ g w cargs hs hm hv
   | some fn=>
    rw [hf] at he
    simp only at he
    obtain ⟨pf,ords,hpf,hnf,hname⟩:=hr.1 f fn hf
    unfold zmt at hnf
    split at hnf
    ·rename_i b r hb hres
     simp only [yot] at hnf
     subst hnf
     obtain ⟨pb,hpb,hnb⟩:=yo6.1 hb
     refine ⟨by simp [zov,hpf,hpb,hname],?_⟩
     simp only at he
     have hal:=hv.length
     have hv0:VRs σ g (args++List.replicate (pf.ntmps - args.length) undef) (cargs++List.replicate (pf.ntmps - cargs.length) undef):=by
      rw [hal]
      exact hv.append (.replicate (.tuple [] [] .nil) _)
     refine calls_of_wp hpf hpb ?_
     have hact:({ tmps:=(⟨cargs⟩:Array Value)++Array.replicate (pf.ntmps - (⟨cargs⟩:Array Value).size) undef,defers:=[]}:Act).tmps.toList=cargs++List.replicate (pf.ntmps - cargs.length) undef:=by simp
     cases hc:evC F n b ⟨args++List.replicate (pf.ntmps - args.length) undef,h⟩ with
     | none=>rw [hc] at he;cases he
     | some p=>
      obtain ⟨x,s⟩:=p
      rw [hc] at he
      refine ihc n (yoz _) N pb ords b hnb ⟨args++List.replicate (pf.ntmps - args.length) undef,h⟩ s x hc σ g w _ _ hm hs (by rw [hact];exact hv0) rfl fun a' w' hto=> ?_
      obtain ⟨σ',hgo,hm',hv',hh,hd⟩:=hto
      have fin:(f9 s r).map (fun v=>(v,finish h v s.h))=some (v,h')→a'.defers=[]∧∃cv,(results pf a'.tmps).run P w'=.ok cv w'∧(∃cv',Ending.returned cv=.returned cv'∧Done G N σ g w h v h' cv' w'):=by
       intro he
       obtain ⟨v0,hv0,he⟩:=zo he
       simp only [yo2] at he
       obtain ⟨rfl,rfl⟩:=he
       obtain ⟨cv,hrun,hvr⟩:=zut (P:=P) hm' (zjv _ _ _) hres hv' (show f9 ⟨s.t,s.h⟩ r=some v0 from hv0)
       refine ⟨hd,cv,hrun,cv,rfl,?_⟩
       have hdone:Done G N σ g w h v0 s.h cv w':=⟨σ',hgo,hm',hvr,hh⟩
       unfold finish
       split
       ·rename_i hfl
        exact zwp hm hs hdone hfl.1 hfl.2
       ·exact hdone
      cases x with
      | normal=>exact fin he
      | ret=>exact fin he
      | exit id=>cases he
    ·cases hnf
  ·by_cases hmn:m=n+1
   ·subst hmn
    exact ydo hreg F n ihf ihc
   ·exact ihc m (by omega)
end Go.Proofs.YtljdbheclfaloaaGreatDoor.AM
namespace Go.Proofs.YtljdbheclfaloaaGreatDoor.AM
open Go.RowKit
set_option linter.unusedSimpArgs false
set_option linter.unusedVariables false
variable {P:Program} {G N:Nat} {σ:Emb} {g:Mem} {w:World} {h:Heap}
theorem yod {F:Funcs} (hm:P.follows .mixedOrders=true) (hr:ygo P G F) {f:FuncId} {args cargs:List Value} {h0 h':Heap} {v:Value} (hd:DF F f args h0=some (v,h')) (hf:plain1 v=true) (σ:Emb) (W:World)
  (mr:MR G W.heap.size σ (fun i=>h0[i]?) W) (hv:VRs σ (fun i=>h0[i]?) args cargs) (hro:∀o∈h0,owns o=false):
  Calls P f ⟨cargs⟩ W fun e W'=>e=.returned v∧Go.RowKit.Below W.heap.size W W':=by
 obtain ⟨n,hn⟩:=(zpa F _ _ _ _).1 hd
 obtain ⟨_,hc⟩:=((ynv (zwk hm) hr n).1 W.heap.size) f args h0 v h' hn σ (fun i=>h0[i]?) W cargs (fun i o h=>h) mr hv
 refine hc.mono fun e W' ⟨cv,he,σ',hgo,hmr,hcv,hh⟩=> ?_
 have key1:∀{σ:Emb} {g:Mem} {u c:Value},plain1 u=true→VR σ g u c→c=u:=by
  intro σ g u c hu hr
  cases hr <;> first | rfl | simp [plain1] at hu
 refine ⟨by rw [he,key1 hf hcv],hgo.os,hgo.tape,hgo.output,hgo.size,fun k hk=>hgo.rest k hk ?_⟩
 rintro ⟨i,o,hi,ho,_⟩
 rw [hro o (yp3 hi)] at ho
 cases ho
end Go.Proofs.YtljdbheclfaloaaGreatDoor.AM
namespace Go.Proofs.YtljdbheclfaloaaGreatDoor.AM
open Go.RowKit
set_option linter.unusedSimpArgs false
set_option linter.unusedVariables false
section
variable {F:Funcs}
def forQ (J:St→Prop) (Q:AEx→St→Prop):AEx→St→Prop
 | .normal,s=>J s
 | x,s=>Q x s
theorem zc (J:St→Prop) (Q:AEx→St→Prop) (s:St):forQ J Q .normal s=J s:=rfl
theorem zq (J:St→Prop) (Q:AEx→St→Prop) (i:Nat) (s:St):forQ J Q (.exit i) s=Q (.exit i) s:=rfl
theorem wt (J:St→Prop) (Q:AEx→St→Prop) (s:St):forQ J Q .ret s=Q .ret s:=rfl
theorem gg {b:zal} {Q:AEx→St→Prop} (n:Nat) (I:Nat→St→Prop) (step:∀k s,k<n→I k s→WPD (D F b s) (forQ (I (k+1)) Q)) (last:∀s,I n s→WPD (D F b s) (forQ (fun _=>False) Q)) (s:St) (h0:I 0 s):WPD (D F (.loop b) s) Q:=by
 refine zgx (fun m s=>∃k,m+k=n+1∧((k≤n∧I k s)∨(n<k∧False))) ?_ (n+1) s ⟨0,by omega,.inl ⟨Nat.zero_le _,h0⟩⟩
 rintro m s ⟨k,hm,⟨hk,hI⟩ | ⟨_,hf⟩⟩
 ·by_cases hlt:k<n
  ·refine (step k s hlt hI).mono fun x s' hq=> ?_
   cases x with
   | normal=>exact ⟨m - 1,by omega,k+1,by omega,.inl ⟨by omega,hq⟩⟩
   | exit i=>exact hq
   | ret=>exact hq
  ·have:k=n:=by omega
   subst this
   refine (last s hI).mono fun x s' hq=> ?_
   cases x with
   | normal=>exact hq.elim
   | exit i=>exact hq
   | ret=>exact hq
 ·exact hf.elim
def outQ (id:Nat) (P:St→Prop):AEx→St→Prop:=fun x s=>x=.exit id∧P s
theorem x8 (id:Nat) (P:St→Prop) (s:St):outQ id P (.exit id) s=P s:=by unfold outQ;simp
theorem jv {b:zal} {Q:AEx→St→Prop} (id n:Nat) (I:Nat→St→Prop) (P:St→Prop) (step:∀k s,k<n→I k s→WPD (D F b s) (forQ (I (k+1)) (outQ id P))) (last:∀s,I n s→WPD (D F b s) (forQ (fun _=>False) (outQ id P))) (s:St) (h0:I 0 s) (hq:∀s,P s→Q (.exit id) s):WPD (D F (.loop b) s) Q:=
 (gg n I step last s h0).mono fun x s ⟨hx,hp⟩=>by subst hx;exact hq s hp
end
theorem zkf {n:Int} (h: -9223372036854775808≤n∧n≤9223372036854775807):IntKind.i64.wrap n=n:=zgz (by unfold W;exact h)
abbrev U:=BitVec 32
theorem zre (x:U):IntKind.u32.wrap (x.toNat:Int)=x.toNat:=by
 have:=x.isLt
 simp [IntKind.wrap,IntKind.signed,IntKind.bits];omega
theorem zub (x:U):BitVec.ofInt 32 (x.toNat:Int)=x:=by
 rw [BitVec.ofInt_natCast];simp
theorem u_or (x y:U):Go.bits .or .u32 x.toNat y.toNat=((x ||| y).toNat:Int):=by
 unfold Go.bits;simp only [IntKind.bits,zub];exact zre _
theorem yhp (x y:U):Go.bits .and .u32 x.toNat y.toNat=((x&&&y).toNat:Int):=by
 unfold Go.bits;simp only [IntKind.bits,zub];exact zre _
theorem zxl (x y:U):Go.bits .andNot .u32 x.toNat y.toNat=((x&&& ~~~ y).toNat:Int):=by
 unfold Go.bits;simp only [IntKind.bits,zub];exact zre _
theorem yns (x:U) (k:Int):shl .u32 x.toNat k=((x <<< k.toNat).toNat:Int):=by
 unfold shl
 have e:IntKind.u32.wrap ((x.toNat:Int)*2 ^ min k.toNat IntKind.u32.bits)=((x.toNat*2 ^ min k.toNat 32 % 2 ^ 32:Nat):Int):=by
  simp [IntKind.wrap,IntKind.signed,IntKind.bits]
 rw [e,BitVec.toNat_shiftLeft,Nat.shiftLeft_eq]
 congr 1
 by_cases h:k.toNat≤32
 ·rw [Nat.min_eq_left h]
 ·rw [Nat.min_eq_right (by omega)]
  have h1:k.toNat=32+(k.toNat - 32):=by omega
  rw [h1,Nat.pow_add]
  rw [Nat.mul_mod_left,←Nat.mul_assoc,Nat.mul_comm x.toNat,Nat.mul_assoc,Nat.mul_mod_right]
theorem yiu (k:Int):shl .u32 1 k=((1#32 <<< k.toNat).toNat:Int):=yns 1#32 k
theorem yn7 (x:U) (k:Int):shr .u32 x.toNat k=((x >>> k.toNat).toNat:Int):=by
 unfold shr
 rw [yfw,BitVec.toNat_ushiftRight]
 have:((x.toNat:Int)>>> min k.toNat IntKind.u32.bits)=((x.toNat >>> min k.toNat 32:Nat):Int):=rfl
 rw [this]
 congr 1
 by_cases h:k.toNat≤32
 ·rw [Nat.min_eq_left h]
 ·rw [Nat.min_eq_right (by omega),Nat.shiftRight_eq_div_pow,Nat.shiftRight_eq_div_pow,Nat.div_eq_of_lt x.isLt,Nat.div_eq_of_lt (Nat.lt_of_lt_of_le x.isLt (Nat.pow_le_pow_right (by omega) (by omega)))]
theorem ymk (x:U):Go.bits .and .u32 x.toNat 1=((x&&&1#32).toNat:Int):=yhp x 1#32
theorem ynw (x:U) (k:Int):(Go.bits .and .u32 (shr .u32 x.toNat k) 1==1)=x.getLsbD k.toNat:=by
 rw [yn7,ymk]
 have:(x >>> k.toNat)&&&1#32=if x.getLsbD k.toNat then 1#32 else 0#32:=by
  apply BitVec.eq_of_getLsbD_eq
  intro i hi
  rw [BitVec.getLsbD_and,BitVec.getLsbD_ushiftRight,BitVec.getLsbD_one]
  by_cases h:i=0
  ·subst h;cases x.getLsbD k.toNat <;> simp
  ·have:decide (i=0)=false:=by simp [h]
   cases x.getLsbD k.toNat <;> simp [h]
 rw [this]
 cases x.getLsbD k.toNat <;> rfl
theorem u_eq (x y:U):(((x.toNat:Int)==(y.toNat:Int)):Bool)=(x==y):=by
 by_cases h:x=y
 ·subst h;simp
 ·have:x.toNat≠y.toNat:=fun e=>h (BitVec.eq_of_toNat_eq e)
  have h1:(x==y)=false:=by simp [h]
  rw [h1,beq_eq_false_iff_ne];omega
theorem yj6 {x y:U} (h:∀i,i<32→x.getLsbD i=y.getLsbD i):x=y:=BitVec.eq_of_getLsbD_eq h
theorem yls {e i:Nat} (hi:i<32):(1#32 <<< e).getLsbD i=decide (i=e):=by
 rw [BitVec.getLsbD_shiftLeft,BitVec.getLsbD_one]
 by_cases h:i=e
 ·subst h;simp [hi]
 ·by_cases h2:i<e
  ·simp [h2,h]
  ·simp [h,hi];omega
def relV (f:Nat→U):List Value:=zc2 32 fun e=>.int .u32 ((f e).toNat:Int)
theorem yx (f:Nat→U):(relV f).length=32:=bn _ _
theorem zdc {f:Nat→U} {k:Nat} (hk:k<32):(relV f)[k]?=some (.int .u32 ((f k).toNat:Int)):=zfb hk
theorem zln {f g:Nat→U} (h:∀k,k<32→f k=g k):relV f=relV g:=ziw fun k hk=>by rw [h k hk]
theorem yf6 (f:Nat→U) (k:Nat) (x:U):(relV f).set k (.int .u32 (x.toNat:Int))=relV (fun e=>if e=k then x else f e):=by
 unfold relV;rw [zso];apply ziw;intro i _;by_cases h:i=k <;> simp [h]
theorem zp1 (f:Nat→U):(relV f).all plain1=true:=ydz _ fun _ _=>rfl
theorem vy:List.replicate 32 (.int .u32 0)=relV (fun _=>0#32):=yc5 32 _
theorem yfx (f:Nat→U):flat (agg (relV f))=true:=by
 have:=zp1 f
 simp [flat,plain,agg] at this ⊢;exact this
def mix {α:Type} (k:Nat) (A B:Nat→α) (e:Nat):α:=if e<k then A e else B e
theorem zep {α:Type} (A B:Nat→α):mix 0 A B=B:=by funext e;simp [mix]
theorem zoq {α:Type} (k:Nat) (A B:Nat→α):mix k A B k=B k:=by simp [mix]
theorem zt2 {α:Type} {k e:Nat} (A B:Nat→α) (h:e<k):mix k A B e=A e:=by simp [mix,h]
theorem zym {α:Type} {k e:Nat} (A B:Nat→α) (h:¬e<k):mix k A B e=B e:=by simp [mix,h]
theorem zvt (k:Nat) (A B:Nat→U):(relV (mix k A B)).set k (.int .u32 ((A k).toNat:Int))=relV (mix (k+1) A B):=by
 rw [yf6]
 apply zln
 intro i _
 by_cases h:i=k
 ·subst h;simp [mix]
 ·rw [if_neg h]
  by_cases h2:i<k
  ·rw [zt2 _ _ h2,zt2 _ _ (by omega)]
  ·rw [zym _ _ h2,zym _ _ (by omega)]
theorem zad {k:Nat} {A B:Nat→U} {x:U} (hx:A k=x):(relV (mix k A B)).set k (.int .u32 (x.toNat:Int))=relV (mix (k+1) A B):=by rw [←hx,zvt]
theorem zho {k:Nat} {A B:Nat→U} (h:A k=B k):relV (mix k A B)=relV (mix (k+1) A B):=by
 apply zln
 intro i _
 by_cases h1:i=k
 ·subst h1;simp [mix,h]
 ·by_cases h2:i<k
  ·rw [zt2 _ _ h2,zt2 _ _ (by omega)]
  ·rw [zym _ _ h2,zym _ _ (by omega)]
theorem p9 (A B:Nat→U):relV (mix 32 A B)=relV A:=zln fun k hk=>zt2 _ _ hk
theorem zd3 (h:Heap) {len size b o:Nat} {s:Option Nat} {kk:IntKind} {k:Nat} (h1:k<len):arrO h len size (.pointer (some ⟨b,o,s⟩)) (.int kk (k:Int))=some (.pointer (some ⟨b,o+k*size,s⟩),h):=by
 rw [zx2 h (by omega) (by omega),Int.toNat_natCast]
theorem zro (h:Heap) {size:Nat} {p:Addr} {n:Nat} {kk:IntKind} {k:Nat} (h1:k<n):rowO h size (.slice (some p) n size) (.int kk (k:Int))=some (.pointer (some ⟨p.block,p.off+k*size,p.spot⟩),h):=by
 rw [yhn h (by omega) (by omega),Int.toNat_natCast]
theorem zg (l:List Value):laid (agg l)=some l:=by simp [laid,agg]
theorem ze (h:Heap) {n:Nat} {l:List Value} (hl:l.length=n):boxO h n (some l)=some (.pointer (some ⟨h.length,0,some 0⟩),h++[.cells l 0 false]):=by simp [boxO,hl]
theorem zs {k:Nat} (h:k<9223372036854775807):IntKind.i64.wrap ((k:Int)+1)=((k+1:Nat):Int):=by rw [zgz (by unfold W;omega)];omega
open Classical in
noncomputable def yc0 (h:Heap) (n:Nat):Value→Value→Option (Value×Heap)
 | .pointer (some p),v=>if (h.read p n).map agg=some v∧zo0 v=false then some (undef,h) else none
 | _,_=>none
open Classical in
theorem yfd {call:vf} (t:List Value) (h' h:Heap) (n:Nat) (a:Operand) (i:Nat):evOp call (St.eval ⟨t,h'⟩) h (.again n a i)=yc0 h n (St.eval ⟨t,h'⟩ a) (t.getD i undef):=by
 simp only [evOp]
 show (match St.eval ⟨t,h'⟩ a with | .pointer (some p)=>if (h.read p n).map agg=some (t.getD i undef)∧zo0 (t.getD i undef)=false then some (undef,h) else none | _=>none)=_
 generalize St.eval ⟨t,h'⟩ a=x
 cases x with
 | pointer p=>cases p <;> rfl
 | _=>rfl
theorem zs4 {h:Heap} {n:Nat} {p:Addr} {l:List Value} (hr:h.read p n=some l):yc0 h n (.pointer (some p)) (agg l)=some (undef,h):=by
 simp only [yc0,hr,yp6,true_and];rfl
open Classical in
noncomputable def zbd (h:Heap):Value→Value→Option (Value×Heap)
 | .pointer (some p),v=>if h.read1 p=some v∧zo0 v=false then some (undef,h) else none
 | _,_=>none
open Classical in
theorem zak {call:vf} (t:List Value) (h' h:Heap) (a:Operand) (i:Nat):evOp call (St.eval ⟨t,h'⟩) h (.again1 a i)=zbd h (St.eval ⟨t,h'⟩ a) (t.getD i undef):=by
 simp only [evOp]
 show (match St.eval ⟨t,h'⟩ a with | .pointer (some p)=>if h.read1 p=some (t.getD i undef)∧zo0 (t.getD i undef)=false then some (undef,h) else none | _=>none)=_
 generalize St.eval ⟨t,h'⟩ a=x
 cases x with
 | pointer p=>cases p <;> rfl
 | _=>rfl
def zl5 (h:Heap) (neg:Bool) (ks:List EqK):Value→Value→Option (Value×Heap)
 | .agg a,.agg b=>if a.size=ks.length∧b.size=ks.length then (zbs ks a.toList b.toList).map fun b=>(.bool (b !=neg),h) else none
 | _,_=>none
theorem zqy {call:vf} (ρ:Operand→Value) (h:Heap) (neg:Bool) (ks:List EqK) (x y:Operand):evOp call ρ h (.eqAgg neg ks x y)=zl5 h neg ks (ρ x) (ρ y):=by
 simp only [evOp];generalize ρ x=x;generalize ρ y=y;cases x <;> cases y <;> rfl
theorem zlv (h:Heap) {neg:Bool} {ks:List EqK} {a b:List Value} {r:Bool} (ha:a.length=ks.length) (hb:b.length=ks.length) (hr:zbs ks a b=some r):zl5 h neg ks (agg a) (agg b)=some (.bool (r !=neg),h):=by
 simp [zl5,agg,ha,hb,hr]
theorem zto (a b:List U) (hl:a.length=b.length):zbs (List.replicate a.length .int) (a.map fun x=>.int .u32 (x.toNat:Int)) (b.map fun x=>.int .u32 (x.toNat:Int))=some (a==b):=by
 induction a generalizing b with
 | nil=>cases b with
  | nil=>rfl
  | cons y b=>simp at hl
 | cons x a ih=>cases b with
  | nil=>simp at hl
  | cons y b=>
   simp only [ypb,List.replicate_succ,ypr,zbs,ve,if_true]
   rw [u_eq]
   by_cases h:x=y
   ·subst h
    simp only [beq_self_eq_true]
    rw [ih b (by simpa using hl)]
    simp
   ·have:(x==y)=false:=by simp [h]
    rw [this];simp [h]
def zrt (f g:Nat→U):Bool:=zc2 32 f==zc2 32 g
theorem ymi (h:Heap) (neg:Bool) (f g:Nat→U):zl5 h neg (List.replicate 32 .int) (agg (relV f)) (agg (relV g))=some (.bool (zrt f g !=neg),h):=by
 refine zlv h (by rw [yx];simp) (by rw [yx];simp) ?_
 have:=zto (zc2 32 f) (zc2 32 g) (by rw [bn,bn])
 rw [bn] at this
 have e:∀f:Nat→U,(zc2 32 f).map (fun x=>Value.int .u32 (x.toNat:Int))=relV f:=fun f=>by unfold relV zc2;rw [List.map_map];rfl
 rw [e,e] at this
 exact this
theorem sameR_iff {f g:Nat→U}:zrt f g=true↔∀k,k<32→f k=g k:=by
 unfold zrt
 rw [beq_iff_eq]
 exact ⟨fun h k hk=>ycs h hk,fun h=>ziw h⟩
noncomputable def zyr (h H:Heap) (n:Nat):Value→Option (Value×Heap)
 | .pointer (some p)=>match H.read p n with
  | some l=>some (agg l,finish h (agg l) H)
  | none=>none
 | _=>none
noncomputable def outE (h H:Heap):Option (List Value)→Option (Value×Heap)
 | some l=>some (agg l,finish h (agg l) H)
 | none=>none
theorem ku (h H:Heap) (i n:Nat) (t:List Value) (r:Option (Value×Heap)):retQ h [.cells i n] r .ret ⟨t,H⟩=(zyr h H n (t.getD i undef)=r):=by
 simp only [retQ,endF,f9,aRes]
 congr 1
 generalize t.getD i undef=x
 cases x with
 | pointer p=>
  cases p with
  | none=>rfl
  | some p=>simp only [zyr];cases H.read p n <;> rfl
 | _=>rfl
theorem vm (h H:Heap) (n:Nat) (p:Addr):zyr h H n (.pointer (some p))=outE h H (H.read p n):=by
 simp only [zyr];cases H.read p n <;> rfl
theorem zcp (h L:Heap) (f:Nat→U):outE h (h++L) (some (relV f))=some (agg (relV f),h):=by
 simp only [outE];rw [ft h L (yfx f)]
theorem zph (h L:Heap) {l:List Value} (hl:l.all plain1=true):outE h (h++L) (some l)=some (agg l,h):=by
 simp only [outE];rw [ft];simp [flat,plain,agg,hl]
end Go.Proofs.YtljdbheclfaloaaGreatDoor.AM
namespace Go.Proofs.YtljdbheclfaloaaGreatDoor.AM
open Go.RowKit
set_option linter.unusedSimpArgs false
set_option linter.unusedVariables false
def Sl (h:Heap) (s:Value) (c:Nat) (rows:List (List Value)):Prop:=((s=nils∧rows=[])∨∃b o v,s=.slice (some ⟨b,o,some v⟩) rows.length c∧h.read ⟨b,o,some v⟩ (rows.length*c)=some rows.flatten)∧∀r∈rows,r.length=c
section
variable {h:Heap} {s:Value} {c:Nat} {rows:List (List Value)}
theorem Sl.len (e:Sl h s c rows) (H:Heap):lenO H s=some (.int .i64 rows.length,H):=by
 rcases e with ⟨⟨rfl,rfl⟩ | ⟨b,o,v,rfl,_⟩,_⟩<;> rfl
theorem Sl.more (e:Sl h s c rows) (L:Heap):Sl (h++L) s c rows:=by
 rcases e with ⟨⟨rfl,rfl⟩ | ⟨b,o,v,rfl,hr⟩,hc⟩
 ·exact ⟨.inl ⟨rfl,rfl⟩,hc⟩
 ·exact ⟨.inr ⟨b,o,v,rfl,zkm h L hr⟩,hc⟩
theorem zm3:∀(rows:List (List Value)) (c:Nat),(∀r∈rows,r.length=c)→∀(k:Nat) (hk:k<rows.length),(rows.flatten.drop (k*c)).take c=rows[k]
 | [],c,hc,k,hk=>by simp at hk
 | r::rows,c,hc,0,hk=>by
  have:=hc r (by simp)
  simp [this]
 | r::rows,c,hc,k+1,hk=>by
  have h1:=hc r (by simp)
  have h2:=zm3 rows c (fun q hq=>hc q (by simp [hq])) k (by simpa using hk)
  have h3:(r++rows.flatten).drop ((k+1)*c)=rows.flatten.drop (k*c):=by
   rw [Nat.succ_mul,Nat.add_comm,←List.drop_drop,←h1,List.drop_left]
  rw [List.flatten_cons,h3]
  simpa using h2
theorem k8 (rows:List (List Value)) (c:Nat) (hc:∀r∈rows,r.length=c):rows.flatten.length=rows.length*c:=by
 induction rows with
 | nil=>simp
 | cons r rows ih=>
  rw [List.flatten_cons,yo8,hc r (by simp),ih fun q hq=>hc q (by simp [hq]),ypb,Nat.succ_mul,Nat.add_comm]
theorem yg9 {b o n:Nat} {v:Option Nat} {l:List Value} (e:h.read ⟨b,o,v⟩ n=some l) {i m:Nat} (hm:i+m≤n):h.read ⟨b,o+i,v⟩ m=some ((l.drop i).take m):=by
 unfold Heap.read at e ⊢
 simp only at e ⊢
 split at e
 ·rename_i vals ver ro hb
  split at e
  ·rename_i hc
   rw [if_pos ⟨hc.1,by omega⟩]
   cases e
   rw [List.drop_take,List.drop_drop,List.take_take,Nat.min_eq_left (by omega)]
  ·cases e
 ·cases e
theorem Sl.at (e:Sl h s c rows) {k:Nat} (hk:k<rows.length):∃b o v,(∀H,rowO H c s (.int .i64 (k:Int))=some (.pointer (some ⟨b,o,some v⟩),H))∧∀L,Heap.read (h++L) ⟨b,o,some v⟩ c=some rows[k]:=by
 rcases e with ⟨⟨rfl,rfl⟩ | ⟨b,o,v,rfl,hr⟩,hc⟩
 ·simp at hk
 ·refine ⟨b,o+k*c,v,fun H=>zro H hk,fun L=> ?_⟩
  have h1:k*c+c≤rows.length*c:=by rw [←Nat.succ_mul];exact Nat.mul_le_mul_right c hk
  rw [yg9 (zkm h L hr) h1,zm3 rows c hc k hk]
theorem zb4 {b o n:Nat} {v:Option Nat} {l:List Value} (e:h.read ⟨b,o,v⟩ n=some l) {i:Nat} {x:Value} (hx:l[i]?=some x):h.read1 ⟨b,o+i,v⟩=some x:=zyd h e hx
theorem bt {b o n:Nat} {v:Option Nat} {l:List Value} (e:h.read ⟨b,o,v⟩ n=some l) {x:Value} (hx:l[0]?=some x):h.read1 ⟨b,o,v⟩=some x:=zyd h e hx
theorem Sl.src (e:Sl h s c rows) (L:Heap):za5 (h++L) c s=some (rows.flatten,rows.length):=by
 rcases e with ⟨⟨rfl,rfl⟩ | ⟨b,o,v,rfl,hr⟩,hc⟩
 ·rfl
 ·exact zq8 _ (zkm h L hr)
theorem Sl.src0 (e:Sl h s c rows):za5 h c s=some (rows.flatten,rows.length):=by
 have:=e.src []
 rwa [ypl] at this
theorem Sl.last (h:Heap) {c n:Nat} {rows:List (List Value)} {l:List Value} (hl:l=rows.flatten) (hn:n=rows.length) (hc:∀r∈rows,r.length=c) (ver:Nat) (ro:Bool):Sl (h++[.cells l ver ro]) (.slice (some ⟨h.length,0,some ver⟩) n c) c rows:=by
 subst hl hn
 refine ⟨.inr ⟨_,_,ver,rfl,?_⟩,hc⟩
 rw [zlq,zk5 _ _ _ _ (k8 rows c hc)]
end
theorem zp6 {a b x y:List Value} (hx:x.length=y.length):splice (a++x++b) a.length y=a++y++b:=by
 unfold splice
 rw [yp4 a x b,List.take_left,←List.drop_drop,List.drop_left,←hx,List.drop_left]
theorem zh1 {c:Nat} {l:List Value} {i:Nat} {a z b:List Value} {r:List (Nat×Nat×Value)} (hl:l.length=c) (hi:a.length=i) (hz:z.length=c):yp (a++z++b) ((i,c,agg l)::r)=yp (a++l++b) r:=by
 rw [yp,zg]
 simp only
 rw [if_pos ⟨hl,by simp [hi,hz]⟩,←hi,zp6 (by omega)]
theorem zob {c:Nat} {z l:List Value} (hz:z.length=c) (hl:l.length=c):yp (p7 z 1) [(0,c,agg l)]=some l:=by
 have e:p7 z 1=[]++z++[]:=by simp [p7]
 rw [e,zh1 (i:=0) hl rfl hz,po];simp
theorem zvz {c:Nat} {z l m:List Value} (hz:z.length=c) (hl:l.length=c) (hm:m.length=c):yp (p7 z 2) [(0,c,agg l),(c,c,agg m)]=some (l++m):=by
 have e:p7 z 2=[]++z++z:=by simp [p7]
 rw [e,zh1 (i:=0) hl rfl hz]
 have e2:[]++l++z=l++z++[]:=by simp
 rw [e2,zh1 hm hl hz,po];simp
theorem zkv (f g:Nat→U):yp ((relV fun _=>0#32)++relV fun _=>0#32) [(0,32,agg (relV f)),(32,32,agg (relV g))]=some (relV f++relV g):=by
 have:=zvz (yx fun _=>0#32) (yx f) (yx g)
 simpa [p7] using this
def Rels (h:Heap) (s:Value) (rs:List (Nat→U)):Prop:=Sl h s 32 (rs.map relV)
end Go.Proofs.YtljdbheclfaloaaGreatDoor.AM
namespace Go.Proofs.YtljdbheclfaloaaGreatDoor.AM
open Go.RowKit
set_option linter.unusedSimpArgs false
set_option linter.unusedVariables false
def blk:Value→Option Nat
 | .slice (some p) _ _=>some p.block
 | _=>none
def Own (h H:Heap) (s:Value) (c:Nat) (rows:List (List Value)):Prop:=((s=nils∧rows=[])∨∃b ver,h.length≤b∧s=.slice (some ⟨b,0,some ver⟩) rows.length c∧H[b]?=some (.cells rows.flatten ver false))∧∀r∈rows,r.length=c
section
variable {h H H':Heap} {s:Value} {c:Nat} {rows:List (List Value)}
theorem Own.nil (h H:Heap) (c:Nat):Own h H (.slice none 0 0) c []:=⟨.inl ⟨rfl,rfl⟩,by simp⟩
theorem Own.sl (e:Own h H s c rows):Sl H s c rows:=by
 rcases e with ⟨⟨rfl,rfl⟩ | ⟨b,ver,hb,rfl,ho⟩,hc⟩
 ·exact ⟨.inl ⟨rfl,rfl⟩,hc⟩
 ·refine ⟨.inr ⟨b,0,ver,rfl,?_⟩,hc⟩
  unfold Heap.read
  simp only [ho]
  rw [if_pos ⟨trivial,by rw [k8 rows c hc];omega⟩,List.drop_zero,ypy (by rw [k8 rows c hc];exact yoz _)]
theorem Own.keep (e:Own h H s c rows) (hk:∀i,blk s=some i→∀o,H[i]?=some o→H'[i]?=some o):Own h H' s c rows:=by
 rcases e with ⟨⟨rfl,rfl⟩ | ⟨b,ver,hb,rfl,ho⟩,hc⟩
 ·exact ⟨.inl ⟨rfl,rfl⟩,hc⟩
 ·exact ⟨.inr ⟨b,ver,hb,rfl,hk b rfl _ ho⟩,hc⟩
theorem Own.lt (e:Own h H s c rows) {i:Nat} (hi:blk s=some i):h.length≤i∧i<H.length:=by
 rcases e with ⟨⟨rfl,rfl⟩ | ⟨b,ver,hb,rfl,ho⟩,hc⟩
 ·cases hi
 ·cases hi;exact ⟨hb,(yoq.1 ho).1⟩
theorem Own.more (e:Own h H s c rows) (L:Heap):Own h (H++L) s c rows:=e.keep fun i hi o ho=>by rw [yo9 (e.lt hi).2];exact ho
theorem Own.len (e:Own h H s c rows) (H':Heap):lenO H' s=some (.int .i64 rows.length,H'):=by
 rcases e with ⟨⟨rfl,rfl⟩ | ⟨b,ver,hb,rfl,ho⟩,hc⟩<;> rfl
theorem Sl.keep (e:Sl H s c rows) (hk:∀i,blk s=some i→∀o,H[i]?=some o→H'[i]?=some o):Sl H' s c rows:=by
 rcases e with ⟨⟨rfl,rfl⟩ | ⟨b,o,v,rfl,hr⟩,hc⟩
 ·exact ⟨.inl ⟨rfl,rfl⟩,hc⟩
 ·refine ⟨.inr ⟨b,o,v,rfl,?_⟩,hc⟩
  unfold Heap.read at hr ⊢
  simp only at hr ⊢
  split at hr
  ·rename_i vals ver ro hb
   rw [hk b rfl _ hb];exact hr
  ·cases hr
theorem Sl.lt (e:Sl H s c rows) {i:Nat} (hi:blk s=some i):i<H.length:=by
 rcases e with ⟨⟨rfl,rfl⟩ | ⟨b,o,v,rfl,hr⟩,hc⟩
 ·cases hi
 ·cases hi
  unfold Heap.read at hr
  simp only at hr
  split at hr
  ·rename_i vals ver ro hb;exact (yoq.1 hb).1
  ·cases hr
def Pre (h H:Heap):Prop:=∃L,H=h++L
theorem Pre.refl (h:Heap):Pre h h:=⟨[],by simp⟩
theorem Pre.more (e:Pre h H) (L:Heap):Pre h (H++L):=by obtain ⟨K,rfl⟩:=e;exact ⟨K++L,by simp⟩
theorem Pre.trans {h0:Heap} (e:Pre h0 h) (e':Pre h H):Pre h0 H:=by obtain ⟨K,rfl⟩:=e;obtain ⟨M,rfl⟩:=e';exact ⟨K++M,by simp⟩
theorem Pre.le (e:Pre h H):h.length≤H.length:=by obtain ⟨K,rfl⟩:=e;simp
theorem Pre.get (e:Pre h H) {i:Nat} (hi:i<h.length):H[i]?=h[i]?:=by obtain ⟨K,rfl⟩:=e;exact yo9 hi
theorem Pre.set (e:Pre h H) {i:Nat} (hi:h.length≤i) (o:AObj):Pre h (H.set i o):=by
 obtain ⟨K,rfl⟩:=e;exact ⟨K.set (i - h.length) o,by rw [List.set_append_right _ _ hi]⟩
theorem Sl.pre (e:Sl h s c rows) (p:Pre h H):Sl H s c rows:=by obtain ⟨K,rfl⟩:=p;exact e.more K
theorem Sl.atH (e:Sl H s c rows) {k:Nat} (hk:k<rows.length):∃b o v,(∀H',rowO H' c s (.int .i64 (k:Int))=some (.pointer (some ⟨b,o,some v⟩),H'))∧Heap.read H ⟨b,o,some v⟩ c=some rows[k]:=by
 obtain ⟨b,o,v,h1,h2⟩:=e.at hk
 exact ⟨b,o,v,h1,by have:=h2 [];rwa [ypl] at this⟩
theorem Own.append (e:Own h H s c rows) (p:Pre h H) {ys:List Value} {rows':List (List Value)} {bytes:Nat} (hy:ys=rows'.flatten) (hc':∀r∈rows',r.length=c) (hroom:(rows.length+rows'.length)*bytes≤wy):
  ∃s' H',wu H c bytes s (some (ys,rows'.length))=some (s',H')∧Own h H' s' c (rows++rows')∧Pre h H'∧H.length≤H'.length∧
   (∀i o,H[i]?=some o→blk s≠some i→H'[i]?=some o)∧(blk s'=blk s∨∃i,blk s'=some i∧H.length≤i):=by
 subst hy
 rcases e with ⟨⟨rfl,rfl⟩ | ⟨b,ver,hb,rfl,ho⟩,hc⟩
 ·by_cases h0:rows'.length=0
  ·have:rows'=[]:=ypj h0
   subst this
   exact ⟨nils,H,rfl,⟨.inl ⟨rfl,rfl⟩,by simp⟩,p,yoz _,fun i o hi _=>hi,.inl rfl⟩
  ·refine ⟨slc H.length 0 0 rows'.length c,H++[.cells rows'.flatten 0 false],?_,⟨.inr ⟨H.length,0,p.le,rfl,by simp⟩,by simpa using hc'⟩,p.more _,by simp,fun i o hi _=> ?_,.inr ⟨_,rfl,yoz _⟩⟩
   ·simp only [wu,nils]
    rw [if_neg h0,if_pos (by simpa using hroom)]
   ·rw [yo9 (yoq.1 hi).1];exact hi
 ·have hlt:=(yoq.1 ho).1
  refine ⟨slc b 0 (ver+1) (rows.length+rows'.length) c,H.set b (.cells (rows.flatten++rows'.flatten) (ver+1) false),?_,⟨.inr ⟨b,ver+1,hb,by rw [yo8];rfl,?_⟩,?_⟩,p.set hb _,by simp,fun i o hi hne=> ?_,.inl rfl⟩
  ·simp only [wu,ho]
   rw [if_pos ⟨trivial,trivial,trivial,by rw [k8 rows c hc];exact yoz _,hroom⟩,ypy (by rw [k8 rows c hc];exact yoz _)]
  ·rw [yox hlt,List.flatten_append]
  ·intro r hr
   rcases ype.1 hr with hr | hr
   ·exact hc r hr
   ·exact hc' r hr
  ·rw [you (by intro hbi;exact hne (by rw [hbi];rfl))];exact hi
theorem Own.push (e:Own h H s c rows) (p:Pre h H) {row:List Value} {bytes:Nat} (hrow:row.length=c) (hroom:(rows.length+1)*bytes≤wy):
  ∃s' H',wu (H++[.cells row 0 false]) c bytes s (za5 (H++[.cells row 0 false]) c (.slice (some ⟨H.length,0,some 0⟩) 1 c))=some (s',H')∧Own h H' s' c (rows++[row])∧Pre h H'∧H.length≤H'.length∧
   (∀i o,H[i]?=some o→blk s≠some i→H'[i]?=some o)∧(blk s'=blk s∨∃i,blk s'=some i∧H.length≤i):=by
 rw [yfo (L:=[]) H (by rw [hrow];omega)]
 obtain ⟨s',H',h1,h2,h3,h4,h5,h6⟩:=Own.append (e.more [.cells row 0 false]) (p.more _) (ys:=row) (rows':=[row]) (bytes:=bytes) (by simp) (by simpa using hrow) (by simpa using hroom)
 refine ⟨s',H',h1,h2,h3,by simp at h4;omega,fun i o hi hne=>h5 i o (by rw [yo9 (yoq.1 hi).1];exact hi) hne,?_⟩
 rcases h6 with h6 | ⟨i,h6,h7⟩
 ·exact .inl h6
 ·exact .inr ⟨i,h6,by simp at h7;omega⟩
theorem Own.finish (e:Own h H s c rows) (p:Pre h H):Own h (finish h s H) s c rows∧Pre h (finish h s H):=by
 obtain ⟨L,rfl⟩:=p
 rcases zpi h L s with hf | ⟨hf,hfl⟩
 ·rw [hf];exact ⟨e,L,rfl⟩
 ·rw [hf]
  rcases e with ⟨⟨rfl,rfl⟩ | ⟨b,ver,hb,rfl,ho⟩,hc⟩
  ·exact ⟨⟨.inl ⟨rfl,rfl⟩,hc⟩,Pre.refl h⟩
  ·cases hfl
end
theorem zy (h H:Heap) (i:Nat) (t:List Value) (R:Value→Heap→Prop):retE h [.tmp i] R .ret ⟨t,H⟩=R (t.getD i undef) (finish h (t.getD i undef) H):=by
 unfold retE;rw [yjn]
 exact propext ⟨fun ⟨v,h',e,r⟩=>by cases e;exact r,fun r=>⟨_,_,rfl,r⟩⟩
theorem gx (h H:Heap) (i j:Nat) (t:List Value) (R:Value→Heap→Prop):retE h [.tmp i,.tmp j] R .ret ⟨t,H⟩=R (tup [t.getD i undef,t.getD j undef]) (finish h (tup [t.getD i undef,t.getD j undef]) H):=by
 unfold retE;rw [yb6]
 exact propext ⟨fun ⟨v,h',e,r⟩=>by cases e;exact r,fun r=>⟨_,_,rfl,r⟩⟩
theorem qt (h H:Heap) (i j k:Nat) (t:List Value) (R:Value→Heap→Prop):retE h [.tmp i,.tmp j,.tmp k] R .ret ⟨t,H⟩=R (tup [t.getD i undef,t.getD j undef,t.getD k undef]) (finish h (tup [t.getD i undef,t.getD j undef,t.getD k undef]) H):=by
 unfold retE;rw [yeq]
 exact propext ⟨fun ⟨v,h',e,r⟩=>by cases e;exact r,fun r=>⟨_,_,rfl,r⟩⟩
def idxO (h:Heap):Value→Value→Option (Value×Heap)
 | .string s,.int _ k=>if 0≤k then (s.data.toList[k.toNat]?).map fun b=>(.int .u8 b.toNat,h) else none
 | _,_=>none
theorem yr {call:vf} (ρ:Operand→Value) (h:Heap) (x i:Operand):evOp call ρ h (.idxStr x i)=idxO h (ρ x) (ρ i):=by
 simp only [evOp];generalize ρ x=x;generalize ρ i=y
 cases x with
 | string s=>cases y <;> rfl
 | _=>rfl
theorem yfr {h:Heap} {s:ByteArray} {kk:IntKind} {k:Int} {b:UInt8} (h0:0≤k) (hb:s.data.toList[k.toNat]?=some b):idxO h (.string s) (.int kk k)=some (.int .u8 b.toNat,h):=by
 simp only [idxO];rw [if_pos h0,hb];rfl
def eqvO (h:Heap):Option Bool→Bool→Option (Value×Heap)
 | some b,neg=>some (.bool (b !=neg),h)
 | none,_=>none
theorem yz {call:vf} (ρ:Operand→Value) (h:Heap) (neg:Bool) (k:EqK) (x y:Operand):evOp call ρ h (.eqv neg k x y)=eqvO h (ve k (ρ x) (ρ y)) neg:=by
 simp only [evOp];cases ve k (ρ x) (ρ y)<;> rfl
theorem zl (h:Heap) (b neg:Bool):eqvO h (some b) neg=some (.bool (b !=neg),h):=rfl
theorem zda (h:Heap) (x y neg:Bool):eqvO h (ve .bool (.bool x) (.bool y)) neg=some (.bool ((x==y) !=neg),h):=rfl
theorem zcv {h H:Heap} (p:Pre h H) (i:Nat) (t:List Value) (r:Option (Value×Heap)) (hf:flat (t.getD i undef)=true):retQ h [.tmp i] r .ret ⟨t,H⟩=(some (t.getD i undef,h)=r):=by
 obtain ⟨L,rfl⟩:=p;exact zhk h L i t r hf
theorem fu {h:Heap} {p:Addr} {v:Value} (hr:h.read1 p=some v) (ht:zo0 v=false):zbd h (.pointer (some p)) v=some (undef,h):=by simp [zbd,hr,ht]
theorem zz4 {h:Heap} {p:Addr} {k:IntKind} {n:Int} (hr:h.read1 p=some (.int k n)):zbd h (.pointer (some p)) (.int k n)=some (undef,h):=fu hr rfl
theorem zeq {h:Heap} {p:Addr} {a:Option Addr} {n c:Nat} (hr:h.read1 p=some (.slice a n c)):zbd h (.pointer (some p)) (.slice a n c)=some (undef,h):=fu hr rfl
def ycc (R:Value→Heap→Prop) (h H:Heap) (x:Value):Option (List Value)→Prop
 | some l=>R (tup [agg l,x]) (finish h (tup [agg l,x]) H)
 | none=>False
def zlt (R:Value→Heap→Prop) (h H:Heap) (n:Nat) (x:Value):Value→Prop
 | .pointer (some p)=>ycc R h H x (H.read p n)
 | _=>False
theorem zge (h H:Heap) (i n j:Nat) (t:List Value) (R:Value→Heap→Prop):retE h [.cells i n,.tmp j] R .ret ⟨t,H⟩=zlt R h H n (t.getD j undef) (t.getD i undef):=by
 unfold retE
 apply propext
 simp only [endF,f9,aRes,List.mapM_cons,List.mapM_nil]
 generalize t.getD i undef=x
 generalize t.getD j undef=y
 cases x with
 | pointer p=>
  cases p with
  | none=>simp [zlt]
  | some p=>
   simp only [zlt]
   cases hr:H.read p n with
   | none=>simp [ycc]
   | some l=>
    simp only [ycc]
    constructor
    ·rintro ⟨v,h',e,r⟩
     simp at e
     obtain ⟨rfl,rfl⟩:=e
     exact r
    ·intro r
     exact ⟨_,_,by simp,r⟩
 | _=>simp [zlt]
theorem qy (R:Value→Heap→Prop) (h H:Heap) (n:Nat) (x:Value) (p:Addr):zlt R h H n x (.pointer (some p))=ycc R h H x (H.read p n):=rfl
theorem j2 (R:Value→Heap→Prop) (h H:Heap) (x:Value) (l:List Value):ycc R h H x (some l)=R (tup [agg l,x]) (finish h (tup [agg l,x]) H):=rfl
theorem pa (h H:Heap) (i j:Nat) (t:List Value) (r:Option (Value×Heap)):retQ h [.tmp i,.tmp j] r .ret ⟨t,H⟩=(some (tup [t.getD i undef,t.getD j undef],AM.finish h (tup [t.getD i undef,t.getD j undef]) H)=r):=by unfold retQ;rw [yb6]
end Go.Proofs.YtljdbheclfaloaaGreatDoor.AM
namespace Go.Proofs.YtljdbheclfaloaaGreatDoor.AM
open Go.RowKit
set_option linter.unusedSimpArgs false
set_option linter.unusedVariables false
end Go.Proofs.YtljdbheclfaloaaGreatDoor.AM
namespace Go.Proofs.YtljdbheclfaloaaGreatDoor.AM
open Go.RowKit
set_option linter.unusedSimpArgs false
set_option linter.unusedVariables false
inductive Sh where
 | bool
 | int (k:IntKind)
 | str
 | slice (bytes:Nat) (e:List Sh)
def zsi (P:Program) (r:TypeId→Option (List Sh)):List Field→Nat→Option (List Sh)
 | [],_=>some []
 | f::fs,off=>match r f.type,zsi P r fs (off+P.cellsOf f.type) with
  | some l,some l'=>if f.offset=off∧l.length=P.cellsOf f.type then some (l++l') else none
  | _,_=>none
def zll (P:Program):Nat→TypeId→Option (List Sh)
 | 0,_=>none
 | d+1,t=>match P.underlying t with
  | some .bool=>some [.bool]
  | some (.int k)=>some [.int k]
  | some .string=>some [.str]
  | some (.slice e)=>match zll P d e with
   | some l=>if l.length=P.cellsOf e∧0<P.cellsOf e then some [.slice (P.bytesOf e) l] else none
   | none=>none
  | some (.struct fs)=>match zsi P (zll P d) fs.toList 0 with
   | some l=>if l.length=P.cellsOf t then some l else none
   | none=>none
  | some (.array n e)=>match zll P d e with
   | some l=>if l.length=P.cellsOf e∧P.cellsOf t=n*P.cellsOf e then some (List.replicate n l).flatten else none
   | none=>none
  | _=>none
inductive Typed (h:Heap):Sh→Value→Prop
 | bool (b:Bool):Typed h .bool (.bool b)
 | int (k:IntKind) (n:Int) (hw:(Lit.int k n).wf=true):Typed h (.int k) (.int k n)
 | str (s:ByteArray) (hs:s.size≤reachBytes):Typed h .str (.string s)
 | nil (b:Nat) (e:List Sh):Typed h (.slice b e) (.slice none 0 0)
 | slice (b:Nat) (e:List Sh) (i n:Nat) (l:List Value) (hi:h[i]?=some (.cells l 0 true)) (hl:l.length=n*e.length) (hb:n*b≤reachBytes)
   (ht:∀(j:Nat) s u,e[j % e.length]?=some s→l[j]?=some u→Typed h s u):Typed h (.slice b e) (.slice (some ⟨i,0,some 0⟩) n e.length)
def TypedL (h:Heap) (ss:List Sh) (us:List Value):Prop:=ss.length=us.length∧∀(i:Nat) s u,ss[i]?=some s→us[i]?=some u→Typed h s u
theorem Typed.more {h:Heap} (more:Heap) {s:Sh} {u:Value} (ht:Typed h s u):Typed (h++more) s u:=by
 induction ht with
 | bool b=>exact .bool b
 | int k n hw=>exact .int k n hw
 | str s hs=>exact .str s hs
 | nil b e=>exact .nil b e
 | slice b e i n l hi hl hb ht ih=>exact .slice b e i n l (by rw [yo9 (yoq.1 hi).1];exact hi) hl hb ih
theorem TypedL.more {h:Heap} (more:Heap) {ss:List Sh} {us:List Value} (ht:TypedL h ss us):TypedL (h++more) ss us:=⟨ht.1,fun i s u hs hu=>(ht.2 i s u hs hu).more more⟩
theorem TypedL.nil (h:Heap):TypedL h [] []:=⟨rfl,fun i s u hs _=>by simp at hs⟩
theorem TypedL.one {h:Heap} {s:Sh} {u:Value} (ht:Typed h s u):TypedL h [s] [u]:=⟨rfl,fun i s' u' hs hu=>by
 cases i with
 | zero=>simp at hs hu;subst hs hu;exact ht
 | succ i=>simp at hs⟩
theorem TypedL.append {h:Heap} {ss ss':List Sh} {us us':List Value} (ht:TypedL h ss us) (ht':TypedL h ss' us'):TypedL h (ss++ss') (us++us'):=by
 refine ⟨by simp [ht.1,ht'.1],fun i s u hs hu=> ?_⟩
 by_cases hi:i<ss.length
 ·rw [yo9 hi] at hs
  rw [yo9 (by have:=ht.1;omega)] at hu
  exact ht.2 i s u hs hu
 ·rw [ypn (by omega)] at hs
  rw [ypn (by have:=ht.1;omega)] at hu
  have:=ht.1
  exact ht'.2 _ s u hs (by rw [this];exact hu)
section
variable {P:Program} {W:World}
def Laid (W:World) (h:Heap) (σ:Emb):Prop:=∀i o,h[i]?=some o→owns o=false∧ObjR W.heap.size σ (fun j=>h[j]?) W (σ i) o
structure Grow (W:World) (h h':Heap) (σ σ':Emb):Prop where
 pre:∃more,h'=h++more
 same:∀i,i<h.length→σ' i=σ i
 laid:Laid W h' σ'
theorem Grow.ext {h h':Heap} {σ σ':Emb} (g:Grow W h h' σ σ'):Ext σ (fun j=>h[j]?) σ' (fun j=>h'[j]?):=by
 obtain ⟨⟨more,rfl⟩,hs,_⟩:=g
 constructor
 ·intro i vals ver ro hi
  have hlt:=(yoq.1 hi).1
  exact ⟨vals,ver,by rw [yo9 hlt];exact hi,yoz _,fun _=>hs i hlt⟩
 ·intro i es hi
  have hlt:=(yoq.1 hi).1
  exact ⟨es,by rw [yo9 hlt];exact hi,hs i hlt⟩
theorem Grow.trans {h h' h'':Heap} {σ σ' σ'':Emb} (g:Grow W h h' σ σ') (g':Grow W h' h'' σ' σ''):Grow W h h'' σ σ'':=by
 obtain ⟨⟨m,rfl⟩,hs,_⟩:=g
 obtain ⟨⟨m',rfl⟩,hs',hl⟩:=g'
 exact ⟨⟨m++m',by simp⟩,fun i hi=>by rw [hs' i (by simp;omega),hs i hi],hl⟩
theorem Grow.refl {h:Heap} {σ:Emb} (hl:Laid W h σ):Grow W h h σ σ:=⟨⟨[],by simp⟩,fun _ _=>rfl,hl⟩
def Opened (W:World) (h:Heap) (σ:Emb) (ss:List Sh) (cs:List Value):Prop:=
 ∃h' σ' us,Grow W h h' σ σ'∧VRs σ' (fun j=>h'[j]?) us cs∧TypedL h' ss us∧∀u∈us,single u=true
theorem Opened.done {h:Heap} {σ:Emb} (hl:Laid W h σ) {s:Sh} {u:Value} (hv:plain1 u=true) (ht:Typed h s u):Opened W h σ [s] [u]:=
 ⟨h,σ,[u],.refl hl,.cons _ _ _ _ (.plain1 hv) .nil,.one ht,fun x hx=>by simp at hx;subst hx;exact j7 hv⟩
theorem Opened.none {h:Heap} {σ:Emb} (hl:Laid W h σ):Opened W h σ [] []:=⟨h,σ,[],.refl hl,.nil,.nil h,fun x hx=>by simp at hx⟩
theorem Opened.append {h:Heap} {σ:Emb} {ss ss':List Sh} {cs cs':List Value} (o:Opened W h σ ss cs) (o':∀h σ,Laid W h σ→Opened W h σ ss' cs'):Opened W h σ (ss++ss') (cs++cs'):=by
 obtain ⟨h1,σ1,us,g,hv,ht,hs⟩:=o
 obtain ⟨h2,σ2,us',g',hv',ht',hs'⟩:=o' h1 σ1 g.laid
 refine ⟨h2,σ2,us++us',g.trans g',(hv.ext g'.ext).append hv',?_,fun x hx=> ?_⟩
 ·obtain ⟨more,rfl⟩:=g'.pre
  exact (ht.more more).append ht'
 ·rcases ype.1 hx with hx | hx
  ·exact hs x hx
  ·exact hs' x hx
variable {H:Type} {enc:TypeId×Value→H}
theorem zgn {l:List Sh}:∀(ps:List (List Value)),(∀p∈ps,∀h σ,Laid W h σ→Opened W h σ l p)→∀h σ,Laid W h σ→Opened W h σ (List.replicate ps.length l).flatten ps.flatten
 | [],_,h,σ,hl=>.none hl
 | p::ps,hp,h,σ,hl=>by
  simp only [ypb,List.replicate_succ,List.flatten_cons]
  exact .append (hp p (by simp) h σ hl) (zgn ps fun q hq=>hp q (by simp [hq]))
def zfq (cs:List Value) (c:Nat):Nat→List (List Value)
 | 0=>[]
 | n+1=>zfq cs c n++[(cs.drop (n*c)).take c]
theorem zfk (cs:List Value) (c n:Nat):(zfq cs c n).length=n:=by
 induction n with
 | zero=>rfl
 | succ n ih=>simp [zfq,ih]
theorem ziy (cs:List Value) (c n:Nat) (h:n*c≤cs.length):(zfq cs c n).flatten=cs.take (n*c):=by
 induction n with
 | zero=>simp [zfq]
 | succ n ih=>
  rw [Nat.succ_mul] at h
  rw [zfq,List.flatten_append,ih (by omega)]
  simp only [List.flatten_cons,List.flatten_nil,ypl]
  rw [Nat.succ_mul,List.take_add]
theorem zh4 {cs:List Value} {c n:Nat} {p:List Value} (h:p∈zfq cs c n):∃i,i<n∧p=(cs.drop (i*c)).take c:=by
 induction n with
 | zero=>simp [zfq] at h
 | succ n ih=>
  rw [zfq,ype] at h
  rcases h with h | h
  ·obtain ⟨i,hi,e⟩:=ih h;exact ⟨i,by omega,e⟩
  ·simp at h;exact ⟨n,by omega,h⟩
theorem zm5 {r:TypeId→Option (List Sh)}:∀(fs:List Field) (off:Nat) (cs:List Value) (l:List Sh),zsi P r fs off=some l→off+l.length=cs.length→
  (∀f∈fs,∀l',r f.type=some l'→∀h σ,Laid W h σ→Opened W h σ l' ((cs.drop f.offset).take (P.cellsOf f.type)))→∀h σ,Laid W h σ→Opened W h σ l (cs.drop off)
 | [],off,cs,l,hl,hlen,_,h,σ,hL=>by
  simp [zsi] at hl;subst hl
  simp at hlen
  rw [yo5 (by omega)]
  exact .none hL
 | f::fs,off,cs,l,hl,hlen,hf,h,σ,hL=>by
  simp only [zsi] at hl
  split at hl
  ·rename_i l1 l2 h1 h2
   split at hl
   ·rename_i hc
    cases hl
    have e:cs.drop off=(cs.drop f.offset).take (P.cellsOf f.type)++cs.drop (off+P.cellsOf f.type):=by
     rw [hc.1,←List.drop_drop,List.take_append_drop]
    rw [e]
    refine .append (hf f (by simp) l1 h1 h σ hL) (zm5 fs _ cs l2 h2 (by simp at hlen;omega) fun g hg=>hf g (by simp [hg]))
   ·cases hl
  ·cases hl
theorem zlz {ts:List TypeId} {ds:List (DataW H)} {i:Nat} {t:TypeId} {d:DataW H} (ht:ts[i]?=some t) (hd:ds[i]?=some d):∀x∈d.weights P t,x∈DataW.weightsEach P ts ds:=by
 induction ts generalizing ds i with
 | nil=>simp at ht
 | cons a ts ih=>
  cases ds with
  | nil=>simp at hd
  | cons b ds=>
   intro x hx
   rw [DataW.weightsEach]
   cases i with
   | zero=>simp at ht hd;subst ht hd;exact List.mem_append_left _ hx
   | succ i=>exact List.mem_append_right _ (ih (by simpa using ht) (by simpa using hd) x hx)
theorem zjn {e:TypeId} {ds:List (DataW H)} {d:DataW H} (hd:d∈ds):∀x∈d.weights P e,x∈DataW.weightsAll P e ds:=by
 induction ds with
 | nil=>simp at hd
 | cons b ds ih=>
  intro x hx
  rw [DataW.weightsAll]
  rcases ypx.1 hd with rfl | hd
  ·exact List.mem_append_left _ hx
  ·exact List.mem_append_right _ (ih hd x hx)
theorem yay {a:Addr} (hs:a.spot=none) (n:Nat):a.add n=⟨a.block,a.off+n,none⟩:=by
 obtain ⟨b,o,s⟩:=a
 simp only at hs
 subst hs
 unfold Addr.add
 split
 ·subst n;rfl
 ·rfl
theorem cell_spot {a:Addr} {v:Value} (h:W.cell? a=some v):a.spot=none∧a.block<W.heap.size:=by
 unfold World.cell? at h
 split at h
 ·rename_i c x y hb
  refine ⟨?_,(ypp.1 hb).1⟩
  cases hs:a.spot with
  | none=>rfl
  | some s=>rw [hs] at h;simp at h
 ·cases h
theorem ymm (hN:0<W.heap.size):∀(fuel:Nat) (t:TypeId) (cs:List Value) (x:DataW H×List MemPlace),DataW.trod enc P W 0 (fun _=>true) true fuel t cs=some x→(∀w∈x.1.weights P t,w≤reachBytes)→
  ∀(d:Nat) (l:List Sh),zll P d t=some l→∀h σ,Laid W h σ→Opened W h σ l cs:=by
 intro fuel
 induction fuel with
 | zero=>intro t cs x h;simp [DataW.trod] at h
 | succ fuel ih=>
  intro t cs x hx hw d l hl h σ hL
  cases d with
  | zero=>simp [zll] at hl
  | succ d=>
   rw [zll] at hl
   split at hl
   ·rename_i ht
    cases hl
    obtain ⟨b,rfl,rfl⟩:=DataW.trod_bool ht hx
    exact .done hL rfl (.bool b)
   ·rename_i k ht
    cases hl
    obtain ⟨n,rfl,rfl,hwf⟩:=DataW.trod_int ht hx
    exact .done hL rfl (.int k n hwf)
   ·rename_i ht
    cases hl
    obtain ⟨s,rfl,rfl,hs⟩:=DataW.trod_string ht hx
    refine .done hL rfl (.str s ?_)
    have:=hw s.data.toList.length (by simp [DataW.weights])
    simpa using this
   ·rename_i e ht
    split at hl
    ·rename_i le hle
     split at hl
     ·rename_i hc
      cases hl
      rcases DataW.trod_slice ht hx with ⟨rfl,rfl⟩ | ⟨a,len,cap,elems,rest,n,hn,rfl,rfl,_,hlc,hcm,hel,he,hr,_⟩
      ·exact .done hL rfl (.nil _ _)
      ·cases hn
       obtain ⟨hrl,hr⟩:=hr rfl
       have hwd:∀y∈elems,∀w∈y.1.weights P e,w≤reachBytes:=fun y hy w hyw=>hw w (by
        simp only [DataW.weights,ht,ypx,ype]
        exact .inr (.inl (zjn (List.mem_map_of_mem hy) w hyw)))
       have hbig:len*P.bytesOf e≤reachBytes:=by
        have:=hw ((elems.map (·.1)).length*P.bytesOf e+(rest.map (·.1)).length*P.bytesOf e) (by simp [DataW.weights,ht,Nat.add_mul])
        simp only [ypd,hel] at this
        omega
       have each:∀i,i<len→∃ci,W.cells? 0 (a.add (i*P.cellsOf e)) (P.cellsOf e)=some ci∧∀h σ,Laid W h σ→Opened W h σ le ci:=by
        intro i hi
        have h1:=he i hi
        have hi':i<elems.length:=by omega
        rw [yow hi'] at h1
        obtain ⟨ci,hci,htr⟩:=yo6.1 h1
        exact ⟨ci,hci,ih e ci _ htr (hwd _ (List.getElem_mem hi')) d le hle⟩
       have alive:∀i,i<cap→(a.add (i*P.cellsOf e)).spot=none∧a.block<W.heap.size∧a.spot=none:=by
        intro i hi
        have hcell:∃ci,W.cells? 0 (a.add (i*P.cellsOf e)) (P.cellsOf e)=some ci:=by
         by_cases h1:i<len
         ·obtain ⟨ci,h2,_⟩:=each i h1;exact ⟨ci,h2⟩
         ·have h2:=hr (i - len) (by omega)
          rw [show len+(i - len)=i by omega,yow (by omega)] at h2
          obtain ⟨ci,hci,_⟩:=yo6.1 h2
          exact ⟨ci,hci⟩
        obtain ⟨ci,hci⟩:=hcell
        obtain ⟨_,hl1,hg⟩:=World.cells?_some hci
        have h3:=hg 0 hc.2
        rw [yow (by omega)] at h3
        have h4:=cell_spot h3
        rw [show (a.add (i*P.cellsOf e)).add 0=a.add (i*P.cellsOf e) by simp [Addr.add]] at h4
        refine ⟨h4.1,by have:=h4.2;rwa [Go.ChangeShapes.block_add] at this,?_⟩
        have hcell0:∃c0,W.cells? 0 (a.add (0*P.cellsOf e)) (P.cellsOf e)=some c0:=by
         by_cases h1:0<len
         ·obtain ⟨ci,h2,_⟩:=each 0 h1;exact ⟨ci,h2⟩
         ·have h2:=hr 0 (by omega)
          rw [show len+0=0 by omega,yow (by omega)] at h2
          obtain ⟨ci,hci,_⟩:=yo6.1 h2
          exact ⟨ci,hci⟩
        obtain ⟨c0,hc0⟩:=hcell0
        obtain ⟨_,hl0,hg0⟩:=World.cells?_some hc0
        have h5:=hg0 0 hc.2
        rw [yow (by omega)] at h5
        have h6:=(cell_spot h5).1
        simpa [Addr.add] using h6
       have all:∀k,k≤len→∀h σ,Laid W h σ→∃(h':Heap) (σ':Emb) (us:List Value),Grow W h h' σ σ'∧us.length=k*P.cellsOf e∧
         (∀(j:Nat) u,us[j]?=some u→∃c,W.cell? ⟨a.block,a.off+j,none⟩=some c∧VR σ' (fun j=>h'[j]?) u c)∧
         (∀(j:Nat) s u,le[j % le.length]?=some s→us[j]?=some u→Typed h' s u)∧∀u∈us,single u=true:=by
        intro k
        induction k with
        | zero=>intro _ h σ hL;exact ⟨h,σ,[],.refl hL,by simp,fun j u hu=>by simp at hu,fun j s u _ hu=>by simp at hu,fun u hu=>by simp at hu⟩
        | succ k ihk=>
         intro hk h σ hL
         obtain ⟨h1,σ1,us,g1,hlen1,hv1,ht1,hs1⟩:=ihk (by omega) h σ hL
         obtain ⟨ci,hci,hop⟩:=each k (by omega)
         obtain ⟨_,hcl,hcg⟩:=World.cells?_some hci
         have hsp:=(alive k (by omega)).2.2
         obtain ⟨h2,σ2,us2,g2,hv2,ht2,hs2⟩:=hop h1 σ1 g1.laid
         have hul:us2.length=P.cellsOf e:=by rw [hv2.length,hcl]
         refine ⟨h2,σ2,us++us2,g1.trans g2,by rw [yo8,hlen1,hul,Nat.succ_mul],?_,?_,?_⟩
         ·intro j u hu
          by_cases hj:j<us.length
          ·rw [yo9 hj] at hu
           obtain ⟨c,hcc,hvv⟩:=hv1 j u hu
           exact ⟨c,hcc,hvv.ext g2.ext⟩
          ·rw [ypn (by omega)] at hu
           obtain ⟨c,hcc,hvv⟩:=hv2.get hu
           refine ⟨c,?_,hvv⟩
           have hjl:j - us.length<P.cellsOf e:=by rw [←hul];exact (yoq.1 hu).1
           have:=hcg (j - us.length) hjl
           rw [hcc,yay hsp,yay rfl] at this
           rw [←this]
           have:a.off+j=a.off+k*P.cellsOf e+(j - us.length):=by omega
           rw [this]
         ·intro j s u hs hu
          by_cases hj:j<us.length
          ·rw [yo9 hj] at hu
           obtain ⟨more,rfl⟩:=g2.pre
           exact (ht1 j s u hs hu).more more
          ·rw [ypn (by omega)] at hu
           refine ht2.2 (j - us.length) s u ?_ hu
           have hjl:j - us.length<P.cellsOf e:=by rw [←hul];exact (yoq.1 hu).1
           rw [←hs,hlen1,hc.1]
           rw [hlen1] at hjl hj
           have e1:j % P.cellsOf e=j - k*P.cellsOf e:=by
            conv=>lhs;rw [show j=(j - k*P.cellsOf e)+P.cellsOf e*k by rw [Nat.mul_comm (P.cellsOf e) k];omega]
            rw [Nat.add_mul_mod_self_left,Nat.mod_eq_of_lt hjl]
           rw [e1]
         ·intro u hu
          rcases ype.1 hu with hu | hu
          ·exact hs1 u hu
          ·exact hs2 u hu
       obtain ⟨h1,σ1,us,g1,hlen1,hv1,ht1,hs1⟩:=all len (yoz _) h σ hL
       let σ2:Emb:=fun i=>if i=h1.length then (if 0<cap then ⟨a.block,a.off,0⟩ else ⟨0,0,0⟩) else σ1 i
       have hlast:(h1++[AObj.cells us 0 true])[h1.length]?=some (.cells us 0 true):=by simp
       have hext:Ext σ1 (fun j=>h1[j]?) σ2 (fun j=>(h1++[AObj.cells us 0 true])[j]?):=by
        constructor
        ·intro i vals ver ro hi
         have hlt:=(yoq.1 hi).1
         exact ⟨vals,ver,by rw [yo9 hlt];exact hi,yoz _,fun _=>if_neg (by omega)⟩
        ·intro i es hi
         have hlt:=(yoq.1 hi).1
         exact ⟨es,by rw [yo9 hlt];exact hi,if_neg (by omega)⟩
       have hobj:ObjR W.heap.size σ2 (fun j=>(h1++[AObj.cells us 0 true])[j]?) W (σ2 h1.length) (.cells us 0 true):=by
        show ObjR _ _ _ _ (if h1.length=h1.length then _ else _) _
        rw [if_pos rfl]
        by_cases hcap:0<cap
        ·rw [if_pos hcap]
         refine .ro us (alive 0 hcap).2.1 (fun i u hu=> ?_) hs1
         obtain ⟨c,hcc,hvv⟩:=hv1 i u hu
         exact ⟨c,hcc,hvv.ext hext⟩
        ·rw [if_neg hcap]
         refine .ro us hN (fun i u hu=> ?_) hs1
         have:us.length=0:=by rw [hlen1,show len=0 by omega];simp
         rw [yqh.1 this] at hu
         simp at hu
       have hL2:Laid W (h1++[AObj.cells us 0 true]) σ2:=by
        intro i o hi
        by_cases hlt:i<h1.length
        ·rw [yo9 hlt] at hi
         obtain ⟨ho,hr'⟩:=g1.laid i o hi
         refine ⟨ho,?_⟩
         have:σ2 i=σ1 i:=if_neg (by omega)
         rw [this]
         exact hr'.step hext rfl
        ·have hi2:=(yoq.1 hi).1
         simp at hi2
         have:i=h1.length:=by omega
         subst this
         rw [hlast] at hi
         cases hi
         exact ⟨rfl,hobj⟩
       have g2:Grow W h1 (h1++[AObj.cells us 0 true]) σ1 σ2:=⟨⟨_,rfl⟩,fun i hi=>if_neg (by omega),hL2⟩
       refine ⟨_,σ2,[.slice (some ⟨h1.length,0,some 0⟩) len le.length],g1.trans g2,.cons _ _ _ _ ?_ .nil,.one ?_,fun u hu=>by simp at hu;subst hu;rfl⟩
       ·refine .slice _ a len le.length cap 0 us 0 true rfl hlast (yoz _) hlc fun _=> ?_
        by_cases hcap:0<cap
        ·left
         refine ⟨?_,fun h=>by cases h⟩
         have hs2:σ2 h1.length=⟨a.block,a.off,0⟩:=by show (if h1.length=h1.length then _ else _)=_;rw [if_pos rfl,if_pos hcap]
         rw [hs2]
         have:=(alive 0 hcap).2.2
         obtain ⟨b,o,s⟩:=a
         simp only at this
         subst this
         rfl
        ·right;omega
       ·refine .slice _ le h1.length len us hlast (by rw [hlen1,hc.1]) hbig fun j s u hs hu=>(ht1 j s u hs hu).more _
     ·cases hl
    ·cases hl
   ·rename_i fs ht
    split at hl
    ·rename_i l' hl'
     split at hl
     ·rename_i hlen
      cases hl
      obtain ⟨xs,n,hn,rfl,hcl,hxl,hf⟩:=DataW.trod_struct ht hx
      cases hn
      have hwd:∀i (f:Field),fs[i]?=some f→∀(y:DataW H×List MemPlace),xs[i]?=some y→∀w∈y.1.weights P f.type,w≤reachBytes:=fun i f hfi y hy w hyw=>hw w (by
       simp only [DataW.weights,ht]
       exact zlz (i:=i) (t:=f.type) (d:=y.1) (by rw [yp1,show fs.toList[i]?=some f by simpa using hfi];rfl) (by rw [yp1,hy];rfl) w hyw)
      have:=zm5 (P:=P) (W:=W) fs.toList 0 cs l hl' (by omega) (fun f hfm l2 hl2 h σ hL=>by
       obtain ⟨i,hi,hfi⟩:=List.getElem_of_mem hfm
       have hfi':fs[i]?=some f:=by
        rw [ypp];exact ⟨by simpa using hi,by simpa using hfi⟩
       have h1:=hf i f hfi'
       have hi':i<xs.length:=by rw [hxl];simpa using hi
       rw [yow hi'] at h1
       exact ih f.type _ _ h1 (hwd i f hfi' _ (yow hi')) d l2 hl2 h σ hL) h σ hL
      simpa using this
     ·cases hl
    ·cases hl
   ·rename_i n e ht
    split at hl
    ·rename_i le hle
     split at hl
     ·rename_i hc
      cases hl
      obtain ⟨xs,hxl,hcl,hxx,hf⟩:∃xs:List (DataW H×List MemPlace),xs.length=n∧cs.length=P.cellsOf t∧x=(.agg (xs.map (·.1)),xs.flatMap (·.2))∧∀i,i<n→DataW.trod enc P W 0 (fun _=>true) true fuel e ((cs.drop (i*P.cellsOf e)).take (P.cellsOf e))=xs[i]?:=by
       unfold DataW.trod at hx
       rw [ht] at hx
       simp only at hx
       split at hx
       ·rename_i hcl
        obtain ⟨xs,hxs,rfl⟩:=ypm.1 hx
        exact ⟨xs,by simpa using mapM_some_length hxs,hcl,rfl,fun i hi=>mapM_some_get hxs i i (by simp [hi])⟩
       ·cases hx
      subst hxx
      have hwd:∀y∈xs,∀w∈y.1.weights P e,w≤reachBytes:=fun y hy w hyw=>hw w (by
       simp only [DataW.weights,ht]
       exact zjn (List.mem_map_of_mem hy) w hyw)
      have hp:=zgn (W:=W) (l:=le) (zfq cs (P.cellsOf e) n) (fun p hp h σ hL=>by
       obtain ⟨i,hi,rfl⟩:=zh4 hp
       have h1:=hf i hi
       rw [yow (by omega)] at h1
       exact ih e _ _ h1 (hwd _ (List.getElem_mem _)) d le hle h σ hL) h σ hL
      rw [zfk,ziy _ _ _ (by rw [hcl,hc.2];exact yoz _)] at hp
      rw [ypy (by rw [hcl,hc.2];exact yoz _)] at hp
      exact hp
     ·cases hl
    ·cases hl
   ·cases hl
def leafA (P:Program) (d:Nat) (t:TypeId):Option (Bool×List Sh):=
 (zll P d t).map fun l=>(match P.underlying t with | some (.struct _)=>true | some (.array _ _)=>true | _=>false,l)
def ybg (h:Heap):Bool×List Sh→Value→Prop
 | (true,ss),u=>∃l,u=agg l∧TypedL h ss l
 | (false,ss),u=>TypedL h ss [u]
def zrq (h:Heap):List (Bool×List Sh)→List Value→Prop
 | [],[]=>True
 | s::ss,u::us=>ybg h s u∧zrq h ss us
 | _,_=>False
theorem zts:∀(fuel:Nat) (t:TypeId) (cs:List Value) (x:DataW H×List MemPlace),DataW.trod enc P W 0 (fun _=>true) true fuel t cs=some x→(∀w∈x.1.weights P t,w≤reachBytes)→
  (∀c∈cs,∀a n k,c≠ .slice (some a) n k)→
  ∀(d:Nat) (l:List Sh),zll P d t=some l→∀h σ,Laid W h σ→Opened W h σ l cs:=by
 intro fuel
 induction fuel with
 | zero=>intro t cs x h;simp [DataW.trod] at h
 | succ fuel ih=>
  intro t cs x hx hw hns d l hl h σ hL
  cases d with
  | zero=>simp [zll] at hl
  | succ d=>
   rw [zll] at hl
   split at hl
   ·rename_i ht
    cases hl
    obtain ⟨b,rfl,rfl⟩:=DataW.trod_bool ht hx
    exact .done hL rfl (.bool b)
   ·rename_i k ht
    cases hl
    obtain ⟨n,rfl,rfl,hwf⟩:=DataW.trod_int ht hx
    exact .done hL rfl (.int k n hwf)
   ·rename_i ht
    cases hl
    obtain ⟨s,rfl,rfl,hs⟩:=DataW.trod_string ht hx
    refine .done hL rfl (.str s ?_)
    have:=hw s.data.toList.length (by simp [DataW.weights])
    simpa using this
   ·rename_i e ht
    split at hl
    ·rename_i le hle
     split at hl
     ·rename_i hc
      cases hl
      rcases DataW.trod_slice ht hx with ⟨rfl,rfl⟩ | ⟨a,len,cap,elems,rest,n,hn,rfl,rfl,_,hlc,hcm,hel,he,hr,_⟩
      ·exact .done hL rfl (.nil _ _)
      ·exact absurd rfl (hns _ (by simp) a len cap)
     ·cases hl
    ·cases hl
   ·rename_i fs ht
    split at hl
    ·rename_i l' hl'
     split at hl
     ·rename_i hlen
      cases hl
      obtain ⟨xs,n,hn,rfl,hcl,hxl,hf⟩:=DataW.trod_struct ht hx
      cases hn
      have hwd:∀i (f:Field),fs[i]?=some f→∀(y:DataW H×List MemPlace),xs[i]?=some y→∀w∈y.1.weights P f.type,w≤reachBytes:=fun i f hfi y hy w hyw=>hw w (by
       simp only [DataW.weights,ht]
       exact zlz (i:=i) (t:=f.type) (d:=y.1) (by rw [yp1,show fs.toList[i]?=some f by simpa using hfi];rfl) (by rw [yp1,hy];rfl) w hyw)
      have:=zm5 (P:=P) (W:=W) fs.toList 0 cs l hl' (by omega) (fun f hfm l2 hl2 h σ hL=>by
       obtain ⟨i,hi,hfi⟩:=List.getElem_of_mem hfm
       have hfi':fs[i]?=some f:=by
        rw [ypp];exact ⟨by simpa using hi,by simpa using hfi⟩
       have h1:=hf i f hfi'
       have hi':i<xs.length:=by rw [hxl];simpa using hi
       rw [yow hi'] at h1
       exact ih f.type _ _ h1 (hwd i f hfi' _ (yow hi')) (fun c hc=>hns c (List.mem_of_mem_drop (yqi hc))) d l2 hl2 h σ hL) h σ hL
      simpa using this
     ·cases hl
    ·cases hl
   ·rename_i n e ht
    split at hl
    ·rename_i le hle
     split at hl
     ·rename_i hc
      cases hl
      obtain ⟨xs,hxl,hcl,hxx,hf⟩:∃xs:List (DataW H×List MemPlace),xs.length=n∧cs.length=P.cellsOf t∧x=(.agg (xs.map (·.1)),xs.flatMap (·.2))∧∀i,i<n→DataW.trod enc P W 0 (fun _=>true) true fuel e ((cs.drop (i*P.cellsOf e)).take (P.cellsOf e))=xs[i]?:=by
       unfold DataW.trod at hx
       rw [ht] at hx
       simp only at hx
       split at hx
       ·rename_i hcl
        obtain ⟨xs,hxs,rfl⟩:=ypm.1 hx
        exact ⟨xs,by simpa using mapM_some_length hxs,hcl,rfl,fun i hi=>mapM_some_get hxs i i (by simp [hi])⟩
       ·cases hx
      subst hxx
      have hwd:∀y∈xs,∀w∈y.1.weights P e,w≤reachBytes:=fun y hy w hyw=>hw w (by
       simp only [DataW.weights,ht]
       exact zjn (List.mem_map_of_mem hy) w hyw)
      have hp:=zgn (W:=W) (l:=le) (zfq cs (P.cellsOf e) n) (fun p hp h σ hL=>by
       obtain ⟨i,hi,rfl⟩:=zh4 hp
       have h1:=hf i hi
       rw [yow (by omega)] at h1
       exact ih e _ _ h1 (hwd _ (List.getElem_mem _)) (fun c hc=>hns c (List.mem_of_mem_drop (yqi hc))) d le hle h σ hL) h σ hL
      rw [zfk,ziy _ _ _ (by rw [hcl,hc.2];exact yoz _)] at hp
      rw [ypy (by rw [hcl,hc.2];exact yoz _)] at hp
      exact hp
     ·cases hl
    ·cases hl
   ·cases hl
theorem ydm (hN:W.heap.size=0) {b0:Nat} {t:TypeId} {v:Value} (hv:Value.okWide P W .any b0 t v):∀c∈v.cells.toList,∀a n k,c≠ .slice (some a) n k:=by
 have cell:∀t v,Cell.okWide P W .any b0 t v→∀a n k,v≠ .slice (some a) n k:=by
  rintro t v hv a n k rfl
  unfold Cell.okWide at hv
  split at hv <;> rename_i h1 <;> try cases h1
  all_goals try (rename_i h2;cases h2)
  unfold Cell.ok at hv
  split at hv <;> rename_i h1 <;> try (cases h1;done)
  all_goals try (rename_i h2;cases h2)
  all_goals try exact hv
  ·obtain ⟨_,_,_,_,row,cells,hs,_⟩:=hv
   unfold World.shape? at hs
   split at hs
   ·rename_i hb
    have:=(ypp.1 hb).1
    omega
   ·cases hs
 intro c hc a n k
 unfold Value.okWide at hv
 split at hv
 ·obtain ⟨cs,rfl,_,ts,_,_,hrow⟩:=hv
  obtain ⟨i,hi⟩:=List.getElem?_of_mem hc
  obtain ⟨u,_,hu⟩:=hrow i c (by rw [Array.getElem?_toList] at hi;exact hi)
  exact cell u c hu a n k
 ·obtain ⟨cs,rfl,_,ts,_,_,hrow⟩:=hv
  obtain ⟨i,hi⟩:=List.getElem?_of_mem hc
  obtain ⟨u,_,hu⟩:=hrow i c (by rw [Array.getElem?_toList] at hi;exact hi)
  exact cell u c hu a n k
 ·have hnot:∀cs,v≠ .agg cs:=by
   rintro cs rfl
   unfold Cell.okWide at hv
   split at hv <;> rename_i h1 <;> try cases h1
   all_goals try (rename_i h2;cases h2)
   unfold Cell.ok at hv
   split at hv <;> rename_i h1 <;> try (cases h1;done)
   all_goals try (rename_i h2;cases h2)
   all_goals exact hv
  have:v.cells.toList=[v]:=by
   cases v <;> first | rfl | exact absurd rfl (hnot _)
  rw [this] at hc
  simp at hc
  subst hc
  exact cell t c hv a n k
theorem zs1 {d:Nat} {t:TypeId} {l:List Sh} (hl:zll P d t=some l) (h:(match P.underlying t with | some (.struct _)=>true | some (.array _ _)=>true | _=>false)=false):l.length=1:=by
 cases d with
 | zero=>simp [zll] at hl
 | succ d=>
  rw [zll] at hl
  split at hl
  ·cases hl;rfl
  ·cases hl;rfl
  ·cases hl;rfl
  ·split at hl
   ·split at hl
    ·cases hl;rfl
    ·cases hl
   ·cases hl
  ·rename_i ht;rw [ht] at h;cases h
  ·rename_i ht;rw [ht] at h;cases h
  ·cases hl
theorem zne {b0:Nat} (d:Nat):∀(ts:List TypeId) (vs:List Value) (ds:List (DataW H)) (ps:List MemPlace) (ss:List (Bool×List Sh)),DataW.TrodAll enc P W 0 (fun _=>true) true ts vs ds ps→
  (∀(j:Nat) t v,ts[j]?=some t→vs[j]?=some v→Value.okWide P W .any b0 t v)→(∀w∈DataW.weightsEach P ts ds,w≤reachBytes)→ts.mapM (leafA P d)=some ss→
  ∀h σ,Laid W h σ→∃(h':Heap) (σ':Emb) (us:List Value),Grow W h h' σ σ'∧VRs σ' (fun j=>h'[j]?) us vs∧zrq h' ss us
 | [],vs,ds,ps,ss,hA,hv,hw,hs,h,σ,hL=>by
  obtain ⟨rfl,rfl,rfl⟩:=Go.ChangeShapes.trodAll_nil hA
  simp at hs;subst hs
  exact ⟨h,σ,[],.refl hL,.nil,trivial⟩
 | t::ts,vs,ds,ps,ss,hA,hv,hw,hs,h,σ,hL=>by
  obtain ⟨v,vs',d1,ds',p,q,rfl,rfl,rfl,⟨fuel,h1⟩,hA'⟩:=Go.ChangeShapes.trodAll_cons hA
  rw [List.mapM_cons] at hs
  obtain ⟨s,hs1,hs⟩:=yo6.1 hs
  obtain ⟨ss',hs2,hs⟩:=yo6.1 hs
  cases hs
  obtain ⟨l,hl,rfl⟩:=ypm.1 hs1
  have hw1:∀w∈d1.weights P t,w≤reachBytes:=fun w hx=>hw w (by rw [DataW.weightsEach];exact List.mem_append_left _ hx)
  have hok:=hv 0 t v rfl rfl
  have hop:Opened W h σ l v.cells.toList:=by
   by_cases hN:0<W.heap.size
   ·exact ymm hN fuel t _ _ h1 hw1 d l hl h σ hL
   ·exact zts fuel t _ _ h1 hw1 (ydm (by omega) hok) d l hl h σ hL
  obtain ⟨h2,σ2,us,g,hvr,hty,hsi⟩:=hop
  obtain ⟨h3,σ3,us',g',hvr',hty'⟩:=zne d ts vs' ds' q ss' hA' (fun j t v a b=>hv (j+1) t v (by simpa using a) (by simpa using b)) (fun w hx=>hw w (by rw [DataW.weightsEach];exact List.mem_append_right _ hx)) hs2 h2 σ2 g.laid
  obtain ⟨more,hmore⟩:=g'.pre
  cases hb:(match P.underlying t with | some (.struct _)=>true | some (.array _ _)=>true | _=>false) with
  | true=>
   have:∃cs,v=.agg cs:=by
    unfold Value.okWide at hok
    split at hok
    ·obtain ⟨cs,e,_⟩:=hok;exact ⟨cs,e⟩
    ·obtain ⟨cs,e,_⟩:=hok;exact ⟨cs,e⟩
    ·rename_i h1 h2;split at hb
     ·exact absurd ‹_› (h1 _)
     ·exact absurd ‹_› (h2 _ _)
     ·cases hb
   obtain ⟨cs,rfl⟩:=this
   obtain ⟨cl⟩:=cs
   refine ⟨h3,σ3,agg us::us',g.trans g',.cons _ _ _ _ ?_ hvr',⟨⟨us,rfl,by rw [hmore];exact hty.more more⟩,hty'⟩⟩
   exact (VR.agg us cl hvr hsi).ext g'.ext
  | false=>
   have h1l:=zs1 hl hb
   have hul:us.length=1:=by rw [←hty.1,h1l]
   obtain ⟨u,rfl⟩:=List.length_eq_one_iff.1 hul
   have hcl:v.cells.toList.length=1:=by rw [←hvr.length];rfl
   have hv1:VR σ2 (fun j=>h2[j]?) u v:=by
    cases v <;> simp [Value.cells] at hcl hvr <;>(try (cases hvr;assumption))
    unfold Value.okWide at hok
    split at hok
    ·rename_i ht;rw [ht] at hb;cases hb
    ·rename_i ht;rw [ht] at hb;cases hb
    ·unfold Cell.okWide at hok
     split at hok <;> rename_i h1 <;> try cases h1
     all_goals try (rename_i h2;cases h2)
     unfold Cell.ok at hok
     split at hok <;> rename_i h1 <;> try (cases h1;done)
     all_goals try (rename_i h2;cases h2)
     all_goals cases hok
   refine ⟨h3,σ3,u::us',g.trans g',.cons _ _ _ _ (hv1.ext g'.ext) hvr',⟨?_,hty'⟩⟩
   show TypedL h3 l [u]
   rw [hmore];exact hty.more more
theorem args_again (hl:laidOutB P=true) {W':World} (hb:Go.RowKit.Below W.heap.size W W'):∀(ts:List TypeId) (vs:List Value) (ds:List (DataW H)) (ps:List MemPlace),(∀t∈ts,P.readableRec t=true∧t<P.types.size)→
  DataW.TrodAll enc P W 0 (fun _=>true) true ts vs ds ps→DataW.TrodAll enc P W' 0 (fun b=>decide (b<W.heap.size)) true ts vs ds ps
 | [],vs,ds,ps,_,hA=>by
  obtain ⟨rfl,rfl,rfl⟩:=Go.ChangeShapes.trodAll_nil hA
  exact Go.ChangeShapes.trodAll_mk0
 | t::ts,vs,ds,ps,hr,hA=>by
  have hlt:=DataW.TrodAll.lt hA
  obtain ⟨v,vs',d1,ds',p,q,rfl,rfl,rfl,h1,hA'⟩:=Go.ChangeShapes.trodAll_cons hA
  exact trodAll_cons_mk (Go.RowKit.Below.trod hl (hr t (by simp)).1 (hr t (by simp)).2 h1 hb fun x hx=>hlt x (List.mem_append_left _ hx)) (args_again hl hb ts vs' ds' q (fun t ht=>hr t (by simp [ht])) hA')
theorem args_len:∀{ts:List TypeId} {vs:List Value} {ds:List (DataW H)} {ps:List MemPlace},DataW.TrodAll enc P W 0 (fun _=>true) true ts vs ds ps→ds.length=ts.length
 | [],vs,ds,ps,hA=>by
  obtain ⟨rfl,rfl,rfl⟩:=Go.ChangeShapes.trodAll_nil hA;rfl
 | t::ts,vs,ds,ps,hA=>by
  obtain ⟨v,vs',d1,ds',p,q,rfl,rfl,rfl,h1,hA'⟩:=Go.ChangeShapes.trodAll_cons hA
  simp [args_len hA']
end
end Go.Proofs.YtljdbheclfaloaaGreatDoor.AM
namespace Go.Proofs.YtljdbheclfaloaaGreatDoor.AM
open Go.RowKit
end Go.Proofs.YtljdbheclfaloaaGreatDoor.AM
namespace Go.Proofs.YtljdbheclfaloaaGreatDoor.AM
open Go.RowKit
set_option linter.unusedSimpArgs false
set_option linter.unusedVariables false
theorem zsk {h:Heap} {b:Nat} {e:List Sh} {u:Value} (he:0<e.length) (ht:Typed h (.slice b e) u):
  ∃rows:List (List Value),Sl h u e.length rows∧(∀r∈rows,TypedL h e r)∧rows.length*b≤reachBytes:=by
 cases ht with
 | nil=>exact ⟨[],⟨.inl ⟨rfl,rfl⟩,by simp⟩,by simp,by simp⟩
 | slice b e i n l hi hl hb ht=>
  have hpl:∀r∈zfq l e.length n,r.length=e.length:=by
   intro r hr
   obtain ⟨k,hk,rfl⟩:=zh4 hr
   rw [ypt,ypf,hl]
   have:k*e.length+e.length≤n*e.length:=by rw [←Nat.succ_mul];exact Nat.mul_le_mul_right _ hk
   omega
  refine ⟨zfq l e.length n,⟨.inr ⟨i,0,0,by rw [zfk],?_⟩,hpl⟩,?_,by rw [zfk];exact hb⟩
  ·rw [zfk,ziy _ _ _ (by omega)]
   unfold Heap.read
   simp only [hi]
   rw [if_pos ⟨trivial,by omega⟩];simp
  ·intro r hr
   refine ⟨(hpl r hr).symm,?_⟩
   obtain ⟨k,hk,rfl⟩:=zh4 hr
   intro j s u hs hu
   have hj:j<e.length:=(yoq.1 hs).1
   refine ht (k*e.length+j) s u ?_ ?_
   ·rw [Nat.mul_comm,Nat.mul_add_mod,Nat.mod_eq_of_lt hj];exact hs
   ·rw [yp0,if_pos hj,List.getElem?_drop] at hu;exact hu
theorem zu6 {h:Heap} {b:Nat} {e:List Sh} {u:Value} (he:0<e.length) (ht:ybg h (false,[.slice b e]) u):
  ∃rows:List (List Value),Sl h u e.length rows∧(∀r∈rows,TypedL h e r)∧rows.length*b≤reachBytes:=zsk he (ht.2 0 _ _ rfl rfl)
theorem yd8 {α:Type} {p:α→Prop} {f:α→List Value}:∀(rows:List (List Value)),(∀r∈rows,∃a,r=f a∧p a)→∃l:List α,rows=l.map f∧∀a∈l,p a
 | [],_=>⟨[],rfl,by simp⟩
 | r::rows,h=>by
  obtain ⟨l,rfl,hl⟩:=yd8 rows fun q hq=>h q (by simp [hq])
  obtain ⟨a,rfl,ha⟩:=h r (by simp)
  exact ⟨a::l,rfl,fun b hb=>by
   rcases ypx.1 hb with rfl | hb
   ·exact ha
   ·exact hl b hb⟩
theorem zqh {h:Heap} {ss:List Sh} {us:List Value} (ht:TypedL h ss us) {i:Nat} {s:Sh} (hs:ss[i]?=some s):∃u,us[i]?=some u∧Typed h s u:=by
 have hi:=(yoq.1 hs).1
 have hu:i<us.length:=by rw [←ht.1];exact hi
 exact ⟨us[i],yow hu,ht.2 i s _ hs (yow hu)⟩
end Go.Proofs.YtljdbheclfaloaaGreatDoor.AM
namespace Go.Proofs.YtljdbheclfaloaaGreatDoor.AM
open Go.RowKit
set_option linter.unusedSimpArgs false
set_option linter.unusedVariables false
section
variable {H:Type} {enc:TypeId×Value→H} {P:Program} {W:World} {base:Nat} {sp:Nat→Bool} {held:Bool}
end
section
variable {H:Type} {enc:TypeId×Value→H} {P:Program} {W:World}
def ztg (gl:List (List Value)):Heap:=gl.map fun l=>AObj.cells l 0 true
theorem law_callsV {b0:Nat} {F:Funcs} (gl:List (List Value)) (hm:P.follows .mixedOrders=true) (hr:ygo P gl.length F) {f:FuncId} {ts:List TypeId} {args:List Value} {ds:List (DataW H)} {ps:List MemPlace} (d:Nat) {ss:List (Bool×List Sh)}
  (hg:∀(i:Nat) l,gl[i]?=some l→i<W.heap.size∧∀(j:Nat) v,l[j]?=some v→∃c,W.cell? ⟨i,j,none⟩=some c∧(∀σ g,VR σ g v c)∧single v=true)
  (hA:DataW.TrodAll enc P W 0 (fun _=>true) true ts args ds ps) (hv:∀(j:Nat) t v,ts[j]?=some t→args[j]?=some v→Value.okWide P W .any b0 t v) (hw:∀w∈DataW.weightsEach P ts ds,w≤reachBytes) (hs:ts.mapM (leafA P d)=some ss)
  (hd:∀(h:Heap) (us:List Value),(∀(i:Nat) (l:List Value),gl[i]?=some l→h[i]?=some (AObj.cells l 0 true))→zrq h ss us→∃h',DF F f us h=some (.bool true,h')):
  Calls P f ⟨args⟩ W fun e W'=>e=.returned (.bool true)∧Go.RowKit.Below W.heap.size W W':=by
 let σ0:Emb:=fun i=>⟨i,0,0⟩
 have hget:∀(i:Nat) o,(ztg gl)[i]?=some o→∃l,gl[i]?=some l∧o=AObj.cells l 0 true:=by
  intro i o hi
  unfold ztg at hi
  rw [yp1] at hi
  obtain ⟨l,hl,e⟩:=ypm.1 hi
  exact ⟨l,hl,e.symm⟩
 have hL0:Laid W (ztg gl) σ0:=by
  intro i o hi
  obtain ⟨l,hl,rfl⟩:=hget i o hi
  obtain ⟨h1,h2⟩:=hg i l hl
  refine ⟨rfl,.ro l h1 (fun j u hu=> ?_) fun u hu=> ?_⟩
  ·obtain ⟨c,h3,h4,_⟩:=h2 j u hu
   exact ⟨c,by simpa [σ0] using h3,h4 _ _⟩
  ·obtain ⟨j,hj⟩:=List.getElem?_of_mem hu
   obtain ⟨c,_,_,h5⟩:=h2 j u hj
   exact h5
 obtain ⟨h,σ,us,g,hvr,hty⟩:=zne d ts args ds ps ss hA hv hw hs (ztg gl) σ0 hL0
 have hold:∀(i:Nat) (l:List Value),gl[i]?=some l→h[i]?=some (AObj.cells l 0 true):=by
  intro i l hl
  obtain ⟨more,rfl⟩:=g.pre
  have:i<(ztg gl).length:=by unfold ztg;rw [ypd];exact (yoq.1 hl).1
  rw [yo9 this]
  unfold ztg
  rw [yp1,hl];rfl
 obtain ⟨h',hd⟩:=hd h us hold hty
 refine yod (G:=gl.length) hm hr hd rfl σ W ⟨fun i o hi=>(g.laid i o hi).2,fun i j o p hi hj ho=> ?_,fun i hi=> ?_,yoz _⟩ hvr fun o ho=> ?_
 ·rw [(g.laid i o hi).1] at ho;cases ho
 ·refine ⟨gl[i],hold i _ (yow hi),?_⟩
  have:σ i=σ0 i:=g.same i (by unfold ztg;rw [ypd];exact hi)
  rw [this];exact ⟨rfl,rfl⟩
 ·obtain ⟨i,hi,he⟩:=List.getElem_of_mem ho
  exact (g.laid i o (by rw [yow hi,he])).1
end
def pkC:=PLift.up (yo0 @yoa <| yo0 @ylu <| yo0 @yng <| yo0 @ynl <| yo0 @ylt <| yo0 @zww <| yo0 @yk6 <| yo0 @ykc <| yo0 @ynp <| yo0 @ymx <| yo0 @yli <| yo0 @ycd <| yo0 @yek <| yo0 @yhe <| yo0 @yft <| yo0 @ygl <| yo0 @ygm <| yo0 @yhj <| yo0 @ymj <| yo0 @yh3 <| yo0 @yc7 <| yo0 @yle <| yo0 @vw <| yo0 @vv <| yo0 @List.set_cons_succ.{0}<| yo0 @List.set_cons_zero.{0}<| yo0 @O_mv <| yo0 @yna <| yo0 @ynt <| yo0 @O_un <| yo0 @yl5 <| yo0 @yl8 <| yo0 @ypr.{0,0}<| yo0 @List.map_nil.{0,0}<| yo0 @yoe <| yo0 @yb9 <| yo0 @ykp <| yo0 @yla <| yo0 @yba <| yo0 @yl1 <| yo0 @yhw <| yo0 @yjz <| yo0 @yj0 <| yo0 @yki <| yo0 @yaf <| yo0 @zz6 <| yo0 @zv6 <| yo0 @zz9 <| yo0 @zz8 <| yo0 @po <| yo0 @zao <| yo0 @yck <| yo0 @zk6 <| yo0 @zwl <| yo0 @Nat.lt_add_one <| yo0 @Nat.zero_lt_succ <| yo0 @Nat.zero_lt_one <| yo0 @yog <| yo0 @yn5 <| yo0 @ynk <| yo0 @ymt <| yo0 @yny <| yo0 @ymc <| yo0 @ybp <| yo0 @yn0 <| yo0 @yof <| yo0 @yn4 <| yo0 @ynj <| yo0 @yn1 <| yo0 @yn3 <| yo0 @ymb <| yo0 @ymo <| yo0 @ynr <| yo0 @ynq <| yo0 @yoh <| yo0 @yn2 <| yo0 @List.cons_append.{0}<| yo0 @List.nil_append.{0}<| yo0 @ypb.{0}<| yo0 @List.length_nil.{0}<| yo0 @Nat.zero_add <| yo0 @ybt <| yo0 @zqg <| yo0 @ypz <| yo0 @Bool.or_false <| yo0 @yqg <| yo0 @Bool.or_true <| yo0 @Bool.not_true <| yo0 @Bool.not_false <| yo0 @yp2 <| yo0 @Bool.and_true <| yo0 @Bool.false_and <| yo0 @Bool.and_false <| yo0 @ym0 <| yo0 @zy8 <| yo0 @yk8 <| yo0 @zqx <| yo0 @zyz <| yo0 @zuf <| yo0 @ze7 <| yo0 @zue <| yo0 @zhs <| yo0 @zj6 <| yo0 @yan <| yo0 @zvu <| yo0 @yn9 <| yo0 @ylp <| yo0 @eq_self.{1}<| yo0 @decide_true <| yo0 @decide_false <| @beq_self_eq_true.{0})
theorem pkA:type_of% pkC.down:=pkC.down
def pkD:=PLift.up (yo0 @yhd <| yo0 @yjw <| yo0 @yik <| yo0 @yg4 <| yo0 @ylk <| yo0 @ylj <| yo0 @Option.map_none.{0,0}<| yo0 @yj7 <| yo0 @ynu <| yo0 @yj1 <| yo0 @zx2 <| yo0 @ynz <| yo0 @ylg <| yo0 @ykz <| yo0 @yh9 <| yo0 @zzq <| yo0 @yb0 <| yo0 @ycw <| yo0 @zv9 <| yo0 @zyy <| yo0 @ygk <| yo0 @zy1 <| yo0 @zvw <| yo0 @zq5 <| yo0 @zua <| yo0 @zza <| yo0 @zui <| yo0 @zo4 <| yo0 @zzw <| yo0 @yjo <| yo0 @ybr <| yo0 @yap <| yo0 @ztb <| yo0 @zqz <| yo0 @zpx <| yo0 @ziz <| yo0 @zzu <| yo0 @zwh <| yo0 @zkh <| yo0 @zlq <| yo0 @ycm <| yo0 @zk5 <| yo0 @yhl <| yo0 @yfh <| yo0 @zoe <| yo0 @zs5 <| yo0 @zvj <| yo0 @zse <| yo0 @zp2 <| yo0 @ziu <| yo0 @yai <| yo0 @zv7 <| yo0 @zzp <| yo0 @zzc <| yo0 @yp4.{0}<| yo0 @yo8.{0}<| yo0 @ypl.{0}<| yo0 @bn <| yo0 @zfb <| yo0 @zso <| yo0 @Int.toNat_natCast <| yo0 @Nat.mul_one <| yo0 @yqe <| yo0 @yp6.{0,0}<| yo0 @List.getElem?_cons_zero.{0}<| @List.getElem?_cons_succ.{0})
theorem pkB:type_of% pkD.down:=pkD.down
end Go.Proofs.YtljdbheclfaloaaGreatDoor.AM
namespace Go.Proofs
set_option linter.unusedSimpArgs false
open Go.Shelf
def Tryz.lays287_ren:Go.Shelf.Ren:=⟨fun | 287=>127 | 321=>136 | 322=>137 | n=>n,fun | 9=>9 | 3=>3 | 53=>171 | 75=>173 | 4=>4 | 167=>192 | 5=>5 | 46=>186 | 37=>194 | 0=>0 | 21=>21 | 80=>160 | n=>n,fun | n=>n⟩
theorem Tryz.lays287:Go.Proofs.Lays.n287 Tryz.prog Tryz.lays287_ren:={
 mixed:=by kernel_rfl
 f287:=Tryz.func127.trans (congrArg some (by kernel_rfl))
 f321:=Tryz.func136.trans (congrArg some (by kernel_rfl))
 f322:=Tryz.func137.trans (congrArg some (by kernel_rfl))
 t0:=Tryz.underlying0
 a0:=Tryz.isAgg0
 z0:=Tryz.sizeOf0
 v0:=Tryz.zeroValue0
 t3:=Tryz.underlying3
 a3:=Tryz.isAgg3
 z3:=Tryz.sizeOf3
 v3:=Tryz.zeroValue3
 t4:=Tryz.underlying4
 a4:=Tryz.isAgg4
 z4:=Tryz.sizeOf4
 v4:=Tryz.zeroValue4
 t5:=Tryz.underlying5
 a5:=Tryz.isAgg5
 z5:=Tryz.sizeOf5
 v5:=Tryz.zeroValue5
 t9:=Tryz.underlying9
 a9:=Tryz.isAgg9
 z9:=Tryz.sizeOf9
 v9:=Tryz.zeroValue9
 t21:=Tryz.underlying21
 a21:=Tryz.isAgg21
 z21:=Tryz.sizeOf21
 v21:=Tryz.zeroValue21
 t37:=Tryz.underlying194
 a37:=Tryz.isAgg194
 z37:=Tryz.sizeOf194
 v37:=Tryz.zeroValue194
 t46:=Tryz.underlying186
 a46:=Tryz.isAgg186
 z46:=Tryz.sizeOf186
 v46:=Tryz.zeroValue186
 t53:=Tryz.underlying171
 a53:=Tryz.isAgg171
 z53:=Tryz.sizeOf171
 v53:=Tryz.zeroValue171
 t75:=Tryz.underlying173
 a75:=Tryz.isAgg173
 z75:=Tryz.sizeOf173
 v75:=Tryz.zeroValue173
 t167:=Tryz.underlying192
 a167:=Tryz.isAgg192
 z167:=Tryz.sizeOf192
 v167:=Tryz.zeroValue192}
open Go.RowKit in
theorem Tryz.internal_strconv_ParseUint_empty (base bits:Int) (w:World):
  Calls Tryz.prog 127 #[.string ⟨#[]⟩,.int .i64 base,.int .i64 bits] w fun e w'=>e=.returned (.tuple #[.int .u64 0,.iface 192 (.int .i64 2)])∧w'=w:=Any.internal_strconv_ParseUint_empty Tryz.lays287 base bits w
def Tryz.laysPu14_ren:Go.Shelf.Ren:=⟨fun | 14=>104 | 16=>127 | 17=>128 | 19=>136 | 20=>137 | 21=>138 | 22=>139 | 23=>140 | 24=>141 | 25=>145 | 27=>147 | 26=>146 | 28=>152 | 29=>157 | 30=>158 | 31=>159 | 32=>160 | 33=>161 | 35=>163 | 34=>162 | 36=>164 | 37=>165 | 38=>166 | 39=>167 | 40=>168 | n=>n,fun | 9=>9 | 3=>3 | 22=>171 | 24=>173 | 25=>174 | 4=>4 | 34=>192 | 5=>5 | 36=>186 | 37=>194 | 0=>0 | 39=>195 | 21=>21 | 44=>201 | 47=>204 | 50=>207 | 48=>205 | 2=>2 | 52=>211 | 55=>214 | 59=>217 | 60=>46 | 20=>20 | 61=>218 | 65=>222 | 66=>223 | 67=>160 | n=>n,fun | 0=>1 | 1=>2 | 2=>3 | 3=>4 | 4=>5 | n=>n⟩
theorem Tryz.laysPu14:Go.Proofs.LaysPu.n14 Tryz.prog Tryz.laysPu14_ren:={
 mixed:=by kernel_rfl
 f14:=Tryz.func104.trans (congrArg some (by kernel_rfl))
 f16:=Tryz.func127.trans (congrArg some (by kernel_rfl))
 f17:=Tryz.func128.trans (congrArg some (by kernel_rfl))
 f19:=Tryz.func136.trans (congrArg some (by kernel_rfl))
 f20:=Tryz.func137.trans (congrArg some (by kernel_rfl))
 f21:=Tryz.func138.trans (congrArg some (by kernel_rfl))
 f22:=Tryz.func139.trans (congrArg some (by kernel_rfl))
 f23:=Tryz.func140.trans (congrArg some (by kernel_rfl))
 f24:=Tryz.func141.trans (congrArg some (by kernel_rfl))
 f25:=Tryz.func145.trans (congrArg some (by kernel_rfl))
 f26:=Tryz.func146.trans (congrArg some (by kernel_rfl))
 f27:=Tryz.func147.trans (congrArg some (by kernel_rfl))
 f28:=Tryz.func152.trans (congrArg some (by kernel_rfl))
 f29:=Tryz.func157.trans (congrArg some (by kernel_rfl))
 f30:=Tryz.func158.trans (congrArg some (by kernel_rfl))
 f31:=Tryz.func159.trans (congrArg some (by kernel_rfl))
 f32:=Tryz.func160.trans (congrArg some (by kernel_rfl))
 f33:=Tryz.func161.trans (congrArg some (by kernel_rfl))
 f34:=Tryz.func162.trans (congrArg some (by kernel_rfl))
 f35:=Tryz.func163.trans (congrArg some (by kernel_rfl))
 f36:=Tryz.func164.trans (congrArg some (by kernel_rfl))
 f37:=Tryz.func165.trans (congrArg some (by kernel_rfl))
 f38:=Tryz.func166.trans (congrArg some (by kernel_rfl))
 f39:=Tryz.func167.trans (congrArg some (by kernel_rfl))
 f40:=Tryz.func168.trans (congrArg some (by kernel_rfl))
 t0:=Tryz.underlying0
 a0:=Tryz.isAgg0
 z0:=Tryz.sizeOf0
 v0:=Tryz.zeroValue0
 i0:=by kernel_rfl
 t2:=Tryz.underlying2
 a2:=Tryz.isAgg2
 z2:=Tryz.sizeOf2
 v2:=Tryz.zeroValue2
 i2:=by kernel_rfl
 t3:=Tryz.underlying3
 a3:=Tryz.isAgg3
 z3:=Tryz.sizeOf3
 v3:=Tryz.zeroValue3
 i3:=by kernel_rfl
 t4:=Tryz.underlying4
 a4:=Tryz.isAgg4
 z4:=Tryz.sizeOf4
 v4:=Tryz.zeroValue4
 i4:=by kernel_rfl
 t5:=Tryz.underlying5
 a5:=Tryz.isAgg5
 z5:=Tryz.sizeOf5
 v5:=Tryz.zeroValue5
 i5:=by kernel_rfl
 t9:=Tryz.underlying9
 a9:=Tryz.isAgg9
 z9:=Tryz.sizeOf9
 v9:=Tryz.zeroValue9
 i9:=by kernel_rfl
 t20:=Tryz.underlying20
 a20:=Tryz.isAgg20
 z20:=Tryz.sizeOf20
 v20:=Tryz.zeroValue20
 i20:=by kernel_rfl
 t21:=Tryz.underlying21
 a21:=Tryz.isAgg21
 z21:=Tryz.sizeOf21
 v21:=Tryz.zeroValue21
 i21:=by kernel_rfl
 t22:=Tryz.underlying171
 a22:=Tryz.isAgg171
 z22:=Tryz.sizeOf171
 v22:=Tryz.zeroValue171
 i22:=by kernel_rfl
 t24:=Tryz.underlying173
 a24:=Tryz.isAgg173
 z24:=Tryz.sizeOf173
 v24:=Tryz.zeroValue173
 i24:=by kernel_rfl
 t25:=Tryz.underlying174
 a25:=Tryz.isAgg174
 z25:=Tryz.sizeOf174
 v25:=Tryz.zeroValue174
 i25:=by kernel_rfl
 t34:=Tryz.underlying192
 a34:=Tryz.isAgg192
 z34:=Tryz.sizeOf192
 v34:=Tryz.zeroValue192
 i34:=by kernel_rfl
 c34:=by kernel_rfl
 t36:=Tryz.underlying186
 a36:=Tryz.isAgg186
 z36:=Tryz.sizeOf186
 v36:=Tryz.zeroValue186
 i36:=by kernel_rfl
 t37:=Tryz.underlying194
 a37:=Tryz.isAgg194
 z37:=Tryz.sizeOf194
 v37:=Tryz.zeroValue194
 i37:=by kernel_rfl
 t39:=Tryz.underlying195
 a39:=Tryz.isAgg195
 z39:=Tryz.sizeOf195
 v39:=Tryz.zeroValue195
 i39:=by kernel_rfl
 t44:=Tryz.underlying201
 a44:=Tryz.isAgg201
 z44:=Tryz.sizeOf201
 v44:=Tryz.zeroValue201
 i44:=by kernel_rfl
 t47:=Tryz.underlying204
 a47:=Tryz.isAgg204
 z47:=Tryz.sizeOf204
 v47:=Tryz.zeroValue204
 i47:=by kernel_rfl
 t48:=Tryz.underlying205
 a48:=Tryz.isAgg205
 z48:=Tryz.sizeOf205
 v48:=Tryz.zeroValue205
 i48:=by kernel_rfl
 t50:=Tryz.underlying207
 a50:=Tryz.isAgg207
 z50:=Tryz.sizeOf207
 v50:=Tryz.zeroValue207
 i50:=by kernel_rfl
 t52:=Tryz.underlying211
 a52:=Tryz.isAgg211
 z52:=Tryz.sizeOf211
 v52:=Tryz.zeroValue211
 i52:=by kernel_rfl
 t55:=Tryz.underlying214
 a55:=Tryz.isAgg214
 z55:=Tryz.sizeOf214
 v55:=Tryz.zeroValue214
 i55:=by kernel_rfl
 t59:=Tryz.underlying217
 a59:=Tryz.isAgg217
 z59:=Tryz.sizeOf217
 v59:=Tryz.zeroValue217
 i59:=by kernel_rfl
 t60:=Tryz.underlying46
 a60:=Tryz.isAgg46
 z60:=Tryz.sizeOf46
 v60:=Tryz.zeroValue46
 i60:=by kernel_rfl
 t61:=Tryz.underlying218
 a61:=Tryz.isAgg218
 z61:=Tryz.sizeOf218
 t65:=Tryz.underlying222
 a65:=Tryz.isAgg222
 z65:=Tryz.sizeOf222
 v65:=Tryz.zeroValue222
 i65:=by kernel_rfl
 t66:=Tryz.underlying223
 a66:=Tryz.isAgg223
 z66:=Tryz.sizeOf223
 v66:=Tryz.zeroValue223
 i66:=by kernel_rfl
 t67:=Tryz.underlying160
 a67:=Tryz.isAgg160
 z67:=Tryz.sizeOf160
 v67:=Tryz.zeroValue160
 i67:=by kernel_rfl
 g0:=by kernel_rfl
 m0:=by kernel_rfl
 g1:=by kernel_rfl
 m1:=by kernel_rfl
 g2:=by kernel_rfl
 m2:=by kernel_rfl
 g3:=by kernel_rfl
 m3:=by kernel_rfl
 g4:=by kernel_rfl
 m4:=by kernel_rfl}
open Go.RowKit in
theorem Tryz.strconv_ParseUint_10_at64_ok (s:ByteArray) (hmax:s.size≤9223372036854775806) (u:Nat) (h:Lib.parseUintB 64 s.data.toList=.ok u) (w:World):
  Calls Tryz.prog 104 #[.string s,.int .i64 10,.int .i64 64] w fun e w'=>e=.returned (.tuple #[.int .u64 u,.nilIface])∧(w'=w∨w'=Lib.bytesWorld w 5 s):=Any.strconv_ParseUint_10_at64_ok Tryz.laysPu14 s hmax u h w
open Go.RowKit in
theorem Tryz.strconv_ParseUint_10_at64_syntax (s:ByteArray) (hlim:s.size≤281474976710656) (h:Lib.parseUintB 64 s.data.toList=.«syntax») (ev:Value) (w:World) (hv:w.cell? ⟨1,0,none⟩=some ev) (hev:ev=.nilIface∨∃te pe,ev=.iface te pe):
  Calls Tryz.prog 104 #[.string s,.int .i64 10,.int .i64 64] w fun e w'=>∃N,e=.returned (.tuple #[.int .u64 0,.iface 195 (.pointer (some ⟨N,0,none⟩))])∧w.heap.size≤N∧w'.heap[N]?=some (.cells #[.string ⟨#[80,97,114,115,101,85,105,110,116]⟩,.string s,ev] 201 (0,0))∧Below w.heap.size w w':=Any.strconv_ParseUint_10_at64_syntax Tryz.laysPu14 s hlim h ev w hv hev
def Tryz.lays217_ren:Go.Shelf.Ren:=⟨fun | 217=>105 | 266=>129 | n=>n,fun | 9=>9 | 5=>5 | 3=>3 | n=>n,fun | n=>n⟩
theorem Tryz.lays217:Go.Proofs.Lays.n217 Tryz.prog Tryz.lays217_ren:={
 mixed:=by kernel_rfl
 f217:=Tryz.func105.trans (congrArg some (by kernel_rfl))
 f266:=Tryz.func129.trans (congrArg some (by kernel_rfl))
 t3:=Tryz.underlying3
 a3:=Tryz.isAgg3
 z3:=Tryz.sizeOf3
 v3:=Tryz.zeroValue3
 t5:=Tryz.underlying5
 a5:=Tryz.isAgg5
 z5:=Tryz.sizeOf5
 v5:=Tryz.zeroValue5
 t9:=Tryz.underlying9
 a9:=Tryz.isAgg9
 z9:=Tryz.sizeOf9
 v9:=Tryz.zeroValue9}
open Go.RowKit Go.Lib in
theorem Tryz.stringslite_IndexByte (s:ByteArray) (c:Int) (w:World):
  Calls Tryz.prog 105 #[.string s,.int .u8 c] w fun e w'=>e=.returned (.int .i64 (Lib.indexByte s.data.toList c.toNat.toUInt8))∧w'=w:=Any.stringslite_IndexByte Tryz.lays217 s c w
def Tryz.lays219_ren:Go.Shelf.Ren:=⟨fun | 219=>101 | 217=>105 | 225=>123 | 224=>124 | 267=>125 | 266=>129 | 314=>135 | n=>n,fun | 9=>9 | 3=>3 | 4=>4 | 5=>5 | 46=>186 | 146=>190 | 51=>46 | n=>n,fun | 1=>0 | n=>n⟩
theorem Tryz.lays219:Go.Proofs.Lays.n219 Tryz.prog Tryz.lays219_ren:={
 mixed:=by kernel_rfl
 f217:=Tryz.func105.trans (congrArg some (by kernel_rfl))
 f219:=Tryz.func101.trans (congrArg some (by kernel_rfl))
 f224:=Tryz.func124.trans (congrArg some (by kernel_rfl))
 f225:=Tryz.func123.trans (congrArg some (by kernel_rfl))
 f266:=Tryz.func129.trans (congrArg some (by kernel_rfl))
 f267:=Tryz.func125.trans (congrArg some (by kernel_rfl))
 f314:=Tryz.func135.trans (congrArg some (by kernel_rfl))
 t3:=Tryz.underlying3
 a3:=Tryz.isAgg3
 z3:=Tryz.sizeOf3
 v3:=Tryz.zeroValue3
 t4:=Tryz.underlying4
 a4:=Tryz.isAgg4
 z4:=Tryz.sizeOf4
 v4:=Tryz.zeroValue4
 t5:=Tryz.underlying5
 a5:=Tryz.isAgg5
 z5:=Tryz.sizeOf5
 v5:=Tryz.zeroValue5
 t9:=Tryz.underlying9
 a9:=Tryz.isAgg9
 z9:=Tryz.sizeOf9
 v9:=Tryz.zeroValue9
 t46:=Tryz.underlying186
 a46:=Tryz.isAgg186
 z46:=Tryz.sizeOf186
 v46:=Tryz.zeroValue186
 t51:=Tryz.underlying46
 a51:=Tryz.isAgg46
 z51:=Tryz.sizeOf46
 v51:=Tryz.zeroValue46
 t146:=Tryz.underlying190
 a146:=Tryz.isAgg190
 z146:=Tryz.sizeOf190
 v146:=Tryz.zeroValue190
 g1:=by kernel_rfl}
open Go.RowKit Go.Lib in
theorem Tryz.stringslite_Index (s sub:ByteArray) (m:Int) (w:World) (hs:s.size<4294967281) (hm:w.cell? ⟨0,0,none⟩=some (.int .i64 m)):
  Calls Tryz.prog 101 #[.string s,.string sub] w fun e w'=>e=.returned (.int .i64 (Lib.index s.data.toList sub.data.toList))∧w'=w:=Any.stringslite_Index Tryz.lays219 s sub m w hs hm
end Go.Proofs
namespace Go.Proofs.YtljdbheclfaloaaGreatDoor.AM
open Go.RowKit
set_option linter.unusedSimpArgs false
set_option linter.unusedVariables false
set_option maxRecDepth 20000
def zrn (args:List Value) (h:Heap):Option (Value×Heap):=
 match args,h[0]? with
 | [.string s,.string t],some (AObj.cells [.int .i64 _] 0 true)=>if s.size<4294967281 then some (.int .i64 (Lib.index s.data.toList t.data.toList),h) else none
 | _,_=>none
def zuo (args:List Value) (h:Heap):Option (Value×Heap):=
 match args with
 | [.string s,.int .u8 c]=>some (.int .i64 (Lib.indexByte s.data.toList c.toNat.toUInt8),h)
 | _=>none
def zs8:vf:=fun f args h=>if f=101 then zrn args h else if f=105 then zuo args h else none
theorem VRs.two {σ:Emb} {g:Mem} {a b:Value} {cs:List Value} (h:VRs σ g [a,b] cs):∃x y,cs=[x,y]∧VR σ g a x∧VR σ g b y:=by
 cases h with
 | cons _ x _ cs ha hs=>
  cases hs with
  | cons _ y _ cs hb hs=>cases hs;exact ⟨x,y,rfl,ha,hb⟩
theorem ye1 {G:Nat} (hG:0<G) (N:Nat):zd7 Tryz.prog G N zs8:=by
 intro f args h v h' he σ g w cargs hs hm hv
 unfold zs8 at he
 by_cases h1:f=101
 ·subst h1
  rw [if_pos rfl] at he
  unfold zrn at he
  split at he
  ·rename_i s t m hg
   split at he
   ·rename_i hlen
    obtain ⟨rfl,rfl⟩:=Prod.mk.inj (yqc he)
    obtain ⟨x,y,rfl,hx,hy⟩:=hv.two
    obtain rfl:=hx.string_inv
    obtain rfl:=hy.string_inv
    obtain ⟨vals,g0,gb,ga⟩:=hm.glob 0 hG
    have hg0:=hs _ _ g0
    rw [hg] at hg0
    cases hg0
    have ho:=hm.obj _ _ g0
    have hcell:w.cell? ⟨0,0,none⟩=some (.int .i64 m):=by
     cases ho with
     | ro _ hb hv h1=>
      obtain ⟨c,hc,hr⟩:=hv 0 _ rfl
      rw [gb,ga] at hc
      obtain rfl:=hr.int_inv
      exact hc
    refine ⟨by kernel_rfl,(Tryz.stringslite_Index s t m w hlen hcell).mono ?_⟩
    rintro e w' ⟨rfl,rfl⟩
    exact ⟨_,rfl,Done.same hm hs (.int _ _)⟩
   ·cases he
  ·cases he
 ·rw [if_neg h1] at he
  by_cases h2:f=105
  ·subst h2
   rw [if_pos rfl] at he
   unfold zuo at he
   split at he
   ·rename_i s c
    obtain ⟨rfl,rfl⟩:=Prod.mk.inj (yqc he)
    obtain ⟨x,y,rfl,hx,hy⟩:=hv.two
    obtain rfl:=hx.string_inv
    obtain rfl:=hy.int_inv
    refine ⟨by kernel_rfl,(Tryz.stringslite_IndexByte s c w).mono ?_⟩
    rintro e w' ⟨rfl,rfl⟩
    exact ⟨_,rfl,Done.same hm hs (.int _ _)⟩
   ·cases he
  ·rw [if_neg h2] at he;cases he
section
open Go.Proofs Go.Shelf Go.RowKit
def lowB (c:UInt8):Int:=Go.bits .or .u8 (c.toNat:Int) 32
def hexD (c:UInt8):Option Nat:=if 48≤c.toNat∧c.toNat≤57 then some (c.toNat - 48) else if 97≤lowB c∧lowB c≤102 then some (lowB c - 87).toNat else none
def hexN (acc:Nat):List UInt8→Lib.NumEnd Nat
 | []=>.ok acc
 | c::r=>match hexD c with
  | some d=>hexN (acc*16+d) r
  | none=>.syntax
set_option maxHeartbeats 32000000 in
set_option maxRecDepth 100000 in
theorem ykq {P : Program} {ρ : Ren} (L : Lays.n287 P ρ) (t : ByteArray) (hne : t.size ≠ 0) (hmax : t.size ≤ 16) (w : World) :
    Calls P (ρ.f 287) #[.string t, .int .i64 16, .int .i64 64] w fun e w' => e = .returned (Lib.uintTuple (ρ.t 167) (hexN 0 t.data.toList)) ∧ w' = Lib.bytesWorld w (ρ.t 5) t := by
  have mixed := L.mixed
  have t9 := L.t9; have a9 := L.a9; have z9 := L.z9; have v9 := L.v9
  have t3 := L.t3; have a3 := L.a3; have z3 := L.z3; have v3 := L.v3
  have t53 := L.t53; have a53 := L.a53; have z53 := L.z53; have v53 := L.v53
  have t75 := L.t75; have a75 := L.a75; have z75 := L.z75; have v75 := L.v75
  have t4 := L.t4; have a4 := L.a4; have z4 := L.z4; have v4 := L.v4
  have t167 := L.t167; have a167 := L.a167; have z167 := L.z167; have v167 := L.v167
  have t5 := L.t5; have a5 := L.a5; have z5 := L.z5; have v5 := L.v5
  have t46 := L.t46; have a46 := L.a46; have z46 := L.z46; have v46 := L.v46
  have t37 := L.t37; have a37 := L.a37; have z37 := L.z37; have v37 := L.v37
  have t0 := L.t0; have a0 := L.a0; have z0 := L.z0; have v0 := L.v0
  have e321 : ∀ args w, (callFunc (ρ.f 321) args).run P w = .ok (.enter (ρ.f 321) args) w := enters_of L.f321 (by kernel_rfl) rfl
  have hemp : t.toList.isEmpty = false := by
    rw [← decide_eq_emptyBytes]
    exact decide_eq_false (fun h => hne (by rw [h]; rfl))
  have hcv := Lib.run_convert_string_bytes (P := P) w (ρ.t 9) (ρ.t 37) (ρ.t 5) t (u := .string) L.t9 L.t37 L.t5
  have hB : ∀ j, j < t.size → (Lib.bytesWorld w (ρ.t 5) t).cell? ⟨w.heap.size, j, none⟩ = some (.int .u8 (t.data.toList.getD j 0).toNat) := fun j hj => Lib.bytesWorld_cell w (ρ.t 5) t j hj
  obtain ⟨W1, hW1⟩ : ∃ W1, W1 = Lib.bytesWorld w (ρ.t 5) t := ⟨_, rfl⟩
  rw [← hW1] at hcv hB ⊢
  clear hW1
  obtain ⟨bs, hL⟩ : ∃ bs, bs = t.data.toList := ⟨_, rfl⟩
  have hLn : bs.length = t.size := by rw [hL, Lib.size_eq]
  rw [← hL] at hB ⊢
  clear hL
  have hmv : IntKind.u64.wrap (IntKind.u64.wrap 18446744073709551616 - 1) = 18446744073709551615 := by
    rw [IntKind.wrap_u64, IntKind.wrap_u64]
    decide
  have pw : ∀ k, k ≤ 16 → (16 : Nat) ^ k ≤ 18446744073709551616 := fun k hk => yqf (Nat.pow_le_pow_right (by omega) hk) (by decide)
  have pw1 : ∀ k, k < 16 → (16 : Nat) ^ k ≤ 1152921504606846976 := fun k hk => yqf (Nat.pow_le_pow_right (by omega) (show k ≤ 15 by omega)) (by decide)
  go_enter L.f287, Body.n287_ntmps ρ
  go_wp2
  go_loop [12, 13, 101] (fun vu vn vi => ∃ (k acc : Nat) (a : Int), vu = .bool false ∧ vn = .int .u64 a ∧ vi = .int .i64 k ∧ k ≤ t.size ∧ Hid (a = (acc : Int) ∧ acc < 16 ^ k ∧ hexN 0 bs = hexN acc (bs.drop k)))
    (fun _ _ vi => t.size - (intOf vi).toNat)
  case atStart => exact ⟨0, 0, 0, rfl, rfl, rfl, by omega, rfl, by decide, rfl⟩
  case round =>
    obtain ⟨k, acc, a, rfl, rfl, rfl, hk, hh⟩ := hrel
    obtain ⟨ha, hacc, hdec⟩ := hh.out
    clear hh
    by_cases hkn : k < t.size
    · have hc := hB k hkn
      have hdrop : bs.drop k = bs[k]'(by omega) :: bs.drop (k + 1) := ypo (by omega)
      have hget : bs.getD k 0 = bs[k]'(by omega) := by simp [List.getD, yow (show k < bs.length by omega)]
      rw [hdrop] at hdec
      rw [hget] at hc
      generalize bs[k]'(by omega) = c at hc hdec
      have hc256 : c.toNat < 256 := c.toNat_lt
      have hcut := pw1 k (by omega)
      have hps : (16 : Nat) ^ (k + 1) = 16 ^ k * 16 := Nat.pow_succ ..
      have hp1 := pw (k + 1) (by omega)
      have a0 : 0 ≤ a := by omega
      have a1 : a < 1152921504606846976 := by omega
      clear hB hdrop hget pw pw1
      by_cases hdig : 48 ≤ c.toNat ∧ c.toNat ≤ 57
      · obtain ⟨hd0, hd1⟩ := hdig
        have hF : hexN acc (c :: bs.drop (k + 1)) = hexN (acc * 16 + (c.toNat - 48)) (bs.drop (k + 1)) := by simp [hexN, hexD, hd0, hd1]
        have HN : Hid (a * 16 + ((c.toNat : Int) - 48) = ((acc * 16 + (c.toNat - 48) : Nat) : Int) ∧ acc * 16 + (c.toNat - 48) < 16 ^ (k + 1) ∧ hexN 0 bs = hexN (acc * 16 + (c.toNat - 48)) (bs.drop (k + 1))) := Lib.hid ⟨by omega, by omega, hdec.trans hF⟩
        have iov : a * 16 + ((c.toNat : Int) - 48) < 18446744073709551616 := by omega
        clear hacc hF hdec ha hps hcut hp1
        go_wp2
        refine ⟨⟨k + 1, acc * 16 + (c.toNat - 48), a * 16 + ((c.toNat : Int) - 48), rfl, (by first | rfl | (congr 1; omega)), (by first | rfl | (congr 1; omega)), by omega, HN⟩, by simp [intOf]; omega⟩
      · obtain ⟨l, hl⟩ : ∃ l, l = lowB c := ⟨_, rfl⟩
        have hl' : Go.bits .or .u8 (c.toNat : Int) 32 = l := by rw [hl]; rfl
        have l0 : 0 ≤ l := by rw [← hl']; exact bits_lo_u8 .or (c.toNat : Int) 32
        have l1 : l ≤ 255 := by rw [← hl']; exact bits_hi_u8 .or (c.toNat : Int) 32
        by_cases hx : 97 ≤ l ∧ l ≤ 102
        · obtain ⟨hx0, hx1⟩ := hx
          have hF : hexN acc (c :: bs.drop (k + 1)) = hexN (acc * 16 + (l - 87).toNat) (bs.drop (k + 1)) := by simp [hexN, hexD, hdig, ← hl, hx0, hx1]
          have HN : Hid (a * 16 + (l - 87) = ((acc * 16 + (l - 87).toNat : Nat) : Int) ∧ acc * 16 + (l - 87).toNat < 16 ^ (k + 1) ∧ hexN 0 bs = hexN (acc * 16 + (l - 87).toNat) (bs.drop (k + 1))) := Lib.hid ⟨by omega, by omega, hdec.trans hF⟩
          have iov : a * 16 + (l - 87) < 18446744073709551616 := by omega
          have HX : Hid (97 ≤ l ∧ l ≤ 102 ∧ Go.bits .or .u8 (c.toNat : Int) 32 = l) := Lib.hid ⟨hx0, hx1, hl'⟩
          clear hacc hF hdec ha hps hcut hp1 hl
          go_wp2_with (go_at_fn (ρ.f 321); refine (Any.internal_strconv_lower { L with } _ _).mono ?_; rintro e w' ⟨rfl, rfl⟩; try rw [hl'])
          all_goals first
            | exact ⟨⟨k + 1, acc * 16 + (l - 87).toNat, a * 16 + (l - 87), rfl, (by first | rfl | (congr 1; omega)), (by first | rfl | (congr 1; omega)), by omega, HN⟩, by simp [intOf]; omega⟩
            | (exfalso; obtain ⟨p1, p2, p3⟩ := HX.out; omega)
            | (exfalso; obtain ⟨p1, p2, p3⟩ := HX.out; have h127 : Go.bits .or .u8 95 32 = 127 := by decide
               first | (rw [h127] at p3; omega) | (simp_all; omega))
        · have hF : hexN acc (c :: bs.drop (k + 1)) = .syntax := by simp [hexN, hexD, hdig, ← hl, hx]
          rw [hF] at hdec
          clear hacc hF ha hps hcut hp1 hl
          go_wp2_with (go_at_fn (ρ.f 321); refine (Any.internal_strconv_lower { L with } _ _).mono ?_; rintro e w' ⟨rfl, rfl⟩; try rw [hl'])
          all_goals go_ret2
          all_goals first | exact ⟨rfl, rfl⟩ | exact ⟨by rw [hdec]; rfl, rfl⟩
    · have hkk : k = t.size := by omega
      subst hkk
      have hF : hexN acc (bs.drop t.size) = .ok acc := by rw [yo5 (by omega)]; rfl
      rw [hF] at hdec
      subst ha
      have h1 := pw t.size hmax
      clear pw pw1 hB
      go_wp2
      go_ret2
      exact ⟨rfl, rfl⟩
end
section
open Go.Proofs Go.Shelf Go.RowKit
set_option linter.unusedVariables false
set_option linter.unusedSimpArgs false
section
variable {P:Program} {ρ:Ren}
set_option maxHeartbeats 4000000 in
set_option maxRecDepth 100000 in
theorem ym2 (L:LaysPu.n14 P ρ) (s:ByteArray) (base:Int) (u:Nat) (w:World)
  (hI:Calls P (ρ.f 16) #[.string s,.int .i64 base,.int .i64 64] w fun e w'=>e=.returned (.tuple #[.int .u64 u,.nilIface])∧Go.RowKit.Below w.heap.size w w'):
  Calls P (ρ.f 14) #[.string s,.int .i64 base,.int .i64 64] w fun e w'=>e=.returned (.tuple #[.int .u64 u,.nilIface])∧Go.RowKit.Below w.heap.size w w':=by
 have mixed:=L.mixed
 have t9:=L.t9;have a9:=L.a9;have z9:=L.z9;have v9:=L.v9
 have t3:=L.t3;have a3:=L.a3;have z3:=L.z3;have v3:=L.v3
 have t22:=L.t22;have a22:=L.a22;have z22:=L.z22;have v22:=L.v22
 have t24:=L.t24;have a24:=L.a24;have z24:=L.z24;have v24:=L.v24
 have t25:=L.t25;have a25:=L.a25;have z25:=L.z25;have v25:=L.v25
 have t4:=L.t4;have a4:=L.a4;have z4:=L.z4;have v4:=L.v4
 have e16:∀args w,(callFunc (ρ.f 16) args).run P w=.ok (.enter (ρ.f 16) args) w:=enters_of L.f16 (by kernel_rfl) rfl
 go_enter L.f14,BodyPu.n14_ntmps ρ
 go_wp2_with (go_at_fn (ρ.f 16);refine hI.mono ?_;rintro e W1 ⟨rfl,hW⟩)
 go_wp2
 go_ret2
 exact ⟨rfl,hW⟩
set_option maxHeartbeats 4000000 in
set_option maxRecDepth 100000 in
theorem zy5 (L:LaysPu.n14 P ρ) (s:ByteArray) (base:Int) (hlim:s.size≤281474976710656) (ev:Value) (w:World) (hv:w.cell? ⟨(ρ.g 0),0,none⟩=some ev) (hev:ev=.nilIface∨∃te pe,ev=.iface te pe)
  (hI:Calls P (ρ.f 16) #[.string s,.int .i64 base,.int .i64 64] w fun e w'=>e=.returned (.tuple #[.int .u64 0,.iface (ρ.t 34) (.int .i64 2)])∧Go.RowKit.Below w.heap.size w w'):
  Calls P (ρ.f 14) #[.string s,.int .i64 base,.int .i64 64] w fun e w'=>∃N,e=.returned (.tuple #[.int .u64 0,.iface (ρ.t 39) (.pointer (some ⟨N,0,none⟩))])∧Go.RowKit.Below w.heap.size w w':=by
 have mixed:=L.mixed
 have t9:=L.t9;have a9:=L.a9;have z9:=L.z9;have v9:=L.v9
 have t3:=L.t3;have a3:=L.a3;have z3:=L.z3;have v3:=L.v3
 have t22:=L.t22;have a22:=L.a22;have z22:=L.z22;have v22:=L.v22
 have t24:=L.t24;have a24:=L.a24;have z24:=L.z24;have v24:=L.v24
 have t25:=L.t25;have a25:=L.a25;have z25:=L.z25;have v25:=L.v25
 have t4:=L.t4;have a4:=L.a4;have z4:=L.z4;have v4:=L.v4
 have e16:∀args w,(callFunc (ρ.f 16) args).run P w=.ok (.enter (ρ.f 16) args) w:=enters_of L.f16 (by kernel_rfl) rfl
 have e17:∀args w,(callFunc (ρ.f 17) args).run P w=.ok (.enter (ρ.f 17) args) w:=enters_of L.f17 (by kernel_rfl) rfl
 have hG:(ρ.g 0)<w.heap.size:=Lib.lt_of_cell hv
 go_enter L.f14,BodyPu.n14_ntmps ρ
 go_wp2_with (go_at_fn (ρ.f 16);refine hI.mono ?_)
 rintro e W1 ⟨rfl,hb1⟩
 have hv1:W1.cell? ⟨(ρ.g 0),0,none⟩=some ev:=(hb1.cell (show (⟨(ρ.g 0),0,none⟩:Addr).block<w.heap.size from hG)).trans hv
 go_wp2_with (go_at_fn (ρ.f 17);refine (AnyPu.strconv_toError_syntax { L with} ⟨#[80,97,114,115,101,85,105,110,116]⟩ s base 64 ev _ hlim ?_ hev).mono ?_)
 ·exact hv1
 rintro e W2 ⟨N,rfl,h1,h2,h3⟩
 go_wp2
 go_ret2
 exact ⟨N,rfl,hb1.trans (h3.mono hb1.size)⟩
end
theorem MR.below {G N:Nat} {σ:Emb} {g:Mem} {w w':World} (hm:MR G N σ g w) (hb:Go.RowKit.Below w.heap.size w w'):MR G N σ g w':=by
 have same:∀(b:Nat) o,w.heap[b]?=some o→w'.heap[b]?=some o:=fun b o ho=>by
  have hlt:b<w.heap.size:=(ypp.1 ho).1
  rw [hb.block b hlt];exact ho
 refine ⟨fun i o hi=> ?_,hm.inj,hm.glob,yqf hm.size hb.size⟩
 cases hm.obj i o hi with
 | own vals cs ver el h1 h2 hw h3 h4 h5 h6=>exact .own vals cs ver el h1 h2 (same _ _ hw) h3 h4 h5 h6
 | ro vals h1 h2 h3=>
  refine .ro vals h1 (fun j u hu=> ?_) h3
  obtain ⟨c,hc,hr⟩:=h2 j u hu
  exact ⟨c,by rw [hb.cell (Lib.lt_of_cell hc)];exact hc,hr⟩
 | map es ms clock h1 hw h2=>exact .map es ms clock h1 (same _ _ hw) h2
theorem Done.below {G N:Nat} {σ:Emb} {g:Mem} {w w':World} {h:Heap} (hm:MR G N σ g w) (hs:Sub g h) (hb:Go.RowKit.Below w.heap.size w w') {v cv:Value} (hv:VR σ g v cv):Done G N σ g w h v h cv w':=by
 refine ⟨σ,?_,?_,?_,.refl _ _⟩<;> rw [zfe hs]
 ·exact ⟨.refl _ _,hb.size,hb.os,hb.tape,hb.output,fun b hlt _=>hb.block b hlt,fun b h=>.inl h⟩
 ·exact hm.below hb
 ·exact hv
def ya1:Value:=.iface 195 (.chan (some 0))
def yhc:Value→Bool
 | .iface _ (.chan (some _))=>true
 | _=>false
theorem yc2 {σ:Emb} {g:Mem} {v c:Value} (h:yhc v=true) (hr:VR σ g v c):∃te pe,c=.iface te pe:=by
 unfold yhc at h
 split at h
 ·cases hr;exact ⟨_,_,rfl⟩
 ·cases h
def zex (b:Int) (s:ByteArray):Option (Option Nat):=
 if b=10 then match Lib.parseUintB 64 s.data.toList with
  | .ok u=>some (some u)
  | .syntax=>some none
  | .range=>none
 else if b=16∧s.size≤16 then if s.size=0 then some none else match hexN 0 s.data.toList with
  | .ok u=>some (some u)
  | .syntax=>some none
  | .range=>none
 else none
def zqn (args:List Value) (h:Heap):Option (Value×Heap):=
 match args,h[1]? with
 | [.string s,.int .i64 b,.int .i64 64],some (AObj.cells [E] 0 true)=>if yhc E=true∧s.size<4294967281 then match zex b s with
   | some (some u)=>some (.tuple ⟨[.int .u64 u,.nilIface]⟩,h)
   | some none=>some (.tuple ⟨[.int .u64 0,ya1]⟩,h)
   | none=>none
  else none
 | _,_=>none
def zni:FuncId→Bool:=fun f=>f==104
def known:vf:=fun f args h=>if f=104 then zqn args h else zs8 f args h
theorem VRs.three {σ:Emb} {g:Mem} {a b d:Value} {cs:List Value} (h:VRs σ g [a,b,d] cs):∃x y z,cs=[x,y,z]∧VR σ g a x∧VR σ g b y∧VR σ g d z:=by
 cases h with
 | cons _ x _ cs ha hs=>
  obtain ⟨y,z,rfl,hy,hz⟩:=hs.two
  exact ⟨x,y,z,rfl,ha,hy,hz⟩
theorem zt4 (s:ByteArray):zex 10 s=match Lib.parseUintB 64 s.data.toList with | .ok u=>some (some u) | .syntax=>some none | .range=>none:=by unfold zex;rw [if_pos rfl]
theorem zyt (s:ByteArray) (h0:s.size=0):zex 16 s=some none:=by
 unfold zex
 rw [if_neg (by decide),if_pos ⟨rfl,by omega⟩,if_pos h0]
theorem ztz (s:ByteArray) (h0:s.size≠0) (h16:s.size≤16):zex 16 s=match hexN 0 s.data.toList with | .ok u=>some (some u) | .syntax=>some none | .range=>none:=by
 unfold zex
 rw [if_neg (by decide),if_pos ⟨rfl,h16⟩,if_neg h0]
theorem zy4 {b:Int} {s:ByteArray} {r:Option Nat} (h:zex b s=some r):b=10∨(b=16∧s.size≤16):=by
 unfold zex at h
 by_cases hb:b=10
 ·exact .inl hb
 ·rw [if_neg hb] at h
  by_cases hc:b=16∧s.size≤16
  ·exact .inr hc
  ·rw [if_neg hc] at h;cases h
theorem ybc (b:Int) (s:ByteArray) (hlen:s.size<4294967281) (w:World) (ev:Value) (hv:w.cell? ⟨1,0,none⟩=some ev) (hev:∃te pe,ev=.iface te pe) {r:Option Nat} (hr:zex b s=some r):
  Calls Tryz.prog 104 #[.string s,.int .i64 b,.int .i64 64] w fun e w'=>(match r with | some u=>e=.returned (.tuple #[.int .u64 u,.nilIface]) | none=>∃N,e=.returned (.tuple #[.int .u64 0,.iface 195 (.pointer (some ⟨N,0,none⟩))]))∧Go.RowKit.Below w.heap.size w w':=by
 have hbw:Go.RowKit.Below w.heap.size w (Lib.bytesWorld w 5 s):=Lib.bytesWorld_below _ _ _
 rcases zy4 hr with rfl | ⟨rfl,h16⟩
 ·rw [zt4] at hr
  cases hp:Lib.parseUintB 64 s.data.toList with
  | ok u=>
   rw [hp] at hr;cases hr
   refine (Tryz.strconv_ParseUint_10_at64_ok s (by omega) u hp w).mono ?_
   rintro e w' ⟨rfl,rfl | rfl⟩
   ·exact ⟨rfl,Go.RowKit.Below.refl _ _⟩
   ·exact ⟨rfl,hbw⟩
  | «syntax» =>
   rw [hp] at hr;cases hr
   refine (Tryz.strconv_ParseUint_10_at64_syntax s (by omega) hp ev w hv (.inr hev)).mono ?_
   rintro e w' ⟨N,rfl,h1,h2,h3⟩
   exact ⟨⟨N,rfl⟩,h3⟩
  | range=>rw [hp] at hr;cases hr
 ·
   have syn:(Calls Tryz.prog 127 #[.string s,.int .i64 16,.int .i64 64] w fun e w'=>e=.returned (.tuple #[.int .u64 0,.iface 192 (.int .i64 2)])∧Go.RowKit.Below w.heap.size w w')→
     Calls Tryz.prog 104 #[.string s,.int .i64 16,.int .i64 64] w fun e w'=>(∃N,e=.returned (.tuple #[.int .u64 0,.iface 195 (.pointer (some ⟨N,0,none⟩))]))∧Go.RowKit.Below w.heap.size w w':=by
    intro hI
    refine (zy5 Tryz.laysPu14 s 16 (by omega) ev w hv (.inr hev) hI).mono ?_
    rintro e w' ⟨N,rfl,h⟩
    exact ⟨⟨N,rfl⟩,h⟩
   by_cases h0:s.size=0
   ·rw [zyt s h0] at hr
    cases hr
    refine syn ?_
    have hs:s=⟨#[]⟩:=by
     have h1:s.data.size=0:=h0
     cases s with
     | mk d=>simp at h1;simp [h1]
    rw [hs]
    refine (Tryz.internal_strconv_ParseUint_empty 16 64 w).mono ?_
    rintro e w' ⟨rfl,rfl⟩
    exact ⟨rfl,Go.RowKit.Below.refl _ _⟩
   ·rw [ztz s h0 h16] at hr
    have hp:=ykq Tryz.lays287 s h0 h16 w
    cases hx:hexN 0 s.data.toList with
    | ok u=>
     rw [hx] at hr hp;cases hr
     refine ym2 Tryz.laysPu14 s 16 u w (hp.mono ?_)
     rintro e w' ⟨rfl,rfl⟩
     exact ⟨rfl,hbw⟩
    | «syntax» =>
     rw [hx] at hr hp;cases hr
     refine syn (hp.mono ?_)
     rintro e w' ⟨rfl,rfl⟩
     exact ⟨rfl,hbw⟩
    | range=>rw [hx] at hr;cases hr
theorem yfz {G:Nat} (hG:1<G) (N:Nat):zd7 Tryz.prog G N known:=by
 intro f args h v h' he σ g w cargs hs hm hv
 unfold known at he
 by_cases h1:f=104
 ·subst h1
  rw [if_pos rfl] at he
  unfold zqn at he
  split at he
  ·rename_i s b E hg
   split at he
   ·rename_i hc
    obtain ⟨hE,hlen⟩:=hc
    obtain ⟨x,y,z,rfl,hx,hy,hz⟩:=hv.three
    obtain rfl:=hx.string_inv
    obtain rfl:=hy.int_inv
    obtain rfl:=hz.int_inv
    obtain ⟨vals,g0,gb,ga⟩:=hm.glob 1 hG
    have hg0:=hs _ _ g0
    rw [hg] at hg0
    cases hg0
    have ho:=hm.obj _ _ g0
    obtain ⟨ev,hcell,hev⟩:∃ev,w.cell? ⟨1,0,none⟩=some ev∧∃te pe,ev=.iface te pe:=by
     cases ho with
     | ro _ hb hv h1=>
      obtain ⟨c,hc,hr⟩:=hv 0 _ rfl
      rw [gb,ga] at hc
      exact ⟨c,hc,yc2 hE hr⟩
    refine ⟨by kernel_rfl,?_⟩
    cases hp:zex b s with
    | none=>rw [hp] at he;cases he
    | some r=>
     rw [hp] at he
     refine (ybc b s hlen w ev hcell hev hp).mono ?_
     cases r with
     | some u=>
      cases he
      rintro e w' ⟨rfl,hb⟩
      exact ⟨_,rfl,Done.below hm hs hb (.tuple _ _ (.cons _ _ _ _ (.int _ _) (.cons _ _ _ _ .nilIface .nil)))⟩
     | none=>
      cases he
      rintro e w' ⟨⟨N,rfl⟩,hb⟩
      exact ⟨_,rfl,Done.below hm hs hb (.tuple _ _ (.cons _ _ _ _ (.int _ _) (.cons _ _ _ _ (.iface _ _ _ (.any _ _)) .nil)))⟩
   ·cases he
  ·cases he
 ·rw [if_neg h1] at he
  exact ye1 (by omega) N f args h v h' he σ g w cargs hs hm hv
end
end Go.Proofs.YtljdbheclfaloaaGreatDoor.AM
